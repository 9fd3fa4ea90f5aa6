/- WHAT THE WALKS STAND ON, part of a proof: B21 B22 B23 B24 B25 B26 B27 B28 B29 B30. No condition beyond what each theorem states. -/
import Derived.Test.YthfoobfgdakbmaaPart1
import Derived.Test.YthfoobfgdakbmaaPart2
set_option linter.unusedVariables false
set_option linter.unusedSimpArgs false
set_option maxRecDepth 100000
namespace Go.Proofs.Ythfoobfgdakbmaa
open Go Go.RowKit Go.L
theorem q_tk_22 : tyKind Try.prog 22 = .sl := by kernel_rfl
theorem q_ix_22 : indexIn Try.prog 22 = some (none, 35) := by kernel_rfl
theorem q_fo_31_1 : fieldOff Try.prog 31 1 = some 1 := by kernel_rfl
theorem q_f_8 : Try.prog.funcs[8]? = some Try.f8 := by kernel_rfl
theorem q_f_9 : Try.prog.funcs[9]? = some Try.f9 := by kernel_rfl
theorem q_fo_31_2 : fieldOff Try.prog 31 2 = some 2 := by kernel_rfl
theorem q_sh_4 : shapeOf Try.prog 4 = some (false, 1) := by kernel_rfl
theorem q_fo_31_3 : fieldOff Try.prog 31 3 = some 3 := by kernel_rfl
theorem q_f_11 : Try.prog.funcs[11]? = some Try.f11 := by kernel_rfl

structure ActD where
  kind : UInt8
  data : ByteArray
  is : Bool
  other : List UInt8
def actV (a : ActD) : LV := .agg ([.int .u8 a.kind.toNat, .str a.data, .bool a.is] ++ bytesLV a.other)
def Acts32 (l : List ActD) : Prop := ∀ a ∈ l, a.other.length = 32
theorem act_at {l : List ActD} {k : Nat} (h : k < l.length) : (l.map actV).getD ((k : Int).toNat) .und = actV l[k] := by
  simp [List.getD_eq_getElem?_getD, h]
theorem act_len {a : ActD} (h : a.other.length = 32) : (actV a).cells.length = 35 := by simp [actV, LV.cells, h]
theorem act_kind (a : ActD) : (bif false then LV.agg (((actV a).cells.drop (0 + 0)).take 1) else ((actV a).cells.drop (0 + 0)).headD .und) = .int .u8 a.kind.toNat := rfl
theorem act_data (a : ActD) : (bif false then LV.agg (((actV a).cells.drop (0 + 1)).take 1) else ((actV a).cells.drop (0 + 1)).headD .und) = .str a.data := rfl
theorem act_is (a : ActD) : (bif false then LV.agg (((actV a).cells.drop (0 + 2)).take 1) else ((actV a).cells.drop (0 + 2)).headD .und) = .bool a.is := rfl
theorem act_other {a : ActD} (h : a.other.length = 32) : (bif true then LV.agg (((actV a).cells.drop (0 + 3)).take 32) else ((actV a).cells.drop (0 + 3)).headD .und) = digV a.other := by
  have : (bytesLV a.other).length = 32 := by simp [h]
  simp only [actV, LV.cells, cond_true, digV, List.cons_append, List.nil_append, List.drop_succ_cons, List.drop_zero]
  rw [List.take_of_length_le (by omega)]
theorem act_solid (a : ActD) : (actV a).solid = true := by simp [actV, LV.solid, LV.cells, bytesLV, LV.one]
theorem act_all {a : ActD} (h : a.other.length = 32) : (bif true then LV.agg (((actV a).cells.drop 0).take 35) else ((actV a).cells.drop 0).headD .und) = actV a := by
  have := act_len h
  simp only [cond_true, List.drop_zero]
  rw [List.take_of_length_le (by omega)]; rfl
def greatF (l : List ActD) : Bool := decide (40 < l.length) || l.any fun a => decide (300 < a.data.size)
theorem great_hit {l : List ActD} {k : Nat} (h : k < l.length) (e : (300 : Int) < (l[k].data.size : Int)) : greatF l = true := by
  simp only [greatF, Bool.or_eq_true, List.any_eq_true, decide_eq_true_eq]
  exact .inr ⟨_, List.getElem_mem h, by omega⟩
theorem great_no {l : List ActD} (h : ¬ (40 : Int) < (l.length : Int)) (e : ∀ i (h : i < l.length), l[i].data.size ≤ 300) : greatF l = false := by
  simp only [greatF, Bool.or_eq_false_iff, decide_eq_false_iff_not, List.any_eq_false, decide_eq_true_eq]
  refine ⟨by omega, fun a ha => ?_⟩
  obtain ⟨i, hi, rfl⟩ := List.mem_iff_getElem.1 ha
  have := e i hi; omega
def pairF (l : List ActD) (i k : Nat) : Bool :=
  match l[i]?, l[k]? with
  | some a, some b => decide (a.data ≠ b.data) && decide (shaF [a.data] = shaF [b.data])
  | _, _ => false
def clashF (l : List ActD) : Bool := (List.range l.length).any fun i => (List.range i).any fun k => pairF l i k
theorem clash_hit {l : List ActD} {i k : Nat} (hi : i < l.length) (hk : k < i) (h1 : l[i].data ≠ l[k].data) (h2 : shaF [l[i].data] = shaF [l[k].data]) : clashF l = true := by
  simp only [clashF, List.any_eq_true, List.mem_range]
  refine ⟨i, hi, k, hk, ?_⟩
  simp [pairF, List.getElem?_eq_getElem hi, List.getElem?_eq_getElem (show k < l.length by omega), h1, h2]
theorem clash_no {l : List ActD} (h : ∀ i k (hi : i < l.length) (hk : k < i), ¬ (l[i].data ≠ l[k].data ∧ shaF [l[i].data] = shaF [l[k].data])) : clashF l = false := by
  simp only [clashF, List.any_eq_false, List.mem_range]
  intro i hi
  rw [Bool.not_eq_true, List.any_eq_false]
  intro k hk
  rw [List.mem_range] at hk
  have := h i k hi hk
  simp only [pairF, List.getElem?_eq_getElem hi, List.getElem?_eq_getElem (show k < l.length by omega)]
  simpa using this
def askF (a : ActD) : List UInt8 := if a.is then a.other else shaF [a.data]
theorem askF_len {a : ActD} (h : a.other.length = 32) : (askF a).length = 32 := by unfold askF; split <;> simp [h]

theorem great_spec (l : List ActD) (ho : Acts32 l) (hl : l.length < 70368744177664) (x : LV) (hx : IsSl 35 (l.map actV) x) : HPure Try.prog 8 [x] (.bool (greatF l)) := by
  intro L T
  refine HCalls.enterG q_f_8 rfl ?_
  refine HWp.frame (r' := ⟨20, [(0, x)]⟩) rfl ?_
  refine HWp.seq ?_
  refine HWp.text (.rd 0 .done) rfl ?_
  refine HPlan.assign rfl rfl rfl ?_
  refine HPlan.fin ?_
  refine onNorm_n ?_
  refine HWp.seq ?_
  refine HWp.seq ?_
  refine HWp.text (.rd 0 (.rd 1 (.rd 2 .done))) rfl ?_
  refine HPlan.move rfl rfl rfl ?_
  refine HPlan.lenS rfl rfl rfl q_tk_22 (by first | exact IsSl.sl | exact IsSl.nils | assumption | exact growV_isSl (by assumption)) (by rw [List.length_map]) ?_
  refine HPlan.intBin rfl rfl rfl rfl rfl rfl ?_
  refine HPlan.fin ?_
  refine onNorm_n ?_
  refine HWp.cond rfl ?_ ?_
  · intro hc6
    first
    | (exact absurd hc6 Bool.false_ne_true)
    | (exact absurd hc6.symm Bool.false_ne_true)
    | ((try simp only [decide_eq_true_eq, decide_eq_false_iff_not, Bool.not_eq_true', Bool.not_eq_false', Bool.not_true, Bool.not_false, beq_iff_eq, bne_iff_ne, bne_eq_false_iff_eq, ne_eq, beq_eq_false_iff_ne, Int.not_lt, Int.not_le] at hc6); exfalso; omega)
    | (try simp only [decide_eq_true_eq, decide_eq_false_iff_not, Bool.not_eq_true', Bool.not_eq_false', Bool.not_true, Bool.not_false, beq_iff_eq, bne_iff_ne, bne_eq_false_iff_eq, ne_eq, beq_eq_false_iff_ne, Int.not_lt, Int.not_le] at hc6)
      refine HWp.seq ?_
      refine HWp.text (.rd 0 .done) rfl ?_
      refine HPlan.assign rfl rfl rfl ?_
      refine HPlan.fin ?_
      refine onNorm_n ?_
      refine HWp.ret ?_
      refine onNorm_r ?_
      refine retQ_r (.tmp rfl .nil) ?_
      refine endK_of ⟨?_, rfl, rfl⟩ (by repeat (first | exact Part.refl _ | refine Part.pull (by repeat (first | exact Pull.here | apply Pull.there)) ?_ | refine Part.skip _ ?_ | exact Part.nil _ | exact Part.app _ _)) (by repeat (first | exact Part.refl _ | refine Part.pull (by repeat (first | exact Pull.here | apply Pull.there)) ?_ | refine Part.skip _ ?_ | exact Part.nil _ | exact Part.app _ _))
      first
      | exact congrArg LV.bool (great_hit (by omega) hc19).symm
      | exact congrArg LV.bool (great_no (by omega) (fun i h => hno i h h)).symm
      | exact congrArg LV.bool (show true = greatF l by simp only [greatF]; rw [decide_eq_true (by omega)]; rfl)
  · intro hc6
    first
    | (exact absurd hc6 Bool.false_ne_true)
    | (exact absurd hc6.symm Bool.false_ne_true)
    | ((try simp only [decide_eq_true_eq, decide_eq_false_iff_not, Bool.not_eq_true', Bool.not_eq_false', Bool.not_true, Bool.not_false, beq_iff_eq, bne_iff_ne, bne_eq_false_iff_eq, ne_eq, beq_eq_false_iff_ne, Int.not_lt, Int.not_le] at hc6); exfalso; omega)
    | (try simp only [decide_eq_true_eq, decide_eq_false_iff_not, Bool.not_eq_true', Bool.not_eq_false', Bool.not_true, Bool.not_false, beq_iff_eq, bne_iff_ne, bne_eq_false_iff_eq, ne_eq, beq_eq_false_iff_ne, Int.not_lt, Int.not_le] at hc6)
      refine HWp.skip ?_
      refine onNorm_n ?_
      refine HWp.seq ?_
      refine HWp.seq ?_
      refine HWp.text (.rd 0 .done) rfl ?_
      refine HPlan.assign rfl rfl rfl ?_
      refine HPlan.fin ?_
      refine onNorm_n ?_
      refine HWp.block ?_
      refine HWp.loopF (α := Nat) (fun k => l.length - k) (fun k => k ≤ l.length ∧ ∀ i (h : i < k) (h' : i < l.length), l[i].data.size ≤ 300) (fun k => ⟨20, [(0, x), (3, .int .i64 (k : Int))]⟩) (fun k => L) (fun k => T) ?_ ?_
      · refine ⟨0, ⟨Nat.zero_le _, fun i h => absurd h (Nat.not_lt_zero _)⟩, (LessE.less (by repeat (first | exact LessE.nil | refine LessE.same rfl ?_ | refine LessE.own rfl ?_ | refine LessE.eq rfl ?_ (by first | rfl | (congr 1; omega) | simp))) rfl), (by repeat (first | exact Part.refl _ | refine Part.pull (by repeat (first | exact Pull.here | apply Pull.there)) ?_ | refine Part.skip _ ?_ | exact Part.nil _ | exact Part.app _ _)), (by repeat (first | exact Part.refl _ | refine Part.pull (by repeat (first | exact Pull.here | apply Pull.there)) ?_ | refine Part.skip _ ?_ | exact Part.nil _ | exact Part.app _ _))⟩
      · rintro k ⟨hk1, hno⟩
        refine HWp.seq ?_
        refine HWp.seq ?_
        refine HWp.text (.rd 0 (.rd 1 (.rd 2 (.rd 3 .done)))) rfl ?_
        refine HPlan.move rfl rfl rfl ?_
        refine HPlan.move rfl rfl rfl ?_
        refine HPlan.lenS rfl rfl rfl q_tk_22 (by first | exact IsSl.sl | exact IsSl.nils | assumption | exact growV_isSl (by assumption)) (by rw [List.length_map]) ?_
        refine HPlan.intBin rfl rfl rfl rfl rfl rfl ?_
        refine HPlan.fin ?_
        refine onNorm_n ?_
        refine HWp.cond rfl ?_ ?_
        · intro hc10
          first
          | (exact absurd hc10 Bool.false_ne_true)
          | (exact absurd hc10.symm Bool.false_ne_true)
          | ((try simp only [decide_eq_true_eq, decide_eq_false_iff_not, Bool.not_eq_true', Bool.not_eq_false', Bool.not_true, Bool.not_false, beq_iff_eq, bne_iff_ne, bne_eq_false_iff_eq, ne_eq, beq_eq_false_iff_ne, Int.not_lt, Int.not_le] at hc10); exfalso; omega)
          | (try simp only [decide_eq_true_eq, decide_eq_false_iff_not, Bool.not_eq_true', Bool.not_eq_false', Bool.not_true, Bool.not_false, beq_iff_eq, bne_iff_ne, bne_eq_false_iff_eq, ne_eq, beq_eq_false_iff_ne, Int.not_lt, Int.not_le] at hc10)
            refine HWp.skip ?_
            refine onNorm_n ?_
            refine HWp.seq ?_
            refine HWp.block ?_
            refine HWp.seq ?_
            refine HWp.text (.rd 0 (.rd 1 (.rd 2 (.rd 3 (.rd 4 (.rd 5 (.rd 6 .done))))))) rfl ?_
            refine HPlan.move rfl rfl rfl ?_
            refine HPlan.move rfl rfl rfl ?_
            refine HPlan.indexS rfl rfl rfl rfl q_ix_22 (by first | exact IsSl.sl | exact IsSl.nils | assumption | exact growV_isSl (by assumption)) (by omega) (by simp only [List.length_map]; omega) (act_at (l := l) (k := k) (by omega)) ?_
            refine HPlan.fieldAddr rfl rfl rfl rfl q_fo_31_1 rfl ?_
            refine HPlan.loadI rfl rfl rfl q_sh_9 (by rw [act_len (ho _ (List.getElem_mem _))]; decide) (act_data _) ?_
            refine HPlan.lenStr rfl rfl rfl q_tk_9 rfl ?_
            refine HPlan.intBin rfl rfl rfl rfl rfl rfl ?_
            refine HPlan.fin ?_
            refine onNorm_n ?_
            refine HWp.cond rfl ?_ ?_
            · intro hc19
              first
              | (exact absurd hc19 Bool.false_ne_true)
              | (exact absurd hc19.symm Bool.false_ne_true)
              | ((try simp only [decide_eq_true_eq, decide_eq_false_iff_not, Bool.not_eq_true', Bool.not_eq_false', Bool.not_true, Bool.not_false, beq_iff_eq, bne_iff_ne, bne_eq_false_iff_eq, ne_eq, beq_eq_false_iff_ne, Int.not_lt, Int.not_le] at hc19); exfalso; omega)
              | (try simp only [decide_eq_true_eq, decide_eq_false_iff_not, Bool.not_eq_true', Bool.not_eq_false', Bool.not_true, Bool.not_false, beq_iff_eq, bne_iff_ne, bne_eq_false_iff_eq, ne_eq, beq_eq_false_iff_ne, Int.not_lt, Int.not_le] at hc19)
                refine HWp.seq ?_
                refine HWp.text (.rd 0 .done) rfl ?_
                refine HPlan.assign rfl rfl rfl ?_
                refine HPlan.fin ?_
                refine onNorm_n ?_
                refine HWp.ret ?_
                refine onExitH_r ?_
                refine onNorm_r ?_
                refine onNorm_r ?_
                refine onExitH_r ?_
                refine onNorm_r ?_
                refine retQ_r (.tmp rfl .nil) ?_
                refine endK_of ⟨?_, rfl, rfl⟩ (by repeat (first | exact Part.refl _ | refine Part.pull (by repeat (first | exact Pull.here | apply Pull.there)) ?_ | refine Part.skip _ ?_ | exact Part.nil _ | exact Part.app _ _)) (by repeat (first | exact Part.refl _ | refine Part.pull (by repeat (first | exact Pull.here | apply Pull.there)) ?_ | refine Part.skip _ ?_ | exact Part.nil _ | exact Part.app _ _))
                first
                | exact congrArg LV.bool (great_hit (by omega) hc19).symm
                | exact congrArg LV.bool (great_no (by omega) (fun i h => hno i h h)).symm
                | exact congrArg LV.bool (show true = greatF l by simp only [greatF]; rw [decide_eq_true (by omega)]; rfl)
            · intro hc19
              first
              | (exact absurd hc19 Bool.false_ne_true)
              | (exact absurd hc19.symm Bool.false_ne_true)
              | ((try simp only [decide_eq_true_eq, decide_eq_false_iff_not, Bool.not_eq_true', Bool.not_eq_false', Bool.not_true, Bool.not_false, beq_iff_eq, bne_iff_ne, bne_eq_false_iff_eq, ne_eq, beq_eq_false_iff_ne, Int.not_lt, Int.not_le] at hc19); exfalso; omega)
              | (try simp only [decide_eq_true_eq, decide_eq_false_iff_not, Bool.not_eq_true', Bool.not_eq_false', Bool.not_true, Bool.not_false, beq_iff_eq, bne_iff_ne, bne_eq_false_iff_eq, ne_eq, beq_eq_false_iff_ne, Int.not_lt, Int.not_le] at hc19)
                refine HWp.skip ?_
                refine onExitH_n ?_
                refine onNorm_n ?_
                refine HWp.text (.rd 0 (.rd 1 (.rd 2 .done))) rfl ?_
                refine HPlan.move rfl rfl rfl ?_
                refine HPlan.intBin rfl rfl rfl rfl rfl (by first | exact add_i64 (by omega) (by omega) | rfl) ?_
                refine HPlan.assign rfl rfl rfl ?_
                refine HPlan.fin ?_
                refine onNorm_n ?_
                refine ⟨(k + 1), (by omega), ⟨by omega, fun i h h' => (Nat.lt_succ_iff_lt_or_eq.1 h).elim (fun q => hno i q h') (fun q => by subst q; omega)⟩, (LessE.less (by repeat (first | exact LessE.nil | refine LessE.same rfl ?_ | refine LessE.own rfl ?_ | refine LessE.eq rfl ?_ (by first | rfl | (congr 1; omega) | simp))) rfl), (by repeat (first | exact Part.refl _ | refine Part.pull (by repeat (first | exact Pull.here | apply Pull.there)) ?_ | refine Part.skip _ ?_ | exact Part.nil _ | exact Part.app _ _)), (by repeat (first | exact Part.refl _ | refine Part.pull (by repeat (first | exact Pull.here | apply Pull.there)) ?_ | refine Part.skip _ ?_ | exact Part.nil _ | exact Part.app _ _))⟩
        · intro hc10
          first
          | (exact absurd hc10 Bool.false_ne_true)
          | (exact absurd hc10.symm Bool.false_ne_true)
          | ((try simp only [decide_eq_true_eq, decide_eq_false_iff_not, Bool.not_eq_true', Bool.not_eq_false', Bool.not_true, Bool.not_false, beq_iff_eq, bne_iff_ne, bne_eq_false_iff_eq, ne_eq, beq_eq_false_iff_ne, Int.not_lt, Int.not_le] at hc10); exfalso; omega)
          | (try simp only [decide_eq_true_eq, decide_eq_false_iff_not, Bool.not_eq_true', Bool.not_eq_false', Bool.not_true, Bool.not_false, beq_iff_eq, bne_iff_ne, bne_eq_false_iff_eq, ne_eq, beq_eq_false_iff_ne, Int.not_lt, Int.not_le] at hc10)
            refine HWp.exit ?_
            refine onNorm_e ?_
            refine onNorm_e ?_
            obtain rfl : k = l.length := by omega
            refine onExitH_hit ?_
            refine onNorm_n ?_
            refine HWp.seq ?_
            refine HWp.text (.rd 0 .done) rfl ?_
            refine HPlan.assign rfl rfl rfl ?_
            refine HPlan.fin ?_
            refine onNorm_n ?_
            refine HWp.ret ?_
            refine retQ_r (.tmp rfl .nil) ?_
            refine endK_of ⟨?_, rfl, rfl⟩ (by repeat (first | exact Part.refl _ | refine Part.pull (by repeat (first | exact Pull.here | apply Pull.there)) ?_ | refine Part.skip _ ?_ | exact Part.nil _ | exact Part.app _ _)) (by repeat (first | exact Part.refl _ | refine Part.pull (by repeat (first | exact Pull.here | apply Pull.there)) ?_ | refine Part.skip _ ?_ | exact Part.nil _ | exact Part.app _ _))
            first
            | exact congrArg LV.bool (great_hit (by omega) hc19).symm
            | exact congrArg LV.bool (great_no (by omega) (fun i h => hno i h h)).symm
            | exact congrArg LV.bool (show true = greatF l by simp only [greatF]; rw [decide_eq_true (by omega)]; rfl)
theorem clash_spec (l : List ActD) (ho : Acts32 l) (hl : l.length < 70368744177664) (hs : ∀ a ∈ l, a.data.size < 70368744177664) (x : LV) (hx : IsSl 35 (l.map actV) x) : HPure Try.prog 9 [x] (.bool (clashF l)) := by
  intro L T
  refine HCalls.enterG q_f_9 rfl ?_
  refine HWp.frame (r' := ⟨44, [(0, x)]⟩) rfl ?_
  refine HWp.seq ?_
  refine HWp.text (.rd 0 .done) rfl ?_
  refine HPlan.assign rfl rfl rfl ?_
  refine HPlan.fin ?_
  refine onNorm_n ?_
  refine HWp.seq ?_
  refine HWp.seq ?_
  refine HWp.text (.rd 0 .done) rfl ?_
  refine HPlan.assign rfl rfl rfl ?_
  refine HPlan.fin ?_
  refine onNorm_n ?_
  refine HWp.block ?_
  refine HWp.loopF (α := Nat) (fun i => l.length - i) (fun i => i ≤ l.length ∧ ∀ j k (hj : j < l.length) (hk : k < j), j < i → ¬ (l[j].data ≠ l[k].data ∧ shaF [l[j].data] = shaF [l[k].data])) (fun i => ⟨44, [(0, x), (3, .int .i64 (i : Int))]⟩) (fun i => L) (fun i => T) ?_ ?_
  · refine ⟨0, ⟨Nat.zero_le _, fun j k _ _ h => absurd h (Nat.not_lt_zero _)⟩, (LessE.less (by repeat (first | exact LessE.nil | refine LessE.same rfl ?_ | refine LessE.own rfl ?_ | refine LessE.eq rfl ?_ (by first | rfl | (congr 1; omega) | simp))) rfl), (by repeat (first | exact Part.refl _ | refine Part.pull (by repeat (first | exact Pull.here | apply Pull.there)) ?_ | refine Part.skip _ ?_ | exact Part.nil _ | exact Part.app _ _)), (by repeat (first | exact Part.refl _ | refine Part.pull (by repeat (first | exact Pull.here | apply Pull.there)) ?_ | refine Part.skip _ ?_ | exact Part.nil _ | exact Part.app _ _))⟩
  · rintro i ⟨hi1, hno⟩
    refine HWp.seq ?_
    refine HWp.seq ?_
    refine HWp.text (.rd 0 (.rd 1 (.rd 2 (.rd 3 .done)))) rfl ?_
    refine HPlan.move rfl rfl rfl ?_
    refine HPlan.move rfl rfl rfl ?_
    refine HPlan.lenS rfl rfl rfl q_tk_22 (by first | exact IsSl.sl | exact IsSl.nils | assumption | exact growV_isSl (by assumption)) (by rw [List.length_map]) ?_
    refine HPlan.intBin rfl rfl rfl rfl rfl rfl ?_
    refine HPlan.fin ?_
    refine onNorm_n ?_
    refine HWp.cond rfl ?_ ?_
    · intro hc8
      first
      | (exact absurd hc8 Bool.false_ne_true)
      | (exact absurd hc8.symm Bool.false_ne_true)
      | ((try simp only [decide_eq_true_eq, decide_eq_false_iff_not, Bool.not_eq_true', Bool.not_eq_false', Bool.not_true, Bool.not_false, beq_iff_eq, bne_iff_ne, bne_eq_false_iff_eq, ne_eq, beq_eq_false_iff_ne, Int.not_lt, Int.not_le] at hc8); exfalso; omega)
      | (try simp only [decide_eq_true_eq, decide_eq_false_iff_not, Bool.not_eq_true', Bool.not_eq_false', Bool.not_true, Bool.not_false, beq_iff_eq, bne_iff_ne, bne_eq_false_iff_eq, ne_eq, beq_eq_false_iff_ne, Int.not_lt, Int.not_le] at hc8)
        refine HWp.skip ?_
        refine onNorm_n ?_
        refine HWp.seq ?_
        refine HWp.block ?_
        refine HWp.seq ?_
        refine HWp.text (.rd 0 .done) rfl ?_
        refine HPlan.assign rfl rfl rfl ?_
        refine HPlan.fin ?_
        refine onNorm_n ?_
        refine HWp.block ?_
        refine HWp.loopF (α := Nat) (fun k => i - k) (fun k => k ≤ i ∧ ∀ k' (h : k' < i) (q : k' < k), ¬ (l[i].data ≠ l[k'].data ∧ shaF [l[i].data] = shaF [l[k'].data])) (fun k => ⟨44, [(0, x), (3, .int .i64 (i : Int)), (4, .int .i64 (k : Int))]⟩) (fun k => L) (fun k => T) ?_ ?_
        · refine ⟨0, ⟨Nat.zero_le _, fun k h q => absurd q (Nat.not_lt_zero _)⟩, (LessE.less (by repeat (first | exact LessE.nil | refine LessE.same rfl ?_ | refine LessE.own rfl ?_ | refine LessE.eq rfl ?_ (by first | rfl | (congr 1; omega) | simp))) rfl), (by repeat (first | exact Part.refl _ | refine Part.pull (by repeat (first | exact Pull.here | apply Pull.there)) ?_ | refine Part.skip _ ?_ | exact Part.nil _ | exact Part.app _ _)), (by repeat (first | exact Part.refl _ | refine Part.pull (by repeat (first | exact Pull.here | apply Pull.there)) ?_ | refine Part.skip _ ?_ | exact Part.nil _ | exact Part.app _ _))⟩
        · rintro k ⟨hk1, hno2⟩
          refine HWp.seq ?_
          refine HWp.seq ?_
          refine HWp.text (.rd 0 (.rd 1 (.rd 2 .done))) rfl ?_
          refine HPlan.move rfl rfl rfl ?_
          refine HPlan.move rfl rfl rfl ?_
          refine HPlan.intBin rfl rfl rfl rfl rfl rfl ?_
          refine HPlan.fin ?_
          refine onNorm_n ?_
          refine HWp.cond rfl ?_ ?_
          · intro hc13
            first
            | (exact absurd hc13 Bool.false_ne_true)
            | (exact absurd hc13.symm Bool.false_ne_true)
            | ((try simp only [decide_eq_true_eq, decide_eq_false_iff_not, Bool.not_eq_true', Bool.not_eq_false', Bool.not_true, Bool.not_false, beq_iff_eq, bne_iff_ne, bne_eq_false_iff_eq, ne_eq, beq_eq_false_iff_ne, Int.not_lt, Int.not_le] at hc13); exfalso; omega)
            | (try simp only [decide_eq_true_eq, decide_eq_false_iff_not, Bool.not_eq_true', Bool.not_eq_false', Bool.not_true, Bool.not_false, beq_iff_eq, bne_iff_ne, bne_eq_false_iff_eq, ne_eq, beq_eq_false_iff_ne, Int.not_lt, Int.not_le] at hc13)
              refine HWp.skip ?_
              refine onNorm_n ?_
              refine HWp.seq ?_
              refine HWp.block ?_
              refine HWp.seq ?_
              refine HWp.draw q_mix (.rd 0 (.rd 1 (.rd 2 (.rd 3 (.rd 4 (.rd 5 (.rd 6 (.rd 7 (.rd 8 (.rd 9 (.rd 10 (.rd 11 (.rd 12 (.rd 13 (.rd 14 (.rd 15 (.rd 16 (.rd 19 (.rd 20 (.rd 21 (.rd 22 (.rd 23 (.alt (.act 17 [23] (.alt (.act 18 [23] (.act 24 [16] (.act 25 [] (.rd 26 (.rd 27 .done))))) (.act 24 [16] (.act 18 [23] (.act 25 [] (.rd 26 (.rd 27 .done))))))) (.act 24 [16] (.act 17 [23] (.act 18 [23] (.act 25 [] (.rd 26 (.rd 27 .done))))))))))))))))))))))))))))) (by kernel_rfl) ?_
              refine HPlan.move rfl rfl rfl ?_
              refine HPlan.move rfl rfl rfl ?_
              refine HPlan.indexS rfl rfl rfl rfl q_ix_22 (by first | exact IsSl.sl | exact IsSl.nils | assumption | exact growV_isSl (by assumption)) (by omega) (by simp only [List.length_map]; omega) (act_at (l := l) (k := i) (by omega)) ?_
              refine HPlan.fieldAddr rfl rfl rfl rfl q_fo_31_1 rfl ?_
              refine HPlan.loadI rfl rfl rfl q_sh_9 (by rw [act_len (ho _ (List.getElem_mem _))]; decide) (act_data _) ?_
              refine HPlan.move rfl rfl rfl ?_
              refine HPlan.move rfl rfl rfl ?_
              refine HPlan.indexS rfl rfl rfl rfl q_ix_22 (by first | exact IsSl.sl | exact IsSl.nils | assumption | exact growV_isSl (by assumption)) (by omega) (by simp only [List.length_map]; omega) (act_at (l := l) (k := k) (by omega)) ?_
              refine HPlan.fieldAddr rfl rfl rfl rfl q_fo_31_1 rfl ?_
              refine HPlan.loadI rfl rfl rfl q_sh_9 (by rw [act_len (ho _ (List.getElem_mem _))]; decide) (act_data _) ?_
              refine HPlan.strBin rfl rfl rfl rfl trivial rfl ?_
              refine HPlan.move rfl rfl rfl ?_
              refine HPlan.split ?_ ?_
              · intro hb7_11
                first
                | (exact absurd hb7_11 Bool.false_ne_true)
                | (exact absurd hb7_11.symm Bool.false_ne_true)
                | ((try simp only [decide_eq_true_eq, decide_eq_false_iff_not, Bool.not_eq_true', Bool.not_eq_false', Bool.not_true, Bool.not_false, beq_iff_eq, bne_iff_ne, bne_eq_false_iff_eq, ne_eq, beq_eq_false_iff_ne, Int.not_lt, Int.not_le] at hb7_11); exfalso; omega)
                | (try simp only [decide_eq_true_eq, decide_eq_false_iff_not, Bool.not_eq_true', Bool.not_eq_false', Bool.not_true, Bool.not_false, beq_iff_eq, bne_iff_ne, bne_eq_false_iff_eq, ne_eq, beq_eq_false_iff_ne, Int.not_lt, Int.not_le] at hb7_11)
                  refine HPlan.move rfl rfl rfl ?_
                  refine HPlan.move rfl rfl rfl ?_
                  refine HPlan.indexS rfl rfl rfl rfl q_ix_22 (by first | exact IsSl.sl | exact IsSl.nils | assumption | exact growV_isSl (by assumption)) (by omega) (by simp only [List.length_map]; omega) (act_at (l := l) (k := i) (by omega)) ?_
                  refine HPlan.fieldAddr rfl rfl rfl rfl q_fo_31_1 rfl ?_
                  refine HPlan.loadI rfl rfl rfl q_sh_9 (by rw [act_len (ho _ (List.getElem_mem _))]; decide) (act_data _) ?_
                  refine HPlan.move rfl rfl rfl ?_
                  refine HPlan.move rfl rfl rfl ?_
                  refine HPlan.indexS rfl rfl rfl rfl q_ix_22 (by first | exact IsSl.sl | exact IsSl.nils | assumption | exact growV_isSl (by assumption)) (by omega) (by simp only [List.length_map]; omega) (act_at (l := l) (k := k) (by omega)) ?_
                  refine HPlan.fieldAddr rfl rfl rfl rfl q_fo_31_1 rfl ?_
                  refine HPlan.loadI rfl rfl rfl q_sh_9 (by rw [act_len (ho _ (List.getElem_mem _))]; decide) (act_data _) ?_
                  refine HPlan.both ?_ ?_
                  · refine HPlan.buildSliceN rfl rfl q_se_44 q_zs_9 rfl (by decide) rfl rfl (rfl : _ = [l[i].data].map LV.str) (allCells_cons (by first | rfl | (simp; done)) (by first | rfl | decide | omega | (simp; done) | (simp; omega)) allCells_nil) (keptH_ids (by repeat (first | exact allId_nil | refine allId_cons (by repeat (first | exact List.Mem.head _ | apply List.Mem.tail | assumption)) (by repeat (first | exact List.Mem.head _ | apply List.Mem.tail | assumption)) ?_))) ?_
                    refine HPlan.both ?_ ?_
                    · refine HPlan.callPure rfl rfl rfl q_en_17 (sha_spec [l[i].data] _ (by intro s h; simp at h; subst h; exact hs _ (List.getElem_mem _)) (by simp) .sl) (keptH_ids (by repeat (first | exact allId_nil | refine allId_cons (by repeat (first | exact List.Mem.head _ | apply List.Mem.tail | assumption)) (by repeat (first | exact List.Mem.head _ | apply List.Mem.tail | assumption)) ?_))) ?_
                      generalize hD1 : shaF [l[i].data] = D1
                      have hD1l : D1.length = 32 := by rw [← hD1]; exact shaF_length _
                      refine HPlan.buildSliceN rfl rfl q_se_44 q_zs_9 rfl (by decide) rfl rfl (rfl : _ = [l[k].data].map LV.str) (allCells_cons (by first | rfl | (simp; done)) (by first | rfl | decide | omega | (simp; done) | (simp; omega)) allCells_nil) (keptH_ids (by repeat (first | exact allId_nil | refine allId_cons (by repeat (first | exact List.Mem.head _ | apply List.Mem.tail | assumption)) (by repeat (first | exact List.Mem.head _ | apply List.Mem.tail | assumption)) ?_))) ?_
                      refine HPlan.callPure rfl rfl rfl q_en_17 (sha_spec [l[k].data] _ (by intro s h; simp at h; subst h; exact hs _ (List.getElem_mem _)) (by simp) .sl) keptH_nil ?_
                      generalize hD2 : shaF [l[k].data] = D2
                      have hD2l : D2.length = 32 := by rw [← hD2]; exact shaF_length _
                      refine HPlan.aggEq rfl rfl rfl rfl q_sh_29 q_ck_29 (by decide) q_eg_29 ((bytesLV_length D1).trans hD1l) ((bytesLV_length D2).trans hD2l) (fits_dig hD1l) (fits_dig hD2l) (eq_dig D1 D2) ?_
                      refine HPlan.pickT rfl rfl rfl rfl ?_
                      refine HPlan.fin ?_
                      refine onNorm_n ?_
                      refine HWp.cond rfl ?_ ?_
                      · intro hc43
                        first
                        | (exact absurd hc43 Bool.false_ne_true)
                        | (exact absurd hc43.symm Bool.false_ne_true)
                        | ((try simp only [decide_eq_true_eq, decide_eq_false_iff_not, Bool.not_eq_true', Bool.not_eq_false', Bool.not_true, Bool.not_false, beq_iff_eq, bne_iff_ne, bne_eq_false_iff_eq, ne_eq, beq_eq_false_iff_ne, Int.not_lt, Int.not_le] at hc43); exfalso; omega)
                        | (try simp only [decide_eq_true_eq, decide_eq_false_iff_not, Bool.not_eq_true', Bool.not_eq_false', Bool.not_true, Bool.not_false, beq_iff_eq, bne_iff_ne, bne_eq_false_iff_eq, ne_eq, beq_eq_false_iff_ne, Int.not_lt, Int.not_le] at hc43)
                          refine HWp.seq ?_
                          refine HWp.text (.rd 0 .done) rfl ?_
                          refine HPlan.assign rfl rfl rfl ?_
                          refine HPlan.fin ?_
                          refine onNorm_n ?_
                          refine HWp.ret ?_
                          refine onExitH_r ?_
                          refine onNorm_r ?_
                          refine onNorm_r ?_
                          refine onExitH_r ?_
                          refine onExitH_r ?_
                          refine onNorm_r ?_
                          refine onNorm_r ?_
                          refine onExitH_r ?_
                          refine onNorm_r ?_
                          refine retQ_r (.tmp rfl .nil) ?_
                          refine endK_of ⟨?_, rfl, rfl⟩ (by repeat (first | exact Part.refl _ | refine Part.pull (by repeat (first | exact Pull.here | apply Pull.there)) ?_ | refine Part.skip _ ?_ | exact Part.nil _ | exact Part.app _ _)) (by repeat (first | exact Part.refl _ | refine Part.pull (by repeat (first | exact Pull.here | apply Pull.there)) ?_ | refine Part.skip _ ?_ | exact Part.nil _ | exact Part.app _ _))
                          first
                          | exact congrArg LV.bool (clash_hit (by omega) (by omega) (by simpa using hb7_11) (hD1.trans (hc43.trans hD2.symm))).symm
                          | exact congrArg LV.bool (clash_no (fun j k hj hk => hno j k hj hk hj)).symm
                      · intro hc43
                        first
                        | (exact absurd hc43 Bool.false_ne_true)
                        | (exact absurd hc43.symm Bool.false_ne_true)
                        | ((try simp only [decide_eq_true_eq, decide_eq_false_iff_not, Bool.not_eq_true', Bool.not_eq_false', Bool.not_true, Bool.not_false, beq_iff_eq, bne_iff_ne, bne_eq_false_iff_eq, ne_eq, beq_eq_false_iff_ne, Int.not_lt, Int.not_le] at hc43); exfalso; omega)
                        | (try simp only [decide_eq_true_eq, decide_eq_false_iff_not, Bool.not_eq_true', Bool.not_eq_false', Bool.not_true, Bool.not_false, beq_iff_eq, bne_iff_ne, bne_eq_false_iff_eq, ne_eq, beq_eq_false_iff_ne, Int.not_lt, Int.not_le] at hc43)
                          have hpair : ¬ (l[i].data ≠ l[k].data ∧ shaF [l[i].data] = shaF [l[k].data]) := fun h => hc43 (hD1.symm.trans (h.2.trans hD2))
                          refine HWp.skip ?_
                          refine onExitH_n ?_
                          refine onNorm_n ?_
                          refine HWp.text (.rd 0 (.rd 1 (.rd 2 .done))) rfl ?_
                          refine HPlan.move rfl rfl rfl ?_
                          refine HPlan.intBin rfl rfl rfl rfl rfl (by first | exact add_i64 (by omega) (by omega) | rfl) ?_
                          refine HPlan.assign rfl rfl rfl ?_
                          refine HPlan.fin ?_
                          refine onNorm_n ?_
                          refine ⟨(k + 1), (by omega), ⟨by omega, fun k' h q => (Nat.lt_succ_iff_lt_or_eq.1 q).elim (hno2 k' h) (fun q => by subst q; exact hpair)⟩, (LessE.less (by repeat (first | exact LessE.nil | refine LessE.same rfl ?_ | refine LessE.own rfl ?_ | refine LessE.eq rfl ?_ (by first | rfl | (congr 1; omega) | simp))) rfl), (by repeat (first | exact Part.refl _ | refine Part.pull (by repeat (first | exact Pull.here | apply Pull.there)) ?_ | refine Part.skip _ ?_ | exact Part.nil _ | exact Part.app _ _)), (by repeat (first | exact Part.refl _ | refine Part.pull (by repeat (first | exact Pull.here | apply Pull.there)) ?_ | refine Part.skip _ ?_ | exact Part.nil _ | exact Part.app _ _))⟩
                    · refine HPlan.buildSliceN rfl rfl q_se_44 q_zs_9 rfl (by decide) rfl rfl (rfl : _ = [l[k].data].map LV.str) (allCells_cons (by first | rfl | (simp; done)) (by first | rfl | decide | omega | (simp; done) | (simp; omega)) allCells_nil) (keptH_ids (by repeat (first | exact allId_nil | refine allId_cons (by repeat (first | exact List.Mem.head _ | apply List.Mem.tail | assumption)) (by repeat (first | exact List.Mem.head _ | apply List.Mem.tail | assumption)) ?_))) ?_
                      refine HPlan.callPure rfl rfl rfl q_en_17 (sha_spec [l[i].data] _ (by intro s h; simp at h; subst h; exact hs _ (List.getElem_mem _)) (by simp) .sl) (keptH_ids (by repeat (first | exact allId_nil | refine allId_cons (by repeat (first | exact List.Mem.head _ | apply List.Mem.tail | assumption)) (by repeat (first | exact List.Mem.head _ | apply List.Mem.tail | assumption)) ?_))) ?_
                      generalize hD1 : shaF [l[i].data] = D1
                      have hD1l : D1.length = 32 := by rw [← hD1]; exact shaF_length _
                      refine HPlan.callPure rfl rfl rfl q_en_17 (sha_spec [l[k].data] _ (by intro s h; simp at h; subst h; exact hs _ (List.getElem_mem _)) (by simp) .sl) keptH_nil ?_
                      generalize hD2 : shaF [l[k].data] = D2
                      have hD2l : D2.length = 32 := by rw [← hD2]; exact shaF_length _
                      refine HPlan.aggEq rfl rfl rfl rfl q_sh_29 q_ck_29 (by decide) q_eg_29 ((bytesLV_length D1).trans hD1l) ((bytesLV_length D2).trans hD2l) (fits_dig hD1l) (fits_dig hD2l) (eq_dig D1 D2) ?_
                      refine HPlan.pickT rfl rfl rfl rfl ?_
                      refine HPlan.fin ?_
                      refine onNorm_n ?_
                      refine HWp.cond rfl ?_ ?_
                      · intro hc43
                        first
                        | (exact absurd hc43 Bool.false_ne_true)
                        | (exact absurd hc43.symm Bool.false_ne_true)
                        | ((try simp only [decide_eq_true_eq, decide_eq_false_iff_not, Bool.not_eq_true', Bool.not_eq_false', Bool.not_true, Bool.not_false, beq_iff_eq, bne_iff_ne, bne_eq_false_iff_eq, ne_eq, beq_eq_false_iff_ne, Int.not_lt, Int.not_le] at hc43); exfalso; omega)
                        | (try simp only [decide_eq_true_eq, decide_eq_false_iff_not, Bool.not_eq_true', Bool.not_eq_false', Bool.not_true, Bool.not_false, beq_iff_eq, bne_iff_ne, bne_eq_false_iff_eq, ne_eq, beq_eq_false_iff_ne, Int.not_lt, Int.not_le] at hc43)
                          refine HWp.seq ?_
                          refine HWp.text (.rd 0 .done) rfl ?_
                          refine HPlan.assign rfl rfl rfl ?_
                          refine HPlan.fin ?_
                          refine onNorm_n ?_
                          refine HWp.ret ?_
                          refine onExitH_r ?_
                          refine onNorm_r ?_
                          refine onNorm_r ?_
                          refine onExitH_r ?_
                          refine onExitH_r ?_
                          refine onNorm_r ?_
                          refine onNorm_r ?_
                          refine onExitH_r ?_
                          refine onNorm_r ?_
                          refine retQ_r (.tmp rfl .nil) ?_
                          refine endK_of ⟨?_, rfl, rfl⟩ (by repeat (first | exact Part.refl _ | refine Part.pull (by repeat (first | exact Pull.here | apply Pull.there)) ?_ | refine Part.skip _ ?_ | exact Part.nil _ | exact Part.app _ _)) (by repeat (first | exact Part.refl _ | refine Part.pull (by repeat (first | exact Pull.here | apply Pull.there)) ?_ | refine Part.skip _ ?_ | exact Part.nil _ | exact Part.app _ _))
                          first
                          | exact congrArg LV.bool (clash_hit (by omega) (by omega) (by simpa using hb7_11) (hD1.trans (hc43.trans hD2.symm))).symm
                          | exact congrArg LV.bool (clash_no (fun j k hj hk => hno j k hj hk hj)).symm
                      · intro hc43
                        first
                        | (exact absurd hc43 Bool.false_ne_true)
                        | (exact absurd hc43.symm Bool.false_ne_true)
                        | ((try simp only [decide_eq_true_eq, decide_eq_false_iff_not, Bool.not_eq_true', Bool.not_eq_false', Bool.not_true, Bool.not_false, beq_iff_eq, bne_iff_ne, bne_eq_false_iff_eq, ne_eq, beq_eq_false_iff_ne, Int.not_lt, Int.not_le] at hc43); exfalso; omega)
                        | (try simp only [decide_eq_true_eq, decide_eq_false_iff_not, Bool.not_eq_true', Bool.not_eq_false', Bool.not_true, Bool.not_false, beq_iff_eq, bne_iff_ne, bne_eq_false_iff_eq, ne_eq, beq_eq_false_iff_ne, Int.not_lt, Int.not_le] at hc43)
                          have hpair : ¬ (l[i].data ≠ l[k].data ∧ shaF [l[i].data] = shaF [l[k].data]) := fun h => hc43 (hD1.symm.trans (h.2.trans hD2))
                          refine HWp.skip ?_
                          refine onExitH_n ?_
                          refine onNorm_n ?_
                          refine HWp.text (.rd 0 (.rd 1 (.rd 2 .done))) rfl ?_
                          refine HPlan.move rfl rfl rfl ?_
                          refine HPlan.intBin rfl rfl rfl rfl rfl (by first | exact add_i64 (by omega) (by omega) | rfl) ?_
                          refine HPlan.assign rfl rfl rfl ?_
                          refine HPlan.fin ?_
                          refine onNorm_n ?_
                          refine ⟨(k + 1), (by omega), ⟨by omega, fun k' h q => (Nat.lt_succ_iff_lt_or_eq.1 q).elim (hno2 k' h) (fun q => by subst q; exact hpair)⟩, (LessE.less (by repeat (first | exact LessE.nil | refine LessE.same rfl ?_ | refine LessE.own rfl ?_ | refine LessE.eq rfl ?_ (by first | rfl | (congr 1; omega) | simp))) rfl), (by repeat (first | exact Part.refl _ | refine Part.pull (by repeat (first | exact Pull.here | apply Pull.there)) ?_ | refine Part.skip _ ?_ | exact Part.nil _ | exact Part.app _ _)), (by repeat (first | exact Part.refl _ | refine Part.pull (by repeat (first | exact Pull.here | apply Pull.there)) ?_ | refine Part.skip _ ?_ | exact Part.nil _ | exact Part.app _ _))⟩
                  · refine HPlan.buildSliceN rfl rfl q_se_44 q_zs_9 rfl (by decide) rfl rfl (rfl : _ = [l[k].data].map LV.str) (allCells_cons (by first | rfl | (simp; done)) (by first | rfl | decide | omega | (simp; done) | (simp; omega)) allCells_nil) (keptH_ids (by repeat (first | exact allId_nil | refine allId_cons (by repeat (first | exact List.Mem.head _ | apply List.Mem.tail | assumption)) (by repeat (first | exact List.Mem.head _ | apply List.Mem.tail | assumption)) ?_))) ?_
                    refine HPlan.buildSliceN rfl rfl q_se_44 q_zs_9 rfl (by decide) rfl rfl (rfl : _ = [l[i].data].map LV.str) (allCells_cons (by first | rfl | (simp; done)) (by first | rfl | decide | omega | (simp; done) | (simp; omega)) allCells_nil) (keptH_ids (by repeat (first | exact allId_nil | refine allId_cons (by repeat (first | exact List.Mem.head _ | apply List.Mem.tail | assumption)) (by repeat (first | exact List.Mem.head _ | apply List.Mem.tail | assumption)) ?_))) ?_
                    refine HPlan.callPure rfl rfl rfl q_en_17 (sha_spec [l[i].data] _ (by intro s h; simp at h; subst h; exact hs _ (List.getElem_mem _)) (by simp) .sl) (keptH_ids (by repeat (first | exact allId_nil | refine allId_cons (by repeat (first | exact List.Mem.head _ | apply List.Mem.tail | assumption)) (by repeat (first | exact List.Mem.head _ | apply List.Mem.tail | assumption)) ?_))) ?_
                    generalize hD1 : shaF [l[i].data] = D1
                    have hD1l : D1.length = 32 := by rw [← hD1]; exact shaF_length _
                    refine HPlan.callPure rfl rfl rfl q_en_17 (sha_spec [l[k].data] _ (by intro s h; simp at h; subst h; exact hs _ (List.getElem_mem _)) (by simp) .sl) keptH_nil ?_
                    generalize hD2 : shaF [l[k].data] = D2
                    have hD2l : D2.length = 32 := by rw [← hD2]; exact shaF_length _
                    refine HPlan.aggEq rfl rfl rfl rfl q_sh_29 q_ck_29 (by decide) q_eg_29 ((bytesLV_length D1).trans hD1l) ((bytesLV_length D2).trans hD2l) (fits_dig hD1l) (fits_dig hD2l) (eq_dig D1 D2) ?_
                    refine HPlan.pickT rfl rfl rfl rfl ?_
                    refine HPlan.fin ?_
                    refine onNorm_n ?_
                    refine HWp.cond rfl ?_ ?_
                    · intro hc43
                      first
                      | (exact absurd hc43 Bool.false_ne_true)
                      | (exact absurd hc43.symm Bool.false_ne_true)
                      | ((try simp only [decide_eq_true_eq, decide_eq_false_iff_not, Bool.not_eq_true', Bool.not_eq_false', Bool.not_true, Bool.not_false, beq_iff_eq, bne_iff_ne, bne_eq_false_iff_eq, ne_eq, beq_eq_false_iff_ne, Int.not_lt, Int.not_le] at hc43); exfalso; omega)
                      | (try simp only [decide_eq_true_eq, decide_eq_false_iff_not, Bool.not_eq_true', Bool.not_eq_false', Bool.not_true, Bool.not_false, beq_iff_eq, bne_iff_ne, bne_eq_false_iff_eq, ne_eq, beq_eq_false_iff_ne, Int.not_lt, Int.not_le] at hc43)
                        refine HWp.seq ?_
                        refine HWp.text (.rd 0 .done) rfl ?_
                        refine HPlan.assign rfl rfl rfl ?_
                        refine HPlan.fin ?_
                        refine onNorm_n ?_
                        refine HWp.ret ?_
                        refine onExitH_r ?_
                        refine onNorm_r ?_
                        refine onNorm_r ?_
                        refine onExitH_r ?_
                        refine onExitH_r ?_
                        refine onNorm_r ?_
                        refine onNorm_r ?_
                        refine onExitH_r ?_
                        refine onNorm_r ?_
                        refine retQ_r (.tmp rfl .nil) ?_
                        refine endK_of ⟨?_, rfl, rfl⟩ (by repeat (first | exact Part.refl _ | refine Part.pull (by repeat (first | exact Pull.here | apply Pull.there)) ?_ | refine Part.skip _ ?_ | exact Part.nil _ | exact Part.app _ _)) (by repeat (first | exact Part.refl _ | refine Part.pull (by repeat (first | exact Pull.here | apply Pull.there)) ?_ | refine Part.skip _ ?_ | exact Part.nil _ | exact Part.app _ _))
                        first
                        | exact congrArg LV.bool (clash_hit (by omega) (by omega) (by simpa using hb7_11) (hD1.trans (hc43.trans hD2.symm))).symm
                        | exact congrArg LV.bool (clash_no (fun j k hj hk => hno j k hj hk hj)).symm
                    · intro hc43
                      first
                      | (exact absurd hc43 Bool.false_ne_true)
                      | (exact absurd hc43.symm Bool.false_ne_true)
                      | ((try simp only [decide_eq_true_eq, decide_eq_false_iff_not, Bool.not_eq_true', Bool.not_eq_false', Bool.not_true, Bool.not_false, beq_iff_eq, bne_iff_ne, bne_eq_false_iff_eq, ne_eq, beq_eq_false_iff_ne, Int.not_lt, Int.not_le] at hc43); exfalso; omega)
                      | (try simp only [decide_eq_true_eq, decide_eq_false_iff_not, Bool.not_eq_true', Bool.not_eq_false', Bool.not_true, Bool.not_false, beq_iff_eq, bne_iff_ne, bne_eq_false_iff_eq, ne_eq, beq_eq_false_iff_ne, Int.not_lt, Int.not_le] at hc43)
                        have hpair : ¬ (l[i].data ≠ l[k].data ∧ shaF [l[i].data] = shaF [l[k].data]) := fun h => hc43 (hD1.symm.trans (h.2.trans hD2))
                        refine HWp.skip ?_
                        refine onExitH_n ?_
                        refine onNorm_n ?_
                        refine HWp.text (.rd 0 (.rd 1 (.rd 2 .done))) rfl ?_
                        refine HPlan.move rfl rfl rfl ?_
                        refine HPlan.intBin rfl rfl rfl rfl rfl (by first | exact add_i64 (by omega) (by omega) | rfl) ?_
                        refine HPlan.assign rfl rfl rfl ?_
                        refine HPlan.fin ?_
                        refine onNorm_n ?_
                        refine ⟨(k + 1), (by omega), ⟨by omega, fun k' h q => (Nat.lt_succ_iff_lt_or_eq.1 q).elim (hno2 k' h) (fun q => by subst q; exact hpair)⟩, (LessE.less (by repeat (first | exact LessE.nil | refine LessE.same rfl ?_ | refine LessE.own rfl ?_ | refine LessE.eq rfl ?_ (by first | rfl | (congr 1; omega) | simp))) rfl), (by repeat (first | exact Part.refl _ | refine Part.pull (by repeat (first | exact Pull.here | apply Pull.there)) ?_ | refine Part.skip _ ?_ | exact Part.nil _ | exact Part.app _ _)), (by repeat (first | exact Part.refl _ | refine Part.pull (by repeat (first | exact Pull.here | apply Pull.there)) ?_ | refine Part.skip _ ?_ | exact Part.nil _ | exact Part.app _ _))⟩
              · intro hb7_11
                first
                | (exact absurd hb7_11 Bool.false_ne_true)
                | (exact absurd hb7_11.symm Bool.false_ne_true)
                | ((try simp only [decide_eq_true_eq, decide_eq_false_iff_not, Bool.not_eq_true', Bool.not_eq_false', Bool.not_true, Bool.not_false, beq_iff_eq, bne_iff_ne, bne_eq_false_iff_eq, ne_eq, beq_eq_false_iff_ne, Int.not_lt, Int.not_le] at hb7_11); exfalso; omega)
                | (try simp only [decide_eq_true_eq, decide_eq_false_iff_not, Bool.not_eq_true', Bool.not_eq_false', Bool.not_true, Bool.not_false, beq_iff_eq, bne_iff_ne, bne_eq_false_iff_eq, ne_eq, beq_eq_false_iff_ne, Int.not_lt, Int.not_le] at hb7_11)
                  have hpair : ¬ (l[i].data ≠ l[k].data ∧ shaF [l[i].data] = shaF [l[k].data]) := fun h => absurd hb7_11 (by simpa using h.1)
                  refine HPlan.leftR rfl rfl ?_
                  refine HPlan.leftR rfl rfl ?_
                  refine HPlan.leftR rfl rfl ?_
                  refine HPlan.leftR rfl rfl ?_
                  refine HPlan.leftR rfl rfl ?_
                  refine HPlan.leftR rfl rfl ?_
                  refine HPlan.leftR rfl rfl ?_
                  refine HPlan.leftR rfl rfl ?_
                  refine HPlan.leftR rfl rfl ?_
                  refine HPlan.leftR rfl rfl ?_
                  refine HPlan.both ?_ ?_
                  · refine HPlan.leftA rfl rfl ?_
                    refine HPlan.both ?_ ?_
                    · refine HPlan.leftA rfl rfl ?_
                      refine HPlan.leftA rfl rfl ?_
                      refine HPlan.leftA rfl rfl ?_
                      refine HPlan.leftR rfl rfl ?_
                      refine HPlan.pickF rfl rfl rfl rfl ?_
                      refine HPlan.fin ?_
                      refine onNorm_n ?_
                      refine HWp.cond_f rfl ?_
                      refine HWp.skip ?_
                      refine onExitH_n ?_
                      refine onNorm_n ?_
                      refine HWp.text (.rd 0 (.rd 1 (.rd 2 .done))) rfl ?_
                      refine HPlan.move rfl rfl rfl ?_
                      refine HPlan.intBin rfl rfl rfl rfl rfl (by first | exact add_i64 (by omega) (by omega) | rfl) ?_
                      refine HPlan.assign rfl rfl rfl ?_
                      refine HPlan.fin ?_
                      refine onNorm_n ?_
                      refine ⟨(k + 1), (by omega), ⟨by omega, fun k' h q => (Nat.lt_succ_iff_lt_or_eq.1 q).elim (hno2 k' h) (fun q => by subst q; exact hpair)⟩, (LessE.less (by repeat (first | exact LessE.nil | refine LessE.same rfl ?_ | refine LessE.own rfl ?_ | refine LessE.eq rfl ?_ (by first | rfl | (congr 1; omega) | simp))) rfl), (by repeat (first | exact Part.refl _ | refine Part.pull (by repeat (first | exact Pull.here | apply Pull.there)) ?_ | refine Part.skip _ ?_ | exact Part.nil _ | exact Part.app _ _)), (by repeat (first | exact Part.refl _ | refine Part.pull (by repeat (first | exact Pull.here | apply Pull.there)) ?_ | refine Part.skip _ ?_ | exact Part.nil _ | exact Part.app _ _))⟩
                    · refine HPlan.leftA rfl rfl ?_
                      refine HPlan.leftA rfl rfl ?_
                      refine HPlan.leftA rfl rfl ?_
                      refine HPlan.leftR rfl rfl ?_
                      refine HPlan.pickF rfl rfl rfl rfl ?_
                      refine HPlan.fin ?_
                      refine onNorm_n ?_
                      refine HWp.cond_f rfl ?_
                      refine HWp.skip ?_
                      refine onExitH_n ?_
                      refine onNorm_n ?_
                      refine HWp.text (.rd 0 (.rd 1 (.rd 2 .done))) rfl ?_
                      refine HPlan.move rfl rfl rfl ?_
                      refine HPlan.intBin rfl rfl rfl rfl rfl (by first | exact add_i64 (by omega) (by omega) | rfl) ?_
                      refine HPlan.assign rfl rfl rfl ?_
                      refine HPlan.fin ?_
                      refine onNorm_n ?_
                      refine ⟨(k + 1), (by omega), ⟨by omega, fun k' h q => (Nat.lt_succ_iff_lt_or_eq.1 q).elim (hno2 k' h) (fun q => by subst q; exact hpair)⟩, (LessE.less (by repeat (first | exact LessE.nil | refine LessE.same rfl ?_ | refine LessE.own rfl ?_ | refine LessE.eq rfl ?_ (by first | rfl | (congr 1; omega) | simp))) rfl), (by repeat (first | exact Part.refl _ | refine Part.pull (by repeat (first | exact Pull.here | apply Pull.there)) ?_ | refine Part.skip _ ?_ | exact Part.nil _ | exact Part.app _ _)), (by repeat (first | exact Part.refl _ | refine Part.pull (by repeat (first | exact Pull.here | apply Pull.there)) ?_ | refine Part.skip _ ?_ | exact Part.nil _ | exact Part.app _ _))⟩
                  · refine HPlan.leftA rfl rfl ?_
                    refine HPlan.leftA rfl rfl ?_
                    refine HPlan.leftA rfl rfl ?_
                    refine HPlan.leftA rfl rfl ?_
                    refine HPlan.leftR rfl rfl ?_
                    refine HPlan.pickF rfl rfl rfl rfl ?_
                    refine HPlan.fin ?_
                    refine onNorm_n ?_
                    refine HWp.cond_f rfl ?_
                    refine HWp.skip ?_
                    refine onExitH_n ?_
                    refine onNorm_n ?_
                    refine HWp.text (.rd 0 (.rd 1 (.rd 2 .done))) rfl ?_
                    refine HPlan.move rfl rfl rfl ?_
                    refine HPlan.intBin rfl rfl rfl rfl rfl (by first | exact add_i64 (by omega) (by omega) | rfl) ?_
                    refine HPlan.assign rfl rfl rfl ?_
                    refine HPlan.fin ?_
                    refine onNorm_n ?_
                    refine ⟨(k + 1), (by omega), ⟨by omega, fun k' h q => (Nat.lt_succ_iff_lt_or_eq.1 q).elim (hno2 k' h) (fun q => by subst q; exact hpair)⟩, (LessE.less (by repeat (first | exact LessE.nil | refine LessE.same rfl ?_ | refine LessE.own rfl ?_ | refine LessE.eq rfl ?_ (by first | rfl | (congr 1; omega) | simp))) rfl), (by repeat (first | exact Part.refl _ | refine Part.pull (by repeat (first | exact Pull.here | apply Pull.there)) ?_ | refine Part.skip _ ?_ | exact Part.nil _ | exact Part.app _ _)), (by repeat (first | exact Part.refl _ | refine Part.pull (by repeat (first | exact Pull.here | apply Pull.there)) ?_ | refine Part.skip _ ?_ | exact Part.nil _ | exact Part.app _ _))⟩
          · intro hc13
            first
            | (exact absurd hc13 Bool.false_ne_true)
            | (exact absurd hc13.symm Bool.false_ne_true)
            | ((try simp only [decide_eq_true_eq, decide_eq_false_iff_not, Bool.not_eq_true', Bool.not_eq_false', Bool.not_true, Bool.not_false, beq_iff_eq, bne_iff_ne, bne_eq_false_iff_eq, ne_eq, beq_eq_false_iff_ne, Int.not_lt, Int.not_le] at hc13); exfalso; omega)
            | (try simp only [decide_eq_true_eq, decide_eq_false_iff_not, Bool.not_eq_true', Bool.not_eq_false', Bool.not_true, Bool.not_false, beq_iff_eq, bne_iff_ne, bne_eq_false_iff_eq, ne_eq, beq_eq_false_iff_ne, Int.not_lt, Int.not_le] at hc13)
              refine HWp.exit ?_
              refine onNorm_e ?_
              refine onNorm_e ?_
              refine onExitH_hit ?_
              refine onExitH_n ?_
              refine onNorm_n ?_
              refine HWp.text (.rd 0 (.rd 1 (.rd 2 .done))) rfl ?_
              refine HPlan.move rfl rfl rfl ?_
              refine HPlan.intBin rfl rfl rfl rfl rfl (by first | exact add_i64 (by omega) (by omega) | rfl) ?_
              refine HPlan.assign rfl rfl rfl ?_
              refine HPlan.fin ?_
              refine onNorm_n ?_
              refine ⟨(i + 1), (by omega), ⟨by omega, fun j k hj hk h => (Nat.lt_succ_iff_lt_or_eq.1 h).elim (fun q => hno j k hj hk q) (fun q => by subst q; exact hno2 k (by omega) (by omega))⟩, (LessE.less (by repeat (first | exact LessE.nil | refine LessE.same rfl ?_ | refine LessE.own rfl ?_ | refine LessE.eq rfl ?_ (by first | rfl | (congr 1; omega) | simp))) rfl), (by repeat (first | exact Part.refl _ | refine Part.pull (by repeat (first | exact Pull.here | apply Pull.there)) ?_ | refine Part.skip _ ?_ | exact Part.nil _ | exact Part.app _ _)), (by repeat (first | exact Part.refl _ | refine Part.pull (by repeat (first | exact Pull.here | apply Pull.there)) ?_ | refine Part.skip _ ?_ | exact Part.nil _ | exact Part.app _ _))⟩
    · intro hc8
      first
      | (exact absurd hc8 Bool.false_ne_true)
      | (exact absurd hc8.symm Bool.false_ne_true)
      | ((try simp only [decide_eq_true_eq, decide_eq_false_iff_not, Bool.not_eq_true', Bool.not_eq_false', Bool.not_true, Bool.not_false, beq_iff_eq, bne_iff_ne, bne_eq_false_iff_eq, ne_eq, beq_eq_false_iff_ne, Int.not_lt, Int.not_le] at hc8); exfalso; omega)
      | (try simp only [decide_eq_true_eq, decide_eq_false_iff_not, Bool.not_eq_true', Bool.not_eq_false', Bool.not_true, Bool.not_false, beq_iff_eq, bne_iff_ne, bne_eq_false_iff_eq, ne_eq, beq_eq_false_iff_ne, Int.not_lt, Int.not_le] at hc8)
        refine HWp.exit ?_
        refine onNorm_e ?_
        refine onNorm_e ?_
        obtain rfl : i = l.length := by omega
        refine onExitH_hit ?_
        refine onNorm_n ?_
        refine HWp.seq ?_
        refine HWp.text (.rd 0 .done) rfl ?_
        refine HPlan.assign rfl rfl rfl ?_
        refine HPlan.fin ?_
        refine onNorm_n ?_
        refine HWp.ret ?_
        refine retQ_r (.tmp rfl .nil) ?_
        refine endK_of ⟨?_, rfl, rfl⟩ (by repeat (first | exact Part.refl _ | refine Part.pull (by repeat (first | exact Pull.here | apply Pull.there)) ?_ | refine Part.skip _ ?_ | exact Part.nil _ | exact Part.app _ _)) (by repeat (first | exact Part.refl _ | refine Part.pull (by repeat (first | exact Pull.here | apply Pull.there)) ?_ | refine Part.skip _ ?_ | exact Part.nil _ | exact Part.app _ _))
        first
        | exact congrArg LV.bool (clash_hit (by omega) (by omega) (by simpa using hb7_11) (hD1.trans (hc43.trans hD2.symm))).symm
        | exact congrArg LV.bool (clash_no (fun j k hj hk => hno j k hj hk hj)).symm
theorem asked_spec (a : ActD) (ho : a.other.length = 32) (hs : a.data.size < 70368744177664) : HPure Try.prog 11 [actV a] (digV (askF a)) := by
  intro L T
  refine HCalls.enterG q_f_11 rfl ?_
  refine HWp.frame (r' := ⟨11, [(0, actV a)]⟩) rfl ?_
  refine HWp.seq ?_
  refine HWp.text (.act 0 [] (.act 1 [] .done)) rfl ?_
  refine HPlan.box rfl rfl rfl (act_solid a) (fun i1 => ⟨keptH_nil, ?_⟩)
  refine HPlan.alloc rfl rfl q_zo_29 (by first | rfl | (simp; done)) (fun i2 => ⟨keptH_nil, ?_⟩)
  refine HPlan.fin ?_
  refine onNorm_n ?_
  refine HWp.seq ?_
  refine HWp.seq ?_
  refine HWp.text (.rd 0 (.rd 1 .done)) rfl ?_
  refine HPlan.fieldAddr rfl rfl rfl rfl q_fo_31_2 rfl ?_
  refine HPlan.load rfl rfl rfl q_sh_4 (by repeat (first | exact List.Mem.head _ | apply List.Mem.tail | assumption)) (by rw [act_len ho]; decide) (act_is a) ?_
  refine HPlan.fin ?_
  refine onNorm_n ?_
  refine HWp.cond rfl ?_ ?_
  · intro hc4
    first
    | (exact absurd hc4 Bool.false_ne_true)
    | (exact absurd hc4.symm Bool.false_ne_true)
    | ((try simp only [decide_eq_true_eq, decide_eq_false_iff_not, Bool.not_eq_true', Bool.not_eq_false', Bool.not_true, Bool.not_false, beq_iff_eq, bne_iff_ne, bne_eq_false_iff_eq, ne_eq, beq_eq_false_iff_ne, Int.not_lt, Int.not_le] at hc4); exfalso; omega)
    | (try simp only [decide_eq_true_eq, decide_eq_false_iff_not, Bool.not_eq_true', Bool.not_eq_false', Bool.not_true, Bool.not_false, beq_iff_eq, bne_iff_ne, bne_eq_false_iff_eq, ne_eq, beq_eq_false_iff_ne, Int.not_lt, Int.not_le] at hc4)
      refine HWp.seq ?_
      refine HWp.text (.rd 0 (.rd 1 (.act 2 [] .done))) rfl ?_
      refine HPlan.fieldAddr rfl rfl rfl rfl q_fo_31_3 rfl ?_
      refine HPlan.load rfl rfl rfl q_sh_29 (by repeat (first | exact List.Mem.head _ | apply List.Mem.tail | assumption)) (by rw [act_len ho]; decide) (act_other ho) ?_
      refine HPlan.store rfl rfl rfl rfl q_sz_29 (digV_solid _) ((bytesLV_length _).trans ho) (by repeat (first | exact List.Mem.head _ | apply List.Mem.tail | assumption)) (splice_all _ (bytesLV a.other) (by simp; exact ho)) (by repeat (first | exact Upd.here | apply Upd.there)) (by simp) keptH_nil ?_
      refine HPlan.fin ?_
      refine onNorm_n ?_
      refine HWp.ret ?_
      refine onNorm_r ?_
      refine retQ_r (.cell q_sh_29 rfl (by repeat (first | exact List.Mem.head _ | apply List.Mem.tail | assumption)) (by constructor <;> first | rfl | decide | omega | exact Nat.le_refl _ | (simp; done) | (simp; omega)) (by first | exact (load_all (bytesLV a.other) 32 ((bytesLV_length _).trans ho)) | exact (load_all (bytesLV D) 32 ((bytesLV_length D).trans hDl))) .nil) ?_
      refine endK_of ⟨?_, rfl, rfl⟩ (by repeat (first | exact Part.refl _ | refine Part.pull (by repeat (first | exact Pull.here | apply Pull.there)) ?_ | refine Part.skip _ ?_ | exact Part.nil _ | exact Part.app _ _)) (by repeat (first | exact Part.refl _ | refine Part.pull (by repeat (first | exact Pull.here | apply Pull.there)) ?_ | refine Part.skip _ ?_ | exact Part.nil _ | exact Part.app _ _))
      first
      | (have e : askF a = a.other := (by unfold askF; rw [if_pos hc4])
         rw [e]; rfl)
      | (have e : askF a = D := (by unfold askF; rw [if_neg (by rw [hc4]; exact Bool.false_ne_true)]; exact hD)
         rw [e]; rfl)
  · intro hc4
    first
    | (exact absurd hc4 Bool.false_ne_true)
    | (exact absurd hc4.symm Bool.false_ne_true)
    | ((try simp only [decide_eq_true_eq, decide_eq_false_iff_not, Bool.not_eq_true', Bool.not_eq_false', Bool.not_true, Bool.not_false, beq_iff_eq, bne_iff_ne, bne_eq_false_iff_eq, ne_eq, beq_eq_false_iff_ne, Int.not_lt, Int.not_le] at hc4); exfalso; omega)
    | (try simp only [decide_eq_true_eq, decide_eq_false_iff_not, Bool.not_eq_true', Bool.not_eq_false', Bool.not_true, Bool.not_false, beq_iff_eq, bne_iff_ne, bne_eq_false_iff_eq, ne_eq, beq_eq_false_iff_ne, Int.not_lt, Int.not_le] at hc4)
      refine HWp.skip ?_
      refine onNorm_n ?_
      refine HWp.seq ?_
      refine HWp.text (.rd 0 (.rd 1 (.act 2 [] (.act 3 [] (.act 4 [] .done))))) rfl ?_
      refine HPlan.fieldAddr rfl rfl rfl rfl q_fo_31_1 rfl ?_
      refine HPlan.load rfl rfl rfl q_sh_9 (by repeat (first | exact List.Mem.head _ | apply List.Mem.tail | assumption)) (by rw [act_len ho]; decide) (act_data a) ?_
      refine HPlan.buildSliceN rfl rfl q_se_44 q_zs_9 rfl (by decide) rfl rfl (rfl : _ = [a.data].map LV.str) (allCells_cons (by first | rfl | (simp; done)) (by first | rfl | decide | omega | (simp; done) | (simp; omega)) allCells_nil) keptH_nil ?_
      refine HPlan.callPure rfl rfl rfl q_en_17 (sha_spec [a.data] _ (by intro s h; simp at h; subst h; exact hs) (by simp) .sl) keptH_nil ?_
      generalize hD : shaF [a.data] = D
      have hDl : D.length = 32 := by rw [← hD]; exact shaF_length _
      refine HPlan.store rfl rfl rfl rfl q_sz_29 (digV_solid D) ((bytesLV_length D).trans hDl) (by repeat (first | exact List.Mem.head _ | apply List.Mem.tail | assumption)) (splice_all _ (bytesLV D) (by simp; exact hDl)) (by repeat (first | exact Upd.here | apply Upd.there)) (by simp) keptH_nil ?_
      refine HPlan.fin ?_
      refine onNorm_n ?_
      refine HWp.ret ?_
      refine retQ_r (.cell q_sh_29 rfl (by repeat (first | exact List.Mem.head _ | apply List.Mem.tail | assumption)) (by constructor <;> first | rfl | decide | omega | exact Nat.le_refl _ | (simp; done) | (simp; omega)) (by first | exact (load_all (bytesLV a.other) 32 ((bytesLV_length _).trans ho)) | exact (load_all (bytesLV D) 32 ((bytesLV_length D).trans hDl))) .nil) ?_
      refine endK_of ⟨?_, rfl, rfl⟩ (by repeat (first | exact Part.refl _ | refine Part.pull (by repeat (first | exact Pull.here | apply Pull.there)) ?_ | refine Part.skip _ ?_ | exact Part.nil _ | exact Part.app _ _)) (by repeat (first | exact Part.refl _ | refine Part.pull (by repeat (first | exact Pull.here | apply Pull.there)) ?_ | refine Part.skip _ ?_ | exact Part.nil _ | exact Part.app _ _))
      first
      | (have e : askF a = a.other := (by unfold askF; rw [if_pos hc4])
         rw [e]; rfl)
      | (have e : askF a = D := (by unfold askF; rw [if_neg (by rw [hc4]; exact Bool.false_ne_true)]; exact hD)
         rw [e]; rfl)
end Go.Proofs.Ythfoobfgdakbmaa

set_option linter.unusedVariables false
set_option linter.unusedSimpArgs false
set_option maxRecDepth 100000
namespace Go.Proofs.Ythfoobfgdakbmaa
open Go Go.RowKit Go.L


open Go.Shelf Go.Sort in
def sortDig_ren : Go.Shelf.Ren := ⟨fun | 6 => 35 | 15 => 43 | 14 => 42 | 28 => 53 | 29 => 54 | 20 => 45 | 21 => 46 | 22 => 47 | 23 => 48 | 24 => 49 | 25 => 50 | 26 => 51 | 27 => 52 | 46 => 55 | 47 => 56 | 48 => 57 | 49 => 58 | 50 => 59 | 57 => 60 | n => n, fun | 22 => 46 | 24 => 29 | 25 => 66 | 3 => 3 | 39 => 85 | 0 => 0 | 53 => 67 | 55 => 71 | 4 => 4 | 46 => 88 | 45 => 87 | 50 => 92 | 5 => 5 | 9 => 9 | 66 => 96 | 70 => 100 | 76 => 102 | 77 => 103 | n => n, fun | n => n⟩
open Go.Shelf in
theorem sortDig : Go.Proofs.SlLaysF0.n6 Try.prog sortDig_ren := {
  mixed := by kernel_rfl
  f6 := ⟨Try.f35.name, by decide, Try.func35.trans (congrArg some (by kernel_rfl))⟩
  f14 := ⟨Try.f42.name, by decide, Try.func42.trans (congrArg some (by kernel_rfl))⟩
  f15 := Try.func43.trans (congrArg some (by kernel_rfl))
  f20 := ⟨Try.f45.name, by decide, Try.func45.trans (congrArg some (by kernel_rfl))⟩
  f21 := ⟨Try.f46.name, by decide, Try.func46.trans (congrArg some (by kernel_rfl))⟩
  f22 := ⟨Try.f47.name, by decide, Try.func47.trans (congrArg some (by kernel_rfl))⟩
  f23 := ⟨Try.f48.name, by decide, Try.func48.trans (congrArg some (by kernel_rfl))⟩
  f24 := ⟨Try.f49.name, by decide, Try.func49.trans (congrArg some (by kernel_rfl))⟩
  f25 := ⟨Try.f50.name, by decide, Try.func50.trans (congrArg some (by kernel_rfl))⟩
  f26 := ⟨Try.f51.name, by decide, Try.func51.trans (congrArg some (by kernel_rfl))⟩
  f27 := ⟨Try.f52.name, by decide, Try.func52.trans (congrArg some (by kernel_rfl))⟩
  f28 := Try.func53.trans (congrArg some (by kernel_rfl))
  f29 := Try.func54.trans (congrArg some (by kernel_rfl))
  f46 := ⟨Try.f55.name, by decide, Try.func55.trans (congrArg some (by kernel_rfl))⟩
  f47 := Try.func56.trans (congrArg some (by kernel_rfl))
  f48 := Try.func57.trans (congrArg some (by kernel_rfl))
  f49 := ⟨Try.f58.name, by decide, Try.func58.trans (congrArg some (by kernel_rfl))⟩
  f50 := ⟨Try.f59.name, by decide, Try.func59.trans (congrArg some (by kernel_rfl))⟩
  f57 := ⟨Try.f60.name, by decide, Try.func60.trans (congrArg some (by kernel_rfl))⟩
  t0 := Try.underlying0
  a0 := Try.isAgg0
  z0 := Try.sizeOf0
  v0 := Try.zeroValue0
  t3 := Try.underlying3
  a3 := Try.isAgg3
  z3 := Try.sizeOf3
  v3 := Try.zeroValue3
  t4 := Try.underlying4
  a4 := Try.isAgg4
  z4 := Try.sizeOf4
  v4 := Try.zeroValue4
  t5 := Try.underlying5
  a5 := Try.isAgg5
  z5 := Try.sizeOf5
  v5 := Try.zeroValue5
  t9 := Try.underlying9
  a9 := Try.isAgg9
  z9 := Try.sizeOf9
  v9 := Try.zeroValue9
  t22 := Try.underlying46
  a22 := Try.isAgg46
  z22 := Try.sizeOf46
  v22 := Try.zeroValue46
  t25 := Try.underlying66
  a25 := Try.isAgg66
  z25 := Try.sizeOf66
  v25 := Try.zeroValue66
  t39 := Try.underlying85
  a39 := Try.isAgg85
  z39 := Try.sizeOf85
  v39 := Try.zeroValue85
  t45 := Try.underlying87
  a45 := Try.isAgg87
  z45 := Try.sizeOf87
  v45 := Try.zeroValue87
  t46 := Try.underlying88
  a46 := Try.isAgg88
  z46 := Try.sizeOf88
  v46 := Try.zeroValue88
  t50 := Try.underlying92
  a50 := Try.isAgg92
  z50 := Try.sizeOf92
  v50 := Try.zeroValue92
  t53 := Try.underlying67
  a53 := Try.isAgg67
  z53 := Try.sizeOf67
  v53 := Try.zeroValue67
  t55 := Try.underlying71
  a55 := Try.isAgg71
  z55 := Try.sizeOf71
  v55 := Try.zeroValue71
  t66 := Try.underlying96
  a66 := Try.isAgg96
  z66 := Try.sizeOf96
  v66 := Try.zeroValue96
  t70 := Try.underlying100
  a70 := Try.isAgg100
  z70 := Try.sizeOf100
  v70 := Try.zeroValue100
  t76 := Try.underlying102
  a76 := Try.isAgg102
  z76 := Try.sizeOf102
  v76 := Try.zeroValue102
  t77 := Try.underlying103
  a77 := Try.isAgg103
  z77 := Try.sizeOf103
  v77 := Try.zeroValue103 }

/-! ### The order of digests -/
theorem cb_refl : ∀ a : List UInt8, Lib.compareBytes a a = 0
  | [] => rfl
  | a :: l => by simp [Lib.compareBytes, UInt8.lt_irrefl, cb_refl l]
theorem cb_trans : ∀ {a b c : List UInt8}, Lib.compareBytes a b < 0 → Lib.compareBytes b c < 0 → Lib.compareBytes a c < 0
  | [], [], _, h, _ => by simp [Lib.compareBytes] at h
  | [], _ :: _, [], _, h => by simp [Lib.compareBytes] at h
  | [], _ :: _, _ :: _, _, _ => by simp [Lib.compareBytes]
  | _ :: _, [], _, h, _ => by simp [Lib.compareBytes] at h
  | _ :: _, _ :: _, [], _, h => by simp [Lib.compareBytes] at h
  | x :: a, y :: b, z :: c, h1, h2 => by
    simp only [Lib.compareBytes, UInt8.lt_iff_toNat_lt] at h1 h2 ⊢
    split at h1
    · split at h2
      · rw [if_pos (by omega)]; decide
      · split at h2
        · simp at h2
        · rw [if_pos (by omega)]; decide
    · split at h1
      · simp at h1
      · split at h2
        · rw [if_pos (by omega)]; decide
        · split at h2
          · simp at h2
          · rw [if_neg (by omega), if_neg (by omega)]; exact cb_trans h1 h2
theorem cb_ntrans : ∀ {a b c : List UInt8}, ¬ Lib.compareBytes a b < 0 → ¬ Lib.compareBytes b c < 0 → ¬ Lib.compareBytes a c < 0
  | [], [], [], _, _ => by simp [Lib.compareBytes]
  | [], [], _ :: _, _, h => by simp [Lib.compareBytes] at h
  | [], _ :: _, _, h, _ => by simp [Lib.compareBytes] at h
  | _ :: _, _, [], _, _ => by simp [Lib.compareBytes]
  | _ :: _, [], _ :: _, _, h => by simp [Lib.compareBytes] at h
  | x :: a, y :: b, z :: c, h1, h2 => by
    simp only [Lib.compareBytes, UInt8.lt_iff_toNat_lt] at h1 h2 ⊢
    split at h1
    · simp at h1
    · split at h2
      · simp at h2
      · split at h1
        · split at h2
          · rw [if_neg (by omega), if_pos (by omega)]; decide
          · rw [if_neg (by omega), if_pos (by omega)]; decide
        · split at h2
          · rw [if_neg (by omega), if_pos (by omega)]; decide
          · rw [if_neg (by omega), if_neg (by omega)]; exact cb_ntrans h1 h2
theorem lexLt_cb : ∀ {a b : List UInt8}, a.length = b.length → lexLt a b = decide (Lib.compareBytes a b < 0)
  | [], [], _ => rfl
  | x :: a, y :: b, h => by
    simp only [lexLt, Lib.compareBytes, UInt8.lt_iff_toNat_lt]
    by_cases e : x = y
    · subst e
      rw [if_pos rfl, if_neg (by omega), if_neg (by omega)]
      exact lexLt_cb (by simpa using h)
    · have : x.toNat ≠ y.toNat := fun q => e (UInt8.toNat_inj.1 q)
      rw [if_neg e]
      by_cases h1 : x.toNat < y.toNat
      · rw [if_pos h1]; simp [h1]
      · rw [if_neg h1, if_pos (by omega)]; simp [h1]
theorem cb_eq : ∀ {a b : List UInt8}, Lib.compareBytes a b = 0 → a = b
  | [], [], _ => rfl
  | [], _ :: _, h => by simp [Lib.compareBytes] at h
  | _ :: _, [], h => by simp [Lib.compareBytes] at h
  | x :: a, y :: b, h => by
    simp only [Lib.compareBytes, UInt8.lt_iff_toNat_lt] at h
    split at h
    · simp at h
    · split at h
      · simp at h
      · have : x.toNat = y.toNat := by omega
        rw [UInt8.toNat_inj.1 this, cb_eq h]
theorem cb_total {a b : List UInt8} (h1 : ¬ Lib.compareBytes a b < 0) (h2 : ¬ Lib.compareBytes b a < 0) : a = b := by
  induction a generalizing b with
  | nil => cases b with
    | nil => rfl
    | cons y b => simp [Lib.compareBytes] at h1
  | cons x a ih => cases b with
    | nil => simp [Lib.compareBytes] at h2
    | cons y b =>
      simp only [Lib.compareBytes, UInt8.lt_iff_toNat_lt] at h1 h2
      split at h1
      · simp at h1
      · split at h2
        · simp at h2
        · rename_i n1 n2
          have : x.toNat = y.toNat := by omega
          rw [if_neg n2] at h1

          rw [UInt8.toNat_inj.1 this, ih h1 h2]
abbrev Dig := { l : List UInt8 // l.length = 32 }
instance digInhabited : Inhabited Dig := ⟨⟨List.replicate 32 0, by simp⟩⟩
def digEl : PlainEl Dig 32 where
  enc x := x.1.map fun b => .int .u8 b.toNat
  cs x := bytesLV x.1
  len x := by simp [x.2]
  one x v hv := by
    obtain ⟨b, _, rfl⟩ := List.mem_map.1 hv
    rfl
  rep G x := ⟨by simp, fun i v l hv hl => by
    rw [bytesLV_get] at hl
    simp only [List.getElem?_map, Option.map_eq_some_iff] at hv hl
    obtain ⟨b, h1, rfl⟩ := hv
    obtain ⟨c, h2, rfl⟩ := hl
    rw [h1] at h2; injection h2 with h2; subst h2
    exact .int _ _⟩
  inv G x vs h := by
    apply List.ext_getElem?
    intro i
    by_cases hi : i < vs.length
    · have hi' : i < x.1.length := by have := h.1; simp at this; omega
      have := h.2 i vs[i] (.int .u8 (x.1[i]).toNat) (by simp) (by rw [bytesLV_get]; simp [hi'])
      rw [List.getElem?_eq_getElem hi]
      generalize vs[i] = v at this
      cases this
      simp [hi']
    · have : vs.length = x.1.length := by have := h.1; simpa using this
      rw [List.getElem?_eq_none (by omega), List.getElem?_eq_none (by simp; omega)]
def cfD (x y : Dig) : Int := cmpD x.1 y.1
open Go.Sort in
theorem swoD : SWO (Go.Proofs.ltOf cfD) where
  irrefl x := by simp [Go.Proofs.ltOf, cfD, cmpD, cb_refl]
  trans x y z h1 h2 := by
    simp only [Go.Proofs.ltOf, cfD, cmpD] at *
    exact decide_eq_true (cb_trans (of_decide_eq_true h1) (of_decide_eq_true h2))
  ntrans x y z h1 h2 := by
    simp only [Go.Proofs.ltOf, cfD, cmpD] at *
    exact decide_eq_false (cb_ntrans (of_decide_eq_false h1) (of_decide_eq_false h2))
/-- Digests that rise. -/
def Rise (l : List (List UInt8)) : Prop := l.Pairwise fun a b => ¬ Lib.compareBytes b a < 0
theorem rise_unique : ∀ {a b : List (List UInt8)}, a.Perm b → Rise a → Rise b → a = b
  | [], b, h, _, _ => by simpa using h.symm.length_eq
  | x :: a, [], h, _, _ => by simpa using h.length_eq
  | x :: a, y :: b, h, ha, hb => by
    rw [Rise, List.pairwise_cons] at ha hb
    have e : x = y := by
      have h1 : x ∈ y :: b := h.subset List.mem_cons_self
      have h2 : y ∈ x :: a := h.symm.subset List.mem_cons_self
      rcases List.mem_cons.1 h1 with h1 | h1
      · exact h1
      · rcases List.mem_cons.1 h2 with h2 | h2
        · exact h2.symm
        · exact cb_total (hb.1 x h1) (ha.1 y h2) |>.symm ▸ rfl
    subst e
    rw [rise_unique (List.perm_cons x |>.1 h) ha.2 hb.2]
theorem digs_lift (ds : List (List UInt8)) (h : ∀ d ∈ ds, d.length = 32) : ∃ xs : List Dig, xs.map (·.1) = ds := by
  induction ds with
  | nil => exact ⟨[], rfl⟩
  | cons d ds ih =>
    obtain ⟨xs, e⟩ := ih (fun x hx => h x (List.mem_cons_of_mem _ hx))
    exact ⟨⟨d, h d List.mem_cons_self⟩ :: xs, by simp [e]⟩
theorem sort_own (ds : List (List UInt8)) (h : ∀ d ∈ ds, d.length = 32) (hn : ds.length < 4611686018427387904) {v : LV} {Lv : Hp} (ho : OwnSl 32 (ds.map digV) v Lv) (F : Hp) (T : Tk) :
    HCalls Try.prog 35 [v, .fn (.func 30) [] []] (Lv ++ F) T (fun r L' T' => r = .tup [] ∧ T' = T ∧ ∃ ds' Lv', ds'.Perm ds ∧ Rise ds' ∧ OwnSl 32 (ds'.map digV) v Lv' ∧ L' = Lv' ++ F) := by
  cases ho with
  | nil he =>
    have : ds = [] := by simpa using he
    subst this
    intro st hst G vs w hR hv
    obtain ⟨v1, v2, rfl⟩ : ∃ v1 v2, vs = [v1, v2] := by
      match vs, hv.1 with
      | [v1, v2], _ => exact ⟨v1, v2, rfl⟩
    have r1 := hv.2 0 v1 _ rfl rfl
    cases r1
    have := Go.Proofs.AnyF.slices_SortFunc_none (P := Try.prog) (ρ := sortDig_ren) { sortDig with } none 0 v2 w
    refine this.mono fun e w' ⟨he, hw⟩ => ?_
    subst hw
    exact ⟨_, .tup [], st, G, he, .refl hR, .tup rfl (fun i v l h => by simp at h), F, T, hst, rfl, rfl, [], [], .refl _, .nil, .nil rfl, rfl⟩
  | @obj id ty ver cap rest hl hc hk =>
    obtain ⟨xs, rfl⟩ := digs_lift ds h
    have e1 : (xs.map (·.1)).map digV = xs.map digEl.lv := by simp [PlainEl.lv, digEl, digV]
    rw [e1] at hl hc hk ⊢
    rw [List.length_map] at hl hc ⊢
    have := sort_hs sortDig digEl Try.isAgg29 Try.sizeOf29 cfD swoD 30 (by kernel_rfl) (fun x y => all_cmp x.1 y.1 x.2 y.2) id ty ver cap rest xs (by simpa using hn) F T
    refine HCalls.mono this fun r L' T' ⟨h1, h2, xs', ver', hp, hs, h3⟩ => ?_
    refine ⟨h1, h2, xs'.map (·.1), [(id, .cells ty (flat (xs'.map digEl.lv) ++ rest) ver')], hp.map _, ?_, ?_, h3⟩
    · rw [Rise, List.pairwise_map]
      exact hs.imp fun {a b} h => of_decide_eq_false (p := cfD b a < 0) h
    · have e2 : (xs'.map (·.1)).map digV = xs'.map digEl.lv := by simp [PlainEl.lv, digEl, digV]
      rw [e2]
      have hlen : xs'.length = xs.length := hp.length_eq
      have := OwnSl.obj (k := 32) (es := xs'.map digEl.lv) (id := id) (ty := ty) (ver := ver') (cap := cap) (rest := rest) (by rw [List.length_map, hlen]; exact hl) (by rw [List.length_map, hlen]; exact hc)
        (fun e he => by obtain ⟨x, _, rfl⟩ := List.mem_map.1 he; exact digEl.cs_len x)
      rw [List.length_map, hlen] at this
      exact this

end Go.Proofs.Ythfoobfgdakbmaa

set_option linter.unusedVariables false
set_option linter.unusedSimpArgs false
set_option maxRecDepth 100000
namespace Go.Proofs.Ythfoobfgdakbmaa
open Go Go.RowKit Go.L
theorem q_en_34 : enterable Try.prog 34 = true := by kernel_rfl
theorem q_en_35 : enterable Try.prog 35 = true := by kernel_rfl
theorem q_f_28 : Try.prog.funcs[28]? = some Try.f28 := by kernel_rfl
theorem q_en_29 : enterable Try.prog 29 = true := by kernel_rfl
theorem q_en_28 : enterable Try.prog 28 = true := by kernel_rfl
theorem q_f_20 : Try.prog.funcs[20]? = some Try.f20 := by kernel_rfl

theorem ents_dig {ks : List (List UInt8 × ByteArray)} (h : Keys32 ks) : ∀ p ∈ entsV ks, ∃ d : List UInt8, d.length = 32 ∧ p.1 = digV d := fun p hp => by
  simp only [entsV, List.mem_map] at hp
  obtain ⟨q, hq, rfl⟩ := hp
  exact ⟨q.1, h q hq, rfl⟩
def undig (x : List LV) : List UInt8 := match x with
  | [.agg cs] => cs.map fun c => match c with | .int _ n => UInt8.ofNat n.toNat | _ => 0
  | _ => []
theorem undig_dig (d : List UInt8) : undig [digV d] = d := by
  simp only [digV, undig, bytesLV, List.map_map]
  conv => rhs; rw [← List.map_id d]
  apply List.map_congr_left
  intro b _
  simp
theorem undig_all (l : List (List UInt8)) : (DigS l).map undig = l := by
  rw [DigS, List.map_map]
  conv => rhs; rw [← List.map_id l]
  apply List.map_congr_left
  intro d _
  exact undig_dig d
theorem keys_perm {ks : List (List UInt8 × ByteArray)} {ds : List (List UInt8)} (h : KeysS (entsV ks) (DigS ds)) : ds.Perm (ks.map (·.1)) := by
  have h1 : (DigS ds).Perm (DigS (ks.map (·.1))) := by
    have e : ((entsV ks).map fun kv => [kv.1]) = DigS (ks.map (·.1)) := by simp only [entsV, DigS, List.map_map]; rfl
    rw [← e]; exact h
  have := h1.map undig
  rwa [undig_all, undig_all] at this
theorem perm_all {α : Type} (Lv : List α) (a b c : α) (F : List α) : (Lv ++ ([a, b] ++ (c :: F))).Perm ((Lv ++ (c :: b :: F)) ++ [a]) := by
  rw [List.append_assoc]
  refine List.Perm.append_left Lv ?_
  refine List.Perm.trans ?_ List.perm_append_comm
  exact List.Perm.cons _ (List.Perm.swap _ _ _)

theorem sorted_func {f : FuncId} {first cap : List LV} {L0 : Hp} {S : List (List LV) → Prop} {Ok : List (List LV) → List LV → Prop} (hen : enterable Try.prog f = true) (it : IterOk Try.prog f first cap 1 L0 [] Ok S) (hok : ∀ pre x, Ok pre x → pre.length < 1048576 ∧ ∃ d : List UInt8, d.length = 32 ∧ x = [digV d]) (hS : ∀ ds, S (DigS ds) → ds.length < 4611686018427387904) (F : Hp) (T : Tk) : HCalls Try.prog 28 [.fn (.func f) first cap, .fn (.func 30) [] []] (L0 ++ F) T (fun r L' T' => ∃ ds ds' Lv, S (DigS ds) ∧ ds'.Perm ds ∧ Rise ds' ∧ (∀ d ∈ ds, d.length = 32) ∧ OwnSl 32 (ds'.map digV) r Lv ∧ L' = Lv ++ (L0 ++ F) ∧ T' = T) := by
  refine HCalls.enterG q_f_28 rfl ?_
  refine HWp.frame (r' := ⟨12, [(0, .fn (.func f) first cap), (1, .fn (.func 30) [] [])]⟩) rfl ?_
  refine HWp.seq ?_
  refine HWp.text (.rd 0 .done) rfl ?_
  refine HPlan.assign rfl rfl rfl ?_
  refine HPlan.fin ?_
  refine onNorm_n ?_
  refine HWp.seq ?_
  refine HWp.text (.rd 0 (.act 1 [] (.rd 2 .done))) rfl ?_
  refine HPlan.move rfl rfl rfl ?_
  refine HPlan.callS rfl rfl rfl q_en_34 (collect hen it hok F T) (List.Perm.refl _) (List.Perm.refl _) ?_
  rintro r_R1_1 L_R1_1 T2 ⟨ds, Lv, hS1, h32, hown, rfl, rfl⟩
  refine ⟨keptH_nil, ?_⟩
  refine HPlan.assign rfl rfl rfl ?_
  refine HPlan.fin ?_
  refine onNorm_n ?_
  refine HWp.seq ?_
  refine HWp.text (.rd 0 (.rd 1 (.act 2 [] .done))) rfl ?_
  refine HPlan.move rfl rfl rfl ?_
  refine HPlan.move rfl rfl rfl ?_
  refine HPlan.callS rfl rfl rfl q_en_35 (sort_own ds h32 (hS ds hS1) hown (L0 ++ F) T2) (by rw [← List.append_assoc]; exact List.perm_append_comm) (List.Perm.refl _) ?_
  rintro r_R2_2 L_R2_2 T3 ⟨rfl, rfl, ds2, Lv2, hp2, hr2, ho2, rfl⟩
  refine ⟨keptH_nil, ?_⟩
  refine HPlan.fin ?_
  refine onNorm_n ?_
  refine HWp.seq ?_
  refine HWp.text (.rd 0 (.rd 1 .done)) rfl ?_
  refine HPlan.move rfl rfl rfl ?_
  refine HPlan.assign rfl rfl rfl ?_
  refine HPlan.fin ?_
  refine onNorm_n ?_
  refine HWp.ret ?_
  refine retQ_r (.tmp rfl .nil) ?_
  exact endK_of ⟨ds, ds2, Lv2, hS1, hp2, hr2, h32, ho2, rfl, rfl⟩ (.refl _) (.refl _)
theorem all_raw (s m ver mver : Nat) (n : Int) (ks : List (List UInt8 × ByteArray)) (hk : Keys32 ks) (hn : ks.length < 1048576) (F : Hp) (T : Tk) : HCalls Try.prog 20 [.ref s 0] ((s, .cells 55 [.mp m, .int .i64 n] ver) :: (m, .map (entsV ks) mver) :: F) T (fun r L' T' => ∃ es Lv M, OwnSl 32 es r Lv ∧ L' = Lv ++ M ∧ (M = (s, .cells 55 [.mp m, .int .i64 n] ver) :: (m, .map (entsV ks) mver) :: F ∧ T' = T ∧ ∃ ds, es = ds.map digV ∧ ds.Perm (ks.map (·.1)) ∧ Rise ds)) := by
  refine HCalls.enterG q_f_20 rfl ?_
  refine HWp.frame (r' := ⟨11, [(0, .ref s 0)]⟩) rfl ?_
  refine HWp.seq ?_
  refine HWp.text (.rd 0 .done) rfl ?_
  refine HPlan.assign rfl rfl rfl ?_
  refine HPlan.fin ?_
  refine onNorm_n ?_
  refine HWp.seq ?_
  refine HWp.seq ?_
  refine HWp.text (.rd 0 (.rd 1 .done)) rfl ?_
  refine HPlan.move rfl rfl rfl ?_
  refine HPlan.nilEqK rfl rfl rfl rfl q_tk_25 rfl rfl rfl rfl ?_
  refine HPlan.fin ?_
  refine onNorm_n ?_
  refine HWp.cond rfl ?_ ?_
  · intro hc4
    first
    | (exact absurd hc4 Bool.false_ne_true)
    | (exact absurd hc4.symm Bool.false_ne_true)
    | ((try simp only [decide_eq_true_eq, decide_eq_false_iff_not, Bool.not_eq_true', Bool.not_eq_false', Bool.not_true, Bool.not_false, beq_iff_eq, bne_iff_ne, bne_eq_false_iff_eq, ne_eq, beq_eq_false_iff_ne, Int.not_lt, Int.not_le] at hc4); exfalso; omega)
    | (try simp only [decide_eq_true_eq, decide_eq_false_iff_not, Bool.not_eq_true', Bool.not_eq_false', Bool.not_true, Bool.not_false, beq_iff_eq, bne_iff_ne, bne_eq_false_iff_eq, ne_eq, beq_eq_false_iff_ne, Int.not_lt, Int.not_le] at hc4)
      exfalso
      skip
  · intro hc4
    first
    | (exact absurd hc4 Bool.false_ne_true)
    | (exact absurd hc4.symm Bool.false_ne_true)
    | ((try simp only [decide_eq_true_eq, decide_eq_false_iff_not, Bool.not_eq_true', Bool.not_eq_false', Bool.not_true, Bool.not_false, beq_iff_eq, bne_iff_ne, bne_eq_false_iff_eq, ne_eq, beq_eq_false_iff_ne, Int.not_lt, Int.not_le] at hc4); exfalso; omega)
    | (try simp only [decide_eq_true_eq, decide_eq_false_iff_not, Bool.not_eq_true', Bool.not_eq_false', Bool.not_true, Bool.not_false, beq_iff_eq, bne_iff_ne, bne_eq_false_iff_eq, ne_eq, beq_eq_false_iff_ne, Int.not_lt, Int.not_le] at hc4)
      refine HWp.skip ?_
      refine onNorm_n ?_
      refine HWp.seq ?_
      refine HWp.text (.rd 0 (.rd 1 (.rd 2 (.rd 3 (.act 4 [] (.act 5 [] (.rd 6 .done))))))) rfl ?_
      refine HPlan.move rfl rfl rfl ?_
      refine HPlan.nilCheck rfl rfl rfl rfl ?_
      refine HPlan.fieldAddr rfl rfl rfl rfl q_fo_55_0 rfl ?_
      refine HPlan.load rfl rfl rfl q_sh_53 (by repeat (first | exact List.Mem.head _ | apply List.Mem.tail | assumption)) (by constructor <;> first | rfl | decide | omega | exact Nat.le_refl _ | (simp; done) | (simp; omega)) rfl ?_
      refine HPlan.callS rfl rfl rfl q_en_29 (maps_keys (.mp m) rfl ((s, .cells 55 [.mp m, .int .i64 n] ver) :: (m, .map (entsV ks) mver) :: F) T) (List.Perm.refl _) (List.Perm.refl _) ?_
      rintro r_R3_4 L_R3_4 T2 ⟨mb, rfl, rfl, rfl⟩
      refine ⟨keptH_nil, ?_⟩
      refine HPlan.callS rfl rfl rfl q_en_28 (sorted_func (f := 36) (first := []) (cap := [.ref mb 0]) (L0 := [(mb, .cells 53 [.mp m] 0), (m, .map (entsV ks) mver)]) (by kernel_rfl) (keys_iter (ents_dig hk)) (fun pre x h => keys_dig (ents_dig hk) (by simp [entsV]; omega) h) (fun ds h => by have := (keys_perm h).length_eq; simp at this; omega) ((s, .cells 55 [.mp m, .int .i64 n] ver) :: F) T2) ((List.Perm.swap _ _ _).cons _) (List.Perm.refl _) ?_
      rintro r_R3_5 L_R3_5 T3 ⟨ds, ds2, Lv, hS, hp, hr, h32, ho, rfl, rfl⟩
      refine ⟨keptH_nil, ?_⟩
      refine HPlan.assign rfl rfl rfl ?_
      refine HPlan.fin ?_
      refine onNorm_n ?_
      refine HWp.ret ?_
      refine retQ_r (.tmp rfl .nil) ?_
      refine endK_of ⟨_, Lv, _, ho, rfl, rfl, rfl, ds2, rfl, hp.trans (keys_perm hS), hr⟩ ⟨[(mb, .cells 53 [.mp m] 0)], ?_⟩ (.refl _)
      exact perm_all _ _ _ _ _
theorem all_nil  : HPure Try.prog 20 [.nilp] .nils := by
  intro L T
  refine HCalls.enterG q_f_20 rfl ?_
  refine HWp.frame (r' := ⟨11, [(0, .nilp)]⟩) rfl ?_
  refine HWp.seq ?_
  refine HWp.text (.rd 0 .done) rfl ?_
  refine HPlan.assign rfl rfl rfl ?_
  refine HPlan.fin ?_
  refine onNorm_n ?_
  refine HWp.seq ?_
  refine HWp.seq ?_
  refine HWp.text (.rd 0 (.rd 1 .done)) rfl ?_
  refine HPlan.move rfl rfl rfl ?_
  refine HPlan.nilEqK rfl rfl rfl rfl q_tk_25 rfl rfl rfl rfl ?_
  refine HPlan.fin ?_
  refine onNorm_n ?_
  refine HWp.cond rfl ?_ ?_
  · intro hc4
    first
    | (exact absurd hc4 Bool.false_ne_true)
    | (exact absurd hc4.symm Bool.false_ne_true)
    | ((try simp only [decide_eq_true_eq, decide_eq_false_iff_not, Bool.not_eq_true', Bool.not_eq_false', Bool.not_true, Bool.not_false, beq_iff_eq, bne_iff_ne, bne_eq_false_iff_eq, ne_eq, beq_eq_false_iff_ne, Int.not_lt, Int.not_le] at hc4); exfalso; omega)
    | (try simp only [decide_eq_true_eq, decide_eq_false_iff_not, Bool.not_eq_true', Bool.not_eq_false', Bool.not_true, Bool.not_false, beq_iff_eq, bne_iff_ne, bne_eq_false_iff_eq, ne_eq, beq_eq_false_iff_ne, Int.not_lt, Int.not_le] at hc4)
      refine HWp.seq ?_
      refine HWp.text (.rd 0 .done) rfl ?_
      refine HPlan.assign rfl rfl rfl ?_
      refine HPlan.fin ?_
      refine onNorm_n ?_
      refine HWp.ret ?_
      refine onNorm_r ?_
      refine retQ_r (.tmp rfl .nil) ?_
      exact endK_of ⟨rfl, rfl, rfl⟩ (by repeat (first | exact Part.refl _ | refine Part.pull (by repeat (first | exact Pull.here | apply Pull.there)) ?_ | refine Part.skip _ ?_ | exact Part.nil _ | exact Part.app _ _)) (by repeat (first | exact Part.refl _ | refine Part.pull (by repeat (first | exact Pull.here | apply Pull.there)) ?_ | refine Part.skip _ ?_ | exact Part.nil _ | exact Part.app _ _))
  · intro hc4
    first
    | (exact absurd hc4 Bool.false_ne_true)
    | (exact absurd hc4.symm Bool.false_ne_true)
    | ((try simp only [decide_eq_true_eq, decide_eq_false_iff_not, Bool.not_eq_true', Bool.not_eq_false', Bool.not_true, Bool.not_false, beq_iff_eq, bne_iff_ne, bne_eq_false_iff_eq, ne_eq, beq_eq_false_iff_ne, Int.not_lt, Int.not_le] at hc4); exfalso; omega)
    | (try simp only [decide_eq_true_eq, decide_eq_false_iff_not, Bool.not_eq_true', Bool.not_eq_false', Bool.not_true, Bool.not_false, beq_iff_eq, bne_iff_ne, bne_eq_false_iff_eq, ne_eq, beq_eq_false_iff_ne, Int.not_lt, Int.not_le] at hc4)
      exfalso
      skip

theorem blobs_all (s m ver mver : Nat) (n : Int) (ks : List (List UInt8 × ByteArray)) (hk : Keys32 ks) (hn : ks.length < 1048576) (F : Hp) (T : Tk) : HCalls Try.prog 20 [.ref s 0] ((s, .cells 55 [.mp m, .int .i64 n] ver) :: (m, .map (entsV ks) mver) :: F) T (fun r L' T' => ∃ ds, IsSl 32 (ds.map digV) r ∧ ds.Perm (ks.map (·.1)) ∧ Rise ds ∧ L' = (s, .cells 55 [.mp m, .int .i64 n] ver) :: (m, .map (entsV ks) mver) :: F ∧ T' = T) :=
  (HCalls.freeze (k := 32) (K := fun es M T' => M = (s, .cells 55 [.mp m, .int .i64 n] ver) :: (m, .map (entsV ks) mver) :: F ∧ T' = T ∧ ∃ ds, es = ds.map digV ∧ ds.Perm (ks.map (·.1)) ∧ Rise ds) (all_raw s m ver mver n ks hk hn F T)).mono fun r L' T' ⟨es, h1, h2, h3, ds, h4, h5, h6⟩ => by
    subst h4
    refine ⟨ds, ?_, h5, h6, h2, h3⟩
    rcases h1 with ⟨h, rfl⟩ | rfl
    · rw [h]; exact .nils
    · exact .sl

end Go.Proofs.Ythfoobfgdakbmaa

set_option linter.unusedVariables false
set_option linter.unusedSimpArgs false
set_option maxRecDepth 100000
namespace Go.Proofs.Ythfoobfgdakbmaa
open Go Go.RowKit Go.L
theorem q_en_10 : enterable Try.prog 10 = true := by kernel_rfl
theorem q_en_16 : enterable Try.prog 16 = true := by kernel_rfl
theorem q_en_20 : enterable Try.prog 20 = true := by kernel_rfl
theorem q_tk_46 : tyKind Try.prog 46 = .sl := by kernel_rfl
theorem q_en_21 : enterable Try.prog 21 = true := by kernel_rfl
theorem q_en_14 : enterable Try.prog 14 = true := by kernel_rfl
theorem q_f_7 : Try.prog.funcs[7]? = some Try.f7 := by kernel_rfl

theorem putK_new {d : List UInt8} {x : ByteArray} : ∀ {ks : List (List UInt8 × ByteArray)}, getK d ks = none → putK d x ks = ks ++ [(d, x)]
  | [], _ => rfl
  | q :: r, h => by
    simp only [getK] at h
    split at h
    · cases h
    · rename_i hn
      simp only [putK]
      rw [if_neg hn, putK_new h]; rfl
theorem put_new {D : List UInt8} {data : ByteArray} (hD : shaF [data] = D) (hs : data.size < 70368744177664) (s m ver mver : Nat) (n : Int) (ks : List (List UInt8 × ByteArray)) (hk : Keys32 ks) (hg : getK D ks = none) (F : Hp) (T : Tk) :
    HCalls Try.prog 16 [.ref s 0, .str data] ((s, .cells 55 [.mp m, .int .i64 n] ver) :: (m, .map (entsV ks) mver) :: F) T (fun r L' T' => r = digV D ∧ T' = T ∧ ∃ ver' mver', L' = (s, .cells 55 [.mp m, .int .i64 (IntKind.i64.wrap (n + data.size))] ver') :: (m, .map (entsV (ks ++ [(D, data)])) mver') :: F) := by
  have := blobs_put data hs s m ver mver n ks hk F T
  rw [hD, hg, if_neg (by simp), if_neg (by simp), putK_new hg] at this
  exact this
theorem put_old {D : List UInt8} {data x : ByteArray} (hD : shaF [data] = D) (hs : data.size < 70368744177664) (s m ver mver : Nat) (n : Int) (ks : List (List UInt8 × ByteArray)) (hk : Keys32 ks) (hg : getK D ks = some x) (F : Hp) (T : Tk) :
    HCalls Try.prog 16 [.ref s 0, .str data] ((s, .cells 55 [.mp m, .int .i64 n] ver) :: (m, .map (entsV ks) mver) :: F) T (fun r L' T' => r = digV D ∧ T' = T ∧ ∃ ver' mver', L' = (s, .cells 55 [.mp m, .int .i64 n] ver') :: (m, .map (entsV ks) mver') :: F) := by
  have := blobs_put data hs s m ver mver n ks hk F T
  rw [hD, hg, if_pos (by simp), if_pos (by simp)] at this
  exact this
theorem drop_hit {d : List UInt8} (hd : d.length = 32) {x : ByteArray} (s m ver mver : Nat) (n : Int) (ks : List (List UInt8 × ByteArray)) (hk : Keys32 ks) (hg : getK d ks = some x) (F : Hp) (T : Tk) :
    HCalls Try.prog 14 [.ref s 0, digV d] ((s, .cells 55 [.mp m, .int .i64 n] ver) :: (m, .map (entsV ks) mver) :: F) T (fun r L' T' => r = .bool true ∧ T' = T ∧ ∃ ver' mver', L' = (s, .cells 55 [.mp m, .int .i64 (IntKind.i64.wrap (n - x.size))] ver') :: (m, .map (entsV (delK d ks)) mver') :: F) := by
  have := blobs_drop d hd s m ver mver n ks hk F T
  rw [hg] at this
  simpa using this
theorem drop_miss {d : List UInt8} (hd : d.length = 32) (s m ver mver : Nat) (n : Int) (ks : List (List UInt8 × ByteArray)) (hk : Keys32 ks) (hg : getK d ks = none) (F : Hp) (T : Tk) :
    HCalls Try.prog 14 [.ref s 0, digV d] ((s, .cells 55 [.mp m, .int .i64 n] ver) :: (m, .map (entsV ks) mver) :: F) T (fun r L' T' => r = .bool false ∧ T' = T ∧ ∃ ver' mver', L' = (s, .cells 55 [.mp m, .int .i64 n] ver') :: (m, .map (entsV ks) mver') :: F) := by
  have := blobs_drop d hd s m ver mver n ks hk F T
  rw [hg] at this
  simpa using this
theorem keys32_nil : Keys32 [] := fun p hp => by cases hp
theorem keys32_one {d : List UInt8} (h : d.length = 32) {x : ByteArray} : Keys32 [(d, x)] := fun p hp => by simp at hp; subst hp; exact h
theorem got_hit {d : List UInt8} {x : ByteArray} {ks : List (List UInt8 × ByteArray)} (h : getK d ks = some x) : gotV d ks = .tup [.str x, .bool true] := by simp [gotV, h]
theorem got_miss {d : List UInt8} {ks : List (List UInt8 × ByteArray)} (h : getK d ks = none) : gotV d ks = .tup [.str .empty, .bool false] := by simp [gotV, h]
theorem get_hit {d : List UInt8} (hd : d.length = 32) {x : ByteArray} (s m ver mver : Nat) (n : Int) (ks : List (List UInt8 × ByteArray)) (hk : Keys32 ks) (hg : getK d ks = some x) (F : Hp) (T : Tk) :
    HCalls Try.prog 13 [.ref s 0, digV d] ((s, .cells 55 [.mp m, .int .i64 n] ver) :: (m, .map (entsV ks) mver) :: F) T (fun r L' T' => r = .tup [.str x, .bool true] ∧ L' = (s, .cells 55 [.mp m, .int .i64 n] ver) :: (m, .map (entsV ks) mver) :: F ∧ T' = T) := by
  have := blobs_get d hd s m ver mver n ks hk F T
  rw [got_hit hg] at this; exact this
theorem txt_size (l : List UInt8) : (txt l).size = l.length := by simp [txt, ByteArray.size]
theorem perm_one {ds : List (List UInt8)} {d : List UInt8} (h : ds.Perm [d]) : ds.length = 1 := h.length_eq

theorem alive_spec (F : Hp) (T : Tk) : HCalls Try.prog 7 [] F T (fun r L' T' => r = .bool true ∧ L' = F ∧ T' = T) := by
  obtain ⟨A, hA⟩ : ∃ A, shaF [txt [97]] = A := ⟨_, rfl⟩
  obtain ⟨B, hB⟩ : ∃ B, shaF [txt [98]] = B := ⟨_, rfl⟩
  have hAB : A ≠ B := by rw [← hA, ← hB]; exact sha_ab
  have hAl : A.length = 32 := by rw [← hA]; exact shaF_length _
  have hBl : B.length = 32 := by rw [← hB]; exact shaF_length _
  refine HCalls.enterG q_f_7 rfl ?_
  refine HWp.frame (r' := ⟨52, []⟩) rfl ?_
  refine HWp.seq ?_
  refine HWp.text (.rd 0 .done) rfl ?_
  refine HPlan.assign rfl rfl rfl ?_
  refine HPlan.fin ?_
  refine onNorm_n ?_
  refine HWp.seq ?_
  refine HWp.text (.act 0 [] (.rd 1 .done)) rfl ?_
  refine HPlan.callS rfl rfl rfl q_en_10 (blobs_new F T) (List.Perm.refl _) (List.Perm.refl _) ?_
  rintro r_R1_0 L_R1_0 T1 ⟨s, m, rfl, rfl, rfl⟩
  refine ⟨keptH_nil, ?_⟩
  refine HPlan.assign rfl rfl rfl ?_
  refine HPlan.fin ?_
  refine onNorm_n ?_
  refine HWp.seq ?_
  refine HWp.seq ?_
  refine HWp.text (.rd 0 (.rd 1 (.rd 2 (.act 3 [] (.act 4 [] (.act 5 [] (.act 6 [] (.rd 7 (.rd 8 .done))))))))) rfl ?_
  refine HPlan.move rfl rfl rfl ?_
  refine HPlan.nilEqK rfl rfl rfl rfl q_tk_25 rfl rfl rfl rfl ?_
  refine HPlan.move rfl rfl rfl ?_
  refine HPlan.buildSliceN rfl rfl q_se_44 q_zs_9 rfl (by decide) rfl rfl (rfl : _ = [txt [97]].map LV.str) (allCells_cons (by first | rfl | (simp; done)) (by first | rfl | decide | omega | (simp; done) | (simp; omega)) allCells_nil) keptH_nil ?_
  refine HPlan.callPure rfl rfl rfl q_en_17 (sha_spec [txt [97]] _ (by intro s h; simp at h; subst h; rw [txt_size]; decide) (by decide) .sl) keptH_nil ?_
  rw [hA]
  refine HPlan.buildSliceN rfl rfl q_se_44 q_zs_9 rfl (by decide) rfl rfl (rfl : _ = [txt [98]].map LV.str) (allCells_cons (by first | rfl | (simp; done)) (by first | rfl | decide | omega | (simp; done) | (simp; omega)) allCells_nil) keptH_nil ?_
  refine HPlan.callPure rfl rfl rfl q_en_17 (sha_spec [txt [98]] _ (by intro s h; simp at h; subst h; rw [txt_size]; decide) (by decide) .sl) keptH_nil ?_
  rw [hB]
  refine HPlan.aggEq rfl rfl rfl rfl q_sh_29 q_ck_29 (by decide) q_eg_29 ((bytesLV_length A).trans hAl) ((bytesLV_length B).trans hBl) (fits_dig hAl) (fits_dig hBl) ((eq_dig A B).trans (decide_eq_false hAB)) ?_
  refine HPlan.pickF rfl rfl rfl rfl ?_
  refine HPlan.fin ?_
  refine onNorm_n ?_
  refine HWp.cond_f rfl ?_
  refine HWp.skip ?_
  refine onNorm_n ?_
  refine HWp.seq ?_
  refine HWp.text (.rd 0 (.act 1 [] (.act 2 [] (.act 3 [] .done)))) rfl ?_
  refine HPlan.move rfl rfl rfl ?_
  refine HPlan.callS rfl rfl rfl q_en_16 (put_new hA (by rw [txt_size]; decide) s m 0 0 0 [] keys32_nil rfl F T1) (List.Perm.refl _) (List.Perm.refl _) ?_
  rintro r_R4_1 L_R4_1 T2 ⟨rfl, rfl, v1, mv1, rfl⟩
  refine ⟨keptH_nil, ?_⟩
  refine HPlan.alloc rfl rfl q_zo_29 (by first | rfl | (simp; done)) (fun i2 => ⟨keptH_nil, ?_⟩)
  refine HPlan.store rfl rfl rfl rfl q_sz_29 (digV_solid A) ((bytesLV_length A).trans hAl) (by repeat (first | exact List.Mem.head _ | apply List.Mem.tail | assumption)) (splice_all _ (bytesLV A) (by simp; exact hAl)) (by repeat (first | exact Upd.here | apply Upd.there)) (by simp) keptH_nil ?_
  refine HPlan.fin ?_
  refine onNorm_n ?_
  refine HWp.seq ?_
  refine HWp.text (.rd 0 (.act 1 [] .done)) rfl ?_
  refine HPlan.move rfl rfl rfl ?_
  refine HPlan.callS rfl rfl rfl q_en_16 (put_old (x := txt [97]) hA (by rw [txt_size]; decide) s m v1 mv1 1 [(A, txt [97])] (keys32_one hAl) (by simp [getK]) ((i2, .cells 29 (bytesLV A) 1) :: F) T2) ((List.Perm.swap _ _ _).trans ((List.Perm.swap _ _ _).cons _)) (List.Perm.refl _) ?_
  rintro r_R5_1 L_R5_1 T3 ⟨rfl, rfl, v2, mv2, rfl⟩
  refine ⟨keptH_nil, ?_⟩
  refine HPlan.fin ?_
  refine onNorm_n ?_
  refine HWp.seq ?_
  refine HWp.text (.rd 0 (.rd 1 (.act 2 [] (.rd 3 (.rd 4 (.rd 5 (.rd 6 (.rd 7 .done)))))))) rfl ?_
  refine HPlan.move rfl rfl rfl ?_
  refine HPlan.load rfl rfl rfl q_sh_29 (by repeat (first | exact List.Mem.head _ | apply List.Mem.tail | assumption)) (by constructor <;> simp [hAl]) (load_all (bytesLV A) 32 ((bytesLV_length A).trans hAl)) ?_
  refine HPlan.callS rfl rfl rfl q_en_13 (get_hit hAl (x := txt [97]) s m v2 mv2 1 [(A, txt [97])] (keys32_one hAl) (by simp [getK]) ((i2, .cells 29 (bytesLV A) 1) :: F) T3) (List.Perm.refl _) (List.Perm.refl _) ?_
  rintro r_R6_2 L_R6_2 T4 ⟨rfl, rfl, rfl⟩
  refine ⟨keptH_nil, ?_⟩
  refine HPlan.move rfl rfl rfl ?_
  refine HPlan.extract rfl rfl rfl rfl ?_
  refine HPlan.extract rfl rfl rfl rfl ?_
  refine HPlan.assign rfl rfl rfl ?_
  refine HPlan.assign rfl rfl rfl ?_
  refine HPlan.fin ?_
  refine onNorm_n ?_
  refine HWp.seq ?_
  refine HWp.text (.rd 0 (.act 1 [] (.rd 2 (.rd 3 (.rd 4 (.rd 5 (.act 6 [] (.rd 7 (.rd 8 (.rd 9 (.rd 10 (.rd 11 (.rd 12 (.rd 13 (.rd 14 (.rd 15 (.rd 16 (.rd 17 (.rd 18 (.act 19 [] (.rd 20 (.rd 21 (.rd 22 (.rd 23 (.act 24 [] (.rd 25 (.rd 26 (.rd 27 .done)))))))))))))))))))))))))))) rfl ?_
  refine HPlan.move rfl rfl rfl ?_
  refine HPlan.callS rfl rfl rfl q_en_20 (blobs_all s m v2 mv2 1 [(A, txt [97])] (keys32_one hAl) (by simp) ((i2, .cells 29 (bytesLV A) 1) :: F) T4) (List.Perm.refl _) (List.Perm.refl _) ?_
  rintro r_R7_1 L_R7_1 T5 ⟨ds, hsl, hpm, _, rfl, rfl⟩
  refine ⟨keptH_nil, ?_⟩
  refine HPlan.lenS rfl rfl rfl q_tk_46 hsl (by rw [List.length_map, perm_one hpm]; rfl : _ = LV.int .i64 1) ?_
  refine HPlan.intBin rfl rfl rfl rfl rfl rfl ?_
  refine HPlan.move rfl rfl rfl ?_
  refine HPlan.move rfl rfl rfl ?_
  refine HPlan.callS rfl rfl rfl q_en_21 (blobs_size s m v2 mv2 1 [(A, txt [97])] ((i2, .cells 29 (bytesLV A) 1) :: F) T5) (List.Perm.refl _) (List.Perm.refl _) ?_
  rintro r_R7_6 L_R7_6 T6 ⟨rfl, rfl, rfl⟩
  refine ⟨keptH_nil, ?_⟩
  refine HPlan.intBin rfl rfl rfl rfl rfl rfl ?_
  refine HPlan.pickT rfl rfl rfl rfl ?_
  refine HPlan.move rfl rfl rfl ?_
  refine HPlan.move rfl rfl rfl ?_
  refine HPlan.pickT rfl rfl rfl rfl ?_
  refine HPlan.move rfl rfl rfl ?_
  refine HPlan.move rfl rfl rfl ?_
  refine HPlan.strBin rfl rfl rfl rfl trivial (by rfl : _ = LV.bool true) ?_
  refine HPlan.pickT rfl rfl rfl rfl ?_
  refine HPlan.move rfl rfl rfl ?_
  refine HPlan.move rfl rfl rfl ?_
  refine HPlan.load rfl rfl rfl q_sh_29 (by repeat (first | exact List.Mem.head _ | apply List.Mem.tail | assumption)) (by constructor <;> simp [hAl]) (load_all (bytesLV A) 32 ((bytesLV_length A).trans hAl)) ?_
  refine HPlan.callS rfl rfl rfl q_en_14 (drop_hit hAl (x := txt [97]) s m v2 mv2 1 [(A, txt [97])] (keys32_one hAl) (by simp [getK]) ((i2, .cells 29 (bytesLV A) 1) :: F) T6) (List.Perm.refl _) (List.Perm.refl _) ?_
  rintro r_R7_19 L_R7_19 T7 ⟨rfl, rfl, v3, mv3, rfl⟩
  refine ⟨keptH_nil, ?_⟩
  refine HPlan.pickT rfl rfl rfl rfl ?_
  refine HPlan.move rfl rfl rfl ?_
  refine HPlan.move rfl rfl rfl ?_
  refine HPlan.load rfl rfl rfl q_sh_29 (by repeat (first | exact List.Mem.head _ | apply List.Mem.tail | assumption)) (by constructor <;> simp [hAl]) (load_all (bytesLV A) 32 ((bytesLV_length A).trans hAl)) ?_
  refine HPlan.callS rfl rfl rfl q_en_14 (drop_miss hAl s m v3 mv3 _ (delK A [(A, txt [97])]) (by simp [delK]; exact keys32_nil) (by simp [delK, getK]) ((i2, .cells 29 (bytesLV A) 1) :: F) T7) (List.Perm.refl _) (List.Perm.refl _) ?_
  rintro r_R7_24 L_R7_24 T8 ⟨rfl, rfl, v4, mv4, rfl⟩
  refine ⟨keptH_nil, ?_⟩
  refine HPlan.not rfl rfl rfl rfl ?_
  refine HPlan.pickT rfl rfl rfl rfl ?_
  refine HPlan.assign rfl rfl rfl ?_
  refine HPlan.fin ?_
  refine onNorm_n ?_
  refine HWp.ret ?_
  refine retQ_r (.tmp rfl .nil) ?_
  exact endK_of ⟨rfl, rfl, rfl⟩ (by repeat (first | exact Part.refl _ | refine Part.pull (by repeat (first | exact Pull.here | apply Pull.there)) ?_ | refine Part.skip _ ?_ | exact Part.nil _ | exact Part.app _ _)) (by repeat (first | exact Part.refl _ | refine Part.pull (by repeat (first | exact Pull.here | apply Pull.there)) ?_ | refine Part.skip _ ?_ | exact Part.nil _ | exact Part.app _ _))
end Go.Proofs.Ythfoobfgdakbmaa

set_option linter.unusedVariables false
set_option linter.unusedSimpArgs false
set_option maxRecDepth 100000
namespace Go.Proofs.Ythfoobfgdakbmaa
open Go Go.RowKit Go.L
theorem q_en_7 : enterable Try.prog 7 = true := by kernel_rfl
theorem q_f_5 : Try.prog.funcs[5]? = some Try.f5 := by kernel_rfl
theorem get_nil (d : List UInt8) (hd : d.length = 32) : HPure Try.prog 13 [.nilp, digV d] (.tup [.str .empty, .bool false]) := by
  intro L T
  refine HCalls.enterG q_f_13 rfl ?_
  refine HWp.frame (r' := ⟨21, [(0, .nilp), (1, digV d)]⟩) rfl ?_
  refine HWp.seq ?_
  refine HWp.text (.act 0 [] (.rd 1 (.rd 2 .done))) rfl ?_
  refine HPlan.box rfl rfl rfl (digV_solid d) (fun i3 => ⟨keptH_nil, ?_⟩)
  refine HPlan.assign rfl rfl rfl ?_
  refine HPlan.assign rfl rfl rfl ?_
  refine HPlan.fin ?_
  refine onNorm_n ?_
  refine HWp.seq ?_
  refine HWp.seq ?_
  refine HWp.text (.rd 0 (.rd 1 .done)) rfl ?_
  refine HPlan.move rfl rfl rfl ?_
  refine HPlan.nilEqK rfl rfl rfl rfl q_tk_25 rfl rfl rfl rfl ?_
  refine HPlan.fin ?_
  refine onNorm_n ?_
  refine HWp.cond rfl ?_ ?_
  · intro hc9
    first
    | (exact absurd hc9 Bool.false_ne_true)
    | (exact absurd hc9.symm Bool.false_ne_true)
    | ((try simp only [decide_eq_true_eq, decide_eq_false_iff_not, Bool.not_eq_true', Bool.not_eq_false', Bool.not_true, Bool.not_false, beq_iff_eq, bne_iff_ne, bne_eq_false_iff_eq, ne_eq, beq_eq_false_iff_ne, Int.not_lt, Int.not_le] at hc9); exfalso; omega)
    | (try simp only [decide_eq_true_eq, decide_eq_false_iff_not, Bool.not_eq_true', Bool.not_eq_false', Bool.not_true, Bool.not_false, beq_iff_eq, bne_iff_ne, bne_eq_false_iff_eq, ne_eq, beq_eq_false_iff_ne, Int.not_lt, Int.not_le] at hc9)
      refine HWp.seq ?_
      refine HWp.text (.rd 0 (.rd 1 .done)) rfl ?_
      refine HPlan.assign rfl rfl rfl ?_
      refine HPlan.assign rfl rfl rfl ?_
      refine HPlan.fin ?_
      refine onNorm_n ?_
      refine HWp.ret ?_
      refine onNorm_r ?_
      refine retQ_r (.tmp rfl (.tmp rfl .nil)) ?_
      exact endK_of ⟨rfl, rfl, rfl⟩ (by repeat (first | exact Part.refl _ | refine Part.pull (by repeat (first | exact Pull.here | apply Pull.there)) ?_ | refine Part.skip _ ?_ | exact Part.nil _ | exact Part.app _ _)) (by repeat (first | exact Part.refl _ | refine Part.pull (by repeat (first | exact Pull.here | apply Pull.there)) ?_ | refine Part.skip _ ?_ | exact Part.nil _ | exact Part.app _ _))
  · intro hc9
    first
    | (exact absurd hc9 Bool.false_ne_true)
    | (exact absurd hc9.symm Bool.false_ne_true)
    | ((try simp only [decide_eq_true_eq, decide_eq_false_iff_not, Bool.not_eq_true', Bool.not_eq_false', Bool.not_true, Bool.not_false, beq_iff_eq, bne_iff_ne, bne_eq_false_iff_eq, ne_eq, beq_eq_false_iff_ne, Int.not_lt, Int.not_le] at hc9); exfalso; omega)
    | (try simp only [decide_eq_true_eq, decide_eq_false_iff_not, Bool.not_eq_true', Bool.not_eq_false', Bool.not_true, Bool.not_false, beq_iff_eq, bne_iff_ne, bne_eq_false_iff_eq, ne_eq, beq_eq_false_iff_ne, Int.not_lt, Int.not_le] at hc9)
      exfalso
      skip
theorem put_nil {D : List UInt8} {data : ByteArray} (hD : shaF [data] = D) (hs : data.size < 70368744177664) : HPure Try.prog 16 [.nilp, .str data] (digV D) := by
  intro L T
  refine HCalls.enterG q_f_16 rfl ?_
  refine HWp.frame (r' := ⟨41, [(0, .nilp), (1, .str data)]⟩) rfl ?_
  refine HWp.seq ?_
  refine HWp.text (.act 0 [] .done) rfl ?_
  refine HPlan.alloc rfl rfl q_zo_29 (by first | rfl | (simp; done)) (fun i4 => ⟨keptH_nil, ?_⟩)
  refine HPlan.fin ?_
  refine onNorm_n ?_
  refine HWp.seq ?_
  refine HWp.text (.rd 0 (.act 1 [] (.act 2 [] (.act 3 [] (.act 4 [] .done))))) rfl ?_
  refine HPlan.move rfl rfl rfl ?_
  refine HPlan.buildSliceN rfl rfl q_se_44 q_zs_9 rfl (by decide) rfl rfl (rfl : _ = [data].map LV.str) (allCells_cons (by first | rfl | (simp; done)) (by first | rfl | decide | omega | (simp; done) | (simp; omega)) allCells_nil) keptH_nil ?_
  refine HPlan.callPure rfl rfl rfl q_en_17 (sha_spec [data] _ (by intro s h; simp at h; subst h; exact hs) (by simp) .sl) keptH_nil ?_
  rw [hD]
  have hDl : D.length = 32 := by rw [← hD]; exact shaF_length _
  refine HPlan.alloc rfl rfl q_zo_29 (by first | rfl | (simp; done)) (fun i5 => ⟨keptH_nil, ?_⟩)
  refine HPlan.store rfl rfl rfl rfl q_sz_29 (digV_solid D) ((bytesLV_length D).trans hDl) (by repeat (first | exact List.Mem.head _ | apply List.Mem.tail | assumption)) (splice_all _ (bytesLV D) (by simp; exact hDl)) (by repeat (first | exact Upd.here | apply Upd.there)) (by simp) keptH_nil ?_
  refine HPlan.fin ?_
  refine onNorm_n ?_
  refine HWp.seq ?_
  refine HWp.seq ?_
  refine HWp.text (.rd 0 (.rd 1 .done)) rfl ?_
  refine HPlan.move rfl rfl rfl ?_
  refine HPlan.nilEqK rfl rfl rfl rfl q_tk_25 rfl rfl rfl rfl ?_
  refine HPlan.fin ?_
  refine onNorm_n ?_
  refine HWp.cond rfl ?_ ?_
  · intro hc12
    first
    | (exact absurd hc12 Bool.false_ne_true)
    | (exact absurd hc12.symm Bool.false_ne_true)
    | ((try simp only [decide_eq_true_eq, decide_eq_false_iff_not, Bool.not_eq_true', Bool.not_eq_false', Bool.not_true, Bool.not_false, beq_iff_eq, bne_iff_ne, bne_eq_false_iff_eq, ne_eq, beq_eq_false_iff_ne, Int.not_lt, Int.not_le] at hc12); exfalso; omega)
    | (try simp only [decide_eq_true_eq, decide_eq_false_iff_not, Bool.not_eq_true', Bool.not_eq_false', Bool.not_true, Bool.not_false, beq_iff_eq, bne_iff_ne, bne_eq_false_iff_eq, ne_eq, beq_eq_false_iff_ne, Int.not_lt, Int.not_le] at hc12)
      refine HWp.seq ?_
      refine HWp.text (.rd 0 (.act 1 [] .done)) rfl ?_
      refine HPlan.load rfl rfl rfl q_sh_29 (by repeat (first | exact List.Mem.head _ | apply List.Mem.tail | assumption)) (by constructor <;> simp [hDl]) (load_all (bytesLV D) 32 ((bytesLV_length D).trans hDl)) ?_
      refine HPlan.store rfl rfl rfl rfl q_sz_29 (digV_solid D) ((bytesLV_length D).trans hDl) (by repeat (first | exact List.Mem.head _ | apply List.Mem.tail | assumption)) (splice_all _ (bytesLV D) (by simp; exact hDl)) (by repeat (first | exact Upd.here | apply Upd.there)) (by simp) keptH_nil ?_
      refine HPlan.fin ?_
      refine onNorm_n ?_
      refine HWp.ret ?_
      refine onNorm_r ?_
      refine retQ_r (.cell q_sh_29 rfl (by repeat (first | exact List.Mem.head _ | apply List.Mem.tail | assumption)) (by constructor <;> first | rfl | decide | omega | exact Nat.le_refl _ | (simp; done) | (simp; omega)) (load_all (bytesLV D) 32 ((bytesLV_length D).trans hDl)) .nil) ?_
      exact endK_of ⟨rfl, rfl, rfl⟩ (by repeat (first | exact Part.refl _ | refine Part.pull (by repeat (first | exact Pull.here | apply Pull.there)) ?_ | refine Part.skip _ ?_ | exact Part.nil _ | exact Part.app _ _)) (by repeat (first | exact Part.refl _ | refine Part.pull (by repeat (first | exact Pull.here | apply Pull.there)) ?_ | refine Part.skip _ ?_ | exact Part.nil _ | exact Part.app _ _))
  · intro hc12
    first
    | (exact absurd hc12 Bool.false_ne_true)
    | (exact absurd hc12.symm Bool.false_ne_true)
    | ((try simp only [decide_eq_true_eq, decide_eq_false_iff_not, Bool.not_eq_true', Bool.not_eq_false', Bool.not_true, Bool.not_false, beq_iff_eq, bne_iff_ne, bne_eq_false_iff_eq, ne_eq, beq_eq_false_iff_ne, Int.not_lt, Int.not_le] at hc12); exfalso; omega)
    | (try simp only [decide_eq_true_eq, decide_eq_false_iff_not, Bool.not_eq_true', Bool.not_eq_false', Bool.not_true, Bool.not_false, beq_iff_eq, bne_iff_ne, bne_eq_false_iff_eq, ne_eq, beq_eq_false_iff_ne, Int.not_lt, Int.not_le] at hc12)
      exfalso
      skip
theorem drop_nil (d : List UInt8) (hd : d.length = 32) : HPure Try.prog 14 [.nilp, digV d] (.bool false) := by
  intro L T
  refine HCalls.enterG q_f_14 rfl ?_
  refine HWp.frame (r' := ⟨29, [(0, .nilp), (1, digV d)]⟩) rfl ?_
  refine HWp.seq ?_
  refine HWp.text (.act 0 [] (.rd 1 .done)) rfl ?_
  refine HPlan.box rfl rfl rfl (digV_solid d) (fun i3 => ⟨keptH_nil, ?_⟩)
  refine HPlan.assign rfl rfl rfl ?_
  refine HPlan.fin ?_
  refine onNorm_n ?_
  refine HWp.seq ?_
  refine HWp.text (.rd 0 (.rd 1 (.act 2 [] (.rd 3 (.rd 4 (.rd 5 (.rd 6 (.rd 7 .done)))))))) rfl ?_
  refine HPlan.move rfl rfl rfl ?_
  refine HPlan.load rfl rfl rfl q_sh_29 (by repeat (first | exact List.Mem.head _ | apply List.Mem.tail | assumption)) (by constructor <;> simp [digV, LV.cells, hd]) (load_all (bytesLV d) 32 ((bytesLV_length d).trans hd)) ?_
  refine HPlan.callPure rfl rfl rfl q_en_13 (get_nil d hd) keptH_nil ?_
  refine HPlan.move rfl rfl rfl ?_
  refine HPlan.extract rfl rfl rfl rfl ?_
  refine HPlan.extract rfl rfl rfl rfl ?_
  refine HPlan.assign rfl rfl rfl ?_
  refine HPlan.assign rfl rfl rfl ?_
  refine HPlan.fin ?_
  refine onNorm_n ?_
  refine HWp.seq ?_
  refine HWp.seq ?_
  refine HWp.text (.rd 0 .done) rfl ?_
  refine HPlan.move rfl rfl rfl ?_
  refine HPlan.fin ?_
  refine onNorm_n ?_
  refine HWp.cond rfl ?_ ?_
  · intro hc13
    first
    | (exact absurd hc13 Bool.false_ne_true)
    | (exact absurd hc13.symm Bool.false_ne_true)
    | ((try simp only [decide_eq_true_eq, decide_eq_false_iff_not, Bool.not_eq_true', Bool.not_eq_false', Bool.not_true, Bool.not_false, beq_iff_eq, bne_iff_ne, bne_eq_false_iff_eq, ne_eq, beq_eq_false_iff_ne, Int.not_lt, Int.not_le] at hc13); exfalso; omega)
    | (try simp only [decide_eq_true_eq, decide_eq_false_iff_not, Bool.not_eq_true', Bool.not_eq_false', Bool.not_true, Bool.not_false, beq_iff_eq, bne_iff_ne, bne_eq_false_iff_eq, ne_eq, beq_eq_false_iff_ne, Int.not_lt, Int.not_le] at hc13)
      exfalso
      skip
  · intro hc13
    first
    | (exact absurd hc13 Bool.false_ne_true)
    | (exact absurd hc13.symm Bool.false_ne_true)
    | ((try simp only [decide_eq_true_eq, decide_eq_false_iff_not, Bool.not_eq_true', Bool.not_eq_false', Bool.not_true, Bool.not_false, beq_iff_eq, bne_iff_ne, bne_eq_false_iff_eq, ne_eq, beq_eq_false_iff_ne, Int.not_lt, Int.not_le] at hc13); exfalso; omega)
    | (try simp only [decide_eq_true_eq, decide_eq_false_iff_not, Bool.not_eq_true', Bool.not_eq_false', Bool.not_true, Bool.not_false, beq_iff_eq, bne_iff_ne, bne_eq_false_iff_eq, ne_eq, beq_eq_false_iff_ne, Int.not_lt, Int.not_le] at hc13)
      refine HWp.skip ?_
      refine onNorm_n ?_
      refine HWp.seq ?_
      refine HWp.text (.rd 0 (.rd 1 .done)) rfl ?_
      refine HPlan.move rfl rfl rfl ?_
      refine HPlan.assign rfl rfl rfl ?_
      refine HPlan.fin ?_
      refine onNorm_n ?_
      refine HWp.ret ?_
      refine retQ_r (.tmp rfl .nil) ?_
      exact endK_of ⟨rfl, rfl, rfl⟩ (by repeat (first | exact Part.refl _ | refine Part.pull (by repeat (first | exact Pull.here | apply Pull.there)) ?_ | refine Part.skip _ ?_ | exact Part.nil _ | exact Part.app _ _)) (by repeat (first | exact Part.refl _ | refine Part.pull (by repeat (first | exact Pull.here | apply Pull.there)) ?_ | refine Part.skip _ ?_ | exact Part.nil _ | exact Part.app _ _))
theorem none_law (data : ByteArray) (d : List UInt8) (hd : d.length = 32) : HPure Try.prog 5 [.str data, digV d] (.bool true) := by
  intro L T
  refine HCalls.enterG q_f_5 rfl ?_
  refine HWp.frame (r' := ⟨51, [(0, .str data), (1, digV d)]⟩) rfl ?_
  refine HWp.seq ?_
  refine HWp.text (.act 0 [] (.rd 1 .done)) rfl ?_
  refine HPlan.box rfl rfl rfl (digV_solid d) (fun i3 => ⟨keptH_nil, ?_⟩)
  refine HPlan.assign rfl rfl rfl ?_
  refine HPlan.fin ?_
  refine onNorm_n ?_
  refine HWp.seq ?_
  refine HWp.seq ?_
  refine HWp.text (.act 0 [] (.rd 1 .done)) rfl ?_
  refine HPlan.callS rfl rfl rfl q_en_7 (alive_spec ((i3, .cells 29 (bytesLV d) 0) :: L) T) (List.Perm.refl _) (List.Perm.refl _) ?_
  rintro r_R1_0 L_R1_0 T1 ⟨rfl, rfl, rfl⟩
  refine ⟨keptH_nil, ?_⟩
  obtain ⟨D, hD⟩ : ∃ D, shaF [data] = D := ⟨_, rfl⟩
  have hDl : D.length = 32 := by rw [← hD]; exact shaF_length _
  refine HPlan.not rfl rfl rfl rfl ?_
  refine HPlan.fin ?_
  refine onNorm_n ?_
  refine HWp.cond_f rfl ?_
  refine HWp.skip ?_
  refine onNorm_n ?_
  refine HWp.seq ?_
  refine HWp.seq ?_
  refine HWp.text (.rd 0 (.rd 1 (.rd 2 .done))) rfl ?_
  refine HPlan.move rfl rfl rfl ?_
  refine HPlan.lenStr rfl rfl rfl q_tk_9 rfl ?_
  refine HPlan.intBin rfl rfl rfl rfl rfl rfl ?_
  refine HPlan.fin ?_
  refine onNorm_n ?_
  refine HWp.cond rfl ?_ ?_
  · intro hc12
    first
    | (exact absurd hc12 Bool.false_ne_true)
    | (exact absurd hc12.symm Bool.false_ne_true)
    | ((try simp only [decide_eq_true_eq, decide_eq_false_iff_not, Bool.not_eq_true', Bool.not_eq_false', Bool.not_true, Bool.not_false, beq_iff_eq, bne_iff_ne, bne_eq_false_iff_eq, ne_eq, beq_eq_false_iff_ne, Int.not_lt, Int.not_le] at hc12); exfalso; omega)
    | (try simp only [decide_eq_true_eq, decide_eq_false_iff_not, Bool.not_eq_true', Bool.not_eq_false', Bool.not_true, Bool.not_false, beq_iff_eq, bne_iff_ne, bne_eq_false_iff_eq, ne_eq, beq_eq_false_iff_ne, Int.not_lt, Int.not_le] at hc12)
      refine HWp.seq ?_
      refine HWp.text (.rd 0 .done) rfl ?_
      refine HPlan.assign rfl rfl rfl ?_
      refine HPlan.fin ?_
      refine onNorm_n ?_
      refine HWp.ret ?_
      refine onNorm_r ?_
      refine retQ_r (.tmp rfl .nil) ?_
      exact endK_of ⟨rfl, rfl, rfl⟩ (by repeat (first | exact Part.refl _ | refine Part.pull (by repeat (first | exact Pull.here | apply Pull.there)) ?_ | refine Part.skip _ ?_ | exact Part.nil _ | exact Part.app _ _)) (by repeat (first | exact Part.refl _ | refine Part.pull (by repeat (first | exact Pull.here | apply Pull.there)) ?_ | refine Part.skip _ ?_ | exact Part.nil _ | exact Part.app _ _))
  · intro hc12
    first
    | (exact absurd hc12 Bool.false_ne_true)
    | (exact absurd hc12.symm Bool.false_ne_true)
    | ((try simp only [decide_eq_true_eq, decide_eq_false_iff_not, Bool.not_eq_true', Bool.not_eq_false', Bool.not_true, Bool.not_false, beq_iff_eq, bne_iff_ne, bne_eq_false_iff_eq, ne_eq, beq_eq_false_iff_ne, Int.not_lt, Int.not_le] at hc12); exfalso; omega)
    | (try simp only [decide_eq_true_eq, decide_eq_false_iff_not, Bool.not_eq_true', Bool.not_eq_false', Bool.not_true, Bool.not_false, beq_iff_eq, bne_iff_ne, bne_eq_false_iff_eq, ne_eq, beq_eq_false_iff_ne, Int.not_lt, Int.not_le] at hc12)
      refine HWp.skip ?_
      refine onNorm_n ?_
      refine HWp.seq ?_
      refine HWp.text (.rd 0 .done) rfl ?_
      refine HPlan.assign rfl rfl rfl ?_
      refine HPlan.fin ?_
      refine onNorm_n ?_
      refine HWp.seq ?_
      refine HWp.text (.rd 0 (.rd 1 (.act 2 [] (.rd 3 (.rd 4 (.rd 5 (.rd 6 (.rd 7 .done)))))))) rfl ?_
      refine HPlan.move rfl rfl rfl ?_
      refine HPlan.load rfl rfl rfl q_sh_29 (by repeat (first | exact List.Mem.head _ | apply List.Mem.tail | assumption)) (by constructor <;> simp [hd]) (load_all (bytesLV d) 32 ((bytesLV_length d).trans hd)) ?_
      refine HPlan.callPure rfl rfl rfl q_en_13 (get_nil d hd) keptH_nil ?_
      refine HPlan.move rfl rfl rfl ?_
      refine HPlan.extract rfl rfl rfl rfl ?_
      refine HPlan.extract rfl rfl rfl rfl ?_
      refine HPlan.assign rfl rfl rfl ?_
      refine HPlan.assign rfl rfl rfl ?_
      refine HPlan.fin ?_
      refine onNorm_n ?_
      refine HWp.seq ?_
      refine HWp.text (.rd 0 (.rd 1 (.act 2 [] (.rd 3 (.act 4 [] (.act 5 [] (.rd 6 (.rd 7 (.rd 8 (.rd 9 (.rd 10 (.rd 11 (.rd 12 (.rd 13 (.rd 14 (.rd 15 (.rd 16 (.rd 17 (.act 18 [] (.rd 19 (.rd 20 (.rd 21 (.rd 22 (.act 23 [] (.rd 24 (.rd 25 (.rd 26 (.rd 27 (.rd 28 (.act 29 [] (.rd 30 (.rd 31 (.rd 32 .done))))))))))))))))))))))))))))))))) rfl ?_
      refine HPlan.move rfl rfl rfl ?_
      refine HPlan.move rfl rfl rfl ?_
      refine HPlan.callPure rfl rfl rfl q_en_16 (put_nil hD (by omega)) keptH_nil ?_
      refine HPlan.move rfl rfl rfl ?_
      refine HPlan.buildSliceN rfl rfl q_se_44 q_zs_9 rfl (by decide) rfl rfl (rfl : _ = [data].map LV.str) (allCells_cons (by first | rfl | (simp; done)) (by first | rfl | decide | omega | (simp; done) | (simp; omega)) allCells_nil) keptH_nil ?_
      refine HPlan.callPure rfl rfl rfl q_en_17 (sha_spec [data] _ (by intro s h; simp at h; subst h; omega) (by simp) .sl) keptH_nil ?_
      rw [hD]
      refine HPlan.aggEq rfl rfl rfl rfl q_sh_29 q_ck_29 (by decide) q_eg_29 ((bytesLV_length D).trans hDl) ((bytesLV_length D).trans hDl) (fits_dig hDl) (fits_dig hDl) ((eq_dig D D).trans (decide_eq_true rfl)) ?_
      refine HPlan.move rfl rfl rfl ?_
      refine HPlan.move rfl rfl rfl ?_
      refine HPlan.strBin rfl rfl rfl rfl trivial (by rfl : _ = LV.bool true) ?_
      refine HPlan.pickT rfl rfl rfl rfl ?_
      refine HPlan.move rfl rfl rfl ?_
      refine HPlan.move rfl rfl rfl ?_
      refine HPlan.not rfl rfl rfl rfl ?_
      refine HPlan.pickT rfl rfl rfl rfl ?_
      refine HPlan.move rfl rfl rfl ?_
      refine HPlan.move rfl rfl rfl ?_
      refine HPlan.load rfl rfl rfl q_sh_29 (by repeat (first | exact List.Mem.head _ | apply List.Mem.tail | assumption)) (by constructor <;> simp [hd]) (load_all (bytesLV d) 32 ((bytesLV_length d).trans hd)) ?_
      refine HPlan.callPure rfl rfl rfl q_en_14 (drop_nil d hd) keptH_nil ?_
      refine HPlan.not rfl rfl rfl rfl ?_
      refine HPlan.pickT rfl rfl rfl rfl ?_
      refine HPlan.move rfl rfl rfl ?_
      refine HPlan.move rfl rfl rfl ?_
      refine HPlan.callPure rfl rfl rfl q_en_20 all_nil keptH_nil ?_
      refine HPlan.lenS rfl rfl rfl q_tk_46 (IsSl.nils (k := 32)) rfl ?_
      refine HPlan.intBin rfl rfl rfl rfl rfl rfl ?_
      refine HPlan.pickT rfl rfl rfl rfl ?_
      refine HPlan.move rfl rfl rfl ?_
      refine HPlan.move rfl rfl rfl ?_
      refine HPlan.callPure rfl rfl rfl q_en_21 blobs_size_nil keptH_nil ?_
      refine HPlan.intBin rfl rfl rfl rfl rfl rfl ?_
      refine HPlan.pickT rfl rfl rfl rfl ?_
      refine HPlan.assign rfl rfl rfl ?_
      refine HPlan.fin ?_
      refine onNorm_n ?_
      refine HWp.ret ?_
      refine retQ_r (.tmp rfl .nil) ?_
      exact endK_of ⟨rfl, rfl, rfl⟩ (by repeat (first | exact Part.refl _ | refine Part.pull (by repeat (first | exact Pull.here | apply Pull.there)) ?_ | refine Part.skip _ ?_ | exact Part.nil _ | exact Part.app _ _)) (by repeat (first | exact Part.refl _ | refine Part.pull (by repeat (first | exact Pull.here | apply Pull.there)) ?_ | refine Part.skip _ ?_ | exact Part.nil _ | exact Part.app _ _))
end Go.Proofs.Ythfoobfgdakbmaa

set_option linter.unusedVariables false
set_option linter.unusedSimpArgs false
set_option maxRecDepth 100000
namespace Go.Proofs.Ythfoobfgdakbmaa
open Go Go.RowKit Go.L
theorem q_en_23 : enterable Try.prog 23 = true := by kernel_rfl
theorem q_bo_4 : (match Try.prog.underlying 4 with | some .bool => true | _ => false) = true := by kernel_rfl
theorem q_f_6 : Try.prog.funcs[6]? = some Try.f6 := by kernel_rfl

theorem get_one {d D : List UInt8} (hd : d.length = 32) (hDl : D.length = 32) {data : ByteArray} (s m ver mver : Nat) (n : Int) (F : Hp) (T : Tk) :
    HCalls Try.prog 13 [.ref s 0, digV d] ((s, .cells 55 [.mp m, .int .i64 n] ver) :: (m, .map (entsV [(D, data)]) mver) :: F) T (fun r L' T' => r = .tup [.str (if d = D then data else .empty), .bool (decide (d = D))] ∧ L' = (s, .cells 55 [.mp m, .int .i64 n] ver) :: (m, .map (entsV [(D, data)]) mver) :: F ∧ T' = T) := by
  have := blobs_get d hd s m ver mver n [(D, data)] (keys32_one hDl) F T
  have e : gotV d [(D, data)] = .tup [.str (if d = D then data else .empty), .bool (decide (d = D))] := by
    by_cases h : d = D <;> simp [gotV, getK, h]
  rw [e] at this; exact this
theorem check_own {D : List UInt8} {data : ByteArray} (hD : shaF [data] = D) (hs : data.size < 70368744177664) : HPure Try.prog 23 [digV D, .str data] (.bool true) := by
  have := blobs_check D (by rw [← hD]; exact shaF_length _) data hs
  rw [decide_eq_true hD] at this; exact this
theorem check_any {d D : List UInt8} (hd : d.length = 32) {data : ByteArray} (hD : shaF [data] = D) (hs : data.size < 70368744177664) : HPure Try.prog 23 [digV d, .str data] (.bool (decide (d = D))) := by
  have := blobs_check d hd data hs
  rw [hD, show decide (D = d) = decide (d = D) from decide_eq_decide.2 eq_comm] at this; exact this

theorem checks_law (data : ByteArray) (d : List UInt8) (hd : d.length = 32) : HPure Try.prog 6 [.str data, digV d] (.bool true) := by
  intro L T
  refine HCalls.enterG q_f_6 rfl ?_
  refine HWp.frame (r' := ⟨66, [(0, .str data), (1, digV d)]⟩) rfl ?_
  refine HWp.seq ?_
  refine HWp.text (.act 0 [] (.rd 1 .done)) rfl ?_
  refine HPlan.box rfl rfl rfl (digV_solid d) (fun i3 => ⟨keptH_nil, ?_⟩)
  refine HPlan.assign rfl rfl rfl ?_
  refine HPlan.fin ?_
  refine onNorm_n ?_
  refine HWp.seq ?_
  refine HWp.seq ?_
  refine HWp.text (.act 0 [] (.rd 1 .done)) rfl ?_
  refine HPlan.callS rfl rfl rfl q_en_7 (alive_spec ((i3, .cells 29 (bytesLV d) 0) :: L) T) (List.Perm.refl _) (List.Perm.refl _) ?_
  rintro r_R1_0 L_R1_0 T1 ⟨rfl, rfl, rfl⟩
  refine ⟨keptH_nil, ?_⟩
  obtain ⟨D, hD⟩ : ∃ D, shaF [data] = D := ⟨_, rfl⟩
  have hDl : D.length = 32 := by rw [← hD]; exact shaF_length _
  refine HPlan.not rfl rfl rfl rfl ?_
  refine HPlan.fin ?_
  refine onNorm_n ?_
  refine HWp.cond_f rfl ?_
  refine HWp.skip ?_
  refine onNorm_n ?_
  refine HWp.seq ?_
  refine HWp.seq ?_
  refine HWp.text (.rd 0 (.rd 1 (.rd 2 .done))) rfl ?_
  refine HPlan.move rfl rfl rfl ?_
  refine HPlan.lenStr rfl rfl rfl q_tk_9 rfl ?_
  refine HPlan.intBin rfl rfl rfl rfl rfl rfl ?_
  refine HPlan.fin ?_
  refine onNorm_n ?_
  refine HWp.cond rfl ?_ ?_
  · intro hc15
    first
    | (exact absurd hc15 Bool.false_ne_true)
    | (exact absurd hc15.symm Bool.false_ne_true)
    | ((try simp only [decide_eq_true_eq, decide_eq_false_iff_not, Bool.not_eq_true', Bool.not_eq_false', Bool.not_true, Bool.not_false, beq_iff_eq, bne_iff_ne, bne_eq_false_iff_eq, ne_eq, beq_eq_false_iff_ne, Int.not_lt, Int.not_le] at hc15); exfalso; omega)
    | (try simp only [decide_eq_true_eq, decide_eq_false_iff_not, Bool.not_eq_true', Bool.not_eq_false', Bool.not_true, Bool.not_false, beq_iff_eq, bne_iff_ne, bne_eq_false_iff_eq, ne_eq, beq_eq_false_iff_ne, Int.not_lt, Int.not_le] at hc15)
      refine HWp.seq ?_
      refine HWp.text (.rd 0 .done) rfl ?_
      refine HPlan.assign rfl rfl rfl ?_
      refine HPlan.fin ?_
      refine onNorm_n ?_
      refine HWp.ret ?_
      refine onNorm_r ?_
      refine retQ_r (.tmp rfl .nil) ?_
      exact endK_of ⟨rfl, rfl, rfl⟩ (by repeat (first | exact Part.refl _ | refine Part.pull (by repeat (first | exact Pull.here | apply Pull.there)) ?_ | refine Part.skip _ ?_ | exact Part.nil _ | exact Part.app _ _)) (by repeat (first | exact Part.refl _ | refine Part.pull (by repeat (first | exact Pull.here | apply Pull.there)) ?_ | refine Part.skip _ ?_ | exact Part.nil _ | exact Part.app _ _))
  · intro hc15
    first
    | (exact absurd hc15 Bool.false_ne_true)
    | (exact absurd hc15.symm Bool.false_ne_true)
    | ((try simp only [decide_eq_true_eq, decide_eq_false_iff_not, Bool.not_eq_true', Bool.not_eq_false', Bool.not_true, Bool.not_false, beq_iff_eq, bne_iff_ne, bne_eq_false_iff_eq, ne_eq, beq_eq_false_iff_ne, Int.not_lt, Int.not_le] at hc15); exfalso; omega)
    | (try simp only [decide_eq_true_eq, decide_eq_false_iff_not, Bool.not_eq_true', Bool.not_eq_false', Bool.not_true, Bool.not_false, beq_iff_eq, bne_iff_ne, bne_eq_false_iff_eq, ne_eq, beq_eq_false_iff_ne, Int.not_lt, Int.not_le] at hc15)
      refine HWp.skip ?_
      refine onNorm_n ?_
      refine HWp.seq ?_
      refine HWp.text (.act 0 [] (.rd 1 .done)) rfl ?_
      refine HPlan.callS rfl rfl rfl q_en_10 (blobs_new ((i3, .cells 29 (bytesLV d) 0) :: L) T1) (List.Perm.refl _) (List.Perm.refl _) ?_
      rintro r_R5_0 L_R5_0 T2 ⟨s, m, rfl, rfl, rfl⟩
      refine ⟨keptH_nil, ?_⟩
      refine HPlan.assign rfl rfl rfl ?_
      refine HPlan.fin ?_
      refine onNorm_n ?_
      refine HWp.seq ?_
      refine HWp.text (.rd 0 (.rd 1 (.act 2 [] (.act 3 [] (.act 4 [] .done))))) rfl ?_
      refine HPlan.move rfl rfl rfl ?_
      refine HPlan.move rfl rfl rfl ?_
      refine HPlan.callS rfl rfl rfl q_en_16 (put_new hD (by omega) s m 0 0 0 [] keys32_nil rfl ((i3, .cells 29 (bytesLV d) 0) :: L) T2) (List.Perm.refl _) (List.Perm.refl _) ?_
      rintro r_R6_2 L_R6_2 T3 ⟨rfl, rfl, v1, mv1, rfl⟩
      refine ⟨keptH_nil, ?_⟩
      refine HPlan.alloc rfl rfl q_zo_29 (by first | rfl | (simp; done)) (fun i6 => ⟨keptH_nil, ?_⟩)
      refine HPlan.store rfl rfl rfl rfl q_sz_29 (digV_solid D) ((bytesLV_length D).trans hDl) (by repeat (first | exact List.Mem.head _ | apply List.Mem.tail | assumption)) (splice_all _ (bytesLV D) (by simp; exact hDl)) (by repeat (first | exact Upd.here | apply Upd.there)) (by simp) keptH_nil ?_
      refine HPlan.fin ?_
      refine onNorm_n ?_
      refine HWp.seq ?_
      refine HWp.text (.rd 0 (.rd 1 (.act 2 [] (.rd 3 (.rd 4 (.rd 5 (.rd 6 (.rd 7 .done)))))))) rfl ?_
      refine HPlan.move rfl rfl rfl ?_
      refine HPlan.load rfl rfl rfl q_sh_29 (by repeat (first | exact List.Mem.head _ | apply List.Mem.tail | assumption)) (by constructor <;> simp [hDl]) (load_all (bytesLV D) 32 ((bytesLV_length D).trans hDl)) ?_
      refine HPlan.callS rfl rfl rfl q_en_13 (get_hit hDl (x := data) s m v1 mv1 _ [(D, data)] (keys32_one hDl) (by simp [getK]) ((i6, .cells 29 (bytesLV D) 1) :: (i3, .cells 29 (bytesLV d) 0) :: L) T3) ((List.Perm.swap _ _ _).trans ((List.Perm.swap _ _ _).cons _)) (List.Perm.refl _) ?_
      rintro r_R7_2 L_R7_2 T4 ⟨rfl, rfl, rfl⟩
      refine ⟨keptH_nil, ?_⟩
      refine HPlan.move rfl rfl rfl ?_
      refine HPlan.extract rfl rfl rfl rfl ?_
      refine HPlan.extract rfl rfl rfl rfl ?_
      refine HPlan.assign rfl rfl rfl ?_
      refine HPlan.assign rfl rfl rfl ?_
      refine HPlan.fin ?_
      refine onNorm_n ?_
      refine HWp.seq ?_
      refine HWp.text (.rd 0 (.rd 1 (.act 2 [] (.rd 3 (.rd 4 (.rd 5 (.rd 6 (.rd 7 .done)))))))) rfl ?_
      refine HPlan.move rfl rfl rfl ?_
      refine HPlan.load rfl rfl rfl q_sh_29 (by repeat (first | exact List.Mem.head _ | apply List.Mem.tail | assumption)) (by constructor <;> simp [hd]) (load_all (bytesLV d) 32 ((bytesLV_length d).trans hd)) ?_
      refine HPlan.callS rfl rfl rfl q_en_13 (get_one hd hDl s m v1 mv1 _ ((i6, .cells 29 (bytesLV D) 1) :: (i3, .cells 29 (bytesLV d) 0) :: L) T4) (List.Perm.refl _) (List.Perm.refl _) ?_
      rintro r_R8_2 L_R8_2 T5 ⟨rfl, rfl, rfl⟩
      refine ⟨keptH_nil, ?_⟩
      refine HPlan.move rfl rfl rfl ?_
      refine HPlan.extract rfl rfl rfl rfl ?_
      refine HPlan.extract rfl rfl rfl rfl ?_
      refine HPlan.assign rfl rfl rfl ?_
      refine HPlan.assign rfl rfl rfl ?_
      refine HPlan.fin ?_
      refine onNorm_n ?_
      refine HWp.seq ?_
      refine HWp.draw q_mix (.rd 0 (.rd 1 (.act 2 [] (.rd 3 (.rd 4 (.rd 5 (.act 6 [4] (.act 7 [4] (.rd 8 (.rd 9 (.rd 10 (.rd 11 (.rd 12 (.rd 13 (.rd 14 (.rd 15 (.rd 16 (.rd 17 (.rd 18 (.rd 19 (.rd 20 (.rd 21 (.rd 22 (.rd 23 (.rd 24 (.rd 25 (.rd 26 (.rd 27 (.rd 29 (.rd 30 (.rd 31 (.act 28 [29, 30] (.rd 32 (.rd 33 (.rd 34 .done))))))))))))))))))))))))))))))))))) (by kernel_rfl) ?_
      refine HPlan.load rfl rfl rfl q_sh_29 (by repeat (first | exact List.Mem.head _ | apply List.Mem.tail | assumption)) (by constructor <;> simp [hDl]) (load_all (bytesLV D) 32 ((bytesLV_length D).trans hDl)) ?_
      refine HPlan.move rfl rfl rfl ?_
      refine HPlan.callPure rfl rfl rfl q_en_23 (check_own hD (by omega)) keptH_nil ?_
      refine HPlan.move rfl rfl rfl ?_
      refine HPlan.load rfl rfl rfl q_sh_29 (by repeat (first | exact List.Mem.head _ | apply List.Mem.tail | assumption)) (by constructor <;> simp [hDl]) (load_all (bytesLV D) 32 ((bytesLV_length D).trans hDl)) ?_
      refine HPlan.move rfl rfl rfl ?_
      refine HPlan.buildSliceN rfl rfl q_se_44 q_zs_9 rfl (by decide) rfl rfl (rfl : _ = [data].map LV.str) (allCells_cons (by first | rfl | (simp; done)) (by first | rfl | decide | omega | (simp; done) | (simp; omega)) allCells_nil) (keptH_ids (by repeat (first | exact allId_nil | refine allId_cons (by repeat (first | exact List.Mem.head _ | apply List.Mem.tail | assumption)) (by repeat (first | exact List.Mem.head _ | apply List.Mem.tail | assumption)) ?_))) ?_
      refine HPlan.callPure rfl rfl rfl q_en_17 (sha_spec [data] _ (by intro s h; simp at h; subst h; omega) (by simp) .sl) (keptH_ids (by repeat (first | exact allId_nil | refine allId_cons (by repeat (first | exact List.Mem.head _ | apply List.Mem.tail | assumption)) (by repeat (first | exact List.Mem.head _ | apply List.Mem.tail | assumption)) ?_))) ?_
      rw [hD]
      refine HPlan.aggEq rfl rfl rfl rfl q_sh_29 q_ck_29 (by decide) q_eg_29 ((bytesLV_length D).trans hDl) ((bytesLV_length D).trans hDl) (fits_dig hDl) (fits_dig hDl) ((eq_dig D D).trans (decide_eq_true rfl)) ?_
      refine HPlan.pickT rfl rfl rfl rfl ?_
      refine HPlan.move rfl rfl rfl ?_
      refine HPlan.move rfl rfl rfl ?_
      refine HPlan.pickT rfl rfl rfl rfl ?_
      refine HPlan.move rfl rfl rfl ?_
      refine HPlan.move rfl rfl rfl ?_
      refine HPlan.move rfl rfl rfl ?_
      refine HPlan.strBin rfl rfl rfl rfl trivial (congrArg LV.bool (decide_eq_true rfl) : _ = LV.bool true) ?_
      refine HPlan.pickT rfl rfl rfl rfl ?_
      refine HPlan.move rfl rfl rfl ?_
      refine HPlan.move rfl rfl rfl ?_
      refine HPlan.load rfl rfl rfl q_sh_29 (by repeat (first | exact List.Mem.head _ | apply List.Mem.tail | assumption)) (by constructor <;> simp [hd]) (load_all (bytesLV d) 32 ((bytesLV_length d).trans hd)) ?_
      refine HPlan.load rfl rfl rfl q_sh_29 (by repeat (first | exact List.Mem.head _ | apply List.Mem.tail | assumption)) (by constructor <;> simp [hDl]) (load_all (bytesLV D) 32 ((bytesLV_length D).trans hDl)) ?_
      refine HPlan.aggEq rfl rfl rfl rfl q_sh_29 q_ck_29 (by decide) q_eg_29 ((bytesLV_length d).trans hd) ((bytesLV_length D).trans hDl) (fits_dig hd) (fits_dig hDl) (eq_dig d D) ?_
      refine HPlan.boolEq rfl rfl rfl rfl q_bo_4 ?_
      rw [beq_self_eq_true]
      refine HPlan.pickT rfl rfl rfl rfl ?_
      refine HPlan.move rfl rfl rfl ?_
      refine HPlan.load rfl rfl rfl q_sh_29 (by repeat (first | exact List.Mem.head _ | apply List.Mem.tail | assumption)) (by constructor <;> simp [hd]) (load_all (bytesLV d) 32 ((bytesLV_length d).trans hd)) ?_
      refine HPlan.move rfl rfl rfl ?_
      refine HPlan.load rfl rfl rfl q_sh_29 (by repeat (first | exact List.Mem.head _ | apply List.Mem.tail | assumption)) (by constructor <;> simp [hd]) (load_all (bytesLV d) 32 ((bytesLV_length d).trans hd)) ?_
      refine HPlan.load rfl rfl rfl q_sh_29 (by repeat (first | exact List.Mem.head _ | apply List.Mem.tail | assumption)) (by constructor <;> simp [hDl]) (load_all (bytesLV D) 32 ((bytesLV_length D).trans hDl)) ?_
      refine HPlan.aggEq rfl rfl rfl rfl q_sh_29 q_ck_29 (by decide) q_eg_29 ((bytesLV_length d).trans hd) ((bytesLV_length D).trans hDl) (fits_dig hd) (fits_dig hDl) (eq_dig d D) ?_
      refine HPlan.callPure rfl rfl rfl q_en_23 (check_any hd hD (by omega)) (keptH_ids (by repeat (first | exact allId_nil | refine allId_cons (by repeat (first | exact List.Mem.head _ | apply List.Mem.tail | assumption)) (by repeat (first | exact List.Mem.head _ | apply List.Mem.tail | assumption)) ?_))) ?_
      refine HPlan.boolEq rfl rfl rfl rfl q_bo_4 ?_
      rw [beq_self_eq_true]
      refine HPlan.pickT rfl rfl rfl rfl ?_
      refine HPlan.assign rfl rfl rfl ?_
      refine HPlan.fin ?_
      refine onNorm_n ?_
      refine HWp.ret ?_
      refine retQ_r (.tmp rfl .nil) ?_
      exact endK_of ⟨rfl, rfl, rfl⟩ (by repeat (first | exact Part.refl _ | refine Part.pull (by repeat (first | exact Pull.here | apply Pull.there)) ?_ | refine Part.skip _ ?_ | exact Part.nil _ | exact Part.app _ _)) (by repeat (first | exact Part.refl _ | refine Part.pull (by repeat (first | exact Pull.here | apply Pull.there)) ?_ | refine Part.skip _ ?_ | exact Part.nil _ | exact Part.app _ _))
end Go.Proofs.Ythfoobfgdakbmaa

set_option linter.unusedVariables false
set_option linter.unusedSimpArgs false
set_option maxRecDepth 100000
namespace Go.Proofs.Ythfoobfgdakbmaa
open Go Go.RowKit Go.L
theorem q_en_27 : enterable Try.prog 27 = true := by kernel_rfl
theorem q_ix_46 : indexIn Try.prog 46 = some (none, 32) := by kernel_rfl
theorem q_f_19 : Try.prog.funcs[19]? = some Try.f19 := by kernel_rfl

theorem dig_at {l : List (List UInt8 × ByteArray)} {k : Nat} (h : k < l.length) : ((l.map (·.1)).map digV).getD ((k : Int).toNat) .und = digV l[k].1 := by
  simp [List.getD_eq_getElem?_getD, h]
theorem dig_whole {d : List UInt8} (h : d.length = 32) : (bif true then LV.agg (((digV d).cells.drop 0).take 32) else ((digV d).cells.drop 0).headD .und) = digV d := by
  have : (bytesLV d).length = 32 := by simp [h]
  simp only [digV, LV.cells, cond_true, List.drop_zero]
  rw [List.take_of_length_le (by omega)]
theorem dig_len {d : List UInt8} (h : d.length = 32) : (digV d).cells.length = 32 := by simp [digV, LV.cells, h]
theorem getK_of {d : List UInt8} {x : ByteArray} : ∀ {ks : List (List UInt8 × ByteArray)}, (ks.map (·.1)).Nodup → (d, x) ∈ ks → getK d ks = some x
  | [], _, h => by cases h
  | q :: r, hn, h => by
    rw [List.map_cons, List.nodup_cons] at hn
    simp only [getK]
    rcases List.mem_cons.1 h with rfl | h
    · simp
    · rw [if_neg (fun e => hn.1 (List.mem_map.2 ⟨_, h, e⟩)), getK_of hn.2 h]
theorem getK_none {d : List UInt8} : ∀ {ks : List (List UInt8 × ByteArray)}, getK d ks = none ↔ d ∉ ks.map (·.1)
  | [] => by simp [getK]
  | q :: r => by
    simp only [getK, List.map_cons, List.mem_cons, not_or]
    split
    · rename_i h; simp [h]
    · rename_i h; rw [getK_none]; simp [h]

theorem same_true (s m ver mver : Nat) (n : Int) (ks l : List (List UInt8 × ByteArray)) (hk : Keys32 l) (hkk : Keys32 ks) (hn : n = totalK l l.length) (hp : ks.Perm l) (hr : Rise (l.map (·.1))) (hu : (ks.map (·.1)).Nodup) (hl : l.length < 1048576) (x : LV) (hx : IsSl 33 (l.map blobV) x) (F : Hp) (T : Tk) : HCalls Try.prog 19 [.ref s 0, x] ((s, .cells 55 [.mp m, .int .i64 n] ver) :: (m, .map (entsV ks) mver) :: F) T (fun r L' T' => r = .bool true ∧ L' = (s, .cells 55 [.mp m, .int .i64 n] ver) :: (m, .map (entsV ks) mver) :: F ∧ T' = T) := by
  refine HCalls.enterG q_f_19 rfl ?_
  refine HWp.frame (r' := ⟨62, [(0, .ref s 0), (1, x)]⟩) rfl ?_
  refine HWp.seq ?_
  refine HWp.text (.rd 0 .done) rfl ?_
  refine HPlan.assign rfl rfl rfl ?_
  refine HPlan.fin ?_
  refine onNorm_n ?_
  refine HWp.seq ?_
  refine HWp.text (.rd 0 (.act 1 [] (.rd 2 .done))) rfl ?_
  refine HPlan.move rfl rfl rfl ?_
  refine HPlan.callS rfl rfl rfl q_en_20 (blobs_all s m ver mver n ks hkk (by rw [hp.length_eq]; exact hl) F T) (List.Perm.refl _) (List.Perm.refl _) ?_
  rintro r_R1_1 L_R1_1 T1 ⟨ds, hsl, hpm, hrs, rfl, rfl⟩
  refine ⟨keptH_nil, ?_⟩
  obtain rfl : ds = l.map (·.1) := rise_unique (hpm.trans (hp.map _)) hrs hr
  refine HPlan.assign rfl rfl rfl ?_
  refine HPlan.fin ?_
  refine onNorm_n ?_
  refine HWp.seq ?_
  refine HWp.seq ?_
  refine HWp.text (.rd 0 (.rd 1 (.rd 2 (.rd 3 (.rd 4 (.rd 5 (.rd 6 (.act 7 [] (.rd 8 (.act 9 [] (.rd 10 (.rd 11 .done)))))))))))) rfl ?_
  refine HPlan.move rfl rfl rfl ?_
  refine HPlan.lenS rfl rfl rfl q_tk_46 hsl (by rw [List.length_map, List.length_map] : _ = LV.int .i64 (l.length : Int)) ?_
  refine HPlan.move rfl rfl rfl ?_
  refine HPlan.lenS rfl rfl rfl q_tk_27 hx (by rw [List.length_map] : _ = LV.int .i64 (l.length : Int)) ?_
  refine HPlan.intBin rfl rfl rfl rfl rfl (congrArg (fun b => LV.bool (!b)) (beq_self_eq_true _) : _ = LV.bool false) ?_
  refine HPlan.move rfl rfl rfl ?_
  refine HPlan.move rfl rfl rfl ?_
  refine HPlan.callS rfl rfl rfl q_en_21 (blobs_size s m ver mver n ks F T1) (List.Perm.refl _) (List.Perm.refl _) ?_
  rintro r_R2_7 L_R2_7 T2 ⟨rfl, rfl, rfl⟩
  refine ⟨keptH_nil, ?_⟩
  refine HPlan.move rfl rfl rfl ?_
  refine HPlan.callPure rfl rfl rfl q_en_27 (ref_size l hk (by omega) x hx) keptH_nil ?_
  rw [← hn]
  refine HPlan.intBin rfl rfl rfl rfl rfl (congrArg (fun b => LV.bool (!b)) (beq_self_eq_true _) : _ = LV.bool false) ?_
  refine HPlan.pickF rfl rfl rfl rfl ?_
  refine HPlan.fin ?_
  refine onNorm_n ?_
  refine HWp.cond_f rfl ?_
  refine HWp.skip ?_
  refine onNorm_n ?_
  refine HWp.seq ?_
  refine HWp.seq ?_
  refine HWp.text (.rd 0 .done) rfl ?_
  refine HPlan.assign rfl rfl rfl ?_
  refine HPlan.fin ?_
  refine onNorm_n ?_
  refine HWp.block ?_
  refine HWp.loopF (α := Nat) (fun k => l.length - k) (fun k => k ≤ l.length) (fun k => ⟨62, [(0, .ref s 0), (1, x), (5, r_R1_1), (6, .int .i64 (k : Int))]⟩) (fun k => (s, .cells 55 [.mp m, .int .i64 n] ver) :: (m, .map (entsV ks) mver) :: F) (fun k => T2) ?_ ?_
  · refine ⟨0, (Nat.zero_le _), (LessE.less (by repeat (first | exact LessE.nil | refine LessE.same rfl ?_ | refine LessE.own rfl ?_ | refine LessE.eq rfl ?_ (by first | rfl | (congr 1; omega) | simp))) rfl), (by repeat (first | exact Part.refl _ | refine Part.pull (by repeat (first | exact Pull.here | apply Pull.there)) ?_ | refine Part.skip _ ?_ | exact Part.nil _ | exact Part.app _ _)), (by repeat (first | exact Part.refl _ | refine Part.pull (by repeat (first | exact Pull.here | apply Pull.there)) ?_ | refine Part.skip _ ?_ | exact Part.nil _ | exact Part.app _ _))⟩
  · rintro k hk1
    refine HWp.seq ?_
    refine HWp.seq ?_
    refine HWp.text (.rd 0 (.rd 1 (.rd 2 (.rd 3 .done)))) rfl ?_
    refine HPlan.move rfl rfl rfl ?_
    refine HPlan.move rfl rfl rfl ?_
    refine HPlan.lenS rfl rfl rfl q_tk_27 (by first | exact IsSl.sl | exact IsSl.nils | assumption | exact growV_isSl (by assumption)) (by rw [List.length_map]) ?_
    refine HPlan.intBin rfl rfl rfl rfl rfl rfl ?_
    refine HPlan.fin ?_
    refine onNorm_n ?_
    refine HWp.cond rfl ?_ ?_
    · intro hc26
      first
      | (exact absurd hc26 Bool.false_ne_true)
      | (exact absurd hc26.symm Bool.false_ne_true)
      | ((try simp only [decide_eq_true_eq, decide_eq_false_iff_not, Bool.not_eq_true', Bool.not_eq_false', Bool.not_true, Bool.not_false, beq_iff_eq, bne_iff_ne, bne_eq_false_iff_eq, ne_eq, beq_eq_false_iff_ne, Int.not_lt, Int.not_le] at hc26); exfalso; omega)
      | (try simp only [decide_eq_true_eq, decide_eq_false_iff_not, Bool.not_eq_true', Bool.not_eq_false', Bool.not_true, Bool.not_false, beq_iff_eq, bne_iff_ne, bne_eq_false_iff_eq, ne_eq, beq_eq_false_iff_ne, Int.not_lt, Int.not_le] at hc26)
        refine HWp.skip ?_
        refine onNorm_n ?_
        refine HWp.seq ?_
        refine HWp.block ?_
        refine HWp.seq ?_
        refine HWp.text (.rd 0 (.rd 1 (.rd 2 (.rd 3 (.rd 4 (.rd 5 (.act 6 [] (.rd 7 (.rd 8 (.rd 9 (.rd 10 (.rd 11 .done)))))))))))) rfl ?_
        refine HPlan.move rfl rfl rfl ?_
        refine HPlan.move rfl rfl rfl ?_
        refine HPlan.move rfl rfl rfl ?_
        refine HPlan.indexS rfl rfl rfl rfl q_ix_27 (by first | exact IsSl.sl | exact IsSl.nils | assumption | exact growV_isSl (by assumption)) (by omega) (by simp only [List.length_map]; omega) (blob_at (l := l) (k := k) (by omega)) ?_
        refine HPlan.fieldAddr rfl rfl rfl rfl q_fo_37_0 rfl ?_
        refine HPlan.loadI rfl rfl rfl q_sh_29 (by rw [blob_len (hk _ (List.getElem_mem _))]; decide) (blob_dig (hk _ (List.getElem_mem _))) ?_
        refine HPlan.callS rfl rfl rfl q_en_13 (get_hit (hk _ (List.getElem_mem (by omega))) (x := l[k].2) s m ver mver n ks hkk (getK_of hu (hp.symm.subset (List.getElem_mem (by omega)))) F T2) (List.Perm.refl _) (List.Perm.refl _) ?_
        rintro r_R7_6 L_R7_6 T3 ⟨rfl, rfl, rfl⟩
        refine ⟨keptH_nil, ?_⟩
        refine HPlan.move rfl rfl rfl ?_
        refine HPlan.extract rfl rfl rfl rfl ?_
        refine HPlan.extract rfl rfl rfl rfl ?_
        refine HPlan.assign rfl rfl rfl ?_
        refine HPlan.assign rfl rfl rfl ?_
        refine HPlan.fin ?_
        refine onNorm_n ?_
        refine HWp.seq ?_
        refine HWp.draw q_mix (.rd 0 (.rd 1 (.rd 2 (.rd 3 (.rd 4 (.rd 5 (.rd 6 (.rd 7 (.rd 8 (.rd 9 (.rd 10 (.rd 11 (.rd 12 (.rd 13 (.rd 14 (.rd 15 (.rd 16 (.rd 17 (.rd 18 (.rd 19 (.rd 20 (.rd 21 (.rd 22 .done))))))))))))))))))))))) (by kernel_rfl) ?_
        refine HPlan.move rfl rfl rfl ?_
        refine HPlan.move rfl rfl rfl ?_
        refine HPlan.indexS rfl rfl rfl rfl q_ix_46 hsl (by omega) (by simp only [List.length_map]; omega) (dig_at (l := l) (k := k) (by omega)) ?_
        refine HPlan.loadI rfl rfl rfl q_sh_29 (by rw [dig_len (hk _ (List.getElem_mem _))]; decide) (dig_whole (hk _ (List.getElem_mem _))) ?_
        refine HPlan.move rfl rfl rfl ?_
        refine HPlan.move rfl rfl rfl ?_
        refine HPlan.indexS rfl rfl rfl rfl q_ix_27 (by first | exact IsSl.sl | exact IsSl.nils | assumption | exact growV_isSl (by assumption)) (by omega) (by simp only [List.length_map]; omega) (blob_at (l := l) (k := k) (by omega)) ?_
        refine HPlan.fieldAddr rfl rfl rfl rfl q_fo_37_0 rfl ?_
        refine HPlan.loadI rfl rfl rfl q_sh_29 (by rw [blob_len (hk _ (List.getElem_mem _))]; decide) (blob_dig (hk _ (List.getElem_mem _))) ?_
        refine HPlan.aggNe rfl rfl rfl rfl q_sh_29 q_ck_29 (by decide) q_eg_29 ((bytesLV_length _).trans (hk _ (List.getElem_mem _))) ((bytesLV_length _).trans (hk _ (List.getElem_mem _))) (fits_dig (hk _ (List.getElem_mem _))) (fits_dig (hk _ (List.getElem_mem _))) ((eq_dig _ _).trans (decide_eq_true rfl)) ?_
        refine HPlan.move rfl rfl rfl ?_
        refine HPlan.move rfl rfl rfl ?_
        refine HPlan.not rfl rfl rfl rfl ?_
        refine HPlan.pickF rfl rfl rfl rfl ?_
        refine HPlan.move rfl rfl rfl ?_
        refine HPlan.move rfl rfl rfl ?_
        refine HPlan.move rfl rfl rfl ?_
        refine HPlan.move rfl rfl rfl ?_
        refine HPlan.indexS rfl rfl rfl rfl q_ix_27 (by first | exact IsSl.sl | exact IsSl.nils | assumption | exact growV_isSl (by assumption)) (by omega) (by simp only [List.length_map]; omega) (blob_at (l := l) (k := k) (by omega)) ?_
        refine HPlan.fieldAddr rfl rfl rfl rfl q_fo_37_1 rfl ?_
        refine HPlan.loadI rfl rfl rfl q_sh_9 (by rw [blob_len (hk _ (List.getElem_mem _))]; decide) (blob_data (hk _ (List.getElem_mem _))) ?_
        refine HPlan.strBin rfl rfl rfl rfl trivial (congrArg (fun b => LV.bool (!b)) (decide_eq_true rfl) : _ = LV.bool false) ?_
        refine HPlan.pickF rfl rfl rfl rfl ?_
        refine HPlan.fin ?_
        refine onNorm_n ?_
        refine HWp.cond_f rfl ?_
        refine HWp.skip ?_
        refine onExitH_n ?_
        refine onNorm_n ?_
        refine HWp.text (.rd 0 (.rd 1 (.rd 2 .done))) rfl ?_
        refine HPlan.move rfl rfl rfl ?_
        refine HPlan.intBin rfl rfl rfl rfl rfl (by first | exact add_i64 (by omega) (by omega) | rfl) ?_
        refine HPlan.assign rfl rfl rfl ?_
        refine HPlan.fin ?_
        refine onNorm_n ?_
        refine ⟨(k + 1), (by omega), (by omega), (LessE.less (by repeat (first | exact LessE.nil | refine LessE.same rfl ?_ | refine LessE.own rfl ?_ | refine LessE.eq rfl ?_ (by first | rfl | (congr 1; omega) | simp))) rfl), (by repeat (first | exact Part.refl _ | refine Part.pull (by repeat (first | exact Pull.here | apply Pull.there)) ?_ | refine Part.skip _ ?_ | exact Part.nil _ | exact Part.app _ _)), (by repeat (first | exact Part.refl _ | refine Part.pull (by repeat (first | exact Pull.here | apply Pull.there)) ?_ | refine Part.skip _ ?_ | exact Part.nil _ | exact Part.app _ _))⟩
    · intro hc26
      first
      | (exact absurd hc26 Bool.false_ne_true)
      | (exact absurd hc26.symm Bool.false_ne_true)
      | ((try simp only [decide_eq_true_eq, decide_eq_false_iff_not, Bool.not_eq_true', Bool.not_eq_false', Bool.not_true, Bool.not_false, beq_iff_eq, bne_iff_ne, bne_eq_false_iff_eq, ne_eq, beq_eq_false_iff_ne, Int.not_lt, Int.not_le] at hc26); exfalso; omega)
      | (try simp only [decide_eq_true_eq, decide_eq_false_iff_not, Bool.not_eq_true', Bool.not_eq_false', Bool.not_true, Bool.not_false, beq_iff_eq, bne_iff_ne, bne_eq_false_iff_eq, ne_eq, beq_eq_false_iff_ne, Int.not_lt, Int.not_le] at hc26)
        refine HWp.exit ?_
        refine onNorm_e ?_
        refine onNorm_e ?_
        obtain rfl : k = l.length := by omega
        refine onExitH_hit ?_
        refine onNorm_n ?_
        refine HWp.seq ?_
        refine HWp.text (.rd 0 .done) rfl ?_
        refine HPlan.assign rfl rfl rfl ?_
        refine HPlan.fin ?_
        refine onNorm_n ?_
        refine HWp.ret ?_
        refine retQ_r (.tmp rfl .nil) ?_
        exact endK_of ⟨rfl, rfl, rfl⟩ (by repeat (first | exact Part.refl _ | refine Part.pull (by repeat (first | exact Pull.here | apply Pull.there)) ?_ | refine Part.skip _ ?_ | exact Part.nil _ | exact Part.app _ _)) (by repeat (first | exact Part.refl _ | refine Part.pull (by repeat (first | exact Pull.here | apply Pull.there)) ?_ | refine Part.skip _ ?_ | exact Part.nil _ | exact Part.app _ _))
end Go.Proofs.Ythfoobfgdakbmaa

set_option linter.unusedVariables false
set_option linter.unusedSimpArgs false
set_option maxRecDepth 100000
namespace Go.Proofs.Ythfoobfgdakbmaa
open Go Go.RowKit Go.L


abbrev Bl := List UInt8 × ByteArray
theorem wrap_in {n : Int} (h1 : -9223372036854775808 ≤ n) (h2 : n ≤ 9223372036854775807) : IntKind.i64.wrap n = n := wrap_i64 h1 h2
/-! ### Putting into the row -/
theorem insN_parts (b : Bl) (l : List Bl) : ∀ k, k ≤ l.length → ∃ A B, l.take k = A ++ B ∧ (insN b l k).1 = (if (insN b l k).2 then A ++ b :: B else A) ∧ (∀ q ∈ A, lexLt b.1 q.1 = false) ∧
    ((insN b l k).2 = true → ∃ y ys, B = y :: ys ∧ lexLt b.1 y.1 = true) ∧ ((insN b l k).2 = false → B = [])
  | 0, _ => ⟨[], [], rfl, rfl, fun q h => (nomatch h), fun h => (nomatch h), fun _ => rfl⟩
  | k + 1, hk => by
    obtain ⟨A, B, h1, h2, h3, h4, h5⟩ := insN_parts b l k (by omega)
    have ht : l.take (k + 1) = l.take k ++ [l[k]] := by rw [List.take_add_one, List.getElem?_eq_getElem (by omega)]; rfl
    cases hd : (insN b l k).2 with
    | true =>
      obtain ⟨y, ys, rfl, hy⟩ := h4 hd
      refine ⟨A, (y :: ys) ++ [l[k]], ?_, ?_, h3, fun _ => ⟨y, ys ++ [l[k]], rfl, hy⟩, fun h => ?_⟩
      · rw [ht, h1, List.append_assoc]
      · rw [insN_no (by omega) (.inl hd)]
        simp only [hd, if_true] at h2 ⊢
        rw [h2]; simp
      · rw [insN_no (by omega) (.inl hd)] at h
        simp [hd] at h
    | false =>
      obtain rfl := h5 hd
      simp only [hd, List.append_nil] at h1 h2
      simp only [Bool.false_eq_true, if_false] at h2
      cases hl : lexLt b.1 l[k].1 with
      | true =>
        rw [insN_yes (by omega) hd hl]
        refine ⟨A, [l[k]], by rw [ht, h1], ?_, h3, fun _ => ⟨_, _, rfl, hl⟩, fun h => by simp at h⟩
        simp [h2]
      | false =>
        rw [insN_no (by omega) (.inr hl)]
        refine ⟨A ++ [l[k]], [], by rw [ht, h1]; simp, ?_, fun q hq => ?_, fun h => by simp [hd] at h, fun _ => rfl⟩
        · simp [h2, hd]
        · rcases List.mem_append.1 hq with hq | hq
          · exact h3 q hq
          · simp at hq; subst hq; exact hl
theorem insF_parts (b : Bl) (l : List Bl) : ∃ A B, l = A ++ B ∧ insF b l = A ++ b :: B ∧ (∀ q ∈ A, lexLt b.1 q.1 = false) ∧ (B = [] ∨ ∃ y ys, B = y :: ys ∧ lexLt b.1 y.1 = true) := by
  obtain ⟨A, B, h1, h2, h3, h4, h5⟩ := insN_parts b l l.length (Nat.le_refl _)
  rw [List.take_length] at h1
  refine ⟨A, B, h1, ?_, h3, ?_⟩
  · unfold insF
    cases hd : (insN b l l.length).2 with
    | true => simp only [hd, if_true] at h2 ⊢; exact h2
    | false => rw [h5 hd]; simp only [hd, Bool.false_eq_true, if_false] at h2 ⊢; rw [h2]
  · cases hd : (insN b l l.length).2 with
    | true => exact .inr (h4 hd)
    | false => exact .inl (h5 hd)
theorem insF_perm (b : Bl) (l : List Bl) : (insF b l).Perm (b :: l) := by
  obtain ⟨A, B, rfl, h2, -, -⟩ := insF_parts b l
  rw [h2]
  exact List.perm_middle
theorem insF_rise {b : Bl} {l : List Bl} (hb : b.1.length = 32) (hk : Keys32 l) (hr : Rise (l.map (·.1))) : Rise ((insF b l).map (·.1)) := by
  obtain ⟨A, B, rfl, h2, h3, h4⟩ := insF_parts b l
  rw [h2]
  rw [List.map_append, Rise, List.pairwise_append] at hr
  obtain ⟨r1, r2, r3⟩ := hr
  rw [List.map_append, List.map_cons, Rise, List.pairwise_append, List.pairwise_cons]
  have hlt : ∀ q ∈ A ++ B, lexLt b.1 q.1 = decide (Lib.compareBytes b.1 q.1 < 0) := fun q hq => lexLt_cb (by rw [hb, hk q hq])
  refine ⟨r1, ⟨fun z hz => ?_, r2⟩, fun x hx z hz => ?_⟩
  · rcases h4 with rfl | ⟨y, ys, rfl, hy⟩
    · cases hz
    · rw [hlt y (by simp)] at hy
      have hy := of_decide_eq_true hy
      intro hzb
      have hzy := cb_trans hzb hy
      rw [List.map_cons, List.pairwise_cons] at r2
      rcases List.mem_cons.1 hz with rfl | hz
      · have hzy : Lib.compareBytes y.1 y.1 < 0 := hzy
        rw [cb_refl] at hzy; omega
      · exact r2.1 z hz hzy
  · rcases List.mem_cons.1 hz with rfl | hz
    · obtain ⟨q, hq, rfl⟩ := List.mem_map.1 hx
      have := h3 q hq
      rw [hlt q (by simp [hq])] at this
      exact of_decide_eq_false this
    · exact r3 x hx z hz
/-! ### Finding -/
theorem findK_none {d : List UInt8} : ∀ {l : List Bl} {i : Nat}, findK d l i = none → d ∉ l.map (·.1)
  | [], _, _ => by simp
  | q :: r, i, h => by
    simp only [findK] at h
    split at h
    · cases h
    · rename_i hn
      rw [List.map_cons, List.mem_cons, not_or]
      exact ⟨fun e => hn e.symm, findK_none h⟩
theorem findK_some {d : List UInt8} : ∀ {l : List Bl} {i j : Nat}, findK d l i = some j → i ≤ j ∧ ∃ p, l[j - i]? = some p ∧ p.1 = d
  | [], _, _, h => by cases h
  | q :: r, i, j, h => by
    simp only [findK] at h
    split at h
    · rename_i e
      cases h
      exact ⟨Nat.le_refl _, q, by simp, e⟩
    · obtain ⟨h1, p, h2, h3⟩ := findK_some h
      refine ⟨by omega, p, ?_, h3⟩
      rw [show j - i = (j - (i + 1)) + 1 by omega]
      simpa using h2
theorem findV_pos {d : List UInt8} {l : List Bl} (h : 0 ≤ findV d l) : ∃ (j : Nat) (p : Bl), findV d l = (j : Int) ∧ l[j]? = some p ∧ p.1 = d := by
  unfold findV at h ⊢
  cases e : findK d l 0 with
  | none => rw [e] at h; simp at h
  | some j =>
    obtain ⟨-, p, h2, h3⟩ := findK_some e
    exact ⟨j, p, rfl, by simpa using h2, h3⟩
theorem findV_mem {d : List UInt8} {l : List Bl} : 0 ≤ findV d l ↔ d ∈ l.map (·.1) := by
  constructor
  · intro h
    obtain ⟨j, p, -, h2, rfl⟩ := findV_pos h
    exact List.mem_map_of_mem (List.mem_of_getElem? h2)
  · intro h
    unfold findV
    cases e : findK d l 0 with
    | none => exact absurd h (findK_none e)
    | some j => simp only; omega
theorem getK_isSome {d : List UInt8} {ks : List Bl} : (getK d ks).isSome = decide (d ∈ ks.map (·.1)) := by
  rw [Bool.eq_iff_iff, decide_eq_true_eq]
  cases e : getK d ks with
  | none => simp only [Option.isSome_none, Bool.false_eq_true, false_iff]; exact getK_none.1 e
  | some x =>
    simp only [Option.isSome_some, true_iff]
    apply Classical.byContradiction
    intro h
    rw [getK_none.2 h] at e; cases e
/-! ### Sizes -/
def sumK (ks : List Bl) : Nat := (ks.map (·.2.size)).sum
theorem sumK_perm {a b : List Bl} (h : a.Perm b) : sumK a = sumK b := (h.map _).sum_nat
theorem sumK_le {ks : List Bl} (h : ∀ p ∈ ks, p.2.size ≤ 300) : sumK ks ≤ 300 * ks.length := by
  induction ks with
  | nil => simp [sumK]
  | cons p r ih =>
    have := ih (fun q hq => h q (List.mem_cons_of_mem _ hq))
    have := h p List.mem_cons_self
    simp only [sumK, List.map_cons, List.sum_cons, List.length_cons] at *
    omega
theorem totalK_take {l : List Bl} (h : ∀ p ∈ l, p.2.size ≤ 300) (hl : l.length ≤ 1000) : ∀ k, k ≤ l.length → totalK l k = (sumK (l.take k) : Nat)
  | 0, _ => by simp [totalK, sumK]
  | k + 1, hk => by
    have ht : l.take (k + 1) = l.take k ++ [l[k]] := by rw [List.take_add_one, List.getElem?_eq_getElem (by omega)]; rfl
    have e : sumK (l.take (k + 1)) = sumK (l.take k) + l[k].2.size := by
      unfold sumK
      rw [ht, List.map_append, List.sum_append, List.map_singleton]; simp
    have := sumK_le (ks := l.take k) (fun p hp => h p (List.mem_of_mem_take hp))
    have h1 := h l[k] (List.getElem_mem _)
    rw [List.length_take] at this
    simp only [totalK, totalK_take h hl k (by omega), List.getElem?_eq_getElem (show k < l.length by omega), Option.map_some, Option.getD_some]
    rw [wrap_in (by omega) (by omega), e]; omega
theorem totalK_sum {l : List Bl} (h : ∀ p ∈ l, p.2.size ≤ 300) (hl : l.length ≤ 1000) : totalK l l.length = (sumK l : Nat) := by
  have := totalK_take h hl l.length (Nat.le_refl _)
  rwa [List.take_length] at this
/-! ### Dropping -/
theorem delK_filter {d : List UInt8} : ∀ {ks : List Bl}, (ks.map (·.1)).Nodup → delK d ks = ks.filter fun p => !decide (p.1 = d)
  | [], _ => rfl
  | q :: r, h => by
    rw [List.map_cons, List.nodup_cons] at h
    simp only [delK]
    by_cases e : d = q.1
    · subst e
      rw [if_pos rfl, List.filter_cons_of_neg (by simp)]
      rw [List.filter_eq_self.2]
      intro p hp
      have : p.1 ≠ q.1 := fun e => h.1 (List.mem_map.2 ⟨p, hp, e⟩)
      simp [this]
    · rw [if_neg e, List.filter_cons_of_pos (by simp; exact fun h => e h.symm), delK_filter h.2]
theorem delK_none {d : List UInt8} {ks : List Bl} (h : getK d ks = none) : ks.filter (fun p => !decide (p.1 = d)) = ks := by
  rw [List.filter_eq_self]
  intro p hp
  have : p.1 ≠ d := fun e => getK_none.1 h (List.mem_map.2 ⟨p, hp, e⟩)
  simp [this]
theorem delK_sum {d : List UInt8} {x : ByteArray} : ∀ {ks : List Bl}, getK d ks = some x → sumK ks = sumK (delK d ks) + x.size
  | [], h => by cases h
  | q :: r, h => by
    simp only [getK] at h
    simp only [delK]
    split at h
    · rename_i e
      cases h
      rw [if_pos e]; simp [sumK]; omega
    · rename_i e
      rw [if_neg e]
      have := delK_sum h
      simp only [sumK, List.map_cons, List.sum_cons] at *
      omega
/-! ### A store and the row beside it -/
structure PInv (i : Nat) (ks l : List Bl) (n : Int) : Prop where
  len : l.length ≤ i
  perm : ks.Perm l
  rise : Rise (l.map (·.1))
  nod : (ks.map (·.1)).Nodup
  keys : Keys32 l
  size : ∀ p ∈ l, p.2.size ≤ 300
  sum : n = (sumK ks : Nat)
theorem PInv.nil : PInv 0 [] [] 0 := ⟨Nat.zero_le _, .refl _, .nil, .nil, keys32_nil, fun p h => (nomatch h), rfl⟩
section
variable {i : Nat} {ks l : List Bl} {n : Int}
theorem PInv.next (h : PInv i ks l n) : PInv (i + 1) ks l n := { h with len := Nat.le_succ_of_le h.len }
theorem PInv.kkeys (h : PInv i ks l n) : Keys32 ks := fun p hp => h.keys p (h.perm.subset hp)
theorem PInv.is (h : PInv i ks l n) (d : List UInt8) : (getK d ks).isSome = decide (0 ≤ findV d l) := by
  rw [getK_isSome]
  exact decide_eq_decide.2 (by rw [findV_mem]; exact (h.perm.map _).mem_iff)
def putF (b : Bl) (l : List Bl) : List Bl := if 0 ≤ findV b.1 l then l else insF b l
theorem PInv.put (h : PInv i ks l n) (hi : i ≤ 40) {D : List UInt8} {x : ByteArray} (hD : D.length = 32) (hx : x.size ≤ 300) :
    PInv (i + 1) (if (getK D ks).isSome then ks else putK D x ks) (putF (D, x) l) (if (getK D ks).isSome then n else IntKind.i64.wrap (n + x.size)) := by
  rw [h.is D]
  unfold putF
  by_cases hf : 0 ≤ findV D l
  · rw [decide_eq_true hf, if_pos rfl, if_pos rfl, if_pos hf]
    exact h.next
  · have hg : getK D ks = none := by
      have := h.is D
      rw [decide_eq_false hf] at this
      simpa using this
    have hs := sumK_le (ks := ks) (fun p hp => h.size p (h.perm.subset hp))
    have hl := h.len
    have hpl := h.perm.length_eq
    rw [decide_eq_false hf, if_neg (by simp), if_neg hf, if_neg (by simp), putK_new hg, h.sum, wrap_in (by omega) (by omega)]
    refine ⟨?_, ?_, insF_rise hD h.keys h.rise, ?_, ?_, ?_, ?_⟩
    · rw [(insF_perm _ _).length_eq]; simp; omega
    · exact ((h.perm.append_right _).trans (List.perm_append_comm)).trans (insF_perm _ _).symm
    · rw [List.map_append, List.nodup_append]
      refine ⟨h.nod, by simp, fun a ha b hb => ?_⟩
      simp at hb; subst hb
      exact fun e => getK_none.1 hg (e ▸ ha)
    · intro p hp
      rcases List.mem_cons.1 ((insF_perm _ _).subset hp) with rfl | hp
      · exact hD
      · exact h.keys p hp
    · intro p hp
      rcases List.mem_cons.1 ((insF_perm _ _).subset hp) with rfl | hp
      · exact hx
      · exact h.size p hp
    · simp [sumK]
theorem PInv.drop (h : PInv i ks l n) (hi : i ≤ 40) (d : List UInt8) :
    PInv (i + 1) (if (getK d ks).isSome then delK d ks else ks) (dropF d l) (if (getK d ks).isSome then IntKind.i64.wrap (n - ((getK d ks).getD .empty).size) else n) := by
  have hs := sumK_le (ks := ks) (fun p hp => h.size p (h.perm.subset hp))
  have hl := h.len
  have hpl := h.perm.length_eq
  have hsub : (dropF d l).Sublist l := List.filter_sublist
  have key : PInv (i + 1) (ks.filter fun p => !decide (p.1 = d)) (dropF d l) (sumK (ks.filter fun p => !decide (p.1 = d)) : Nat) := by
    refine ⟨?_, h.perm.filter _, ?_, ?_, fun p hp => h.keys p (hsub.subset hp), fun p hp => h.size p (hsub.subset hp), rfl⟩
    · have := hsub.length_le; omega
    · exact List.Pairwise.sublist (hsub.map _) h.rise
    · exact List.Pairwise.sublist ((List.filter_sublist).map _) h.nod
  cases hg : getK d ks with
  | none =>
    simp only [Option.isSome_none, Bool.false_eq_true, if_false]
    rw [delK_none hg, ← h.sum] at key
    exact key
  | some x =>
    simp only [Option.isSome_some, if_true, Option.getD_some]
    have hsum := delK_sum hg
    rw [← delK_filter h.nod] at key
    rw [h.sum, hsum, wrap_in (by omega) (by omega)]
    have e : ((sumK (delK d ks) + x.size : Nat) : Int) - x.size = (sumK (delK d ks) : Nat) := by omega
    rw [e]; exact key
theorem PInv.hit (h : PInv i ks l n) {d : List UInt8} (hf : 0 ≤ findV d l) : findV d l < l.length ∧ ∃ p ∈ l, (l.map blobV).getD (findV d l).toNat .und = blobV p ∧ p.2 = (getK d ks).getD .empty := by
  obtain ⟨j, p, h1, h2, rfl⟩ := findV_pos hf
  have hj := (List.getElem?_eq_some_iff.1 h2).1
  refine ⟨by omega, p, List.mem_of_getElem? h2, ?_, ?_⟩
  · rw [h1]; simp [List.getD_eq_getElem?_getD, h2]
  · rw [getK_of h.nod (h.perm.symm.subset (List.mem_of_getElem? h2)) (x := p.2)]; rfl
theorem PInv.miss (h : PInv i ks l n) {d : List UInt8} (hf : ¬ 0 ≤ findV d l) : getK d ks = none := by
  have := h.is d
  rw [decide_eq_false hf] at this
  simpa using this
theorem PInv.same (h : PInv i ks l n) (hi : i ≤ 41) (s m ver mver : Nat) {x : LV} (hx : IsSl 33 (l.map blobV) x) (F : Hp) (T : Tk) :
    HCalls Try.prog 19 [.ref s 0, x] ((s, .cells 55 [.mp m, .int .i64 n] ver) :: (m, .map (entsV ks) mver) :: F) T (fun r L' T' => r = .bool true ∧ L' = (s, .cells 55 [.mp m, .int .i64 n] ver) :: (m, .map (entsV ks) mver) :: F ∧ T' = T) := by
  have hl := h.len
  exact same_true s m ver mver n ks l h.keys h.kkeys (by rw [totalK_sum h.size (by omega), h.sum, sumK_perm h.perm]) h.perm h.rise h.nod (by omega) x hx F T
end

end Go.Proofs.Ythfoobfgdakbmaa

set_option linter.unusedVariables false
set_option linter.unusedSimpArgs false
set_option maxRecDepth 100000
namespace Go.Proofs.Ythfoobfgdakbmaa
open Go Go.RowKit Go.L
theorem q_en_8 : enterable Try.prog 8 = true := by kernel_rfl
theorem q_en_9 : enterable Try.prog 9 = true := by kernel_rfl
theorem q_sh_31 : shapeOf Try.prog 31 = some (true, 35) := by kernel_rfl
theorem q_zo_31 : zeroOf Try.prog 31 = some (LV.agg [(LV.int .u8 0), (LV.str .empty), (LV.bool false), (LV.int .u8 0), (LV.int .u8 0), (LV.int .u8 0), (LV.int .u8 0), (LV.int .u8 0), (LV.int .u8 0), (LV.int .u8 0), (LV.int .u8 0), (LV.int .u8 0), (LV.int .u8 0), (LV.int .u8 0), (LV.int .u8 0), (LV.int .u8 0), (LV.int .u8 0), (LV.int .u8 0), (LV.int .u8 0), (LV.int .u8 0), (LV.int .u8 0), (LV.int .u8 0), (LV.int .u8 0), (LV.int .u8 0), (LV.int .u8 0), (LV.int .u8 0), (LV.int .u8 0), (LV.int .u8 0), (LV.int .u8 0), (LV.int .u8 0), (LV.int .u8 0), (LV.int .u8 0), (LV.int .u8 0), (LV.int .u8 0), (LV.int .u8 0)]) := by kernel_rfl
theorem q_sz_31 : sizeOfT Try.prog 31 = some 35 := by kernel_rfl
theorem q_en_11 : enterable Try.prog 11 = true := by kernel_rfl
theorem q_fo_31_0 : fieldOff Try.prog 31 0 = some 0 := by kernel_rfl
theorem q_en_19 : enterable Try.prog 19 = true := by kernel_rfl
theorem q_en_15 : enterable Try.prog 15 = true := by kernel_rfl
theorem q_zo_37 : zeroOf Try.prog 37 = some (LV.agg [(LV.int .u8 0), (LV.int .u8 0), (LV.int .u8 0), (LV.int .u8 0), (LV.int .u8 0), (LV.int .u8 0), (LV.int .u8 0), (LV.int .u8 0), (LV.int .u8 0), (LV.int .u8 0), (LV.int .u8 0), (LV.int .u8 0), (LV.int .u8 0), (LV.int .u8 0), (LV.int .u8 0), (LV.int .u8 0), (LV.int .u8 0), (LV.int .u8 0), (LV.int .u8 0), (LV.int .u8 0), (LV.int .u8 0), (LV.int .u8 0), (LV.int .u8 0), (LV.int .u8 0), (LV.int .u8 0), (LV.int .u8 0), (LV.int .u8 0), (LV.int .u8 0), (LV.int .u8 0), (LV.int .u8 0), (LV.int .u8 0), (LV.int .u8 0), (LV.str .empty)]) := by kernel_rfl
theorem q_pl_37 : placesOf Try.prog 37 = some (fun i => ([(0, 32), (32, 1)] : List (Nat × Nat))[i]?) := by kernel_rfl
theorem q_en_18 : enterable Try.prog 18 = true := by kernel_rfl
theorem q_f_3 : Try.prog.funcs[3]? = some Try.f3 := by kernel_rfl

structure PSt where
  i : Nat
  ks : List Bl
  l : List Bl
  row : LV
  ver : Nat
  mver : Nat
  n : Int
def actC (a : ActD) : List LV := [.int .u8 a.kind.toNat, .str a.data, .bool a.is] ++ bytesLV a.other
theorem actC_len {a : ActD} (h : a.other.length = 32) : (actC a).length = 35 := by simp [actC, h]
theorem actC_kind (a : ActD) : (bif false then LV.agg (((actC a).drop (0 + 0)).take 1) else ((actC a).drop (0 + 0)).headD .und) = .int .u8 (a.kind.toNat : Int) := rfl
theorem actC_data (a : ActD) : (bif false then LV.agg (((actC a).drop (0 + 1)).take 1) else ((actC a).drop (0 + 1)).headD .und) = .str a.data := rfl
theorem perm22 {α : Type} (a b c d : α) (l : List α) : (a :: b :: c :: d :: l).Perm (c :: d :: a :: b :: l) :=
  (((List.Perm.swap c b (d :: l)).cons a).trans (List.Perm.swap c a (b :: d :: l))).trans ((((List.Perm.swap d b l).cons a).trans (List.Perm.swap d a (b :: l))).cons c)
theorem greatF_false {l : List ActD} (h : greatF l = false) : l.length ≤ 40 ∧ ∀ a ∈ l, a.data.size ≤ 300 := by
  simp only [greatF, Bool.or_eq_false_iff, decide_eq_false_iff_not, List.any_eq_false, decide_eq_true_eq] at h
  exact ⟨by omega, fun a ha => by have := h.2 a ha; omega⟩
section
variable {i : Nat} {ks l : List Bl} {n : Int}
theorem put_play (h : PInv i ks l n) (hi : i ≤ 40) {D : List UInt8} {data : ByteArray} (hD : shaF [data] = D) (hs : data.size ≤ 300) (s m ver mver : Nat) (F : Hp) (T : Tk) :
    HCalls Try.prog 16 [.ref s 0, .str data] ((s, .cells 55 [.mp m, .int .i64 n] ver) :: (m, .map (entsV ks) mver) :: F) T (fun r L' T' => r = digV D ∧ T' = T ∧ ∃ ver' mver' ks' n', PInv (i + 1) ks' (putF (D, data) l) n' ∧ L' = (s, .cells 55 [.mp m, .int .i64 n'] ver') :: (m, .map (entsV ks') mver') :: F) := by
  have hDl : D.length = 32 := by rw [← hD]; exact shaF_length _
  have h1 := blobs_put data (by omega) s m ver mver n ks h.kkeys F T
  have h2 := h.put hi hDl hs
  rw [hD] at h1
  refine HCalls.mono h1 fun r L' T' ⟨e1, e2, v, mv, e3⟩ => ⟨e1, e2, v, mv, _, _, h2, e3⟩
theorem drop_play (h : PInv i ks l n) (hi : i ≤ 40) {d : List UInt8} (hd : d.length = 32) (s m ver mver : Nat) (F : Hp) (T : Tk) :
    HCalls Try.prog 14 [.ref s 0, digV d] ((s, .cells 55 [.mp m, .int .i64 n] ver) :: (m, .map (entsV ks) mver) :: F) T (fun r L' T' => r = .bool (decide (0 ≤ findV d l)) ∧ T' = T ∧ ∃ ver' mver' ks' n', PInv (i + 1) ks' (dropF d l) n' ∧ L' = (s, .cells 55 [.mp m, .int .i64 n'] ver') :: (m, .map (entsV ks') mver') :: F) := by
  have h1 := blobs_drop d hd s m ver mver n ks h.kkeys F T
  have h2 := h.drop hi d
  refine HCalls.mono h1 fun r L' T' ⟨e1, e2, v, mv, e3⟩ => ⟨by rw [e1, h.is], e2, v, mv, _, _, h2, e3⟩
theorem get_play (h : PInv i ks l n) {d : List UInt8} (hd : d.length = 32) (s m ver mver : Nat) (F : Hp) (T : Tk) :
    HCalls Try.prog 13 [.ref s 0, digV d] ((s, .cells 55 [.mp m, .int .i64 n] ver) :: (m, .map (entsV ks) mver) :: F) T (fun r L' T' => r = .tup [.str ((getK d ks).getD .empty), .bool (decide (0 ≤ findV d l))] ∧ L' = (s, .cells 55 [.mp m, .int .i64 n] ver) :: (m, .map (entsV ks) mver) :: F ∧ T' = T) := by
  have h1 := blobs_get d hd s m ver mver n ks h.kkeys F T
  unfold gotV at h1
  rw [h.is] at h1
  exact h1
theorem row_put (h : PInv i ks l n) (hi : i ≤ 40) {D : List UInt8} {data : ByteArray} (hDl : D.length = 32) {x : LV} (hx : IsSl 33 (l.map blobV) x) (F : Hp) (T : Tk) :
    HCalls Try.prog 18 [x, blobV (D, data)] F T (fun r L' T' => IsSl 33 ((putF (D, data) l).map blobV) r ∧ L' = F ∧ ∃ T0, T' = T0 ++ T) := by
  have hl := h.len
  have h1 := ref_put l h.keys (by omega) (D, data) hDl x hx F T
  refine HCalls.mono h1 fun r L' T' ⟨e1, e2⟩ => ?_
  unfold putF
  rcases e2 with ⟨e2, rfl, rfl⟩ | ⟨e2, o, hg, rfl, rfl⟩
  · rw [if_pos e2]; exact ⟨hx, e1, [], rfl⟩
  · rw [if_neg (by omega)]; exact ⟨growV_isSl hg, e1, _, rfl⟩
theorem row_drop (h : PInv i ks l n) (hi : i ≤ 40) {d : List UInt8} (hd : d.length = 32) {x : LV} (hx : IsSl 33 (l.map blobV) x) (F : Hp) (T : Tk) :
    HCalls Try.prog 15 [x, digV d] F T (fun r L' T' => IsSl 33 ((dropF d l).map blobV) r ∧ L' = F ∧ ∃ T0, T' = T0 ++ T) := by
  have hl := h.len
  have h1 := ref_drop l h.keys (by omega) d hd x hx F T
  exact HCalls.mono h1 fun r L' T' ⟨o, hg, e1, e2, e3⟩ => ⟨by rw [e1]; exact growV_isSl hg, e2, _, e3⟩
end

theorem plays_law (acts : List ActD) (ho : Acts32 acts) (hl : acts.length < 70368744177664) (x : LV) (hx : IsSl 35 (acts.map actV) x) : HPure Try.prog 3 [x] (.bool true) := by
  intro L T
  refine HCalls.enterG q_f_3 rfl ?_
  refine HWp.frame (r' := ⟨103, [(0, x)]⟩) rfl ?_
  refine HWp.seq ?_
  refine HWp.text (.rd 0 .done) rfl ?_
  refine HPlan.assign rfl rfl rfl ?_
  refine HPlan.fin ?_
  refine onNorm_n ?_
  refine HWp.seq ?_
  refine HWp.seq ?_
  refine HWp.text (.act 0 [] (.rd 1 .done)) rfl ?_
  refine HPlan.callS rfl rfl rfl q_en_7 (alive_spec L T) (List.Perm.refl _) (List.Perm.refl _) ?_
  rintro r_R1_0 L_R1_0 T1 ⟨rfl, rfl, rfl⟩
  refine ⟨keptH_nil, ?_⟩
  refine HPlan.not rfl rfl rfl rfl ?_
  refine HPlan.fin ?_
  refine onNorm_n ?_
  refine HWp.cond_f rfl ?_
  refine HWp.skip ?_
  refine onNorm_n ?_
  refine HWp.seq ?_
  refine HWp.seq ?_
  refine HWp.text (.rd 0 (.act 1 [] (.rd 2 (.rd 3 (.act 4 [] (.rd 5 .done)))))) rfl ?_
  refine HPlan.move rfl rfl rfl ?_
  refine HPlan.callPure rfl rfl rfl q_en_8 (great_spec acts ho hl x hx) keptH_nil ?_
  refine HPlan.move rfl rfl rfl ?_
  refine HPlan.split ?_ ?_
  · intro hb3_2
    first
    | (exact absurd hb3_2 Bool.false_ne_true)
    | (exact absurd hb3_2.symm Bool.false_ne_true)
    | ((try simp only [decide_eq_true_eq, decide_eq_false_iff_not, Bool.not_eq_true', Bool.not_eq_false', Bool.not_true, Bool.not_false, beq_iff_eq, bne_iff_ne, bne_eq_false_iff_eq, ne_eq, beq_eq_false_iff_ne, Int.not_lt, Int.not_le] at hb3_2); exfalso; omega)
    | (try simp only [decide_eq_true_eq, decide_eq_false_iff_not, Bool.not_eq_true', Bool.not_eq_false', Bool.not_true, Bool.not_false, beq_iff_eq, bne_iff_ne, bne_eq_false_iff_eq, ne_eq, beq_eq_false_iff_ne, Int.not_lt, Int.not_le] at hb3_2)
      refine HPlan.leftR rfl rfl ?_
      refine HPlan.leftA rfl rfl ?_
      refine HPlan.pickT rfl rfl rfl rfl ?_
      refine HPlan.fin ?_
      refine onNorm_n ?_
      refine HWp.cond_t rfl ?_
      refine HWp.seq ?_
      refine HWp.text (.rd 0 .done) rfl ?_
      refine HPlan.assign rfl rfl rfl ?_
      refine HPlan.fin ?_
      refine onNorm_n ?_
      refine HWp.ret ?_
      refine onNorm_r ?_
      refine retQ_r (.tmp rfl .nil) ?_
      exact endK_of ⟨rfl, rfl, rfl⟩ (by repeat (first | exact Part.refl _ | refine Part.pull (by repeat (first | exact Pull.here | apply Pull.there)) ?_ | refine Part.skip _ ?_ | exact Part.nil _ | exact Part.app _ _)) (by repeat (first | exact Part.refl _ | refine Part.pull (by repeat (first | exact Pull.here | apply Pull.there)) ?_ | refine Part.skip _ ?_ | exact Part.nil _ | exact Part.app _ _))
  · intro hb3_2
    first
    | (exact absurd hb3_2 Bool.false_ne_true)
    | (exact absurd hb3_2.symm Bool.false_ne_true)
    | ((try simp only [decide_eq_true_eq, decide_eq_false_iff_not, Bool.not_eq_true', Bool.not_eq_false', Bool.not_true, Bool.not_false, beq_iff_eq, bne_iff_ne, bne_eq_false_iff_eq, ne_eq, beq_eq_false_iff_ne, Int.not_lt, Int.not_le] at hb3_2); exfalso; omega)
    | (try simp only [decide_eq_true_eq, decide_eq_false_iff_not, Bool.not_eq_true', Bool.not_eq_false', Bool.not_true, Bool.not_false, beq_iff_eq, bne_iff_ne, bne_eq_false_iff_eq, ne_eq, beq_eq_false_iff_ne, Int.not_lt, Int.not_le] at hb3_2)
      have hlen := (greatF_false hb3_2).1
      have hsz := (greatF_false hb3_2).2
      refine HPlan.move rfl rfl rfl ?_
      refine HPlan.callPure rfl rfl rfl q_en_9 (clash_spec acts ho hl (fun a h => by have := hsz a h; omega) x hx) keptH_nil ?_
      refine HPlan.pickF rfl rfl rfl rfl ?_
      refine HPlan.fin ?_
      refine onNorm_n ?_
      refine HWp.cond rfl ?_ ?_
      · intro hc18
        first
        | (exact absurd hc18 Bool.false_ne_true)
        | (exact absurd hc18.symm Bool.false_ne_true)
        | ((try simp only [decide_eq_true_eq, decide_eq_false_iff_not, Bool.not_eq_true', Bool.not_eq_false', Bool.not_true, Bool.not_false, beq_iff_eq, bne_iff_ne, bne_eq_false_iff_eq, ne_eq, beq_eq_false_iff_ne, Int.not_lt, Int.not_le] at hc18); exfalso; omega)
        | (try simp only [decide_eq_true_eq, decide_eq_false_iff_not, Bool.not_eq_true', Bool.not_eq_false', Bool.not_true, Bool.not_false, beq_iff_eq, bne_iff_ne, bne_eq_false_iff_eq, ne_eq, beq_eq_false_iff_ne, Int.not_lt, Int.not_le] at hc18)
          refine HWp.seq ?_
          refine HWp.text (.rd 0 .done) rfl ?_
          refine HPlan.assign rfl rfl rfl ?_
          refine HPlan.fin ?_
          refine onNorm_n ?_
          refine HWp.ret ?_
          refine onNorm_r ?_
          refine retQ_r (.tmp rfl .nil) ?_
          exact endK_of ⟨rfl, rfl, rfl⟩ (by repeat (first | exact Part.refl _ | refine Part.pull (by repeat (first | exact Pull.here | apply Pull.there)) ?_ | refine Part.skip _ ?_ | exact Part.nil _ | exact Part.app _ _)) (by repeat (first | exact Part.refl _ | refine Part.pull (by repeat (first | exact Pull.here | apply Pull.there)) ?_ | refine Part.skip _ ?_ | exact Part.nil _ | exact Part.app _ _))
      · intro hc18
        first
        | (exact absurd hc18 Bool.false_ne_true)
        | (exact absurd hc18.symm Bool.false_ne_true)
        | ((try simp only [decide_eq_true_eq, decide_eq_false_iff_not, Bool.not_eq_true', Bool.not_eq_false', Bool.not_true, Bool.not_false, beq_iff_eq, bne_iff_ne, bne_eq_false_iff_eq, ne_eq, beq_eq_false_iff_ne, Int.not_lt, Int.not_le] at hc18); exfalso; omega)
        | (try simp only [decide_eq_true_eq, decide_eq_false_iff_not, Bool.not_eq_true', Bool.not_eq_false', Bool.not_true, Bool.not_false, beq_iff_eq, bne_iff_ne, bne_eq_false_iff_eq, ne_eq, beq_eq_false_iff_ne, Int.not_lt, Int.not_le] at hc18)
          refine HWp.skip ?_
          refine onNorm_n ?_
          refine HWp.seq ?_
          refine HWp.text (.act 0 [] (.rd 1 .done)) rfl ?_
          refine HPlan.callS rfl rfl rfl q_en_10 (blobs_new L_R1_0 T1) (List.Perm.refl _) (List.Perm.refl _) ?_
          rintro r_R5_0 L_R5_0 T2 ⟨s, m, rfl, rfl, rfl⟩
          refine ⟨keptH_nil, ?_⟩
          refine HPlan.assign rfl rfl rfl ?_
          refine HPlan.fin ?_
          refine onNorm_n ?_
          refine HWp.seq ?_
          refine HWp.text (.rd 0 .done) rfl ?_
          refine HPlan.assign rfl rfl rfl ?_
          refine HPlan.fin ?_
          refine onNorm_n ?_
          refine HWp.seq ?_
          refine HWp.seq ?_
          refine HWp.text (.rd 0 .done) rfl ?_
          refine HPlan.assign rfl rfl rfl ?_
          refine HPlan.fin ?_
          refine onNorm_n ?_
          refine HWp.block ?_
          refine HWp.loopF (α := PSt) (fun v => acts.length - v.i) (fun v => v.i ≤ acts.length ∧ PInv v.i v.ks v.l v.n ∧ IsSl 33 (v.l.map blobV) v.row) (fun v => ⟨103, [(0, x), (3, .ref s 0), (4, v.row), (5, .int .i64 (v.i : Int))]⟩) (fun v => (s, .cells 55 [.mp m, .int .i64 v.n] v.ver) :: (m, .map (entsV v.ks) v.mver) :: L_R1_0) (fun v => T2) ?_ ?_
          · refine ⟨⟨0, [], [], .nils, 0, 0, 0⟩, ⟨Nat.zero_le _, PInv.nil, IsSl.nils⟩, (LessE.less (by repeat (first | exact LessE.nil | refine LessE.same rfl ?_ | refine LessE.own rfl ?_ | refine LessE.eq rfl ?_ (by first | rfl | (congr 1; omega) | simp))) rfl), (by repeat (first | exact Part.refl _ | refine Part.pull (by repeat (first | exact Pull.here | apply Pull.there)) ?_ | refine Part.skip _ ?_ | exact Part.nil _ | exact Part.app _ _)), (by repeat (first | exact Part.refl _ | refine Part.pull (by repeat (first | exact Pull.here | apply Pull.there)) ?_ | refine Part.skip _ ?_ | exact Part.nil _ | exact Part.app _ _))⟩
          · rintro v ⟨hi1, hI, hrow⟩
            have hkl := hI.len
            refine HWp.seq ?_
            refine HWp.seq ?_
            refine HWp.text (.rd 0 (.rd 1 (.rd 2 (.rd 3 .done)))) rfl ?_
            refine HPlan.move rfl rfl rfl ?_
            refine HPlan.move rfl rfl rfl ?_
            refine HPlan.lenS rfl rfl rfl q_tk_22 (by first | exact IsSl.sl | exact IsSl.nils | assumption | exact growV_isSl (by assumption)) (by rw [List.length_map]) ?_
            refine HPlan.intBin rfl rfl rfl rfl rfl rfl ?_
            refine HPlan.fin ?_
            refine onNorm_n ?_
            refine HWp.cond rfl ?_ ?_
            · intro hc23
              first
              | (exact absurd hc23 Bool.false_ne_true)
              | (exact absurd hc23.symm Bool.false_ne_true)
              | ((try simp only [decide_eq_true_eq, decide_eq_false_iff_not, Bool.not_eq_true', Bool.not_eq_false', Bool.not_true, Bool.not_false, beq_iff_eq, bne_iff_ne, bne_eq_false_iff_eq, ne_eq, beq_eq_false_iff_ne, Int.not_lt, Int.not_le] at hc23); exfalso; omega)
              | (try simp only [decide_eq_true_eq, decide_eq_false_iff_not, Bool.not_eq_true', Bool.not_eq_false', Bool.not_true, Bool.not_false, beq_iff_eq, bne_iff_ne, bne_eq_false_iff_eq, ne_eq, beq_eq_false_iff_ne, Int.not_lt, Int.not_le] at hc23)
                obtain ⟨a, ha⟩ : ∃ a, acts[v.i]'(by omega) = a := ⟨_, rfl⟩
                have hao : a.other.length = 32 := by rw [← ha]; exact ho _ (List.getElem_mem _)
                have has : a.data.size ≤ 300 := by rw [← ha]; exact hsz _ (List.getElem_mem _)
                obtain ⟨d, hd⟩ : ∃ d, askF a = d := ⟨_, rfl⟩
                have hdl : d.length = 32 := by rw [← hd]; exact askF_len hao
                obtain ⟨D, hD⟩ : ∃ D, shaF [a.data] = D := ⟨_, rfl⟩
                have hDl : D.length = 32 := by rw [← hD]; exact shaF_length _
                refine HWp.skip ?_
                refine onNorm_n ?_
                refine HWp.seq ?_
                refine HWp.block ?_
                refine HWp.seq ?_
                refine HWp.text (.rd 0 (.rd 1 (.rd 2 (.rd 3 (.act 4 [] (.act 5 [] .done)))))) rfl ?_
                refine HPlan.move rfl rfl rfl ?_
                refine HPlan.move rfl rfl rfl ?_
                refine HPlan.indexS rfl rfl rfl rfl q_ix_22 (by first | exact IsSl.sl | exact IsSl.nils | assumption | exact growV_isSl (by assumption)) (by omega) (by simp only [List.length_map]; omega) ((act_at (l := acts) (k := v.i) (by omega)).trans (congrArg actV ha)) ?_
                refine HPlan.loadI rfl rfl rfl q_sh_31 (by rw [act_len hao]; decide) (act_all hao) ?_
                refine HPlan.alloc rfl rfl q_zo_31 (by first | rfl | (simp; done)) (fun i6 => ⟨keptH_nil, ?_⟩)
                refine HPlan.store rfl rfl rfl rfl q_sz_31 (act_solid a) (act_len hao) (by repeat (first | exact List.Mem.head _ | apply List.Mem.tail | assumption)) (splice_all _ (actC a) (by simp; exact actC_len hao)) (by repeat (first | exact Upd.here | apply Upd.there)) (by simp) keptH_nil ?_
                refine HPlan.fin ?_
                refine onNorm_n ?_
                refine HWp.seq ?_
                refine HWp.text (.rd 0 (.act 1 [] (.act 2 [] (.act 3 [] .done)))) rfl ?_
                refine HPlan.load rfl rfl rfl q_sh_31 (by repeat (first | exact List.Mem.head _ | apply List.Mem.tail | assumption)) (by constructor <;> simp [actC_len hao]) (load_all (actC a) 35 (actC_len hao) : _ = actV a) ?_
                refine HPlan.callPure rfl rfl rfl q_en_11 (asked_spec a hao (by omega)) keptH_nil ?_
                rw [hd]
                refine HPlan.alloc rfl rfl q_zo_29 (by first | rfl | (simp; done)) (fun i7 => ⟨keptH_nil, ?_⟩)
                refine HPlan.store rfl rfl rfl rfl q_sz_29 (digV_solid d) ((bytesLV_length d).trans hdl) (by repeat (first | exact List.Mem.head _ | apply List.Mem.tail | assumption)) (splice_all _ (bytesLV d) (by simp; exact hdl)) (by repeat (first | exact Upd.here | apply Upd.there)) (by simp) keptH_nil ?_
                refine HPlan.fin ?_
                refine onNorm_n ?_
                refine HWp.seq ?_
                refine HWp.text (.rd 0 (.rd 1 (.act 2 [] (.rd 3 .done)))) rfl ?_
                refine HPlan.move rfl rfl rfl ?_
                refine HPlan.load rfl rfl rfl q_sh_29 (by repeat (first | exact List.Mem.head _ | apply List.Mem.tail | assumption)) (by constructor <;> simp [hdl]) (load_all (bytesLV d) 32 ((bytesLV_length d).trans hdl)) ?_
                refine HPlan.callPure rfl rfl rfl q_en_12 (ref_find v.l hI.keys (by omega) d hdl v.row hrow) keptH_nil ?_
                refine HPlan.assign rfl rfl rfl ?_
                refine HPlan.fin ?_
                refine onNorm_n ?_
                refine HWp.seq ?_
                refine HWp.seq ?_
                refine HWp.text (.rd 0 (.rd 1 (.rd 2 .done))) rfl ?_
                refine HPlan.fieldAddr rfl rfl rfl rfl q_fo_31_0 rfl ?_
                refine HPlan.load rfl rfl rfl q_sh_5 (by repeat (first | exact List.Mem.head _ | apply List.Mem.tail | assumption)) (by constructor <;> simp [actC, hao]) (actC_kind a) ?_
                refine HPlan.intBin rfl rfl rfl rfl ⟨rfl, by omega⟩ rfl ?_
                refine HPlan.fin ?_
                refine onNorm_n ?_
                refine HWp.block ?_
                refine HWp.seq ?_
                refine HWp.text (.rd 0 (.rd 1 .done)) rfl ?_
                refine HPlan.intBin rfl rfl rfl rfl rfl rfl ?_
                refine HPlan.assign rfl rfl rfl ?_
                refine HPlan.fin ?_
                refine onNorm_n ?_
                refine HWp.cond rfl ?_ ?_
                · intro hc56
                  first
                  | (exact absurd hc56 Bool.false_ne_true)
                  | (exact absurd hc56.symm Bool.false_ne_true)
                  | ((try simp only [decide_eq_true_eq, decide_eq_false_iff_not, Bool.not_eq_true', Bool.not_eq_false', Bool.not_true, Bool.not_false, beq_iff_eq, bne_iff_ne, bne_eq_false_iff_eq, ne_eq, beq_eq_false_iff_ne, Int.not_lt, Int.not_le] at hc56); exfalso; omega)
                  | (try simp only [decide_eq_true_eq, decide_eq_false_iff_not, Bool.not_eq_true', Bool.not_eq_false', Bool.not_true, Bool.not_false, beq_iff_eq, bne_iff_ne, bne_eq_false_iff_eq, ne_eq, beq_eq_false_iff_ne, Int.not_lt, Int.not_le] at hc56)
                    refine HWp.seq ?_
                    refine HWp.text (.rd 0 (.rd 1 (.act 2 [] (.rd 3 (.rd 4 (.rd 5 (.rd 6 (.rd 7 .done)))))))) rfl ?_
                    refine HPlan.move rfl rfl rfl ?_
                    refine HPlan.load rfl rfl rfl q_sh_29 (by repeat (first | exact List.Mem.head _ | apply List.Mem.tail | assumption)) (by constructor <;> simp [hdl]) (load_all (bytesLV d) 32 ((bytesLV_length d).trans hdl)) ?_
                    refine HPlan.callS rfl rfl rfl q_en_13 (get_play hI hdl s m v.ver v.mver _ _) (perm22 _ _ _ _ _) (List.Perm.refl _) ?_
                    rintro r_R18_2 L_R18_2 T3 ⟨rfl, rfl, rfl⟩
                    refine ⟨keptH_nil, ?_⟩
                    have hI1 := hI.next
                    have hrow1 := hrow
                    refine HPlan.move rfl rfl rfl ?_
                    refine HPlan.extract rfl rfl rfl rfl ?_
                    refine HPlan.extract rfl rfl rfl rfl ?_
                    refine HPlan.assign rfl rfl rfl ?_
                    refine HPlan.assign rfl rfl rfl ?_
                    refine HPlan.fin ?_
                    refine onNorm_n ?_
                    refine HWp.seq ?_
                    refine HWp.text (.rd 0 (.rd 1 (.rd 2 (.rd 3 (.rd 4 (.rd 5 (.rd 6 (.rd 7 (.rd 8 (.rd 9 (.rd 10 (.rd 11 (.rd 12 (.rd 13 (.rd 14 (.rd 15 (.rd 16 (.rd 17 (.rd 18 (.rd 19 (.rd 20 (.rd 21 (.rd 22 (.rd 23 .done)))))))))))))))))))))))) rfl ?_
                    refine HPlan.move rfl rfl rfl ?_
                    refine HPlan.move rfl rfl rfl ?_
                    refine HPlan.intBin rfl rfl rfl rfl rfl rfl ?_
                    refine HPlan.boolNe rfl rfl rfl rfl q_bo_4 ?_
                    rw [beq_self_eq_true]
                    refine HPlan.move rfl rfl rfl ?_
                    refine HPlan.move rfl rfl rfl ?_
                    refine HPlan.move rfl rfl rfl ?_
                    refine HPlan.split ?_ ?_
                    · intro hb19_6
                      first
                      | (exact absurd hb19_6 Bool.false_ne_true)
                      | (exact absurd hb19_6.symm Bool.false_ne_true)
                      | ((try simp only [decide_eq_true_eq, decide_eq_false_iff_not, Bool.not_eq_true', Bool.not_eq_false', Bool.not_true, Bool.not_false, beq_iff_eq, bne_iff_ne, bne_eq_false_iff_eq, ne_eq, beq_eq_false_iff_ne, Int.not_lt, Int.not_le] at hb19_6); exfalso; omega)
                      | (try simp only [decide_eq_true_eq, decide_eq_false_iff_not, Bool.not_eq_true', Bool.not_eq_false', Bool.not_true, Bool.not_false, beq_iff_eq, bne_iff_ne, bne_eq_false_iff_eq, ne_eq, beq_eq_false_iff_ne, Int.not_lt, Int.not_le] at hb19_6)
                        obtain ⟨hfl, p, hp, hpa, hpd⟩ := hI.hit hb19_6
                        refine HPlan.move rfl rfl rfl ?_
                        refine HPlan.move rfl rfl rfl ?_
                        refine HPlan.move rfl rfl rfl ?_
                        refine HPlan.indexS rfl rfl rfl rfl q_ix_27 hrow hb19_6 (by rw [List.length_map]; omega) hpa ?_
                        refine HPlan.fieldAddr rfl rfl rfl rfl q_fo_37_1 rfl ?_
                        refine HPlan.loadI rfl rfl rfl q_sh_9 (by rw [blob_len (hI.keys p hp)]; decide) (blob_data (hI.keys p hp)) ?_
                        refine HPlan.strBin rfl rfl rfl rfl trivial (by rw [hpd]; exact congrArg (fun b => LV.bool (!b)) (decide_eq_true rfl) : _ = LV.bool false) ?_
                        refine HPlan.pickT rfl rfl rfl rfl ?_
                        refine HPlan.pickF rfl rfl rfl rfl ?_
                        refine HPlan.move rfl rfl rfl ?_
                        refine HPlan.move rfl rfl rfl ?_
                        refine HPlan.not rfl rfl rfl rfl ?_
                        refine HPlan.move rfl rfl rfl ?_
                        refine HPlan.split ?_ ?_
                        · intro hb19_19
                          first
                          | (exact absurd hb19_19 Bool.false_ne_true)
                          | (exact absurd hb19_19.symm Bool.false_ne_true)
                          | ((try simp only [decide_eq_true_eq, decide_eq_false_iff_not, Bool.not_eq_true', Bool.not_eq_false', Bool.not_true, Bool.not_false, beq_iff_eq, bne_iff_ne, bne_eq_false_iff_eq, ne_eq, beq_eq_false_iff_ne, Int.not_lt, Int.not_le] at hb19_19); exfalso; omega)
                          | (try simp only [decide_eq_true_eq, decide_eq_false_iff_not, Bool.not_eq_true', Bool.not_eq_false', Bool.not_true, Bool.not_false, beq_iff_eq, bne_iff_ne, bne_eq_false_iff_eq, ne_eq, beq_eq_false_iff_ne, Int.not_lt, Int.not_le] at hb19_19)
                            refine HPlan.move rfl rfl rfl ?_
                            refine HPlan.strBin rfl rfl rfl rfl trivial (by rw [hI.miss (by omega)]; exact congrArg (fun b => LV.bool (!b)) (decide_eq_true rfl) : _ = LV.bool false) ?_
                            refine HPlan.pickT rfl rfl rfl rfl ?_
                            refine HPlan.pickF rfl rfl rfl rfl ?_
                            refine HPlan.fin ?_
                            refine onNorm_n ?_
                            refine HWp.cond_f rfl ?_
                            refine HWp.skip ?_
                            refine onExitH_n ?_
                            refine onNorm_n ?_
                            refine HWp.seq ?_
                            refine HWp.text (.rd 0 (.rd 1 (.act 2 [] (.rd 3 .done)))) rfl ?_
                            refine HPlan.move rfl rfl rfl ?_
                            refine HPlan.move rfl rfl rfl ?_
                            refine HPlan.callS rfl rfl rfl q_en_19 (hI1.same (by omega) s m _ _ hrow1 _ _) (List.Perm.refl _) (List.Perm.refl _) ?_
                            rintro r_R25_2 L_R25_2 T5 ⟨rfl, rfl, rfl⟩
                            refine ⟨keptH_nil, ?_⟩
                            refine HPlan.not rfl rfl rfl rfl ?_
                            refine HPlan.fin ?_
                            refine onNorm_n ?_
                            refine HWp.cond_f rfl ?_
                            refine HWp.skip ?_
                            refine onExitH_n ?_
                            refine onNorm_n ?_
                            refine HWp.text (.rd 0 (.rd 1 (.rd 2 .done))) rfl ?_
                            refine HPlan.move rfl rfl rfl ?_
                            refine HPlan.intBin rfl rfl rfl rfl rfl (by first | exact add_i64 (by omega) (by omega) | rfl) ?_
                            refine HPlan.assign rfl rfl rfl ?_
                            refine HPlan.fin ?_
                            refine onNorm_n ?_
                            refine ⟨⟨v.i + 1, _, _, _, _, _, _⟩, (by show acts.length - (v.i + 1) < acts.length - v.i; omega), ⟨by show v.i + 1 ≤ acts.length; omega, hI1, hrow1⟩, (LessE.less (by repeat (first | exact LessE.nil | refine LessE.same rfl ?_ | refine LessE.own rfl ?_ | refine LessE.eq rfl ?_ (by first | rfl | (congr 1; omega) | simp))) rfl), (by repeat (first | exact Part.refl _ | refine Part.pull (by repeat (first | exact Pull.here | apply Pull.there)) ?_ | refine Part.skip _ ?_ | exact Part.nil _ | exact Part.app _ _)), (by repeat (first | exact Part.refl _ | refine Part.pull (by repeat (first | exact Pull.here | apply Pull.there)) ?_ | refine Part.skip _ ?_ | exact Part.nil _ | exact Part.app _ _))⟩
                        · intro hb19_19
                          first
                          | (exact absurd hb19_19 Bool.false_ne_true)
                          | (exact absurd hb19_19.symm Bool.false_ne_true)
                          | ((try simp only [decide_eq_true_eq, decide_eq_false_iff_not, Bool.not_eq_true', Bool.not_eq_false', Bool.not_true, Bool.not_false, beq_iff_eq, bne_iff_ne, bne_eq_false_iff_eq, ne_eq, beq_eq_false_iff_ne, Int.not_lt, Int.not_le] at hb19_19); exfalso; omega)
                          | (try simp only [decide_eq_true_eq, decide_eq_false_iff_not, Bool.not_eq_true', Bool.not_eq_false', Bool.not_true, Bool.not_false, beq_iff_eq, bne_iff_ne, bne_eq_false_iff_eq, ne_eq, beq_eq_false_iff_ne, Int.not_lt, Int.not_le] at hb19_19)
                            refine HPlan.leftR rfl rfl ?_
                            refine HPlan.leftR rfl rfl ?_
                            refine HPlan.pickF rfl rfl rfl rfl ?_
                            refine HPlan.pickF rfl rfl rfl rfl ?_
                            refine HPlan.fin ?_
                            refine onNorm_n ?_
                            refine HWp.cond_f rfl ?_
                            refine HWp.skip ?_
                            refine onExitH_n ?_
                            refine onNorm_n ?_
                            refine HWp.seq ?_
                            refine HWp.text (.rd 0 (.rd 1 (.act 2 [] (.rd 3 .done)))) rfl ?_
                            refine HPlan.move rfl rfl rfl ?_
                            refine HPlan.move rfl rfl rfl ?_
                            refine HPlan.callS rfl rfl rfl q_en_19 (hI1.same (by omega) s m _ _ hrow1 _ _) (List.Perm.refl _) (List.Perm.refl _) ?_
                            rintro r_R25_2 L_R25_2 T5 ⟨rfl, rfl, rfl⟩
                            refine ⟨keptH_nil, ?_⟩
                            refine HPlan.not rfl rfl rfl rfl ?_
                            refine HPlan.fin ?_
                            refine onNorm_n ?_
                            refine HWp.cond_f rfl ?_
                            refine HWp.skip ?_
                            refine onExitH_n ?_
                            refine onNorm_n ?_
                            refine HWp.text (.rd 0 (.rd 1 (.rd 2 .done))) rfl ?_
                            refine HPlan.move rfl rfl rfl ?_
                            refine HPlan.intBin rfl rfl rfl rfl rfl (by first | exact add_i64 (by omega) (by omega) | rfl) ?_
                            refine HPlan.assign rfl rfl rfl ?_
                            refine HPlan.fin ?_
                            refine onNorm_n ?_
                            refine ⟨⟨v.i + 1, _, _, _, _, _, _⟩, (by show acts.length - (v.i + 1) < acts.length - v.i; omega), ⟨by show v.i + 1 ≤ acts.length; omega, hI1, hrow1⟩, (LessE.less (by repeat (first | exact LessE.nil | refine LessE.same rfl ?_ | refine LessE.own rfl ?_ | refine LessE.eq rfl ?_ (by first | rfl | (congr 1; omega) | simp))) rfl), (by repeat (first | exact Part.refl _ | refine Part.pull (by repeat (first | exact Pull.here | apply Pull.there)) ?_ | refine Part.skip _ ?_ | exact Part.nil _ | exact Part.app _ _)), (by repeat (first | exact Part.refl _ | refine Part.pull (by repeat (first | exact Pull.here | apply Pull.there)) ?_ | refine Part.skip _ ?_ | exact Part.nil _ | exact Part.app _ _))⟩
                    · intro hb19_6
                      first
                      | (exact absurd hb19_6 Bool.false_ne_true)
                      | (exact absurd hb19_6.symm Bool.false_ne_true)
                      | ((try simp only [decide_eq_true_eq, decide_eq_false_iff_not, Bool.not_eq_true', Bool.not_eq_false', Bool.not_true, Bool.not_false, beq_iff_eq, bne_iff_ne, bne_eq_false_iff_eq, ne_eq, beq_eq_false_iff_ne, Int.not_lt, Int.not_le] at hb19_6); exfalso; omega)
                      | (try simp only [decide_eq_true_eq, decide_eq_false_iff_not, Bool.not_eq_true', Bool.not_eq_false', Bool.not_true, Bool.not_false, beq_iff_eq, bne_iff_ne, bne_eq_false_iff_eq, ne_eq, beq_eq_false_iff_ne, Int.not_lt, Int.not_le] at hb19_6)
                        refine HPlan.leftR rfl rfl ?_
                        refine HPlan.leftR rfl rfl ?_
                        refine HPlan.leftR rfl rfl ?_
                        refine HPlan.leftR rfl rfl ?_
                        refine HPlan.leftR rfl rfl ?_
                        refine HPlan.leftR rfl rfl ?_
                        refine HPlan.leftR rfl rfl ?_
                        refine HPlan.pickF rfl rfl rfl rfl ?_
                        refine HPlan.pickF rfl rfl rfl rfl ?_
                        refine HPlan.move rfl rfl rfl ?_
                        refine HPlan.move rfl rfl rfl ?_
                        refine HPlan.not rfl rfl rfl rfl ?_
                        refine HPlan.move rfl rfl rfl ?_
                        refine HPlan.split ?_ ?_
                        · intro hb19_19
                          first
                          | (exact absurd hb19_19 Bool.false_ne_true)
                          | (exact absurd hb19_19.symm Bool.false_ne_true)
                          | ((try simp only [decide_eq_true_eq, decide_eq_false_iff_not, Bool.not_eq_true', Bool.not_eq_false', Bool.not_true, Bool.not_false, beq_iff_eq, bne_iff_ne, bne_eq_false_iff_eq, ne_eq, beq_eq_false_iff_ne, Int.not_lt, Int.not_le] at hb19_19); exfalso; omega)
                          | (try simp only [decide_eq_true_eq, decide_eq_false_iff_not, Bool.not_eq_true', Bool.not_eq_false', Bool.not_true, Bool.not_false, beq_iff_eq, bne_iff_ne, bne_eq_false_iff_eq, ne_eq, beq_eq_false_iff_ne, Int.not_lt, Int.not_le] at hb19_19)
                            refine HPlan.move rfl rfl rfl ?_
                            refine HPlan.strBin rfl rfl rfl rfl trivial (by rw [hI.miss (by omega)]; exact congrArg (fun b => LV.bool (!b)) (decide_eq_true rfl) : _ = LV.bool false) ?_
                            refine HPlan.pickT rfl rfl rfl rfl ?_
                            refine HPlan.pickF rfl rfl rfl rfl ?_
                            refine HPlan.fin ?_
                            refine onNorm_n ?_
                            refine HWp.cond_f rfl ?_
                            refine HWp.skip ?_
                            refine onExitH_n ?_
                            refine onNorm_n ?_
                            refine HWp.seq ?_
                            refine HWp.text (.rd 0 (.rd 1 (.act 2 [] (.rd 3 .done)))) rfl ?_
                            refine HPlan.move rfl rfl rfl ?_
                            refine HPlan.move rfl rfl rfl ?_
                            refine HPlan.callS rfl rfl rfl q_en_19 (hI1.same (by omega) s m _ _ hrow1 _ _) (List.Perm.refl _) (List.Perm.refl _) ?_
                            rintro r_R25_2 L_R25_2 T5 ⟨rfl, rfl, rfl⟩
                            refine ⟨keptH_nil, ?_⟩
                            refine HPlan.not rfl rfl rfl rfl ?_
                            refine HPlan.fin ?_
                            refine onNorm_n ?_
                            refine HWp.cond_f rfl ?_
                            refine HWp.skip ?_
                            refine onExitH_n ?_
                            refine onNorm_n ?_
                            refine HWp.text (.rd 0 (.rd 1 (.rd 2 .done))) rfl ?_
                            refine HPlan.move rfl rfl rfl ?_
                            refine HPlan.intBin rfl rfl rfl rfl rfl (by first | exact add_i64 (by omega) (by omega) | rfl) ?_
                            refine HPlan.assign rfl rfl rfl ?_
                            refine HPlan.fin ?_
                            refine onNorm_n ?_
                            refine ⟨⟨v.i + 1, _, _, _, _, _, _⟩, (by show acts.length - (v.i + 1) < acts.length - v.i; omega), ⟨by show v.i + 1 ≤ acts.length; omega, hI1, hrow1⟩, (LessE.less (by repeat (first | exact LessE.nil | refine LessE.same rfl ?_ | refine LessE.own rfl ?_ | refine LessE.eq rfl ?_ (by first | rfl | (congr 1; omega) | simp))) rfl), (by repeat (first | exact Part.refl _ | refine Part.pull (by repeat (first | exact Pull.here | apply Pull.there)) ?_ | refine Part.skip _ ?_ | exact Part.nil _ | exact Part.app _ _)), (by repeat (first | exact Part.refl _ | refine Part.pull (by repeat (first | exact Pull.here | apply Pull.there)) ?_ | refine Part.skip _ ?_ | exact Part.nil _ | exact Part.app _ _))⟩
                        · intro hb19_19
                          first
                          | (exact absurd hb19_19 Bool.false_ne_true)
                          | (exact absurd hb19_19.symm Bool.false_ne_true)
                          | ((try simp only [decide_eq_true_eq, decide_eq_false_iff_not, Bool.not_eq_true', Bool.not_eq_false', Bool.not_true, Bool.not_false, beq_iff_eq, bne_iff_ne, bne_eq_false_iff_eq, ne_eq, beq_eq_false_iff_ne, Int.not_lt, Int.not_le] at hb19_19); exfalso; omega)
                          | (try simp only [decide_eq_true_eq, decide_eq_false_iff_not, Bool.not_eq_true', Bool.not_eq_false', Bool.not_true, Bool.not_false, beq_iff_eq, bne_iff_ne, bne_eq_false_iff_eq, ne_eq, beq_eq_false_iff_ne, Int.not_lt, Int.not_le] at hb19_19)
                            refine HPlan.leftR rfl rfl ?_
                            refine HPlan.leftR rfl rfl ?_
                            refine HPlan.pickF rfl rfl rfl rfl ?_
                            refine HPlan.pickF rfl rfl rfl rfl ?_
                            refine HPlan.fin ?_
                            refine onNorm_n ?_
                            refine HWp.cond_f rfl ?_
                            refine HWp.skip ?_
                            refine onExitH_n ?_
                            refine onNorm_n ?_
                            refine HWp.seq ?_
                            refine HWp.text (.rd 0 (.rd 1 (.act 2 [] (.rd 3 .done)))) rfl ?_
                            refine HPlan.move rfl rfl rfl ?_
                            refine HPlan.move rfl rfl rfl ?_
                            refine HPlan.callS rfl rfl rfl q_en_19 (hI1.same (by omega) s m _ _ hrow1 _ _) (List.Perm.refl _) (List.Perm.refl _) ?_
                            rintro r_R25_2 L_R25_2 T5 ⟨rfl, rfl, rfl⟩
                            refine ⟨keptH_nil, ?_⟩
                            refine HPlan.not rfl rfl rfl rfl ?_
                            refine HPlan.fin ?_
                            refine onNorm_n ?_
                            refine HWp.cond_f rfl ?_
                            refine HWp.skip ?_
                            refine onExitH_n ?_
                            refine onNorm_n ?_
                            refine HWp.text (.rd 0 (.rd 1 (.rd 2 .done))) rfl ?_
                            refine HPlan.move rfl rfl rfl ?_
                            refine HPlan.intBin rfl rfl rfl rfl rfl (by first | exact add_i64 (by omega) (by omega) | rfl) ?_
                            refine HPlan.assign rfl rfl rfl ?_
                            refine HPlan.fin ?_
                            refine onNorm_n ?_
                            refine ⟨⟨v.i + 1, _, _, _, _, _, _⟩, (by show acts.length - (v.i + 1) < acts.length - v.i; omega), ⟨by show v.i + 1 ≤ acts.length; omega, hI1, hrow1⟩, (LessE.less (by repeat (first | exact LessE.nil | refine LessE.same rfl ?_ | refine LessE.own rfl ?_ | refine LessE.eq rfl ?_ (by first | rfl | (congr 1; omega) | simp))) rfl), (by repeat (first | exact Part.refl _ | refine Part.pull (by repeat (first | exact Pull.here | apply Pull.there)) ?_ | refine Part.skip _ ?_ | exact Part.nil _ | exact Part.app _ _)), (by repeat (first | exact Part.refl _ | refine Part.pull (by repeat (first | exact Pull.here | apply Pull.there)) ?_ | refine Part.skip _ ?_ | exact Part.nil _ | exact Part.app _ _))⟩
                · intro hc56
                  first
                  | (exact absurd hc56 Bool.false_ne_true)
                  | (exact absurd hc56.symm Bool.false_ne_true)
                  | ((try simp only [decide_eq_true_eq, decide_eq_false_iff_not, Bool.not_eq_true', Bool.not_eq_false', Bool.not_true, Bool.not_false, beq_iff_eq, bne_iff_ne, bne_eq_false_iff_eq, ne_eq, beq_eq_false_iff_ne, Int.not_lt, Int.not_le] at hc56); exfalso; omega)
                  | (try simp only [decide_eq_true_eq, decide_eq_false_iff_not, Bool.not_eq_true', Bool.not_eq_false', Bool.not_true, Bool.not_false, beq_iff_eq, bne_iff_ne, bne_eq_false_iff_eq, ne_eq, beq_eq_false_iff_ne, Int.not_lt, Int.not_le] at hc56)
                    refine HWp.seq ?_
                    refine HWp.text (.rd 0 (.rd 1 .done)) rfl ?_
                    refine HPlan.intBin rfl rfl rfl rfl rfl rfl ?_
                    refine HPlan.assign rfl rfl rfl ?_
                    refine HPlan.fin ?_
                    refine onNorm_n ?_
                    refine HWp.cond rfl ?_ ?_
                    · intro hc88
                      first
                      | (exact absurd hc88 Bool.false_ne_true)
                      | (exact absurd hc88.symm Bool.false_ne_true)
                      | ((try simp only [decide_eq_true_eq, decide_eq_false_iff_not, Bool.not_eq_true', Bool.not_eq_false', Bool.not_true, Bool.not_false, beq_iff_eq, bne_iff_ne, bne_eq_false_iff_eq, ne_eq, beq_eq_false_iff_ne, Int.not_lt, Int.not_le] at hc88); exfalso; omega)
                      | (try simp only [decide_eq_true_eq, decide_eq_false_iff_not, Bool.not_eq_true', Bool.not_eq_false', Bool.not_true, Bool.not_false, beq_iff_eq, bne_iff_ne, bne_eq_false_iff_eq, ne_eq, beq_eq_false_iff_ne, Int.not_lt, Int.not_le] at hc88)
                        refine HWp.seq ?_
                        refine HWp.seq ?_
                        refine HWp.text (.rd 0 (.rd 1 (.act 2 [] (.rd 3 (.rd 4 (.rd 5 .done)))))) rfl ?_
                        refine HPlan.move rfl rfl rfl ?_
                        refine HPlan.load rfl rfl rfl q_sh_29 (by repeat (first | exact List.Mem.head _ | apply List.Mem.tail | assumption)) (by constructor <;> simp [hdl]) (load_all (bytesLV d) 32 ((bytesLV_length d).trans hdl)) ?_
                        refine HPlan.callS rfl rfl rfl q_en_14 (drop_play hI (by omega) hdl s m v.ver v.mver _ _) (perm22 _ _ _ _ _) (List.Perm.refl _) ?_
                        rintro r_R22_2 L_R22_2 T3 ⟨rfl, rfl, ver1, mver1, ks1, n1, hI1, rfl⟩
                        refine ⟨keptH_nil, ?_⟩
                        refine HPlan.move rfl rfl rfl ?_
                        refine HPlan.intBin rfl rfl rfl rfl rfl rfl ?_
                        refine HPlan.boolNe rfl rfl rfl rfl q_bo_4 ?_
                        rw [beq_self_eq_true]
                        refine HPlan.fin ?_
                        refine onNorm_n ?_
                        refine HWp.cond_f rfl ?_
                        refine HWp.skip ?_
                        refine onNorm_n ?_
                        refine HWp.text (.rd 0 (.rd 1 (.act 2 [] (.rd 3 .done)))) rfl ?_
                        refine HPlan.move rfl rfl rfl ?_
                        refine HPlan.load rfl rfl rfl q_sh_29 (by repeat (first | exact List.Mem.head _ | apply List.Mem.tail | assumption)) (by constructor <;> simp [hdl]) (load_all (bytesLV d) 32 ((bytesLV_length d).trans hdl)) ?_
                        refine HPlan.callS rfl rfl rfl q_en_15 (row_drop hI (by omega) hdl hrow _ _) (List.Perm.refl _) (List.Perm.refl _) ?_
                        rintro r_R24_2 L_R24_2 T4 ⟨hrow1, rfl, T0, rfl⟩
                        refine ⟨keptH_nil, ?_⟩
                        refine HPlan.assign rfl rfl rfl ?_
                        refine HPlan.fin ?_
                        refine onExitH_n ?_
                        refine onNorm_n ?_
                        refine HWp.seq ?_
                        refine HWp.text (.rd 0 (.rd 1 (.act 2 [] (.rd 3 .done)))) rfl ?_
                        refine HPlan.move rfl rfl rfl ?_
                        refine HPlan.move rfl rfl rfl ?_
                        refine HPlan.callS rfl rfl rfl q_en_19 (hI1.same (by omega) s m _ _ hrow1 _ _) (List.Perm.refl _) (List.Perm.refl _) ?_
                        rintro r_R25_2 L_R25_2 T5 ⟨rfl, rfl, rfl⟩
                        refine ⟨keptH_nil, ?_⟩
                        refine HPlan.not rfl rfl rfl rfl ?_
                        refine HPlan.fin ?_
                        refine onNorm_n ?_
                        refine HWp.cond_f rfl ?_
                        refine HWp.skip ?_
                        refine onExitH_n ?_
                        refine onNorm_n ?_
                        refine HWp.text (.rd 0 (.rd 1 (.rd 2 .done))) rfl ?_
                        refine HPlan.move rfl rfl rfl ?_
                        refine HPlan.intBin rfl rfl rfl rfl rfl (by first | exact add_i64 (by omega) (by omega) | rfl) ?_
                        refine HPlan.assign rfl rfl rfl ?_
                        refine HPlan.fin ?_
                        refine onNorm_n ?_
                        refine ⟨⟨v.i + 1, _, _, _, _, _, _⟩, (by show acts.length - (v.i + 1) < acts.length - v.i; omega), ⟨by show v.i + 1 ≤ acts.length; omega, hI1, hrow1⟩, (LessE.less (by repeat (first | exact LessE.nil | refine LessE.same rfl ?_ | refine LessE.own rfl ?_ | refine LessE.eq rfl ?_ (by first | rfl | (congr 1; omega) | simp))) rfl), (by repeat (first | exact Part.refl _ | refine Part.pull (by repeat (first | exact Pull.here | apply Pull.there)) ?_ | refine Part.skip _ ?_ | exact Part.nil _ | exact Part.app _ _)), (by repeat (first | exact Part.refl _ | refine Part.pull (by repeat (first | exact Pull.here | apply Pull.there)) ?_ | refine Part.skip _ ?_ | exact Part.nil _ | exact Part.app _ _))⟩
                    · intro hc88
                      first
                      | (exact absurd hc88 Bool.false_ne_true)
                      | (exact absurd hc88.symm Bool.false_ne_true)
                      | ((try simp only [decide_eq_true_eq, decide_eq_false_iff_not, Bool.not_eq_true', Bool.not_eq_false', Bool.not_true, Bool.not_false, beq_iff_eq, bne_iff_ne, bne_eq_false_iff_eq, ne_eq, beq_eq_false_iff_ne, Int.not_lt, Int.not_le] at hc88); exfalso; omega)
                      | (try simp only [decide_eq_true_eq, decide_eq_false_iff_not, Bool.not_eq_true', Bool.not_eq_false', Bool.not_true, Bool.not_false, beq_iff_eq, bne_iff_ne, bne_eq_false_iff_eq, ne_eq, beq_eq_false_iff_ne, Int.not_lt, Int.not_le] at hc88)
                        refine HWp.seq ?_
                        refine HWp.seq ?_
                        refine HWp.draw q_mix (.rd 0 (.rd 1 (.rd 2 (.rd 4 (.rd 5 (.alt (.act 3 [5] (.act 6 [2] (.act 7 [] (.rd 8 .done)))) (.act 6 [2] (.act 3 [5] (.act 7 [] (.rd 8 .done)))))))))) (by kernel_rfl) ?_
                        refine HPlan.move rfl rfl rfl ?_
                        refine HPlan.fieldAddr rfl rfl rfl rfl q_fo_31_1 rfl ?_
                        refine HPlan.load rfl rfl rfl q_sh_9 (by repeat (first | exact List.Mem.head _ | apply List.Mem.tail | assumption)) (by constructor <;> simp [actC, hao]) (actC_data a) ?_
                        refine HPlan.fieldAddr rfl rfl rfl rfl q_fo_31_1 rfl ?_
                        refine HPlan.load rfl rfl rfl q_sh_9 (by repeat (first | exact List.Mem.head _ | apply List.Mem.tail | assumption)) (by constructor <;> simp [actC, hao]) (actC_data a) ?_
                        refine HPlan.both ?_ ?_
                        · refine HPlan.callS rfl rfl rfl q_en_16 (put_play hI (by omega) hD has s m v.ver v.mver _ _) (perm22 _ _ _ _ _) (List.Perm.refl _) ?_
                          rintro r_R14_3 L_R14_3 T3 ⟨rfl, rfl, ver1, mver1, ks1, n1, hI1, rfl⟩
                          refine ⟨(keptH_ids (by repeat (first | exact allId_nil | refine allId_cons (by repeat (first | exact List.Mem.head _ | apply List.Mem.tail | assumption)) (by repeat (first | exact List.Mem.head _ | apply List.Mem.tail | assumption)) ?_))), ?_⟩
                          refine HPlan.buildSliceN rfl rfl q_se_44 q_zs_9 rfl (by decide) rfl rfl (rfl : _ = [a.data].map LV.str) (allCells_cons (by first | rfl | (simp; done)) (by first | rfl | decide | omega | (simp; done) | (simp; omega)) allCells_nil) (keptH_ids (by repeat (first | exact allId_nil | refine allId_cons (by repeat (first | exact List.Mem.head _ | apply List.Mem.tail | assumption)) (by repeat (first | exact List.Mem.head _ | apply List.Mem.tail | assumption)) ?_))) ?_
                          refine HPlan.callPure rfl rfl rfl q_en_17 (sha_spec [a.data] _ (by intro s h; simp at h; subst h; omega) (by simp) .sl) keptH_nil ?_
                          rw [hD]
                          refine HPlan.aggNe rfl rfl rfl rfl q_sh_29 q_ck_29 (by decide) q_eg_29 ((bytesLV_length D).trans hDl) ((bytesLV_length D).trans hDl) (fits_dig hDl) (fits_dig hDl) ((eq_dig D D).trans (decide_eq_true rfl)) ?_
                          refine HPlan.fin ?_
                          refine onNorm_n ?_
                          refine HWp.cond_f rfl ?_
                          refine HWp.skip ?_
                          refine onNorm_n ?_
                          refine HWp.draw q_mix (.rd 0 (.rd 1 (.rd 2 (.rd 5 (.rd 6 (.act 3 [6] (.act 4 [6] (.rd 7 (.act 8 [] (.rd 9 .done)))))))))) (by kernel_rfl) ?_
                          refine HPlan.move rfl rfl rfl ?_
                          refine HPlan.fieldAddr rfl rfl rfl rfl q_fo_31_1 rfl ?_
                          refine HPlan.load rfl rfl rfl q_sh_9 (by repeat (first | exact List.Mem.head _ | apply List.Mem.tail | assumption)) (by constructor <;> simp [actC, hao]) (actC_data a) ?_
                          refine HPlan.fieldAddr rfl rfl rfl rfl q_fo_31_1 rfl ?_
                          refine HPlan.load rfl rfl rfl q_sh_9 (by repeat (first | exact List.Mem.head _ | apply List.Mem.tail | assumption)) (by constructor <;> simp [actC, hao]) (actC_data a) ?_
                          refine HPlan.buildSliceN rfl rfl q_se_44 q_zs_9 rfl (by decide) rfl rfl (rfl : _ = [a.data].map LV.str) (allCells_cons (by first | rfl | (simp; done)) (by first | rfl | decide | omega | (simp; done) | (simp; omega)) allCells_nil) (keptH_ids (by repeat (first | exact allId_nil | refine allId_cons (by repeat (first | exact List.Mem.head _ | apply List.Mem.tail | assumption)) (by repeat (first | exact List.Mem.head _ | apply List.Mem.tail | assumption)) ?_))) ?_
                          refine HPlan.callPure rfl rfl rfl q_en_17 (sha_spec [a.data] _ (by intro s h; simp at h; subst h; omega) (by simp) .sl) (keptH_ids (by repeat (first | exact allId_nil | refine allId_cons (by repeat (first | exact List.Mem.head _ | apply List.Mem.tail | assumption)) (by repeat (first | exact List.Mem.head _ | apply List.Mem.tail | assumption)) ?_))) ?_
                          rw [hD]
                          refine HPlan.build rfl rfl rfl q_zo_37 (by first | rfl | (simp; done)) q_pl_37 (fillOk_cons rfl (digV_solid D) ((bytesLV_length D).trans hDl) (by decide) (fillOk_cons rfl rfl rfl (by decide) fillOk_nil)) (by rfl : _ = blobV (D, a.data)) ?_
                          refine HPlan.callS rfl rfl rfl q_en_18 (row_put hI (by omega) hDl hrow _ _) (List.Perm.refl _) (List.Perm.refl _) ?_
                          rintro r_R16_8 L_R16_8 T4 ⟨hrow1, rfl, T0, rfl⟩
                          refine ⟨keptH_nil, ?_⟩
                          refine HPlan.assign rfl rfl rfl ?_
                          refine HPlan.fin ?_
                          refine onExitH_n ?_
                          refine onNorm_n ?_
                          refine HWp.seq ?_
                          refine HWp.text (.rd 0 (.rd 1 (.act 2 [] (.rd 3 .done)))) rfl ?_
                          refine HPlan.move rfl rfl rfl ?_
                          refine HPlan.move rfl rfl rfl ?_
                          refine HPlan.callS rfl rfl rfl q_en_19 (hI1.same (by omega) s m _ _ hrow1 _ _) (List.Perm.refl _) (List.Perm.refl _) ?_
                          rintro r_R25_2 L_R25_2 T5 ⟨rfl, rfl, rfl⟩
                          refine ⟨keptH_nil, ?_⟩
                          refine HPlan.not rfl rfl rfl rfl ?_
                          refine HPlan.fin ?_
                          refine onNorm_n ?_
                          refine HWp.cond_f rfl ?_
                          refine HWp.skip ?_
                          refine onExitH_n ?_
                          refine onNorm_n ?_
                          refine HWp.text (.rd 0 (.rd 1 (.rd 2 .done))) rfl ?_
                          refine HPlan.move rfl rfl rfl ?_
                          refine HPlan.intBin rfl rfl rfl rfl rfl (by first | exact add_i64 (by omega) (by omega) | rfl) ?_
                          refine HPlan.assign rfl rfl rfl ?_
                          refine HPlan.fin ?_
                          refine onNorm_n ?_
                          refine ⟨⟨v.i + 1, _, _, _, _, _, _⟩, (by show acts.length - (v.i + 1) < acts.length - v.i; omega), ⟨by show v.i + 1 ≤ acts.length; omega, hI1, hrow1⟩, (LessE.less (by repeat (first | exact LessE.nil | refine LessE.same rfl ?_ | refine LessE.own rfl ?_ | refine LessE.eq rfl ?_ (by first | rfl | (congr 1; omega) | simp))) rfl), (by repeat (first | exact Part.refl _ | refine Part.pull (by repeat (first | exact Pull.here | apply Pull.there)) ?_ | refine Part.skip _ ?_ | exact Part.nil _ | exact Part.app _ _)), (by repeat (first | exact Part.refl _ | refine Part.pull (by repeat (first | exact Pull.here | apply Pull.there)) ?_ | refine Part.skip _ ?_ | exact Part.nil _ | exact Part.app _ _))⟩
                        · refine HPlan.buildSliceN rfl rfl q_se_44 q_zs_9 rfl (by decide) rfl rfl (rfl : _ = [a.data].map LV.str) (allCells_cons (by first | rfl | (simp; done)) (by first | rfl | decide | omega | (simp; done) | (simp; omega)) allCells_nil) (keptH_ids (by repeat (first | exact allId_nil | refine allId_cons (by repeat (first | exact List.Mem.head _ | apply List.Mem.tail | assumption)) (by repeat (first | exact List.Mem.head _ | apply List.Mem.tail | assumption)) ?_))) ?_
                          refine HPlan.callS rfl rfl rfl q_en_16 (put_play hI (by omega) hD has s m v.ver v.mver _ _) (perm22 _ _ _ _ _) (List.Perm.refl _) ?_
                          rintro r_R14_3 L_R14_3 T3 ⟨rfl, rfl, ver1, mver1, ks1, n1, hI1, rfl⟩
                          refine ⟨(keptH_ids (by repeat (first | exact allId_nil | refine allId_cons (by repeat (first | exact List.Mem.head _ | apply List.Mem.tail | assumption)) (by repeat (first | exact List.Mem.head _ | apply List.Mem.tail | assumption)) ?_))), ?_⟩
                          refine HPlan.callPure rfl rfl rfl q_en_17 (sha_spec [a.data] _ (by intro s h; simp at h; subst h; omega) (by simp) .sl) keptH_nil ?_
                          rw [hD]
                          refine HPlan.aggNe rfl rfl rfl rfl q_sh_29 q_ck_29 (by decide) q_eg_29 ((bytesLV_length D).trans hDl) ((bytesLV_length D).trans hDl) (fits_dig hDl) (fits_dig hDl) ((eq_dig D D).trans (decide_eq_true rfl)) ?_
                          refine HPlan.fin ?_
                          refine onNorm_n ?_
                          refine HWp.cond_f rfl ?_
                          refine HWp.skip ?_
                          refine onNorm_n ?_
                          refine HWp.draw q_mix (.rd 0 (.rd 1 (.rd 2 (.rd 5 (.rd 6 (.act 3 [6] (.act 4 [6] (.rd 7 (.act 8 [] (.rd 9 .done)))))))))) (by kernel_rfl) ?_
                          refine HPlan.move rfl rfl rfl ?_
                          refine HPlan.fieldAddr rfl rfl rfl rfl q_fo_31_1 rfl ?_
                          refine HPlan.load rfl rfl rfl q_sh_9 (by repeat (first | exact List.Mem.head _ | apply List.Mem.tail | assumption)) (by constructor <;> simp [actC, hao]) (actC_data a) ?_
                          refine HPlan.fieldAddr rfl rfl rfl rfl q_fo_31_1 rfl ?_
                          refine HPlan.load rfl rfl rfl q_sh_9 (by repeat (first | exact List.Mem.head _ | apply List.Mem.tail | assumption)) (by constructor <;> simp [actC, hao]) (actC_data a) ?_
                          refine HPlan.buildSliceN rfl rfl q_se_44 q_zs_9 rfl (by decide) rfl rfl (rfl : _ = [a.data].map LV.str) (allCells_cons (by first | rfl | (simp; done)) (by first | rfl | decide | omega | (simp; done) | (simp; omega)) allCells_nil) (keptH_ids (by repeat (first | exact allId_nil | refine allId_cons (by repeat (first | exact List.Mem.head _ | apply List.Mem.tail | assumption)) (by repeat (first | exact List.Mem.head _ | apply List.Mem.tail | assumption)) ?_))) ?_
                          refine HPlan.callPure rfl rfl rfl q_en_17 (sha_spec [a.data] _ (by intro s h; simp at h; subst h; omega) (by simp) .sl) (keptH_ids (by repeat (first | exact allId_nil | refine allId_cons (by repeat (first | exact List.Mem.head _ | apply List.Mem.tail | assumption)) (by repeat (first | exact List.Mem.head _ | apply List.Mem.tail | assumption)) ?_))) ?_
                          rw [hD]
                          refine HPlan.build rfl rfl rfl q_zo_37 (by first | rfl | (simp; done)) q_pl_37 (fillOk_cons rfl (digV_solid D) ((bytesLV_length D).trans hDl) (by decide) (fillOk_cons rfl rfl rfl (by decide) fillOk_nil)) (by rfl : _ = blobV (D, a.data)) ?_
                          refine HPlan.callS rfl rfl rfl q_en_18 (row_put hI (by omega) hDl hrow _ _) (List.Perm.refl _) (List.Perm.refl _) ?_
                          rintro r_R16_8 L_R16_8 T4 ⟨hrow1, rfl, T0, rfl⟩
                          refine ⟨keptH_nil, ?_⟩
                          refine HPlan.assign rfl rfl rfl ?_
                          refine HPlan.fin ?_
                          refine onExitH_n ?_
                          refine onNorm_n ?_
                          refine HWp.seq ?_
                          refine HWp.text (.rd 0 (.rd 1 (.act 2 [] (.rd 3 .done)))) rfl ?_
                          refine HPlan.move rfl rfl rfl ?_
                          refine HPlan.move rfl rfl rfl ?_
                          refine HPlan.callS rfl rfl rfl q_en_19 (hI1.same (by omega) s m _ _ hrow1 _ _) (List.Perm.refl _) (List.Perm.refl _) ?_
                          rintro r_R25_2 L_R25_2 T5 ⟨rfl, rfl, rfl⟩
                          refine ⟨keptH_nil, ?_⟩
                          refine HPlan.not rfl rfl rfl rfl ?_
                          refine HPlan.fin ?_
                          refine onNorm_n ?_
                          refine HWp.cond_f rfl ?_
                          refine HWp.skip ?_
                          refine onExitH_n ?_
                          refine onNorm_n ?_
                          refine HWp.text (.rd 0 (.rd 1 (.rd 2 .done))) rfl ?_
                          refine HPlan.move rfl rfl rfl ?_
                          refine HPlan.intBin rfl rfl rfl rfl rfl (by first | exact add_i64 (by omega) (by omega) | rfl) ?_
                          refine HPlan.assign rfl rfl rfl ?_
                          refine HPlan.fin ?_
                          refine onNorm_n ?_
                          refine ⟨⟨v.i + 1, _, _, _, _, _, _⟩, (by show acts.length - (v.i + 1) < acts.length - v.i; omega), ⟨by show v.i + 1 ≤ acts.length; omega, hI1, hrow1⟩, (LessE.less (by repeat (first | exact LessE.nil | refine LessE.same rfl ?_ | refine LessE.own rfl ?_ | refine LessE.eq rfl ?_ (by first | rfl | (congr 1; omega) | simp))) rfl), (by repeat (first | exact Part.refl _ | refine Part.pull (by repeat (first | exact Pull.here | apply Pull.there)) ?_ | refine Part.skip _ ?_ | exact Part.nil _ | exact Part.app _ _)), (by repeat (first | exact Part.refl _ | refine Part.pull (by repeat (first | exact Pull.here | apply Pull.there)) ?_ | refine Part.skip _ ?_ | exact Part.nil _ | exact Part.app _ _))⟩
            · intro hc23
              first
              | (exact absurd hc23 Bool.false_ne_true)
              | (exact absurd hc23.symm Bool.false_ne_true)
              | ((try simp only [decide_eq_true_eq, decide_eq_false_iff_not, Bool.not_eq_true', Bool.not_eq_false', Bool.not_true, Bool.not_false, beq_iff_eq, bne_iff_ne, bne_eq_false_iff_eq, ne_eq, beq_eq_false_iff_ne, Int.not_lt, Int.not_le] at hc23); exfalso; omega)
              | (try simp only [decide_eq_true_eq, decide_eq_false_iff_not, Bool.not_eq_true', Bool.not_eq_false', Bool.not_true, Bool.not_false, beq_iff_eq, bne_iff_ne, bne_eq_false_iff_eq, ne_eq, beq_eq_false_iff_ne, Int.not_lt, Int.not_le] at hc23)
                refine HWp.exit ?_
                refine onNorm_e ?_
                refine onNorm_e ?_
                refine onExitH_hit ?_
                refine onNorm_n ?_
                refine HWp.seq ?_
                refine HWp.text (.rd 0 .done) rfl ?_
                refine HPlan.assign rfl rfl rfl ?_
                refine HPlan.fin ?_
                refine onNorm_n ?_
                refine HWp.ret ?_
                refine retQ_r (.tmp rfl .nil) ?_
                exact endK_of ⟨rfl, rfl, rfl⟩ (by repeat (first | exact Part.refl _ | refine Part.pull (by repeat (first | exact Pull.here | apply Pull.there)) ?_ | refine Part.skip _ ?_ | exact Part.nil _ | exact Part.app _ _)) (by repeat (first | exact Part.refl _ | refine Part.pull (by repeat (first | exact Pull.here | apply Pull.there)) ?_ | refine Part.skip _ ?_ | exact Part.nil _ | exact Part.app _ _))
end Go.Proofs.Ythfoobfgdakbmaa

set_option linter.unusedVariables false
set_option linter.unusedSimpArgs false
set_option maxRecDepth 100000
namespace Go.Proofs.Ythfoobfgdakbmaa
open Go Go.RowKit Go.L


/-! ### Texts put in any order -/
def txtAt (l : List ByteArray) (k : Nat) : ByteArray := l.getD k .empty
theorem txtAt_mem {l : List ByteArray} {k : Nat} (h : k < l.length) : txtAt l k ∈ l := by
  unfold txtAt
  rw [List.getD_eq_getElem?_getD, List.getElem?_eq_getElem h]; exact List.getElem_mem h
theorem txt_at {l : List ByteArray} {k : Nat} (h : k < l.length) : (l.map LV.str).getD ((k : Int).toNat) .und = .str (txtAt l k) := str_at h
def Alike (l : List ByteArray) (k j : Nat) : Prop := txtAt l k ≠ txtAt l j ∧ shaF [txtAt l k] = shaF [txtAt l j]
def NoneTo (l : List ByteArray) (k i : Nat) : Prop := ∀ j, j < k → ¬ Alike l j i
theorem NoneTo.nil (l : List ByteArray) (i : Nat) : NoneTo l 0 i := fun j h => absurd h (Nat.not_lt_zero _)
theorem NoneTo.step {l : List ByteArray} {k i : Nat} (h : NoneTo l k i) (hn : ¬ Alike l k i) : NoneTo l (k + 1) i := fun j hj => by
  by_cases e : j = k
  · subst e; exact hn
  · exact h j (by omega)
theorem alike_txt {l : List ByteArray} {k i : Nat} (h : txtAt l k = txtAt l i) : ¬ Alike l k i := fun a => a.1 h
theorem alike_sum {l : List ByteArray} {k i : Nat} {D E : List UInt8} (h1 : shaF [txtAt l k] = D) (h2 : shaF [txtAt l i] = E) (h : D ≠ E) : ¬ Alike l k i := fun a => h (h1.symm.trans (a.2.trans h2))
def Apart (l : List ByteArray) (i : Nat) : Prop := ∀ j k, k < j → j < i → ¬ Alike l k j
theorem Apart.step {l : List ByteArray} {i : Nat} (h : Apart l i) (hn : NoneTo l i i) : Apart l (i + 1) := fun j k h1 h2 => by
  by_cases e : j = i
  · subst e; exact hn k h1
  · exact h j k h1 (by omega)
theorem Small.step' {l : List ByteArray} {i : Nat} (h : ∀ j, j < i → (txtAt l j).size ≤ 300) (hs : (txtAt l i).size ≤ 300) : ∀ j, j < i + 1 → (txtAt l j).size ≤ 300 := fun j hj => by
  by_cases e : j = i
  · subst e; exact hs
  · exact h j (by omega)
def Small (l : List ByteArray) (i : Nat) : Prop := ∀ j, j < i → (txtAt l j).size ≤ 300
def Held (l : List ByteArray) (a b : Nat) (ks : List Bl) : Prop := ∀ j, a ≤ j → j < b → shaF [txtAt l j] ∈ ks.map (·.1)
structure SInv (l : List ByteArray) (c : Nat) (ks : List Bl) (n : Int) : Prop where
  cnt : ks.length ≤ c
  nod : (ks.map (·.1)).Nodup
  src : ∀ p ∈ ks, ∃ j, j < l.length ∧ p.2 = txtAt l j ∧ p.1 = shaF [txtAt l j] ∧ p.2.size ≤ 300
  sum : n = (sumK ks : Nat)
theorem SInv.nil (l : List ByteArray) : SInv l 0 [] 0 := ⟨Nat.le_refl _, .nil, fun p h => (nomatch h), rfl⟩
theorem SInv.keys {l : List ByteArray} {c : Nat} {ks : List Bl} {n : Int} (h : SInv l c ks n) : Keys32 ks := fun p hp => by
  obtain ⟨j, -, -, e, -⟩ := h.src p hp
  rw [e]; exact shaF_length _
theorem SInv.mono {l : List ByteArray} {c c' : Nat} {ks : List Bl} {n : Int} (h : SInv l c ks n) (hc : c ≤ c') : SInv l c' ks n := { h with cnt := Nat.le_trans h.cnt hc }
theorem SInv.size {l : List ByteArray} {c : Nat} {ks : List Bl} {n : Int} (h : SInv l c ks n) : ∀ p ∈ ks, p.2.size ≤ 300 := fun p hp => by
  obtain ⟨j, -, -, -, e⟩ := h.src p hp
  exact e
theorem SInv.put {l : List ByteArray} {c : Nat} {ks : List Bl} {n : Int} (h : SInv l c ks n) (hc : c ≤ 1000) {j : Nat} (hj : j < l.length) (hs : (txtAt l j).size ≤ 300) {D : List UInt8} (hD : shaF [txtAt l j] = D) :
    SInv l (c + 1) (if (getK D ks).isSome then ks else putK D (txtAt l j) ks) (if (getK D ks).isSome then n else IntKind.i64.wrap (n + (txtAt l j).size)) ∧
    D ∈ (if (getK D ks).isSome then ks else putK D (txtAt l j) ks).map (·.1) ∧ ∀ d ∈ ks.map (·.1), d ∈ (if (getK D ks).isSome then ks else putK D (txtAt l j) ks).map (·.1) := by
  have hle := sumK_le h.size
  have hcn := h.cnt
  cases hg : getK D ks with
  | some x =>
    simp only [Option.isSome_some, if_true]
    refine ⟨h.mono (by omega), ?_, fun d hd => hd⟩
    apply Classical.byContradiction
    intro hn
    rw [getK_none.2 hn] at hg; cases hg
  | none =>
    simp only [Option.isSome_none, Bool.false_eq_true, if_false]
    rw [putK_new hg, h.sum, wrap_in (by omega) (by omega)]
    refine ⟨⟨by simp; omega, ?_, fun p hp => ?_, by simp [sumK]⟩, by simp, fun d hd => by rw [List.map_append]; exact List.mem_append_left _ hd⟩
    · rw [List.map_append, List.nodup_append]
      refine ⟨h.nod, by simp, fun a ha b hb => ?_⟩
      simp at hb; subst hb
      exact fun e => getK_none.1 hg (e ▸ ha)
    · rcases List.mem_append.1 hp with hp | hp
      · exact h.src p hp
      · simp at hp; subst hp
        exact ⟨j, hj, rfl, hD.symm, hs⟩
theorem put_ord {l : List ByteArray} {c : Nat} {ks : List Bl} {n : Int} (h : SInv l c ks n) (hc : c ≤ 1000) {j : Nat} (hj : j < l.length) (hs : (txtAt l j).size ≤ 300) (s m ver mver : Nat) (F : Hp) (T : Tk) :
    HCalls Try.prog 16 [.ref s 0, .str (txtAt l j)] ((s, .cells 55 [.mp m, .int .i64 n] ver) :: (m, .map (entsV ks) mver) :: F) T (fun r L' T' => (∃ D, r = digV D) ∧ T' = T ∧ ∃ ver' mver' ks' n', SInv l (c + 1) ks' n' ∧ shaF [txtAt l j] ∈ ks'.map (·.1) ∧ (∀ d ∈ ks.map (·.1), d ∈ ks'.map (·.1)) ∧ L' = (s, .cells 55 [.mp m, .int .i64 n'] ver') :: (m, .map (entsV ks') mver') :: F) := by
  obtain ⟨D, hD⟩ : ∃ D, shaF [txtAt l j] = D := ⟨_, rfl⟩
  have h1 := blobs_put (txtAt l j) (by omega) s m ver mver n ks h.keys F T
  have h2 := h.put hc hj hs hD
  rw [hD] at h1 ⊢
  exact HCalls.mono h1 fun r L' T' ⟨e1, e2, v, mv, e3⟩ => ⟨⟨D, e1⟩, e2, v, mv, _, _, h2.1, h2.2.1, h2.2.2, e3⟩
theorem Held.step {l : List ByteArray} {i : Nat} {ks ks' : List Bl} (h : Held l 0 i ks) (hd : shaF [txtAt l i] ∈ ks'.map (·.1)) (hs : ∀ d ∈ ks.map (·.1), d ∈ ks'.map (·.1)) : Held l 0 (i + 1) ks' := fun j h1 h2 => by
  by_cases e : j = i
  · subst e; exact hd
  · exact hs _ (h j h1 (by omega))
theorem Held.back {l : List ByteArray} {i : Nat} {ks ks' : List Bl} (h : Held l (i + 1) l.length ks) (hd : shaF [txtAt l i] ∈ ks'.map (·.1)) (hs : ∀ d ∈ ks.map (·.1), d ∈ ks'.map (·.1)) : Held l i l.length ks' := fun j h1 h2 => by
  by_cases e : j = i
  · subst e; exact hd
  · exact hs _ (h j (by omega) h2)
theorem Apart.eq {l : List ByteArray} (h : Apart l l.length) {j k : Nat} (hj : j < l.length) (hk : k < l.length) (e : shaF [txtAt l k] = shaF [txtAt l j]) : txtAt l k = txtAt l j := by
  apply Classical.byContradiction
  intro hn
  rcases Nat.lt_trichotomy k j with hkj | hkj | hkj
  · exact h j k hkj hj ⟨hn, e⟩
  · subst hkj; exact hn rfl
  · exact h k j hkj hk ⟨fun e => hn e.symm, e.symm⟩
theorem mem_sub {l : List ByteArray} {c c' : Nat} {ks ks' : List Bl} {n n' : Int} (ha : Apart l l.length) (h : SInv l c ks n) (h' : SInv l c' ks' n') (hh : Held l 0 l.length ks') : ∀ p ∈ ks, p ∈ ks' := fun p hp => by
  obtain ⟨j, hj, e1, e2, -⟩ := h.src p hp
  obtain ⟨q, hq, hqe⟩ := List.mem_map.1 (hh j (Nat.zero_le _) hj)
  obtain ⟨k, hk, f1, f2, -⟩ := h'.src q hq
  have : txtAt l k = txtAt l j := ha.eq hj hk (f2.symm.trans hqe)
  have : p = q := Prod.ext (e2.trans hqe.symm) (by rw [e1, f1, this])
  rw [this]; exact hq
theorem nodup_of_map : ∀ {ks : List Bl}, (ks.map (·.1)).Nodup → ks.Nodup
  | [], _ => .nil
  | p :: r, h => by
    rw [List.map_cons, List.nodup_cons] at h
    rw [List.nodup_cons]
    exact ⟨fun hp => h.1 (List.mem_map.2 ⟨p, hp, rfl⟩), nodup_of_map h.2⟩
theorem SInv.same {l : List ByteArray} {c c' : Nat} {ks ks' : List Bl} {n n' : Int} (ha : Apart l l.length) (h : SInv l c ks n) (h' : SInv l c' ks' n') (hh : Held l 0 l.length ks) (hh' : Held l 0 l.length ks') : ks.Perm ks' :=
  (List.perm_ext_iff_of_nodup (Go.Proofs.Ythfoobfgdakbmaa.nodup_of_map h.nod) (Go.Proofs.Ythfoobfgdakbmaa.nodup_of_map h'.nod)).2 fun p => ⟨mem_sub ha h h' hh' p, mem_sub ha h' h hh p⟩
theorem rise_lt {ds : List (List UInt8)} (hr : Rise ds) (hn : ds.Nodup) (h32 : ∀ d ∈ ds, d.length = 32) {k : Nat} (h : k + 1 < ds.length) : lexLt (ds[k]'(by omega)) ds[k + 1] = true := by
  rw [lexLt_cb (by rw [h32 _ (List.getElem_mem _), h32 _ (List.getElem_mem _)]), decide_eq_true_eq]
  have h1 := List.pairwise_iff_getElem.1 hr k (k + 1) (by omega) h (by omega)
  have h2 := List.pairwise_iff_getElem.1 hn k (k + 1) (by omega) h (by omega)
  apply Classical.byContradiction
  intro h3
  exact h2 (cb_total h3 h1)
theorem less_true {ds : List (List UInt8)} (hr : Rise ds) (hn : ds.Nodup) (h32 : ∀ d ∈ ds, d.length = 32) {k : Nat} (h0 : 0 < k) (h : k < ds.length) : HPure Try.prog 22 [digV (ds[k - 1]'(by omega)), digV ds[k]] (.bool true) := by
  obtain ⟨j, rfl⟩ : ∃ j, k = j + 1 := ⟨k - 1, by omega⟩
  have := less_spec _ _ (h32 _ (List.getElem_mem (show j < ds.length by omega))) (h32 _ (List.getElem_mem h))
  rw [rise_lt hr hn h32 h] at this
  exact this
theorem digs_at {ds : List (List UInt8)} {k : Nat} (h : k < ds.length) : (ds.map digV).getD ((k : Int).toNat) .und = digV ds[k] := by
  simp [List.getD_eq_getElem?_getD, h]
theorem rem_at (a b : Nat) : intBin .rem .i64 (a : Int) (b : Int) = .int .i64 ((a % b : Nat) : Int) := by
  show LV.int .i64 (Int.tmod (a : Int) (b : Int)) = _
  rw [Int.ofNat_tmod]
theorem ord_at {o : List UInt8} {k : Nat} (h : k < o.length) : (bytesLV o).getD ((k : Int).toNat) .und = .int .u8 (o[k].toNat : Int) := by
  simp [List.getD_eq_getElem?_getD, bytesLV, h]
structure OSt where
  i : Nat
  ks : List Bl
  ver : Nat
  mver : Nat
  n : Int

end Go.Proofs.Ythfoobfgdakbmaa
