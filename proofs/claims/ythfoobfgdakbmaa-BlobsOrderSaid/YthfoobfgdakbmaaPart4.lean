/- WHAT THE WALKS STAND ON, part of a proof: B31. No condition beyond what each theorem states. -/
import Derived.Test.YthfoobfgdakbmaaPart2
import Derived.Test.YthfoobfgdakbmaaPart3
set_option linter.unusedVariables false
set_option linter.unusedSimpArgs false
set_option maxRecDepth 100000
namespace Go.Proofs.Ythfoobfgdakbmaa
open Go Go.RowKit Go.L
theorem q_it_3 : intTy Try.prog 3 = some .i64 := by kernel_rfl
theorem q_f_4 : Try.prog.funcs[4]? = some Try.f4 := by kernel_rfl
set_option maxHeartbeats 1000000
theorem order_law (l : List ByteArray) (o : List UInt8) (hl : l.length < 70368744177664) (hol : o.length < 140737488355328) (x y : LV) (hx : IsSl 1 (l.map LV.str) x) (hy : IsSl 1 (bytesLV o) y) : HPure Try.prog 4 [x, y] (.bool true) := by
  intro L T
  refine HCalls.enterG q_f_4 rfl ?_
  refine HWp.frame (r' := ⟨158, [(0, x), (1, y)]⟩) rfl ?_
  refine HWp.seq ?_
  refine HWp.text (.rd 0 .done) rfl ?_
  refine HPlan.assign rfl rfl rfl ?_
  refine HPlan.fin ?_
  refine onNorm_n ?_
  refine HWp.seq ?_
  refine HWp.seq ?_
  refine HWp.text (.act 0 [] (.rd 1 .done)) rfl ?_
  refine HPlan.callS rfl rfl rfl q_en_7 (alive_spec L T) (List.Perm.refl _) (List.Perm.refl _) ?_
  rintro r_R1_0 L_R1_0 T1 ⟨rfl, rfl, rfl⟩
  refine ⟨keptH_nil, ?_⟩
  refine HPlan.not rfl rfl rfl rfl ?_
  refine HPlan.fin ?_
  refine onNorm_n ?_
  refine HWp.cond_f rfl ?_
  refine HWp.skip ?_
  refine onNorm_n ?_
  refine HWp.seq ?_
  refine HWp.seq ?_
  refine HWp.text (.rd 0 (.rd 1 (.rd 2 (.rd 3 (.rd 4 (.rd 5 (.rd 6 (.rd 7 .done)))))))) rfl ?_
  refine HPlan.move rfl rfl rfl ?_
  refine HPlan.lenS rfl rfl rfl q_tk_44 (by first | exact IsSl.sl | exact IsSl.nils | assumption | exact growV_isSl (by assumption)) (by rw [List.length_map]) ?_
  refine HPlan.intBin rfl rfl rfl rfl rfl rfl ?_
  refine HPlan.move rfl rfl rfl ?_
  refine HPlan.split ?_ ?_
  · intro hb3_3
    first
    | (exact absurd hb3_3 Bool.false_ne_true)
    | (exact absurd hb3_3.symm Bool.false_ne_true)
    | ((try simp only [decide_eq_true_eq, decide_eq_false_iff_not, Bool.not_eq_true', Bool.not_eq_false', Bool.not_true, Bool.not_false, beq_iff_eq, bne_iff_ne, bne_eq_false_iff_eq, ne_eq, beq_eq_false_iff_ne, Int.not_lt, Int.not_le] at hb3_3); exfalso; omega)
    | (try simp only [decide_eq_true_eq, decide_eq_false_iff_not, Bool.not_eq_true', Bool.not_eq_false', Bool.not_true, Bool.not_false, beq_iff_eq, bne_iff_ne, bne_eq_false_iff_eq, ne_eq, beq_eq_false_iff_ne, Int.not_lt, Int.not_le] at hb3_3)
      refine HPlan.leftR rfl rfl ?_
      refine HPlan.leftR rfl rfl ?_
      refine HPlan.leftR rfl rfl ?_
      refine HPlan.pickT rfl rfl rfl rfl ?_
      refine HPlan.fin ?_
      refine onNorm_n ?_
      refine HWp.cond_t rfl ?_
      refine HWp.seq ?_
      refine HWp.text (.rd 0 .done) rfl ?_
      refine HPlan.assign rfl rfl rfl ?_
      refine HPlan.fin ?_
      refine onNorm_n ?_
      refine HWp.ret ?_
      refine onNorm_r ?_
      refine retQ_r (.tmp rfl .nil) ?_
      exact endK_of ⟨rfl, rfl, rfl⟩ (by repeat (first | exact Part.refl _ | refine Part.pull (by repeat (first | exact Pull.here | apply Pull.there)) ?_ | refine Part.skip _ ?_ | exact Part.nil _ | exact Part.app _ _)) (by repeat (first | exact Part.refl _ | refine Part.pull (by repeat (first | exact Pull.here | apply Pull.there)) ?_ | refine Part.skip _ ?_ | exact Part.nil _ | exact Part.app _ _))
  · intro hb3_3
    first
    | (exact absurd hb3_3 Bool.false_ne_true)
    | (exact absurd hb3_3.symm Bool.false_ne_true)
    | ((try simp only [decide_eq_true_eq, decide_eq_false_iff_not, Bool.not_eq_true', Bool.not_eq_false', Bool.not_true, Bool.not_false, beq_iff_eq, bne_iff_ne, bne_eq_false_iff_eq, ne_eq, beq_eq_false_iff_ne, Int.not_lt, Int.not_le] at hb3_3); exfalso; omega)
    | (try simp only [decide_eq_true_eq, decide_eq_false_iff_not, Bool.not_eq_true', Bool.not_eq_false', Bool.not_true, Bool.not_false, beq_iff_eq, bne_iff_ne, bne_eq_false_iff_eq, ne_eq, beq_eq_false_iff_ne, Int.not_lt, Int.not_le] at hb3_3)
      refine HPlan.move rfl rfl rfl ?_
      refine HPlan.lenS rfl rfl rfl q_tk_45 hy (by rw [bytesLV_length]) ?_
      refine HPlan.intBin rfl rfl rfl rfl rfl rfl ?_
      refine HPlan.pickF rfl rfl rfl rfl ?_
      refine HPlan.fin ?_
      refine onNorm_n ?_
      refine HWp.cond rfl ?_ ?_
      · intro hc23
        first
        | (exact absurd hc23 Bool.false_ne_true)
        | (exact absurd hc23.symm Bool.false_ne_true)
        | ((try simp only [decide_eq_true_eq, decide_eq_false_iff_not, Bool.not_eq_true', Bool.not_eq_false', Bool.not_true, Bool.not_false, beq_iff_eq, bne_iff_ne, bne_eq_false_iff_eq, ne_eq, beq_eq_false_iff_ne, Int.not_lt, Int.not_le] at hc23); exfalso; omega)
        | (try simp only [decide_eq_true_eq, decide_eq_false_iff_not, Bool.not_eq_true', Bool.not_eq_false', Bool.not_true, Bool.not_false, beq_iff_eq, bne_iff_ne, bne_eq_false_iff_eq, ne_eq, beq_eq_false_iff_ne, Int.not_lt, Int.not_le] at hc23)
          refine HWp.seq ?_
          refine HWp.text (.rd 0 .done) rfl ?_
          refine HPlan.assign rfl rfl rfl ?_
          refine HPlan.fin ?_
          refine onNorm_n ?_
          refine HWp.ret ?_
          refine onNorm_r ?_
          refine retQ_r (.tmp rfl .nil) ?_
          exact endK_of ⟨rfl, rfl, rfl⟩ (by repeat (first | exact Part.refl _ | refine Part.pull (by repeat (first | exact Pull.here | apply Pull.there)) ?_ | refine Part.skip _ ?_ | exact Part.nil _ | exact Part.app _ _)) (by repeat (first | exact Part.refl _ | refine Part.pull (by repeat (first | exact Pull.here | apply Pull.there)) ?_ | refine Part.skip _ ?_ | exact Part.nil _ | exact Part.app _ _))
      · intro hc23
        first
        | (exact absurd hc23 Bool.false_ne_true)
        | (exact absurd hc23.symm Bool.false_ne_true)
        | ((try simp only [decide_eq_true_eq, decide_eq_false_iff_not, Bool.not_eq_true', Bool.not_eq_false', Bool.not_true, Bool.not_false, beq_iff_eq, bne_iff_ne, bne_eq_false_iff_eq, ne_eq, beq_eq_false_iff_ne, Int.not_lt, Int.not_le] at hc23); exfalso; omega)
        | (try simp only [decide_eq_true_eq, decide_eq_false_iff_not, Bool.not_eq_true', Bool.not_eq_false', Bool.not_true, Bool.not_false, beq_iff_eq, bne_iff_ne, bne_eq_false_iff_eq, ne_eq, beq_eq_false_iff_ne, Int.not_lt, Int.not_le] at hc23)
          refine HWp.skip ?_
          refine onNorm_n ?_
          refine HWp.seq ?_
          refine HWp.text (.act 0 [] (.act 1 [] (.rd 2 (.rd 3 .done)))) rfl ?_
          refine HPlan.callS rfl rfl rfl q_en_10 (blobs_new L_R1_0 T1) (List.Perm.refl _) (List.Perm.refl _) ?_
          rintro r_R5_0 L_R5_0 T2 ⟨s1, m1, rfl, rfl, rfl⟩
          refine ⟨keptH_nil, ?_⟩
          refine HPlan.callS rfl rfl rfl q_en_10 (blobs_new _ T2) (List.Perm.refl _) (List.Perm.refl _) ?_
          rintro r_R5_1 L_R5_1 T3 ⟨s2, m2, rfl, rfl, rfl⟩
          refine ⟨keptH_nil, ?_⟩
          refine HPlan.assign rfl rfl rfl ?_
          refine HPlan.assign rfl rfl rfl ?_
          refine HPlan.fin ?_
          refine onNorm_n ?_
          refine HWp.seq ?_
          refine HWp.seq ?_
          refine HWp.text (.rd 0 .done) rfl ?_
          refine HPlan.assign rfl rfl rfl ?_
          refine HPlan.fin ?_
          refine onNorm_n ?_
          refine HWp.block ?_
          refine HWp.loopF (α := OSt) (fun v => l.length - v.i) (fun v => v.i ≤ l.length ∧ SInv l v.i v.ks v.n ∧ Held l 0 v.i v.ks ∧ Apart l v.i ∧ Small l v.i) (fun v => ⟨158, [(0, x), (1, y), (5, .ref s1 0), (6, .ref s2 0), (7, .int .i64 (v.i : Int))]⟩) (fun v => (s1, .cells 55 [.mp m1, .int .i64 v.n] v.ver) :: (m1, .map (entsV v.ks) v.mver) :: (s2, .cells 55 [.mp m2, .int .i64 0] 0) :: (m2, .map (entsV []) 0) :: L_R1_0) (fun v => T3) ?_ ?_
          · refine ⟨⟨0, [], 0, 0, 0⟩, ⟨Nat.zero_le _, SInv.nil l, (fun j _ h => absurd h (Nat.not_lt_zero _)), (fun j _ _ h => absurd h (Nat.not_lt_zero _)), (fun j h => absurd h (Nat.not_lt_zero _))⟩, (LessE.less (by repeat (first | exact LessE.nil | refine LessE.same rfl ?_ | refine LessE.own rfl ?_ | refine LessE.eq rfl ?_ (by first | rfl | (congr 1; omega) | simp))) rfl), (by repeat (first | exact Part.refl _ | refine Part.pull (by repeat (first | exact Pull.here | apply Pull.there)) ?_ | refine Part.skip _ ?_ | exact Part.nil _ | exact Part.app _ _)), (by repeat (first | exact Part.refl _ | refine Part.pull (by repeat (first | exact Pull.here | apply Pull.there)) ?_ | refine Part.skip _ ?_ | exact Part.nil _ | exact Part.app _ _))⟩
          · rintro v ⟨hi1, hI, hH, hA, hS⟩
            refine HWp.seq ?_
            refine HWp.seq ?_
            refine HWp.text (.rd 0 (.rd 1 (.rd 2 (.rd 3 .done)))) rfl ?_
            refine HPlan.move rfl rfl rfl ?_
            refine HPlan.move rfl rfl rfl ?_
            refine HPlan.lenS rfl rfl rfl q_tk_44 (by first | exact IsSl.sl | exact IsSl.nils | assumption | exact growV_isSl (by assumption)) (by rw [List.length_map]) ?_
            refine HPlan.intBin rfl rfl rfl rfl rfl rfl ?_
            refine HPlan.fin ?_
            refine onNorm_n ?_
            refine HWp.cond rfl ?_ ?_
            · intro hc29
              first
              | (exact absurd hc29 Bool.false_ne_true)
              | (exact absurd hc29.symm Bool.false_ne_true)
              | ((try simp only [decide_eq_true_eq, decide_eq_false_iff_not, Bool.not_eq_true', Bool.not_eq_false', Bool.not_true, Bool.not_false, beq_iff_eq, bne_iff_ne, bne_eq_false_iff_eq, ne_eq, beq_eq_false_iff_ne, Int.not_lt, Int.not_le] at hc29); exfalso; omega)
              | (try simp only [decide_eq_true_eq, decide_eq_false_iff_not, Bool.not_eq_true', Bool.not_eq_false', Bool.not_true, Bool.not_false, beq_iff_eq, bne_iff_ne, bne_eq_false_iff_eq, ne_eq, beq_eq_false_iff_ne, Int.not_lt, Int.not_le] at hc29)
                refine HWp.skip ?_
                refine onNorm_n ?_
                refine HWp.seq ?_
                refine HWp.block ?_
                refine HWp.seq ?_
                refine HWp.seq ?_
                refine HWp.text (.rd 0 (.rd 1 (.rd 2 (.rd 3 (.rd 4 (.rd 5 .done)))))) rfl ?_
                refine HPlan.move rfl rfl rfl ?_
                refine HPlan.move rfl rfl rfl ?_
                refine HPlan.indexS rfl rfl rfl rfl q_ix_44 (by first | exact IsSl.sl | exact IsSl.nils | assumption | exact growV_isSl (by assumption)) (by omega) (by simp only [List.length_map]; omega) (txt_at (l := l) (k := v.i) (by omega)) ?_
                refine HPlan.loadI rfl rfl rfl q_sh_9 ⟨Nat.le_refl 1, Nat.one_pos⟩ rfl ?_
                refine HPlan.lenStr rfl rfl rfl q_tk_9 rfl ?_
                refine HPlan.intBin rfl rfl rfl rfl rfl rfl ?_
                refine HPlan.fin ?_
                refine onNorm_n ?_
                refine HWp.cond rfl ?_ ?_
                · intro hc37
                  first
                  | (exact absurd hc37 Bool.false_ne_true)
                  | (exact absurd hc37.symm Bool.false_ne_true)
                  | ((try simp only [decide_eq_true_eq, decide_eq_false_iff_not, Bool.not_eq_true', Bool.not_eq_false', Bool.not_true, Bool.not_false, beq_iff_eq, bne_iff_ne, bne_eq_false_iff_eq, ne_eq, beq_eq_false_iff_ne, Int.not_lt, Int.not_le] at hc37); exfalso; omega)
                  | (try simp only [decide_eq_true_eq, decide_eq_false_iff_not, Bool.not_eq_true', Bool.not_eq_false', Bool.not_true, Bool.not_false, beq_iff_eq, bne_iff_ne, bne_eq_false_iff_eq, ne_eq, beq_eq_false_iff_ne, Int.not_lt, Int.not_le] at hc37)
                    refine HWp.seq ?_
                    refine HWp.text (.rd 0 .done) rfl ?_
                    refine HPlan.assign rfl rfl rfl ?_
                    refine HPlan.fin ?_
                    refine onNorm_n ?_
                    refine HWp.ret ?_
                    refine onNorm_r ?_
                    refine onExitH_r ?_
                    refine onNorm_r ?_
                    refine onNorm_r ?_
                    refine onExitH_r ?_
                    refine onNorm_r ?_
                    refine retQ_r (.tmp rfl .nil) ?_
                    exact endK_of ⟨rfl, rfl, rfl⟩ (by repeat (first | exact Part.refl _ | refine Part.pull (by repeat (first | exact Pull.here | apply Pull.there)) ?_ | refine Part.skip _ ?_ | exact Part.nil _ | exact Part.app _ _)) (by repeat (first | exact Part.refl _ | refine Part.pull (by repeat (first | exact Pull.here | apply Pull.there)) ?_ | refine Part.skip _ ?_ | exact Part.nil _ | exact Part.app _ _))
                · intro hc37
                  first
                  | (exact absurd hc37 Bool.false_ne_true)
                  | (exact absurd hc37.symm Bool.false_ne_true)
                  | ((try simp only [decide_eq_true_eq, decide_eq_false_iff_not, Bool.not_eq_true', Bool.not_eq_false', Bool.not_true, Bool.not_false, beq_iff_eq, bne_iff_ne, bne_eq_false_iff_eq, ne_eq, beq_eq_false_iff_ne, Int.not_lt, Int.not_le] at hc37); exfalso; omega)
                  | (try simp only [decide_eq_true_eq, decide_eq_false_iff_not, Bool.not_eq_true', Bool.not_eq_false', Bool.not_true, Bool.not_false, beq_iff_eq, bne_iff_ne, bne_eq_false_iff_eq, ne_eq, beq_eq_false_iff_ne, Int.not_lt, Int.not_le] at hc37)
                    refine HWp.skip ?_
                    refine onNorm_n ?_
                    refine HWp.seq ?_
                    refine HWp.seq ?_
                    refine HWp.text (.rd 0 .done) rfl ?_
                    refine HPlan.assign rfl rfl rfl ?_
                    refine HPlan.fin ?_
                    refine onNorm_n ?_
                    refine HWp.block ?_
                    refine HWp.loopF (α := Nat) (fun k => v.i - k) (fun k => k ≤ v.i ∧ NoneTo l k v.i) (fun k => ⟨158, [(0, x), (1, y), (5, .ref s1 0), (6, .ref s2 0), (7, .int .i64 (v.i : Int)), (8, .int .i64 (k : Int))]⟩) (fun k => (s1, .cells 55 [.mp m1, .int .i64 v.n] v.ver) :: (m1, .map (entsV v.ks) v.mver) :: (s2, .cells 55 [.mp m2, .int .i64 0] 0) :: (m2, .map (entsV []) 0) :: L_R1_0) (fun k => T3) ?_ ?_
                    · refine ⟨0, ⟨Nat.zero_le _, NoneTo.nil l _⟩, (LessE.less (by repeat (first | exact LessE.nil | refine LessE.same rfl ?_ | refine LessE.own rfl ?_ | refine LessE.eq rfl ?_ (by first | rfl | (congr 1; omega) | simp))) rfl), (by repeat (first | exact Part.refl _ | refine Part.pull (by repeat (first | exact Pull.here | apply Pull.there)) ?_ | refine Part.skip _ ?_ | exact Part.nil _ | exact Part.app _ _)), (by repeat (first | exact Part.refl _ | refine Part.pull (by repeat (first | exact Pull.here | apply Pull.there)) ?_ | refine Part.skip _ ?_ | exact Part.nil _ | exact Part.app _ _))⟩
                    · rintro k ⟨hk1, hno⟩
                      refine HWp.seq ?_
                      refine HWp.seq ?_
                      refine HWp.text (.rd 0 (.rd 1 (.rd 2 .done))) rfl ?_
                      refine HPlan.move rfl rfl rfl ?_
                      refine HPlan.move rfl rfl rfl ?_
                      refine HPlan.intBin rfl rfl rfl rfl rfl rfl ?_
                      refine HPlan.fin ?_
                      refine onNorm_n ?_
                      refine HWp.cond rfl ?_ ?_
                      · intro hc40
                        first
                        | (exact absurd hc40 Bool.false_ne_true)
                        | (exact absurd hc40.symm Bool.false_ne_true)
                        | ((try simp only [decide_eq_true_eq, decide_eq_false_iff_not, Bool.not_eq_true', Bool.not_eq_false', Bool.not_true, Bool.not_false, beq_iff_eq, bne_iff_ne, bne_eq_false_iff_eq, ne_eq, beq_eq_false_iff_ne, Int.not_lt, Int.not_le] at hc40); exfalso; omega)
                        | (try simp only [decide_eq_true_eq, decide_eq_false_iff_not, Bool.not_eq_true', Bool.not_eq_false', Bool.not_true, Bool.not_false, beq_iff_eq, bne_iff_ne, bne_eq_false_iff_eq, ne_eq, beq_eq_false_iff_ne, Int.not_lt, Int.not_le] at hc40)
                          refine HWp.skip ?_
                          refine onNorm_n ?_
                          refine HWp.seq ?_
                          refine HWp.block ?_
                          refine HWp.seq ?_
                          refine HWp.draw q_mix (.rd 0 (.rd 1 (.rd 2 (.rd 3 (.rd 4 (.rd 5 (.rd 6 (.rd 7 (.rd 8 (.rd 9 (.rd 10 (.rd 11 (.rd 12 (.rd 13 (.rd 16 (.rd 17 (.rd 18 (.rd 19 (.alt (.act 14 [19] (.alt (.act 15 [19] (.act 20 [13] (.act 21 [] (.rd 22 (.rd 23 .done))))) (.act 20 [13] (.act 15 [19] (.act 21 [] (.rd 22 (.rd 23 .done))))))) (.act 20 [13] (.act 14 [19] (.act 15 [19] (.act 21 [] (.rd 22 (.rd 23 .done))))))))))))))))))))))))) (by kernel_rfl) ?_
                          refine HPlan.move rfl rfl rfl ?_
                          refine HPlan.move rfl rfl rfl ?_
                          refine HPlan.indexS rfl rfl rfl rfl q_ix_44 (by first | exact IsSl.sl | exact IsSl.nils | assumption | exact growV_isSl (by assumption)) (by omega) (by simp only [List.length_map]; omega) (txt_at (l := l) (k := k) (by omega)) ?_
                          refine HPlan.loadI rfl rfl rfl q_sh_9 ⟨Nat.le_refl 1, Nat.one_pos⟩ rfl ?_
                          refine HPlan.move rfl rfl rfl ?_
                          refine HPlan.move rfl rfl rfl ?_
                          refine HPlan.indexS rfl rfl rfl rfl q_ix_44 (by first | exact IsSl.sl | exact IsSl.nils | assumption | exact growV_isSl (by assumption)) (by omega) (by simp only [List.length_map]; omega) (txt_at (l := l) (k := v.i) (by omega)) ?_
                          refine HPlan.loadI rfl rfl rfl q_sh_9 ⟨Nat.le_refl 1, Nat.one_pos⟩ rfl ?_
                          refine HPlan.strBin rfl rfl rfl rfl trivial rfl ?_
                          refine HPlan.move rfl rfl rfl ?_
                          refine HPlan.split ?_ ?_
                          · intro hb14_9
                            first
                            | (exact absurd hb14_9 Bool.false_ne_true)
                            | (exact absurd hb14_9.symm Bool.false_ne_true)
                            | ((try simp only [decide_eq_true_eq, decide_eq_false_iff_not, Bool.not_eq_true', Bool.not_eq_false', Bool.not_true, Bool.not_false, beq_iff_eq, bne_iff_ne, bne_eq_false_iff_eq, ne_eq, beq_eq_false_iff_ne, Int.not_lt, Int.not_le] at hb14_9); exfalso; omega)
                            | (try simp only [decide_eq_true_eq, decide_eq_false_iff_not, Bool.not_eq_true', Bool.not_eq_false', Bool.not_true, Bool.not_false, beq_iff_eq, bne_iff_ne, bne_eq_false_iff_eq, ne_eq, beq_eq_false_iff_ne, Int.not_lt, Int.not_le] at hb14_9)
                              refine HPlan.move rfl rfl rfl ?_
                              refine HPlan.move rfl rfl rfl ?_
                              refine HPlan.indexS rfl rfl rfl rfl q_ix_44 (by first | exact IsSl.sl | exact IsSl.nils | assumption | exact growV_isSl (by assumption)) (by omega) (by simp only [List.length_map]; omega) (txt_at (l := l) (k := k) (by omega)) ?_
                              refine HPlan.loadI rfl rfl rfl q_sh_9 ⟨Nat.le_refl 1, Nat.one_pos⟩ rfl ?_
                              refine HPlan.move rfl rfl rfl ?_
                              refine HPlan.move rfl rfl rfl ?_
                              refine HPlan.indexS rfl rfl rfl rfl q_ix_44 (by first | exact IsSl.sl | exact IsSl.nils | assumption | exact growV_isSl (by assumption)) (by omega) (by simp only [List.length_map]; omega) (txt_at (l := l) (k := v.i) (by omega)) ?_
                              refine HPlan.loadI rfl rfl rfl q_sh_9 ⟨Nat.le_refl 1, Nat.one_pos⟩ rfl ?_
                              refine HPlan.both ?_ ?_
                              · refine HPlan.buildSliceN rfl rfl q_se_44 q_zs_9 rfl (by decide) rfl rfl (rfl : _ = [txtAt l k].map LV.str) (allCells_cons (by first | rfl | (simp; done)) (by first | rfl | decide | omega | (simp; done) | (simp; omega)) allCells_nil) (keptH_ids (by repeat (first | exact allId_nil | refine allId_cons (by repeat (first | exact List.Mem.head _ | apply List.Mem.tail | assumption)) (by repeat (first | exact List.Mem.head _ | apply List.Mem.tail | assumption)) ?_))) ?_
                                refine HPlan.both ?_ ?_
                                · refine HPlan.callPure rfl rfl rfl q_en_17 (sha_spec [txtAt l k] _ (by intro s h; simp at h; subst h; have := hS k (by omega); omega) (by simp) .sl) (keptH_ids (by repeat (first | exact allId_nil | refine allId_cons (by repeat (first | exact List.Mem.head _ | apply List.Mem.tail | assumption)) (by repeat (first | exact List.Mem.head _ | apply List.Mem.tail | assumption)) ?_))) ?_
                                  generalize hD1 : shaF [txtAt l k] = D1
                                  have hD1l : D1.length = 32 := by rw [← hD1]; exact shaF_length _
                                  refine HPlan.buildSliceN rfl rfl q_se_44 q_zs_9 rfl (by decide) rfl rfl (rfl : _ = [txtAt l v.i].map LV.str) (allCells_cons (by first | rfl | (simp; done)) (by first | rfl | decide | omega | (simp; done) | (simp; omega)) allCells_nil) (keptH_ids (by repeat (first | exact allId_nil | refine allId_cons (by repeat (first | exact List.Mem.head _ | apply List.Mem.tail | assumption)) (by repeat (first | exact List.Mem.head _ | apply List.Mem.tail | assumption)) ?_))) ?_
                                  refine HPlan.callPure rfl rfl rfl q_en_17 (sha_spec [txtAt l v.i] _ (by intro s h; simp at h; subst h; omega) (by simp) .sl) keptH_nil ?_
                                  generalize hD2 : shaF [txtAt l v.i] = D2
                                  have hD2l : D2.length = 32 := by rw [← hD2]; exact shaF_length _
                                  refine HPlan.aggEq rfl rfl rfl rfl q_sh_29 q_ck_29 (by decide) q_eg_29 ((bytesLV_length D1).trans hD1l) ((bytesLV_length D2).trans hD2l) (fits_dig hD1l) (fits_dig hD2l) (eq_dig D1 D2) ?_
                                  refine HPlan.pickT rfl rfl rfl rfl ?_
                                  refine HPlan.fin ?_
                                  refine onNorm_n ?_
                                  refine HWp.cond rfl ?_ ?_
                                  · intro hc66
                                    first
                                    | (exact absurd hc66 Bool.false_ne_true)
                                    | (exact absurd hc66.symm Bool.false_ne_true)
                                    | ((try simp only [decide_eq_true_eq, decide_eq_false_iff_not, Bool.not_eq_true', Bool.not_eq_false', Bool.not_true, Bool.not_false, beq_iff_eq, bne_iff_ne, bne_eq_false_iff_eq, ne_eq, beq_eq_false_iff_ne, Int.not_lt, Int.not_le] at hc66); exfalso; omega)
                                    | (try simp only [decide_eq_true_eq, decide_eq_false_iff_not, Bool.not_eq_true', Bool.not_eq_false', Bool.not_true, Bool.not_false, beq_iff_eq, bne_iff_ne, bne_eq_false_iff_eq, ne_eq, beq_eq_false_iff_ne, Int.not_lt, Int.not_le] at hc66)
                                      refine HWp.seq ?_
                                      refine HWp.text (.rd 0 .done) rfl ?_
                                      refine HPlan.assign rfl rfl rfl ?_
                                      refine HPlan.fin ?_
                                      refine onNorm_n ?_
                                      refine HWp.ret ?_
                                      refine onExitH_r ?_
                                      refine onNorm_r ?_
                                      refine onNorm_r ?_
                                      refine onExitH_r ?_
                                      refine onNorm_r ?_
                                      refine onExitH_r ?_
                                      refine onNorm_r ?_
                                      refine onNorm_r ?_
                                      refine onExitH_r ?_
                                      refine onNorm_r ?_
                                      refine retQ_r (.tmp rfl .nil) ?_
                                      exact endK_of ⟨rfl, rfl, rfl⟩ (by repeat (first | exact Part.refl _ | refine Part.pull (by repeat (first | exact Pull.here | apply Pull.there)) ?_ | refine Part.skip _ ?_ | exact Part.nil _ | exact Part.app _ _)) (by repeat (first | exact Part.refl _ | refine Part.pull (by repeat (first | exact Pull.here | apply Pull.there)) ?_ | refine Part.skip _ ?_ | exact Part.nil _ | exact Part.app _ _))
                                  · intro hc66
                                    first
                                    | (exact absurd hc66 Bool.false_ne_true)
                                    | (exact absurd hc66.symm Bool.false_ne_true)
                                    | ((try simp only [decide_eq_true_eq, decide_eq_false_iff_not, Bool.not_eq_true', Bool.not_eq_false', Bool.not_true, Bool.not_false, beq_iff_eq, bne_iff_ne, bne_eq_false_iff_eq, ne_eq, beq_eq_false_iff_ne, Int.not_lt, Int.not_le] at hc66); exfalso; omega)
                                    | (try simp only [decide_eq_true_eq, decide_eq_false_iff_not, Bool.not_eq_true', Bool.not_eq_false', Bool.not_true, Bool.not_false, beq_iff_eq, bne_iff_ne, bne_eq_false_iff_eq, ne_eq, beq_eq_false_iff_ne, Int.not_lt, Int.not_le] at hc66)
                                      have hpair : ¬ Alike l k v.i := alike_sum hD1 hD2 hc66
                                      refine HWp.skip ?_
                                      refine onExitH_n ?_
                                      refine onNorm_n ?_
                                      refine HWp.text (.rd 0 (.rd 1 (.rd 2 .done))) rfl ?_
                                      refine HPlan.move rfl rfl rfl ?_
                                      refine HPlan.intBin rfl rfl rfl rfl rfl (by first | exact add_i64 (by omega) (by omega) | rfl) ?_
                                      refine HPlan.assign rfl rfl rfl ?_
                                      refine HPlan.fin ?_
                                      refine onNorm_n ?_
                                      refine ⟨(k + 1), (by omega), ⟨by omega, hno.step hpair⟩, (LessE.less (by repeat (first | exact LessE.nil | refine LessE.same rfl ?_ | refine LessE.own rfl ?_ | refine LessE.eq rfl ?_ (by first | rfl | (congr 1; omega) | simp))) rfl), (by repeat (first | exact Part.refl _ | refine Part.pull (by repeat (first | exact Pull.here | apply Pull.there)) ?_ | refine Part.skip _ ?_ | exact Part.nil _ | exact Part.app _ _)), (by repeat (first | exact Part.refl _ | refine Part.pull (by repeat (first | exact Pull.here | apply Pull.there)) ?_ | refine Part.skip _ ?_ | exact Part.nil _ | exact Part.app _ _))⟩
                                · refine HPlan.buildSliceN rfl rfl q_se_44 q_zs_9 rfl (by decide) rfl rfl (rfl : _ = [txtAt l v.i].map LV.str) (allCells_cons (by first | rfl | (simp; done)) (by first | rfl | decide | omega | (simp; done) | (simp; omega)) allCells_nil) (keptH_ids (by repeat (first | exact allId_nil | refine allId_cons (by repeat (first | exact List.Mem.head _ | apply List.Mem.tail | assumption)) (by repeat (first | exact List.Mem.head _ | apply List.Mem.tail | assumption)) ?_))) ?_
                                  refine HPlan.callPure rfl rfl rfl q_en_17 (sha_spec [txtAt l k] _ (by intro s h; simp at h; subst h; have := hS k (by omega); omega) (by simp) .sl) (keptH_ids (by repeat (first | exact allId_nil | refine allId_cons (by repeat (first | exact List.Mem.head _ | apply List.Mem.tail | assumption)) (by repeat (first | exact List.Mem.head _ | apply List.Mem.tail | assumption)) ?_))) ?_
                                  generalize hD1 : shaF [txtAt l k] = D1
                                  have hD1l : D1.length = 32 := by rw [← hD1]; exact shaF_length _
                                  refine HPlan.callPure rfl rfl rfl q_en_17 (sha_spec [txtAt l v.i] _ (by intro s h; simp at h; subst h; omega) (by simp) .sl) keptH_nil ?_
                                  generalize hD2 : shaF [txtAt l v.i] = D2
                                  have hD2l : D2.length = 32 := by rw [← hD2]; exact shaF_length _
                                  refine HPlan.aggEq rfl rfl rfl rfl q_sh_29 q_ck_29 (by decide) q_eg_29 ((bytesLV_length D1).trans hD1l) ((bytesLV_length D2).trans hD2l) (fits_dig hD1l) (fits_dig hD2l) (eq_dig D1 D2) ?_
                                  refine HPlan.pickT rfl rfl rfl rfl ?_
                                  refine HPlan.fin ?_
                                  refine onNorm_n ?_
                                  refine HWp.cond rfl ?_ ?_
                                  · intro hc66
                                    first
                                    | (exact absurd hc66 Bool.false_ne_true)
                                    | (exact absurd hc66.symm Bool.false_ne_true)
                                    | ((try simp only [decide_eq_true_eq, decide_eq_false_iff_not, Bool.not_eq_true', Bool.not_eq_false', Bool.not_true, Bool.not_false, beq_iff_eq, bne_iff_ne, bne_eq_false_iff_eq, ne_eq, beq_eq_false_iff_ne, Int.not_lt, Int.not_le] at hc66); exfalso; omega)
                                    | (try simp only [decide_eq_true_eq, decide_eq_false_iff_not, Bool.not_eq_true', Bool.not_eq_false', Bool.not_true, Bool.not_false, beq_iff_eq, bne_iff_ne, bne_eq_false_iff_eq, ne_eq, beq_eq_false_iff_ne, Int.not_lt, Int.not_le] at hc66)
                                      refine HWp.seq ?_
                                      refine HWp.text (.rd 0 .done) rfl ?_
                                      refine HPlan.assign rfl rfl rfl ?_
                                      refine HPlan.fin ?_
                                      refine onNorm_n ?_
                                      refine HWp.ret ?_
                                      refine onExitH_r ?_
                                      refine onNorm_r ?_
                                      refine onNorm_r ?_
                                      refine onExitH_r ?_
                                      refine onNorm_r ?_
                                      refine onExitH_r ?_
                                      refine onNorm_r ?_
                                      refine onNorm_r ?_
                                      refine onExitH_r ?_
                                      refine onNorm_r ?_
                                      refine retQ_r (.tmp rfl .nil) ?_
                                      exact endK_of ⟨rfl, rfl, rfl⟩ (by repeat (first | exact Part.refl _ | refine Part.pull (by repeat (first | exact Pull.here | apply Pull.there)) ?_ | refine Part.skip _ ?_ | exact Part.nil _ | exact Part.app _ _)) (by repeat (first | exact Part.refl _ | refine Part.pull (by repeat (first | exact Pull.here | apply Pull.there)) ?_ | refine Part.skip _ ?_ | exact Part.nil _ | exact Part.app _ _))
                                  · intro hc66
                                    first
                                    | (exact absurd hc66 Bool.false_ne_true)
                                    | (exact absurd hc66.symm Bool.false_ne_true)
                                    | ((try simp only [decide_eq_true_eq, decide_eq_false_iff_not, Bool.not_eq_true', Bool.not_eq_false', Bool.not_true, Bool.not_false, beq_iff_eq, bne_iff_ne, bne_eq_false_iff_eq, ne_eq, beq_eq_false_iff_ne, Int.not_lt, Int.not_le] at hc66); exfalso; omega)
                                    | (try simp only [decide_eq_true_eq, decide_eq_false_iff_not, Bool.not_eq_true', Bool.not_eq_false', Bool.not_true, Bool.not_false, beq_iff_eq, bne_iff_ne, bne_eq_false_iff_eq, ne_eq, beq_eq_false_iff_ne, Int.not_lt, Int.not_le] at hc66)
                                      have hpair : ¬ Alike l k v.i := alike_sum hD1 hD2 hc66
                                      refine HWp.skip ?_
                                      refine onExitH_n ?_
                                      refine onNorm_n ?_
                                      refine HWp.text (.rd 0 (.rd 1 (.rd 2 .done))) rfl ?_
                                      refine HPlan.move rfl rfl rfl ?_
                                      refine HPlan.intBin rfl rfl rfl rfl rfl (by first | exact add_i64 (by omega) (by omega) | rfl) ?_
                                      refine HPlan.assign rfl rfl rfl ?_
                                      refine HPlan.fin ?_
                                      refine onNorm_n ?_
                                      refine ⟨(k + 1), (by omega), ⟨by omega, hno.step hpair⟩, (LessE.less (by repeat (first | exact LessE.nil | refine LessE.same rfl ?_ | refine LessE.own rfl ?_ | refine LessE.eq rfl ?_ (by first | rfl | (congr 1; omega) | simp))) rfl), (by repeat (first | exact Part.refl _ | refine Part.pull (by repeat (first | exact Pull.here | apply Pull.there)) ?_ | refine Part.skip _ ?_ | exact Part.nil _ | exact Part.app _ _)), (by repeat (first | exact Part.refl _ | refine Part.pull (by repeat (first | exact Pull.here | apply Pull.there)) ?_ | refine Part.skip _ ?_ | exact Part.nil _ | exact Part.app _ _))⟩
                              · refine HPlan.buildSliceN rfl rfl q_se_44 q_zs_9 rfl (by decide) rfl rfl (rfl : _ = [txtAt l v.i].map LV.str) (allCells_cons (by first | rfl | (simp; done)) (by first | rfl | decide | omega | (simp; done) | (simp; omega)) allCells_nil) (keptH_ids (by repeat (first | exact allId_nil | refine allId_cons (by repeat (first | exact List.Mem.head _ | apply List.Mem.tail | assumption)) (by repeat (first | exact List.Mem.head _ | apply List.Mem.tail | assumption)) ?_))) ?_
                                refine HPlan.buildSliceN rfl rfl q_se_44 q_zs_9 rfl (by decide) rfl rfl (rfl : _ = [txtAt l k].map LV.str) (allCells_cons (by first | rfl | (simp; done)) (by first | rfl | decide | omega | (simp; done) | (simp; omega)) allCells_nil) (keptH_ids (by repeat (first | exact allId_nil | refine allId_cons (by repeat (first | exact List.Mem.head _ | apply List.Mem.tail | assumption)) (by repeat (first | exact List.Mem.head _ | apply List.Mem.tail | assumption)) ?_))) ?_
                                refine HPlan.callPure rfl rfl rfl q_en_17 (sha_spec [txtAt l k] _ (by intro s h; simp at h; subst h; have := hS k (by omega); omega) (by simp) .sl) (keptH_ids (by repeat (first | exact allId_nil | refine allId_cons (by repeat (first | exact List.Mem.head _ | apply List.Mem.tail | assumption)) (by repeat (first | exact List.Mem.head _ | apply List.Mem.tail | assumption)) ?_))) ?_
                                generalize hD1 : shaF [txtAt l k] = D1
                                have hD1l : D1.length = 32 := by rw [← hD1]; exact shaF_length _
                                refine HPlan.callPure rfl rfl rfl q_en_17 (sha_spec [txtAt l v.i] _ (by intro s h; simp at h; subst h; omega) (by simp) .sl) keptH_nil ?_
                                generalize hD2 : shaF [txtAt l v.i] = D2
                                have hD2l : D2.length = 32 := by rw [← hD2]; exact shaF_length _
                                refine HPlan.aggEq rfl rfl rfl rfl q_sh_29 q_ck_29 (by decide) q_eg_29 ((bytesLV_length D1).trans hD1l) ((bytesLV_length D2).trans hD2l) (fits_dig hD1l) (fits_dig hD2l) (eq_dig D1 D2) ?_
                                refine HPlan.pickT rfl rfl rfl rfl ?_
                                refine HPlan.fin ?_
                                refine onNorm_n ?_
                                refine HWp.cond rfl ?_ ?_
                                · intro hc66
                                  first
                                  | (exact absurd hc66 Bool.false_ne_true)
                                  | (exact absurd hc66.symm Bool.false_ne_true)
                                  | ((try simp only [decide_eq_true_eq, decide_eq_false_iff_not, Bool.not_eq_true', Bool.not_eq_false', Bool.not_true, Bool.not_false, beq_iff_eq, bne_iff_ne, bne_eq_false_iff_eq, ne_eq, beq_eq_false_iff_ne, Int.not_lt, Int.not_le] at hc66); exfalso; omega)
                                  | (try simp only [decide_eq_true_eq, decide_eq_false_iff_not, Bool.not_eq_true', Bool.not_eq_false', Bool.not_true, Bool.not_false, beq_iff_eq, bne_iff_ne, bne_eq_false_iff_eq, ne_eq, beq_eq_false_iff_ne, Int.not_lt, Int.not_le] at hc66)
                                    refine HWp.seq ?_
                                    refine HWp.text (.rd 0 .done) rfl ?_
                                    refine HPlan.assign rfl rfl rfl ?_
                                    refine HPlan.fin ?_
                                    refine onNorm_n ?_
                                    refine HWp.ret ?_
                                    refine onExitH_r ?_
                                    refine onNorm_r ?_
                                    refine onNorm_r ?_
                                    refine onExitH_r ?_
                                    refine onNorm_r ?_
                                    refine onExitH_r ?_
                                    refine onNorm_r ?_
                                    refine onNorm_r ?_
                                    refine onExitH_r ?_
                                    refine onNorm_r ?_
                                    refine retQ_r (.tmp rfl .nil) ?_
                                    exact endK_of ⟨rfl, rfl, rfl⟩ (by repeat (first | exact Part.refl _ | refine Part.pull (by repeat (first | exact Pull.here | apply Pull.there)) ?_ | refine Part.skip _ ?_ | exact Part.nil _ | exact Part.app _ _)) (by repeat (first | exact Part.refl _ | refine Part.pull (by repeat (first | exact Pull.here | apply Pull.there)) ?_ | refine Part.skip _ ?_ | exact Part.nil _ | exact Part.app _ _))
                                · intro hc66
                                  first
                                  | (exact absurd hc66 Bool.false_ne_true)
                                  | (exact absurd hc66.symm Bool.false_ne_true)
                                  | ((try simp only [decide_eq_true_eq, decide_eq_false_iff_not, Bool.not_eq_true', Bool.not_eq_false', Bool.not_true, Bool.not_false, beq_iff_eq, bne_iff_ne, bne_eq_false_iff_eq, ne_eq, beq_eq_false_iff_ne, Int.not_lt, Int.not_le] at hc66); exfalso; omega)
                                  | (try simp only [decide_eq_true_eq, decide_eq_false_iff_not, Bool.not_eq_true', Bool.not_eq_false', Bool.not_true, Bool.not_false, beq_iff_eq, bne_iff_ne, bne_eq_false_iff_eq, ne_eq, beq_eq_false_iff_ne, Int.not_lt, Int.not_le] at hc66)
                                    have hpair : ¬ Alike l k v.i := alike_sum hD1 hD2 hc66
                                    refine HWp.skip ?_
                                    refine onExitH_n ?_
                                    refine onNorm_n ?_
                                    refine HWp.text (.rd 0 (.rd 1 (.rd 2 .done))) rfl ?_
                                    refine HPlan.move rfl rfl rfl ?_
                                    refine HPlan.intBin rfl rfl rfl rfl rfl (by first | exact add_i64 (by omega) (by omega) | rfl) ?_
                                    refine HPlan.assign rfl rfl rfl ?_
                                    refine HPlan.fin ?_
                                    refine onNorm_n ?_
                                    refine ⟨(k + 1), (by omega), ⟨by omega, hno.step hpair⟩, (LessE.less (by repeat (first | exact LessE.nil | refine LessE.same rfl ?_ | refine LessE.own rfl ?_ | refine LessE.eq rfl ?_ (by first | rfl | (congr 1; omega) | simp))) rfl), (by repeat (first | exact Part.refl _ | refine Part.pull (by repeat (first | exact Pull.here | apply Pull.there)) ?_ | refine Part.skip _ ?_ | exact Part.nil _ | exact Part.app _ _)), (by repeat (first | exact Part.refl _ | refine Part.pull (by repeat (first | exact Pull.here | apply Pull.there)) ?_ | refine Part.skip _ ?_ | exact Part.nil _ | exact Part.app _ _))⟩
                          · intro hb14_9
                            first
                            | (exact absurd hb14_9 Bool.false_ne_true)
                            | (exact absurd hb14_9.symm Bool.false_ne_true)
                            | ((try simp only [decide_eq_true_eq, decide_eq_false_iff_not, Bool.not_eq_true', Bool.not_eq_false', Bool.not_true, Bool.not_false, beq_iff_eq, bne_iff_ne, bne_eq_false_iff_eq, ne_eq, beq_eq_false_iff_ne, Int.not_lt, Int.not_le] at hb14_9); exfalso; omega)
                            | (try simp only [decide_eq_true_eq, decide_eq_false_iff_not, Bool.not_eq_true', Bool.not_eq_false', Bool.not_true, Bool.not_false, beq_iff_eq, bne_iff_ne, bne_eq_false_iff_eq, ne_eq, beq_eq_false_iff_ne, Int.not_lt, Int.not_le] at hb14_9)
                              have hpair : ¬ Alike l k v.i := alike_txt (by simpa using hb14_9)
                              refine HPlan.leftR rfl rfl ?_
                              refine HPlan.leftR rfl rfl ?_
                              refine HPlan.leftR rfl rfl ?_
                              refine HPlan.leftR rfl rfl ?_
                              refine HPlan.leftR rfl rfl ?_
                              refine HPlan.leftR rfl rfl ?_
                              refine HPlan.leftR rfl rfl ?_
                              refine HPlan.leftR rfl rfl ?_
                              refine HPlan.both ?_ ?_
                              · refine HPlan.leftA rfl rfl ?_
                                refine HPlan.both ?_ ?_
                                · refine HPlan.leftA rfl rfl ?_
                                  refine HPlan.leftA rfl rfl ?_
                                  refine HPlan.leftA rfl rfl ?_
                                  refine HPlan.leftR rfl rfl ?_
                                  refine HPlan.pickF rfl rfl rfl rfl ?_
                                  refine HPlan.fin ?_
                                  refine onNorm_n ?_
                                  refine HWp.cond_f rfl ?_
                                  refine HWp.skip ?_
                                  refine onExitH_n ?_
                                  refine onNorm_n ?_
                                  refine HWp.text (.rd 0 (.rd 1 (.rd 2 .done))) rfl ?_
                                  refine HPlan.move rfl rfl rfl ?_
                                  refine HPlan.intBin rfl rfl rfl rfl rfl (by first | exact add_i64 (by omega) (by omega) | rfl) ?_
                                  refine HPlan.assign rfl rfl rfl ?_
                                  refine HPlan.fin ?_
                                  refine onNorm_n ?_
                                  refine ⟨(k + 1), (by omega), ⟨by omega, hno.step hpair⟩, (LessE.less (by repeat (first | exact LessE.nil | refine LessE.same rfl ?_ | refine LessE.own rfl ?_ | refine LessE.eq rfl ?_ (by first | rfl | (congr 1; omega) | simp))) rfl), (by repeat (first | exact Part.refl _ | refine Part.pull (by repeat (first | exact Pull.here | apply Pull.there)) ?_ | refine Part.skip _ ?_ | exact Part.nil _ | exact Part.app _ _)), (by repeat (first | exact Part.refl _ | refine Part.pull (by repeat (first | exact Pull.here | apply Pull.there)) ?_ | refine Part.skip _ ?_ | exact Part.nil _ | exact Part.app _ _))⟩
                                · refine HPlan.leftA rfl rfl ?_
                                  refine HPlan.leftA rfl rfl ?_
                                  refine HPlan.leftA rfl rfl ?_
                                  refine HPlan.leftR rfl rfl ?_
                                  refine HPlan.pickF rfl rfl rfl rfl ?_
                                  refine HPlan.fin ?_
                                  refine onNorm_n ?_
                                  refine HWp.cond_f rfl ?_
                                  refine HWp.skip ?_
                                  refine onExitH_n ?_
                                  refine onNorm_n ?_
                                  refine HWp.text (.rd 0 (.rd 1 (.rd 2 .done))) rfl ?_
                                  refine HPlan.move rfl rfl rfl ?_
                                  refine HPlan.intBin rfl rfl rfl rfl rfl (by first | exact add_i64 (by omega) (by omega) | rfl) ?_
                                  refine HPlan.assign rfl rfl rfl ?_
                                  refine HPlan.fin ?_
                                  refine onNorm_n ?_
                                  refine ⟨(k + 1), (by omega), ⟨by omega, hno.step hpair⟩, (LessE.less (by repeat (first | exact LessE.nil | refine LessE.same rfl ?_ | refine LessE.own rfl ?_ | refine LessE.eq rfl ?_ (by first | rfl | (congr 1; omega) | simp))) rfl), (by repeat (first | exact Part.refl _ | refine Part.pull (by repeat (first | exact Pull.here | apply Pull.there)) ?_ | refine Part.skip _ ?_ | exact Part.nil _ | exact Part.app _ _)), (by repeat (first | exact Part.refl _ | refine Part.pull (by repeat (first | exact Pull.here | apply Pull.there)) ?_ | refine Part.skip _ ?_ | exact Part.nil _ | exact Part.app _ _))⟩
                              · refine HPlan.leftA rfl rfl ?_
                                refine HPlan.leftA rfl rfl ?_
                                refine HPlan.leftA rfl rfl ?_
                                refine HPlan.leftA rfl rfl ?_
                                refine HPlan.leftR rfl rfl ?_
                                refine HPlan.pickF rfl rfl rfl rfl ?_
                                refine HPlan.fin ?_
                                refine onNorm_n ?_
                                refine HWp.cond_f rfl ?_
                                refine HWp.skip ?_
                                refine onExitH_n ?_
                                refine onNorm_n ?_
                                refine HWp.text (.rd 0 (.rd 1 (.rd 2 .done))) rfl ?_
                                refine HPlan.move rfl rfl rfl ?_
                                refine HPlan.intBin rfl rfl rfl rfl rfl (by first | exact add_i64 (by omega) (by omega) | rfl) ?_
                                refine HPlan.assign rfl rfl rfl ?_
                                refine HPlan.fin ?_
                                refine onNorm_n ?_
                                refine ⟨(k + 1), (by omega), ⟨by omega, hno.step hpair⟩, (LessE.less (by repeat (first | exact LessE.nil | refine LessE.same rfl ?_ | refine LessE.own rfl ?_ | refine LessE.eq rfl ?_ (by first | rfl | (congr 1; omega) | simp))) rfl), (by repeat (first | exact Part.refl _ | refine Part.pull (by repeat (first | exact Pull.here | apply Pull.there)) ?_ | refine Part.skip _ ?_ | exact Part.nil _ | exact Part.app _ _)), (by repeat (first | exact Part.refl _ | refine Part.pull (by repeat (first | exact Pull.here | apply Pull.there)) ?_ | refine Part.skip _ ?_ | exact Part.nil _ | exact Part.app _ _))⟩
                      · intro hc40
                        first
                        | (exact absurd hc40 Bool.false_ne_true)
                        | (exact absurd hc40.symm Bool.false_ne_true)
                        | ((try simp only [decide_eq_true_eq, decide_eq_false_iff_not, Bool.not_eq_true', Bool.not_eq_false', Bool.not_true, Bool.not_false, beq_iff_eq, bne_iff_ne, bne_eq_false_iff_eq, ne_eq, beq_eq_false_iff_ne, Int.not_lt, Int.not_le] at hc40); exfalso; omega)
                        | (try simp only [decide_eq_true_eq, decide_eq_false_iff_not, Bool.not_eq_true', Bool.not_eq_false', Bool.not_true, Bool.not_false, beq_iff_eq, bne_iff_ne, bne_eq_false_iff_eq, ne_eq, beq_eq_false_iff_ne, Int.not_lt, Int.not_le] at hc40)
                          refine HWp.exit ?_
                          refine onNorm_e ?_
                          refine onNorm_e ?_
                          have hkv : k = v.i := by omega
                          rw [hkv] at hno
                          have hA1 : Apart l (v.i + 1) := hA.step hno
                          refine onExitH_hit ?_
                          refine onNorm_n ?_
                          refine HWp.text (.rd 0 (.rd 1 (.rd 2 (.rd 3 (.rd 4 (.act 5 [] .done)))))) rfl ?_
                          refine HPlan.move rfl rfl rfl ?_
                          refine HPlan.move rfl rfl rfl ?_
                          refine HPlan.move rfl rfl rfl ?_
                          refine HPlan.indexS rfl rfl rfl rfl q_ix_44 (by first | exact IsSl.sl | exact IsSl.nils | assumption | exact growV_isSl (by assumption)) (by omega) (by simp only [List.length_map]; omega) (txt_at (l := l) (k := v.i) (by omega)) ?_
                          refine HPlan.loadI rfl rfl rfl q_sh_9 ⟨Nat.le_refl 1, Nat.one_pos⟩ rfl ?_
                          refine HPlan.callS rfl rfl rfl q_en_16 (put_ord hI (by omega) (j := v.i) (by omega) (by omega) s1 m1 v.ver v.mver _ _) (List.Perm.refl _) (List.Perm.refl _) ?_
                          rintro r_R16_5 L_R16_5 T4 ⟨⟨D, rfl⟩, rfl, ver1, mver1, ks1, n1, hI1, hin, hsub, rfl⟩
                          refine ⟨keptH_nil, ?_⟩
                          have hS1 : Small l (v.i + 1) := Small.step' hS (by omega)
                          refine HPlan.fin ?_
                          refine onExitH_n ?_
                          refine onNorm_n ?_
                          refine HWp.text (.rd 0 (.rd 1 (.rd 2 .done))) rfl ?_
                          refine HPlan.move rfl rfl rfl ?_
                          refine HPlan.intBin rfl rfl rfl rfl rfl (by first | exact add_i64 (by omega) (by omega) | rfl) ?_
                          refine HPlan.assign rfl rfl rfl ?_
                          refine HPlan.fin ?_
                          refine onNorm_n ?_
                          refine ⟨⟨v.i + 1, ks1, ver1, mver1, n1⟩, (by show l.length - (v.i + 1) < l.length - v.i; omega), ⟨by show v.i + 1 ≤ l.length; omega, hI1, hH.step hin hsub, hA1, hS1⟩, (LessE.less (by repeat (first | exact LessE.nil | refine LessE.same rfl ?_ | refine LessE.own rfl ?_ | refine LessE.eq rfl ?_ (by first | rfl | (congr 1; omega) | simp))) rfl), (by repeat (first | exact Part.refl _ | refine Part.pull (by repeat (first | exact Pull.here | apply Pull.there)) ?_ | refine Part.skip _ ?_ | exact Part.nil _ | exact Part.app _ _)), (by repeat (first | exact Part.refl _ | refine Part.pull (by repeat (first | exact Pull.here | apply Pull.there)) ?_ | refine Part.skip _ ?_ | exact Part.nil _ | exact Part.app _ _))⟩
            · intro hc29
              first
              | (exact absurd hc29 Bool.false_ne_true)
              | (exact absurd hc29.symm Bool.false_ne_true)
              | ((try simp only [decide_eq_true_eq, decide_eq_false_iff_not, Bool.not_eq_true', Bool.not_eq_false', Bool.not_true, Bool.not_false, beq_iff_eq, bne_iff_ne, bne_eq_false_iff_eq, ne_eq, beq_eq_false_iff_ne, Int.not_lt, Int.not_le] at hc29); exfalso; omega)
              | (try simp only [decide_eq_true_eq, decide_eq_false_iff_not, Bool.not_eq_true', Bool.not_eq_false', Bool.not_true, Bool.not_false, beq_iff_eq, bne_iff_ne, bne_eq_false_iff_eq, ne_eq, beq_eq_false_iff_ne, Int.not_lt, Int.not_le] at hc29)
                refine HWp.exit ?_
                refine onNorm_e ?_
                refine onNorm_e ?_
                have hil : v.i = l.length := by omega
                rw [hil] at hI hH hA hS
                obtain ⟨a, rfl⟩ : ∃ a : OSt, a = v := ⟨_, rfl⟩
                refine onExitH_hit ?_
                refine onNorm_n ?_
                refine HWp.seq ?_
                refine HWp.seq ?_
                refine HWp.text (.rd 0 .done) rfl ?_
                refine HPlan.assign rfl rfl rfl ?_
                refine HPlan.fin ?_
                refine onNorm_n ?_
                refine HWp.block ?_
                refine HWp.loopF (α := OSt) (fun v => o.length - v.i) (fun v => v.i ≤ o.length ∧ SInv l v.i v.ks v.n) (fun v => ⟨158, [(0, x), (1, y), (5, .ref s1 0), (6, .ref s2 0), (9, .int .i64 (v.i : Int))]⟩) (fun v => (s2, .cells 55 [.mp m2, .int .i64 v.n] v.ver) :: (m2, .map (entsV v.ks) v.mver) :: (s1, .cells 55 [.mp m1, .int .i64 a.n] a.ver) :: (m1, .map (entsV a.ks) a.mver) :: L_R1_0) (fun v => T3) ?_ ?_
                · refine ⟨⟨0, [], 0, 0, 0⟩, ⟨Nat.zero_le _, SInv.nil l⟩, (LessE.less (by repeat (first | exact LessE.nil | refine LessE.same rfl ?_ | refine LessE.own rfl ?_ | refine LessE.eq rfl ?_ (by first | rfl | (congr 1; omega) | simp))) rfl), (by repeat (first | exact Part.refl _ | refine Part.pull (by repeat (first | exact Pull.here | apply Pull.there)) ?_ | refine Part.skip _ ?_ | exact Part.nil _ | exact Part.app _ _)), (by repeat (first | exact Part.refl _ | refine Part.pull (by repeat (first | exact Pull.here | apply Pull.there)) ?_ | refine Part.skip _ ?_ | exact Part.nil _ | exact Part.app _ _))⟩
                · rintro v ⟨hi2, hI2⟩
                  refine HWp.seq ?_
                  refine HWp.seq ?_
                  refine HWp.text (.rd 0 (.rd 1 (.rd 2 (.rd 3 (.rd 4 (.rd 5 (.rd 6 (.rd 7 (.rd 8 .done))))))))) rfl ?_
                  refine HPlan.move rfl rfl rfl ?_
                  refine HPlan.move rfl rfl rfl ?_
                  refine HPlan.lenS rfl rfl rfl q_tk_45 hy (by rw [bytesLV_length]) ?_
                  refine HPlan.intBin rfl rfl rfl rfl rfl rfl ?_
                  refine HPlan.move rfl rfl rfl ?_
                  refine HPlan.split ?_ ?_
                  · intro hb18_4
                    first
                    | (exact absurd hb18_4 Bool.false_ne_true)
                    | (exact absurd hb18_4.symm Bool.false_ne_true)
                    | ((try simp only [decide_eq_true_eq, decide_eq_false_iff_not, Bool.not_eq_true', Bool.not_eq_false', Bool.not_true, Bool.not_false, beq_iff_eq, bne_iff_ne, bne_eq_false_iff_eq, ne_eq, beq_eq_false_iff_ne, Int.not_lt, Int.not_le] at hb18_4); exfalso; omega)
                    | (try simp only [decide_eq_true_eq, decide_eq_false_iff_not, Bool.not_eq_true', Bool.not_eq_false', Bool.not_true, Bool.not_false, beq_iff_eq, bne_iff_ne, bne_eq_false_iff_eq, ne_eq, beq_eq_false_iff_ne, Int.not_lt, Int.not_le] at hb18_4)
                      refine HPlan.move rfl rfl rfl ?_
                      refine HPlan.lenS rfl rfl rfl q_tk_44 (by first | exact IsSl.sl | exact IsSl.nils | assumption | exact growV_isSl (by assumption)) (by rw [List.length_map]) ?_
                      refine HPlan.intBin rfl rfl rfl rfl rfl rfl ?_
                      refine HPlan.pickT rfl rfl rfl rfl ?_
                      refine HPlan.fin ?_
                      refine onNorm_n ?_
                      refine HWp.cond rfl ?_ ?_
                      · intro hc81
                        first
                        | (exact absurd hc81 Bool.false_ne_true)
                        | (exact absurd hc81.symm Bool.false_ne_true)
                        | ((try simp only [decide_eq_true_eq, decide_eq_false_iff_not, Bool.not_eq_true', Bool.not_eq_false', Bool.not_true, Bool.not_false, beq_iff_eq, bne_iff_ne, bne_eq_false_iff_eq, ne_eq, beq_eq_false_iff_ne, Int.not_lt, Int.not_le] at hc81); exfalso; omega)
                        | (try simp only [decide_eq_true_eq, decide_eq_false_iff_not, Bool.not_eq_true', Bool.not_eq_false', Bool.not_true, Bool.not_false, beq_iff_eq, bne_iff_ne, bne_eq_false_iff_eq, ne_eq, beq_eq_false_iff_ne, Int.not_lt, Int.not_le] at hc81)
                          refine HWp.skip ?_
                          refine onNorm_n ?_
                          refine HWp.seq ?_
                          refine HWp.block ?_
                          refine HWp.text (.rd 0 (.rd 1 (.rd 2 (.rd 3 (.rd 4 (.rd 5 (.rd 6 (.rd 7 (.rd 8 (.rd 9 (.rd 10 (.rd 11 (.act 12 [] .done))))))))))))) rfl ?_
                          refine HPlan.move rfl rfl rfl ?_
                          refine HPlan.move rfl rfl rfl ?_
                          refine HPlan.move rfl rfl rfl ?_
                          refine HPlan.move rfl rfl rfl ?_
                          refine HPlan.indexS rfl rfl rfl rfl q_ix_45 hy (by omega) (by rw [bytesLV_length]; omega) (ord_at (o := o) (k := v.i) (by omega)) ?_
                          refine HPlan.loadI rfl rfl rfl q_sh_5 ⟨Nat.le_refl 1, Nat.one_pos⟩ rfl ?_
                          have hb := (o[v.i]'(by omega)).toNat_lt
                          refine HPlan.intConv rfl rfl rfl q_us_5 q_it_3 ((congrArg (LV.int .i64) (wrap_in (by omega) (by omega))) : _ = LV.int .i64 (((o[v.i]'(by omega)).toNat : Nat) : Int)) ?_
                          refine HPlan.move rfl rfl rfl ?_
                          refine HPlan.lenS rfl rfl rfl q_tk_44 (by first | exact IsSl.sl | exact IsSl.nils | assumption | exact growV_isSl (by assumption)) (by rw [List.length_map]) ?_
                          refine HPlan.intBin rfl rfl rfl rfl ⟨rfl, by omega⟩ (rem_at _ _) ?_
                          refine HPlan.indexS rfl rfl rfl rfl q_ix_44 (by first | exact IsSl.sl | exact IsSl.nils | assumption | exact growV_isSl (by assumption)) (by omega) (by simp only [List.length_map]; exact Int.ofNat_lt.2 (Nat.mod_lt _ (by omega))) (txt_at (l := l) (k := (o[v.i]'(by omega)).toNat % l.length) (Nat.mod_lt _ (by omega))) ?_
                          refine HPlan.loadI rfl rfl rfl q_sh_9 ⟨Nat.le_refl 1, Nat.one_pos⟩ rfl ?_
                          refine HPlan.callS rfl rfl rfl q_en_16 (put_ord hI2 (by omega) (j := (o[v.i]'(by omega)).toNat % l.length) (Nat.mod_lt _ (by omega)) (hS _ (Nat.mod_lt _ (by omega))) s2 m2 v.ver v.mver _ _) (List.Perm.refl _) (List.Perm.refl _) ?_
                          rintro r_R20_12 L_R20_12 T4 ⟨⟨D, rfl⟩, rfl, ver1, mver1, ks1, n1, hI1, hin, hsub, rfl⟩
                          refine ⟨keptH_nil, ?_⟩
                          refine HPlan.fin ?_
                          refine onExitH_n ?_
                          refine onNorm_n ?_
                          refine HWp.text (.rd 0 (.rd 1 (.rd 2 .done))) rfl ?_
                          refine HPlan.move rfl rfl rfl ?_
                          refine HPlan.intBin rfl rfl rfl rfl rfl (by first | exact add_i64 (by omega) (by omega) | rfl) ?_
                          refine HPlan.assign rfl rfl rfl ?_
                          refine HPlan.fin ?_
                          refine onNorm_n ?_
                          refine ⟨⟨v.i + 1, ks1, ver1, mver1, n1⟩, (by show o.length - (v.i + 1) < o.length - v.i; omega), ⟨by show v.i + 1 ≤ o.length; omega, hI1⟩, (LessE.less (by repeat (first | exact LessE.nil | refine LessE.same rfl ?_ | refine LessE.own rfl ?_ | refine LessE.eq rfl ?_ (by first | rfl | (congr 1; omega) | simp))) rfl), (by repeat (first | exact Part.refl _ | refine Part.pull (by repeat (first | exact Pull.here | apply Pull.there)) ?_ | refine Part.skip _ ?_ | exact Part.nil _ | exact Part.app _ _)), (by repeat (first | exact Part.refl _ | refine Part.pull (by repeat (first | exact Pull.here | apply Pull.there)) ?_ | refine Part.skip _ ?_ | exact Part.nil _ | exact Part.app _ _))⟩
                      · intro hc81
                        first
                        | (exact absurd hc81 Bool.false_ne_true)
                        | (exact absurd hc81.symm Bool.false_ne_true)
                        | ((try simp only [decide_eq_true_eq, decide_eq_false_iff_not, Bool.not_eq_true', Bool.not_eq_false', Bool.not_true, Bool.not_false, beq_iff_eq, bne_iff_ne, bne_eq_false_iff_eq, ne_eq, beq_eq_false_iff_ne, Int.not_lt, Int.not_le] at hc81); exfalso; omega)
                        | (try simp only [decide_eq_true_eq, decide_eq_false_iff_not, Bool.not_eq_true', Bool.not_eq_false', Bool.not_true, Bool.not_false, beq_iff_eq, bne_iff_ne, bne_eq_false_iff_eq, ne_eq, beq_eq_false_iff_ne, Int.not_lt, Int.not_le] at hc81)
                          refine HWp.exit ?_
                          refine onNorm_e ?_
                          refine onNorm_e ?_
                          have hI2 := hI2.mono (show v.i ≤ 200 - l.length by omega)
                          obtain ⟨b, rfl⟩ : ∃ b : OSt, b = v := ⟨_, rfl⟩
                          refine onExitH_hit ?_
                          refine onNorm_n ?_
                          refine HWp.seq ?_
                          refine HWp.seq ?_
                          refine HWp.text (.rd 0 (.rd 1 (.rd 2 (.rd 3 .done)))) rfl ?_
                          refine HPlan.move rfl rfl rfl ?_
                          refine HPlan.lenS rfl rfl rfl q_tk_44 (by first | exact IsSl.sl | exact IsSl.nils | assumption | exact growV_isSl (by assumption)) (by rw [List.length_map]) ?_
                          refine HPlan.intBin rfl rfl rfl rfl rfl (by first | exact sub_i64 (by omega) (by omega) | rfl) ?_
                          refine HPlan.assign rfl rfl rfl ?_
                          refine HPlan.fin ?_
                          refine onNorm_n ?_
                          refine HWp.block ?_
                          refine HWp.loopF (α := OSt) (fun v => v.i) (fun v => v.i ≤ l.length ∧ SInv l (200 - v.i) v.ks v.n ∧ Held l v.i l.length v.ks) (fun v => ⟨158, [(0, x), (1, y), (5, .ref s1 0), (6, .ref s2 0), (10, .int .i64 ((v.i : Int) - 1))]⟩) (fun v => (s2, .cells 55 [.mp m2, .int .i64 v.n] v.ver) :: (m2, .map (entsV v.ks) v.mver) :: (s1, .cells 55 [.mp m1, .int .i64 a.n] a.ver) :: (m1, .map (entsV a.ks) a.mver) :: L_R1_0) (fun v => T3) ?_ ?_
                          · refine ⟨⟨l.length, b.ks, b.ver, b.mver, b.n⟩, ⟨Nat.le_refl _, hI2, (fun j h1 h2 => absurd (Nat.lt_of_lt_of_le h2 h1) (Nat.lt_irrefl _))⟩, (LessE.less (by repeat (first | exact LessE.nil | refine LessE.same rfl ?_ | refine LessE.own rfl ?_ | refine LessE.eq rfl ?_ (by first | rfl | (congr 1; omega) | simp))) rfl), (by repeat (first | exact Part.refl _ | refine Part.pull (by repeat (first | exact Pull.here | apply Pull.there)) ?_ | refine Part.skip _ ?_ | exact Part.nil _ | exact Part.app _ _)), (by repeat (first | exact Part.refl _ | refine Part.pull (by repeat (first | exact Pull.here | apply Pull.there)) ?_ | refine Part.skip _ ?_ | exact Part.nil _ | exact Part.app _ _))⟩
                          · rintro v ⟨hi3, hI3, hH3⟩
                            refine HWp.seq ?_
                            refine HWp.seq ?_
                            refine HWp.text (.rd 0 (.rd 1 .done)) rfl ?_
                            refine HPlan.move rfl rfl rfl ?_
                            refine HPlan.intBin rfl rfl rfl rfl rfl rfl ?_
                            refine HPlan.fin ?_
                            refine onNorm_n ?_
                            refine HWp.cond rfl ?_ ?_
                            · intro hc101
                              first
                              | (exact absurd hc101 Bool.false_ne_true)
                              | (exact absurd hc101.symm Bool.false_ne_true)
                              | ((try simp only [decide_eq_true_eq, decide_eq_false_iff_not, Bool.not_eq_true', Bool.not_eq_false', Bool.not_true, Bool.not_false, beq_iff_eq, bne_iff_ne, bne_eq_false_iff_eq, ne_eq, beq_eq_false_iff_ne, Int.not_lt, Int.not_le] at hc101); exfalso; omega)
                              | (try simp only [decide_eq_true_eq, decide_eq_false_iff_not, Bool.not_eq_true', Bool.not_eq_false', Bool.not_true, Bool.not_false, beq_iff_eq, bne_iff_ne, bne_eq_false_iff_eq, ne_eq, beq_eq_false_iff_ne, Int.not_lt, Int.not_le] at hc101)
                                refine HWp.skip ?_
                                refine onNorm_n ?_
                                refine HWp.seq ?_
                                refine HWp.block ?_
                                refine HWp.text (.rd 0 (.rd 1 (.rd 2 (.rd 3 (.rd 4 (.act 5 [] .done)))))) rfl ?_
                                refine HPlan.move rfl rfl rfl ?_
                                refine HPlan.move rfl rfl rfl ?_
                                refine HPlan.move rfl rfl rfl ?_
                                refine HPlan.indexS rfl rfl rfl rfl q_ix_44 (by first | exact IsSl.sl | exact IsSl.nils | assumption | exact growV_isSl (by assumption)) (by omega) (by simp only [List.length_map]; omega) ((congrArg (fun i : Int => (l.map LV.str).getD i.toNat .und) (show (v.i : Int) - 1 = ((v.i - 1 : Nat) : Int) by omega)).trans (txt_at (l := l) (k := v.i - 1) (by omega))) ?_
                                refine HPlan.loadI rfl rfl rfl q_sh_9 ⟨Nat.le_refl 1, Nat.one_pos⟩ rfl ?_
                                refine HPlan.callS rfl rfl rfl q_en_16 (put_ord hI3 (by omega) (j := v.i - 1) (by omega) (hS _ (by omega)) s2 m2 v.ver v.mver _ _) (List.Perm.refl _) (List.Perm.refl _) ?_
                                rintro r_R24_5 L_R24_5 T4 ⟨⟨D, rfl⟩, rfl, ver1, mver1, ks1, n1, hI1, hin, hsub, rfl⟩
                                refine ⟨keptH_nil, ?_⟩
                                refine HPlan.fin ?_
                                refine onExitH_n ?_
                                refine onNorm_n ?_
                                refine HWp.text (.rd 0 (.rd 1 (.rd 2 .done))) rfl ?_
                                refine HPlan.move rfl rfl rfl ?_
                                refine HPlan.intBin rfl rfl rfl rfl rfl ((congrArg (LV.int .i64) (show IntKind.i64.wrap ((v.i : Int) - 1 - 1) = ((v.i - 1 : Nat) : Int) - 1 by rw [wrap_in (by omega) (by omega)]; omega)) : _ = LV.int .i64 (((v.i - 1 : Nat) : Int) - 1)) ?_
                                refine HPlan.assign rfl rfl rfl ?_
                                refine HPlan.fin ?_
                                refine onNorm_n ?_
                                refine ⟨⟨v.i - 1, ks1, ver1, mver1, n1⟩, (by show v.i - 1 < v.i; omega), ⟨by show v.i - 1 ≤ l.length; omega, (hI1.mono (by show 200 - v.i + 1 ≤ 200 - (v.i - 1); omega)), (Held.back (by rw [show v.i - 1 + 1 = v.i by omega]; exact hH3) hin hsub)⟩, (LessE.less (by repeat (first | exact LessE.nil | refine LessE.same rfl ?_ | refine LessE.own rfl ?_ | refine LessE.eq rfl ?_ (by first | rfl | (congr 1; omega) | simp))) rfl), (by repeat (first | exact Part.refl _ | refine Part.pull (by repeat (first | exact Pull.here | apply Pull.there)) ?_ | refine Part.skip _ ?_ | exact Part.nil _ | exact Part.app _ _)), (by repeat (first | exact Part.refl _ | refine Part.pull (by repeat (first | exact Pull.here | apply Pull.there)) ?_ | refine Part.skip _ ?_ | exact Part.nil _ | exact Part.app _ _))⟩
                            · intro hc101
                              first
                              | (exact absurd hc101 Bool.false_ne_true)
                              | (exact absurd hc101.symm Bool.false_ne_true)
                              | ((try simp only [decide_eq_true_eq, decide_eq_false_iff_not, Bool.not_eq_true', Bool.not_eq_false', Bool.not_true, Bool.not_false, beq_iff_eq, bne_iff_ne, bne_eq_false_iff_eq, ne_eq, beq_eq_false_iff_ne, Int.not_lt, Int.not_le] at hc101); exfalso; omega)
                              | (try simp only [decide_eq_true_eq, decide_eq_false_iff_not, Bool.not_eq_true', Bool.not_eq_false', Bool.not_true, Bool.not_false, beq_iff_eq, bne_iff_ne, bne_eq_false_iff_eq, ne_eq, beq_eq_false_iff_ne, Int.not_lt, Int.not_le] at hc101)
                                refine HWp.exit ?_
                                refine onNorm_e ?_
                                refine onNorm_e ?_
                                have hvi : v.i = 0 := by omega
                                rw [hvi] at hH3
                                have hperm := hI.same hA hI3 hH hH3
                                refine onExitH_hit ?_
                                refine onNorm_n ?_
                                refine HWp.seq ?_
                                refine HWp.text (.rd 0 (.act 1 [] (.rd 2 (.act 3 [] (.rd 4 (.rd 5 .done)))))) rfl ?_
                                refine HPlan.move rfl rfl rfl ?_
                                refine HPlan.callS rfl rfl rfl q_en_20 (blobs_all s1 m1 a.ver a.mver a.n a.ks hI.keys (by have := hI.cnt; omega) _ _) (perm22 _ _ _ _ _) (List.Perm.refl _) ?_
                                rintro r_R25_1 L_R25_1 T5 ⟨ds, hsl, hpm, hrs, rfl, rfl⟩
                                refine ⟨keptH_nil, ?_⟩
                                refine HPlan.move rfl rfl rfl ?_
                                refine HPlan.callS rfl rfl rfl q_en_20 (blobs_all s2 m2 v.ver v.mver v.n v.ks hI3.keys (by have := hI3.cnt; omega) _ _) (perm22 _ _ _ _ _) (List.Perm.refl _) ?_
                                rintro r_R25_3 L_R25_3 T6 ⟨ds2, hsl2, hpm2, hrs2, rfl, rfl⟩
                                refine ⟨keptH_nil, ?_⟩
                                obtain rfl : ds2 = ds := rise_unique (hpm2.trans ((hperm.map _).symm.trans hpm.symm)) hrs2 hrs
                                have h32 : ∀ d ∈ ds2, d.length = 32 := fun d hd => by
                                  obtain ⟨p, hp, rfl⟩ := List.mem_map.1 (hpm.subset hd)
                                  exact hI.keys p hp
                                have hnd : ds2.Nodup := hpm.nodup_iff.2 hI.nod
                                have hdl : ds2.length ≤ 200 := by rw [hpm2.length_eq, List.length_map]; have := hI3.cnt; omega
                                refine HPlan.assign rfl rfl rfl ?_
                                refine HPlan.assign rfl rfl rfl ?_
                                refine HPlan.fin ?_
                                refine onNorm_n ?_
                                refine HWp.seq ?_
                                refine HWp.seq ?_
                                refine HWp.text (.rd 0 (.rd 1 (.rd 2 (.rd 3 (.rd 4 (.rd 5 (.rd 6 (.act 7 [] (.rd 8 (.act 9 [] (.rd 10 (.rd 11 .done)))))))))))) rfl ?_
                                refine HPlan.move rfl rfl rfl ?_
                                refine HPlan.lenS rfl rfl rfl q_tk_46 hsl (by rw [List.length_map] : _ = LV.int .i64 (ds2.length : Int)) ?_
                                refine HPlan.move rfl rfl rfl ?_
                                refine HPlan.lenS rfl rfl rfl q_tk_46 hsl2 (by rw [List.length_map] : _ = LV.int .i64 (ds2.length : Int)) ?_
                                refine HPlan.intBin rfl rfl rfl rfl rfl (congrArg (fun b => LV.bool (!b)) (beq_self_eq_true _) : _ = LV.bool false) ?_
                                refine HPlan.move rfl rfl rfl ?_
                                refine HPlan.move rfl rfl rfl ?_
                                refine HPlan.callS rfl rfl rfl q_en_21 (blobs_size s1 m1 a.ver a.mver a.n a.ks _ _) (perm22 _ _ _ _ _) (List.Perm.refl _) ?_
                                rintro r_R26_7 L_R26_7 T7 ⟨rfl, rfl, rfl⟩
                                refine ⟨keptH_nil, ?_⟩
                                refine HPlan.move rfl rfl rfl ?_
                                refine HPlan.callS rfl rfl rfl q_en_21 (blobs_size s2 m2 v.ver v.mver v.n v.ks _ _) (perm22 _ _ _ _ _) (List.Perm.refl _) ?_
                                rintro r_R26_9 L_R26_9 T8 ⟨rfl, rfl, rfl⟩
                                refine ⟨keptH_nil, ?_⟩
                                have hnn : a.n = v.n := by rw [hI.sum, hI3.sum, sumK_perm hperm]
                                rw [hnn]
                                refine HPlan.intBin rfl rfl rfl rfl rfl (congrArg (fun b => LV.bool (!b)) (beq_self_eq_true _) : _ = LV.bool false) ?_
                                refine HPlan.pickF rfl rfl rfl rfl ?_
                                refine HPlan.fin ?_
                                refine onNorm_n ?_
                                refine HWp.cond_f rfl ?_
                                refine HWp.skip ?_
                                refine onNorm_n ?_
                                refine HWp.seq ?_
                                refine HWp.seq ?_
                                refine HWp.text (.rd 0 .done) rfl ?_
                                refine HPlan.assign rfl rfl rfl ?_
                                refine HPlan.fin ?_
                                refine onNorm_n ?_
                                refine HWp.block ?_
                                refine HWp.loopF (α := Nat) (fun k => ds2.length - k) (fun k => k ≤ ds2.length) (fun k => ⟨158, [(11, r_R25_1), (12, r_R25_3), (13, .int .i64 (k : Int))]⟩) (fun k => L_R1_0) (fun k => T8) ?_ ?_
                                · refine ⟨0, (Nat.zero_le _), (LessE.less (by repeat (first | exact LessE.nil | refine LessE.same rfl ?_ | refine LessE.own rfl ?_ | refine LessE.eq rfl ?_ (by first | rfl | (congr 1; omega) | simp))) rfl), (by repeat (first | exact Part.refl _ | refine Part.pull (by repeat (first | exact Pull.here | apply Pull.there)) ?_ | refine Part.skip _ ?_ | exact Part.nil _ | exact Part.app _ _)), (by repeat (first | exact Part.refl _ | refine Part.pull (by repeat (first | exact Pull.here | apply Pull.there)) ?_ | refine Part.skip _ ?_ | exact Part.nil _ | exact Part.app _ _))⟩
                                · rintro k hk4
                                  refine HWp.seq ?_
                                  refine HWp.seq ?_
                                  refine HWp.text (.rd 0 (.rd 1 (.rd 2 (.rd 3 .done)))) rfl ?_
                                  refine HPlan.move rfl rfl rfl ?_
                                  refine HPlan.move rfl rfl rfl ?_
                                  refine HPlan.lenS rfl rfl rfl q_tk_46 hsl (by rw [List.length_map]) ?_
                                  refine HPlan.intBin rfl rfl rfl rfl rfl rfl ?_
                                  refine HPlan.fin ?_
                                  refine onNorm_n ?_
                                  refine HWp.cond rfl ?_ ?_
                                  · intro hc129
                                    first
                                    | (exact absurd hc129 Bool.false_ne_true)
                                    | (exact absurd hc129.symm Bool.false_ne_true)
                                    | ((try simp only [decide_eq_true_eq, decide_eq_false_iff_not, Bool.not_eq_true', Bool.not_eq_false', Bool.not_true, Bool.not_false, beq_iff_eq, bne_iff_ne, bne_eq_false_iff_eq, ne_eq, beq_eq_false_iff_ne, Int.not_lt, Int.not_le] at hc129); exfalso; omega)
                                    | (try simp only [decide_eq_true_eq, decide_eq_false_iff_not, Bool.not_eq_true', Bool.not_eq_false', Bool.not_true, Bool.not_false, beq_iff_eq, bne_iff_ne, bne_eq_false_iff_eq, ne_eq, beq_eq_false_iff_ne, Int.not_lt, Int.not_le] at hc129)
                                      refine HWp.skip ?_
                                      refine onNorm_n ?_
                                      refine HWp.seq ?_
                                      refine HWp.block ?_
                                      refine HWp.seq ?_
                                      refine HWp.draw q_mix (.rd 0 (.rd 1 (.rd 2 (.rd 3 (.rd 4 (.rd 5 (.rd 6 (.rd 7 (.rd 8 (.rd 9 (.rd 10 (.rd 11 (.rd 12 (.rd 13 (.rd 14 (.rd 15 (.rd 16 (.rd 17 (.rd 18 (.rd 19 (.rd 20 (.rd 21 (.act 22 [] (.rd 23 (.rd 24 (.rd 25 .done)))))))))))))))))))))))))) (by kernel_rfl) ?_
                                      refine HPlan.move rfl rfl rfl ?_
                                      refine HPlan.move rfl rfl rfl ?_
                                      refine HPlan.indexS rfl rfl rfl rfl q_ix_46 hsl (by omega) (by simp only [List.length_map]; omega) (digs_at (ds := ds2) (k := k) (by omega)) ?_
                                      refine HPlan.loadI rfl rfl rfl q_sh_29 (by rw [dig_len (h32 _ (List.getElem_mem _))]; decide) (dig_whole (h32 _ (List.getElem_mem _))) ?_
                                      refine HPlan.move rfl rfl rfl ?_
                                      refine HPlan.move rfl rfl rfl ?_
                                      refine HPlan.indexS rfl rfl rfl rfl q_ix_46 hsl2 (by omega) (by simp only [List.length_map]; omega) (digs_at (ds := ds2) (k := k) (by omega)) ?_
                                      refine HPlan.loadI rfl rfl rfl q_sh_29 (by rw [dig_len (h32 _ (List.getElem_mem _))]; decide) (dig_whole (h32 _ (List.getElem_mem _))) ?_
                                      refine HPlan.aggNe rfl rfl rfl rfl q_sh_29 q_ck_29 (by decide) q_eg_29 ((bytesLV_length _).trans (h32 _ (List.getElem_mem _))) ((bytesLV_length _).trans (h32 _ (List.getElem_mem _))) (fits_dig (h32 _ (List.getElem_mem _))) (fits_dig (h32 _ (List.getElem_mem _))) ((eq_dig _ _).trans (decide_eq_true rfl)) ?_
                                      refine HPlan.move rfl rfl rfl ?_
                                      refine HPlan.move rfl rfl rfl ?_
                                      refine HPlan.intBin rfl rfl rfl rfl rfl rfl ?_
                                      refine HPlan.move rfl rfl rfl ?_
                                      refine HPlan.split ?_ ?_
                                      · intro hb31_12
                                        first
                                        | (exact absurd hb31_12 Bool.false_ne_true)
                                        | (exact absurd hb31_12.symm Bool.false_ne_true)
                                        | ((try simp only [decide_eq_true_eq, decide_eq_false_iff_not, Bool.not_eq_true', Bool.not_eq_false', Bool.not_true, Bool.not_false, beq_iff_eq, bne_iff_ne, bne_eq_false_iff_eq, ne_eq, beq_eq_false_iff_ne, Int.not_lt, Int.not_le] at hb31_12); exfalso; omega)
                                        | (try simp only [decide_eq_true_eq, decide_eq_false_iff_not, Bool.not_eq_true', Bool.not_eq_false', Bool.not_true, Bool.not_false, beq_iff_eq, bne_iff_ne, bne_eq_false_iff_eq, ne_eq, beq_eq_false_iff_ne, Int.not_lt, Int.not_le] at hb31_12)
                                          refine HPlan.move rfl rfl rfl ?_
                                          refine HPlan.move rfl rfl rfl ?_
                                          refine HPlan.intBin rfl rfl rfl rfl rfl ((congrArg (LV.int .i64) (show IntKind.i64.wrap ((k : Int) - 1) = ((k - 1 : Nat) : Int) by rw [wrap_in (by omega) (by omega)]; omega)) : _ = LV.int .i64 ((k - 1 : Nat) : Int)) ?_
                                          refine HPlan.indexS rfl rfl rfl rfl q_ix_46 hsl (by omega) (by simp only [List.length_map]; omega) (digs_at (ds := ds2) (k := k - 1) (by omega)) ?_
                                          refine HPlan.loadI rfl rfl rfl q_sh_29 (by rw [dig_len (h32 _ (List.getElem_mem _))]; decide) (dig_whole (h32 _ (List.getElem_mem _))) ?_
                                          refine HPlan.move rfl rfl rfl ?_
                                          refine HPlan.move rfl rfl rfl ?_
                                          refine HPlan.indexS rfl rfl rfl rfl q_ix_46 hsl (by omega) (by simp only [List.length_map]; omega) (digs_at (ds := ds2) (k := k) (by omega)) ?_
                                          refine HPlan.loadI rfl rfl rfl q_sh_29 (by rw [dig_len (h32 _ (List.getElem_mem _))]; decide) (dig_whole (h32 _ (List.getElem_mem _))) ?_
                                          refine HPlan.callPure rfl rfl rfl q_en_22 (less_true hrs2 hnd h32 (by omega) (by omega)) keptH_nil ?_
                                          refine HPlan.not rfl rfl rfl rfl ?_
                                          refine HPlan.pickT rfl rfl rfl rfl ?_
                                          refine HPlan.pickF rfl rfl rfl rfl ?_
                                          refine HPlan.fin ?_
                                          refine onNorm_n ?_
                                          refine HWp.cond_f rfl ?_
                                          refine HWp.skip ?_
                                          refine onExitH_n ?_
                                          refine onNorm_n ?_
                                          refine HWp.text (.rd 0 (.rd 1 (.rd 2 .done))) rfl ?_
                                          refine HPlan.move rfl rfl rfl ?_
                                          refine HPlan.intBin rfl rfl rfl rfl rfl (by first | exact add_i64 (by omega) (by omega) | rfl) ?_
                                          refine HPlan.assign rfl rfl rfl ?_
                                          refine HPlan.fin ?_
                                          refine onNorm_n ?_
                                          refine ⟨(k + 1), (by omega), (by omega), (LessE.less (by repeat (first | exact LessE.nil | refine LessE.same rfl ?_ | refine LessE.own rfl ?_ | refine LessE.eq rfl ?_ (by first | rfl | (congr 1; omega) | simp))) rfl), (by repeat (first | exact Part.refl _ | refine Part.pull (by repeat (first | exact Pull.here | apply Pull.there)) ?_ | refine Part.skip _ ?_ | exact Part.nil _ | exact Part.app _ _)), (by repeat (first | exact Part.refl _ | refine Part.pull (by repeat (first | exact Pull.here | apply Pull.there)) ?_ | refine Part.skip _ ?_ | exact Part.nil _ | exact Part.app _ _))⟩
                                      · intro hb31_12
                                        first
                                        | (exact absurd hb31_12 Bool.false_ne_true)
                                        | (exact absurd hb31_12.symm Bool.false_ne_true)
                                        | ((try simp only [decide_eq_true_eq, decide_eq_false_iff_not, Bool.not_eq_true', Bool.not_eq_false', Bool.not_true, Bool.not_false, beq_iff_eq, bne_iff_ne, bne_eq_false_iff_eq, ne_eq, beq_eq_false_iff_ne, Int.not_lt, Int.not_le] at hb31_12); exfalso; omega)
                                        | (try simp only [decide_eq_true_eq, decide_eq_false_iff_not, Bool.not_eq_true', Bool.not_eq_false', Bool.not_true, Bool.not_false, beq_iff_eq, bne_iff_ne, bne_eq_false_iff_eq, ne_eq, beq_eq_false_iff_ne, Int.not_lt, Int.not_le] at hb31_12)
                                          refine HPlan.leftR rfl rfl ?_
                                          refine HPlan.leftR rfl rfl ?_
                                          refine HPlan.leftR rfl rfl ?_
                                          refine HPlan.leftR rfl rfl ?_
                                          refine HPlan.leftR rfl rfl ?_
                                          refine HPlan.leftR rfl rfl ?_
                                          refine HPlan.leftR rfl rfl ?_
                                          refine HPlan.leftR rfl rfl ?_
                                          refine HPlan.leftR rfl rfl ?_
                                          refine HPlan.leftA rfl rfl ?_
                                          refine HPlan.leftR rfl rfl ?_
                                          refine HPlan.pickF rfl rfl rfl rfl ?_
                                          refine HPlan.pickF rfl rfl rfl rfl ?_
                                          refine HPlan.fin ?_
                                          refine onNorm_n ?_
                                          refine HWp.cond_f rfl ?_
                                          refine HWp.skip ?_
                                          refine onExitH_n ?_
                                          refine onNorm_n ?_
                                          refine HWp.text (.rd 0 (.rd 1 (.rd 2 .done))) rfl ?_
                                          refine HPlan.move rfl rfl rfl ?_
                                          refine HPlan.intBin rfl rfl rfl rfl rfl (by first | exact add_i64 (by omega) (by omega) | rfl) ?_
                                          refine HPlan.assign rfl rfl rfl ?_
                                          refine HPlan.fin ?_
                                          refine onNorm_n ?_
                                          refine ⟨(k + 1), (by omega), (by omega), (LessE.less (by repeat (first | exact LessE.nil | refine LessE.same rfl ?_ | refine LessE.own rfl ?_ | refine LessE.eq rfl ?_ (by first | rfl | (congr 1; omega) | simp))) rfl), (by repeat (first | exact Part.refl _ | refine Part.pull (by repeat (first | exact Pull.here | apply Pull.there)) ?_ | refine Part.skip _ ?_ | exact Part.nil _ | exact Part.app _ _)), (by repeat (first | exact Part.refl _ | refine Part.pull (by repeat (first | exact Pull.here | apply Pull.there)) ?_ | refine Part.skip _ ?_ | exact Part.nil _ | exact Part.app _ _))⟩
                                  · intro hc129
                                    first
                                    | (exact absurd hc129 Bool.false_ne_true)
                                    | (exact absurd hc129.symm Bool.false_ne_true)
                                    | ((try simp only [decide_eq_true_eq, decide_eq_false_iff_not, Bool.not_eq_true', Bool.not_eq_false', Bool.not_true, Bool.not_false, beq_iff_eq, bne_iff_ne, bne_eq_false_iff_eq, ne_eq, beq_eq_false_iff_ne, Int.not_lt, Int.not_le] at hc129); exfalso; omega)
                                    | (try simp only [decide_eq_true_eq, decide_eq_false_iff_not, Bool.not_eq_true', Bool.not_eq_false', Bool.not_true, Bool.not_false, beq_iff_eq, bne_iff_ne, bne_eq_false_iff_eq, ne_eq, beq_eq_false_iff_ne, Int.not_lt, Int.not_le] at hc129)
                                      refine HWp.exit ?_
                                      refine onNorm_e ?_
                                      refine onNorm_e ?_
                                      refine onExitH_hit ?_
                                      refine onNorm_n ?_
                                      refine HWp.seq ?_
                                      refine HWp.text (.rd 0 .done) rfl ?_
                                      refine HPlan.assign rfl rfl rfl ?_
                                      refine HPlan.fin ?_
                                      refine onNorm_n ?_
                                      refine HWp.ret ?_
                                      refine retQ_r (.tmp rfl .nil) ?_
                                      exact endK_of ⟨rfl, rfl, rfl⟩ (by repeat (first | exact Part.refl _ | refine Part.pull (by repeat (first | exact Pull.here | apply Pull.there)) ?_ | refine Part.skip _ ?_ | exact Part.nil _ | exact Part.app _ _)) (by repeat (first | exact Part.refl _ | refine Part.pull (by repeat (first | exact Pull.here | apply Pull.there)) ?_ | refine Part.skip _ ?_ | exact Part.nil _ | exact Part.app _ _))
                  · intro hb18_4
                    first
                    | (exact absurd hb18_4 Bool.false_ne_true)
                    | (exact absurd hb18_4.symm Bool.false_ne_true)
                    | ((try simp only [decide_eq_true_eq, decide_eq_false_iff_not, Bool.not_eq_true', Bool.not_eq_false', Bool.not_true, Bool.not_false, beq_iff_eq, bne_iff_ne, bne_eq_false_iff_eq, ne_eq, beq_eq_false_iff_ne, Int.not_lt, Int.not_le] at hb18_4); exfalso; omega)
                    | (try simp only [decide_eq_true_eq, decide_eq_false_iff_not, Bool.not_eq_true', Bool.not_eq_false', Bool.not_true, Bool.not_false, beq_iff_eq, bne_iff_ne, bne_eq_false_iff_eq, ne_eq, beq_eq_false_iff_ne, Int.not_lt, Int.not_le] at hb18_4)
                      refine HPlan.leftR rfl rfl ?_
                      refine HPlan.leftR rfl rfl ?_
                      refine HPlan.leftR rfl rfl ?_
                      refine HPlan.pickF rfl rfl rfl rfl ?_
                      refine HPlan.fin ?_
                      refine onNorm_n ?_
                      refine HWp.cond_f rfl ?_
                      refine HWp.exit ?_
                      refine onNorm_e ?_
                      refine onNorm_e ?_
                      have hI2 := hI2.mono (show v.i ≤ 200 - l.length by omega)
                      obtain ⟨b, rfl⟩ : ∃ b : OSt, b = v := ⟨_, rfl⟩
                      refine onExitH_hit ?_
                      refine onNorm_n ?_
                      refine HWp.seq ?_
                      refine HWp.seq ?_
                      refine HWp.text (.rd 0 (.rd 1 (.rd 2 (.rd 3 .done)))) rfl ?_
                      refine HPlan.move rfl rfl rfl ?_
                      refine HPlan.lenS rfl rfl rfl q_tk_44 (by first | exact IsSl.sl | exact IsSl.nils | assumption | exact growV_isSl (by assumption)) (by rw [List.length_map]) ?_
                      refine HPlan.intBin rfl rfl rfl rfl rfl (by first | exact sub_i64 (by omega) (by omega) | rfl) ?_
                      refine HPlan.assign rfl rfl rfl ?_
                      refine HPlan.fin ?_
                      refine onNorm_n ?_
                      refine HWp.block ?_
                      refine HWp.loopF (α := OSt) (fun v => v.i) (fun v => v.i ≤ l.length ∧ SInv l (200 - v.i) v.ks v.n ∧ Held l v.i l.length v.ks) (fun v => ⟨158, [(0, x), (1, y), (5, .ref s1 0), (6, .ref s2 0), (10, .int .i64 ((v.i : Int) - 1))]⟩) (fun v => (s2, .cells 55 [.mp m2, .int .i64 v.n] v.ver) :: (m2, .map (entsV v.ks) v.mver) :: (s1, .cells 55 [.mp m1, .int .i64 a.n] a.ver) :: (m1, .map (entsV a.ks) a.mver) :: L_R1_0) (fun v => T3) ?_ ?_
                      · refine ⟨⟨l.length, b.ks, b.ver, b.mver, b.n⟩, ⟨Nat.le_refl _, hI2, (fun j h1 h2 => absurd (Nat.lt_of_lt_of_le h2 h1) (Nat.lt_irrefl _))⟩, (LessE.less (by repeat (first | exact LessE.nil | refine LessE.same rfl ?_ | refine LessE.own rfl ?_ | refine LessE.eq rfl ?_ (by first | rfl | (congr 1; omega) | simp))) rfl), (by repeat (first | exact Part.refl _ | refine Part.pull (by repeat (first | exact Pull.here | apply Pull.there)) ?_ | refine Part.skip _ ?_ | exact Part.nil _ | exact Part.app _ _)), (by repeat (first | exact Part.refl _ | refine Part.pull (by repeat (first | exact Pull.here | apply Pull.there)) ?_ | refine Part.skip _ ?_ | exact Part.nil _ | exact Part.app _ _))⟩
                      · rintro v ⟨hi3, hI3, hH3⟩
                        refine HWp.seq ?_
                        refine HWp.seq ?_
                        refine HWp.text (.rd 0 (.rd 1 .done)) rfl ?_
                        refine HPlan.move rfl rfl rfl ?_
                        refine HPlan.intBin rfl rfl rfl rfl rfl rfl ?_
                        refine HPlan.fin ?_
                        refine onNorm_n ?_
                        refine HWp.cond rfl ?_ ?_
                        · intro hc101
                          first
                          | (exact absurd hc101 Bool.false_ne_true)
                          | (exact absurd hc101.symm Bool.false_ne_true)
                          | ((try simp only [decide_eq_true_eq, decide_eq_false_iff_not, Bool.not_eq_true', Bool.not_eq_false', Bool.not_true, Bool.not_false, beq_iff_eq, bne_iff_ne, bne_eq_false_iff_eq, ne_eq, beq_eq_false_iff_ne, Int.not_lt, Int.not_le] at hc101); exfalso; omega)
                          | (try simp only [decide_eq_true_eq, decide_eq_false_iff_not, Bool.not_eq_true', Bool.not_eq_false', Bool.not_true, Bool.not_false, beq_iff_eq, bne_iff_ne, bne_eq_false_iff_eq, ne_eq, beq_eq_false_iff_ne, Int.not_lt, Int.not_le] at hc101)
                            refine HWp.skip ?_
                            refine onNorm_n ?_
                            refine HWp.seq ?_
                            refine HWp.block ?_
                            refine HWp.text (.rd 0 (.rd 1 (.rd 2 (.rd 3 (.rd 4 (.act 5 [] .done)))))) rfl ?_
                            refine HPlan.move rfl rfl rfl ?_
                            refine HPlan.move rfl rfl rfl ?_
                            refine HPlan.move rfl rfl rfl ?_
                            refine HPlan.indexS rfl rfl rfl rfl q_ix_44 (by first | exact IsSl.sl | exact IsSl.nils | assumption | exact growV_isSl (by assumption)) (by omega) (by simp only [List.length_map]; omega) ((congrArg (fun i : Int => (l.map LV.str).getD i.toNat .und) (show (v.i : Int) - 1 = ((v.i - 1 : Nat) : Int) by omega)).trans (txt_at (l := l) (k := v.i - 1) (by omega))) ?_
                            refine HPlan.loadI rfl rfl rfl q_sh_9 ⟨Nat.le_refl 1, Nat.one_pos⟩ rfl ?_
                            refine HPlan.callS rfl rfl rfl q_en_16 (put_ord hI3 (by omega) (j := v.i - 1) (by omega) (hS _ (by omega)) s2 m2 v.ver v.mver _ _) (List.Perm.refl _) (List.Perm.refl _) ?_
                            rintro r_R24_5 L_R24_5 T4 ⟨⟨D, rfl⟩, rfl, ver1, mver1, ks1, n1, hI1, hin, hsub, rfl⟩
                            refine ⟨keptH_nil, ?_⟩
                            refine HPlan.fin ?_
                            refine onExitH_n ?_
                            refine onNorm_n ?_
                            refine HWp.text (.rd 0 (.rd 1 (.rd 2 .done))) rfl ?_
                            refine HPlan.move rfl rfl rfl ?_
                            refine HPlan.intBin rfl rfl rfl rfl rfl ((congrArg (LV.int .i64) (show IntKind.i64.wrap ((v.i : Int) - 1 - 1) = ((v.i - 1 : Nat) : Int) - 1 by rw [wrap_in (by omega) (by omega)]; omega)) : _ = LV.int .i64 (((v.i - 1 : Nat) : Int) - 1)) ?_
                            refine HPlan.assign rfl rfl rfl ?_
                            refine HPlan.fin ?_
                            refine onNorm_n ?_
                            refine ⟨⟨v.i - 1, ks1, ver1, mver1, n1⟩, (by show v.i - 1 < v.i; omega), ⟨by show v.i - 1 ≤ l.length; omega, (hI1.mono (by show 200 - v.i + 1 ≤ 200 - (v.i - 1); omega)), (Held.back (by rw [show v.i - 1 + 1 = v.i by omega]; exact hH3) hin hsub)⟩, (LessE.less (by repeat (first | exact LessE.nil | refine LessE.same rfl ?_ | refine LessE.own rfl ?_ | refine LessE.eq rfl ?_ (by first | rfl | (congr 1; omega) | simp))) rfl), (by repeat (first | exact Part.refl _ | refine Part.pull (by repeat (first | exact Pull.here | apply Pull.there)) ?_ | refine Part.skip _ ?_ | exact Part.nil _ | exact Part.app _ _)), (by repeat (first | exact Part.refl _ | refine Part.pull (by repeat (first | exact Pull.here | apply Pull.there)) ?_ | refine Part.skip _ ?_ | exact Part.nil _ | exact Part.app _ _))⟩
                        · intro hc101
                          first
                          | (exact absurd hc101 Bool.false_ne_true)
                          | (exact absurd hc101.symm Bool.false_ne_true)
                          | ((try simp only [decide_eq_true_eq, decide_eq_false_iff_not, Bool.not_eq_true', Bool.not_eq_false', Bool.not_true, Bool.not_false, beq_iff_eq, bne_iff_ne, bne_eq_false_iff_eq, ne_eq, beq_eq_false_iff_ne, Int.not_lt, Int.not_le] at hc101); exfalso; omega)
                          | (try simp only [decide_eq_true_eq, decide_eq_false_iff_not, Bool.not_eq_true', Bool.not_eq_false', Bool.not_true, Bool.not_false, beq_iff_eq, bne_iff_ne, bne_eq_false_iff_eq, ne_eq, beq_eq_false_iff_ne, Int.not_lt, Int.not_le] at hc101)
                            refine HWp.exit ?_
                            refine onNorm_e ?_
                            refine onNorm_e ?_
                            have hvi : v.i = 0 := by omega
                            rw [hvi] at hH3
                            have hperm := hI.same hA hI3 hH hH3
                            refine onExitH_hit ?_
                            refine onNorm_n ?_
                            refine HWp.seq ?_
                            refine HWp.text (.rd 0 (.act 1 [] (.rd 2 (.act 3 [] (.rd 4 (.rd 5 .done)))))) rfl ?_
                            refine HPlan.move rfl rfl rfl ?_
                            refine HPlan.callS rfl rfl rfl q_en_20 (blobs_all s1 m1 a.ver a.mver a.n a.ks hI.keys (by have := hI.cnt; omega) _ _) (perm22 _ _ _ _ _) (List.Perm.refl _) ?_
                            rintro r_R25_1 L_R25_1 T5 ⟨ds, hsl, hpm, hrs, rfl, rfl⟩
                            refine ⟨keptH_nil, ?_⟩
                            refine HPlan.move rfl rfl rfl ?_
                            refine HPlan.callS rfl rfl rfl q_en_20 (blobs_all s2 m2 v.ver v.mver v.n v.ks hI3.keys (by have := hI3.cnt; omega) _ _) (perm22 _ _ _ _ _) (List.Perm.refl _) ?_
                            rintro r_R25_3 L_R25_3 T6 ⟨ds2, hsl2, hpm2, hrs2, rfl, rfl⟩
                            refine ⟨keptH_nil, ?_⟩
                            obtain rfl : ds2 = ds := rise_unique (hpm2.trans ((hperm.map _).symm.trans hpm.symm)) hrs2 hrs
                            have h32 : ∀ d ∈ ds2, d.length = 32 := fun d hd => by
                              obtain ⟨p, hp, rfl⟩ := List.mem_map.1 (hpm.subset hd)
                              exact hI.keys p hp
                            have hnd : ds2.Nodup := hpm.nodup_iff.2 hI.nod
                            have hdl : ds2.length ≤ 200 := by rw [hpm2.length_eq, List.length_map]; have := hI3.cnt; omega
                            refine HPlan.assign rfl rfl rfl ?_
                            refine HPlan.assign rfl rfl rfl ?_
                            refine HPlan.fin ?_
                            refine onNorm_n ?_
                            refine HWp.seq ?_
                            refine HWp.seq ?_
                            refine HWp.text (.rd 0 (.rd 1 (.rd 2 (.rd 3 (.rd 4 (.rd 5 (.rd 6 (.act 7 [] (.rd 8 (.act 9 [] (.rd 10 (.rd 11 .done)))))))))))) rfl ?_
                            refine HPlan.move rfl rfl rfl ?_
                            refine HPlan.lenS rfl rfl rfl q_tk_46 hsl (by rw [List.length_map] : _ = LV.int .i64 (ds2.length : Int)) ?_
                            refine HPlan.move rfl rfl rfl ?_
                            refine HPlan.lenS rfl rfl rfl q_tk_46 hsl2 (by rw [List.length_map] : _ = LV.int .i64 (ds2.length : Int)) ?_
                            refine HPlan.intBin rfl rfl rfl rfl rfl (congrArg (fun b => LV.bool (!b)) (beq_self_eq_true _) : _ = LV.bool false) ?_
                            refine HPlan.move rfl rfl rfl ?_
                            refine HPlan.move rfl rfl rfl ?_
                            refine HPlan.callS rfl rfl rfl q_en_21 (blobs_size s1 m1 a.ver a.mver a.n a.ks _ _) (perm22 _ _ _ _ _) (List.Perm.refl _) ?_
                            rintro r_R26_7 L_R26_7 T7 ⟨rfl, rfl, rfl⟩
                            refine ⟨keptH_nil, ?_⟩
                            refine HPlan.move rfl rfl rfl ?_
                            refine HPlan.callS rfl rfl rfl q_en_21 (blobs_size s2 m2 v.ver v.mver v.n v.ks _ _) (perm22 _ _ _ _ _) (List.Perm.refl _) ?_
                            rintro r_R26_9 L_R26_9 T8 ⟨rfl, rfl, rfl⟩
                            refine ⟨keptH_nil, ?_⟩
                            have hnn : a.n = v.n := by rw [hI.sum, hI3.sum, sumK_perm hperm]
                            rw [hnn]
                            refine HPlan.intBin rfl rfl rfl rfl rfl (congrArg (fun b => LV.bool (!b)) (beq_self_eq_true _) : _ = LV.bool false) ?_
                            refine HPlan.pickF rfl rfl rfl rfl ?_
                            refine HPlan.fin ?_
                            refine onNorm_n ?_
                            refine HWp.cond_f rfl ?_
                            refine HWp.skip ?_
                            refine onNorm_n ?_
                            refine HWp.seq ?_
                            refine HWp.seq ?_
                            refine HWp.text (.rd 0 .done) rfl ?_
                            refine HPlan.assign rfl rfl rfl ?_
                            refine HPlan.fin ?_
                            refine onNorm_n ?_
                            refine HWp.block ?_
                            refine HWp.loopF (α := Nat) (fun k => ds2.length - k) (fun k => k ≤ ds2.length) (fun k => ⟨158, [(11, r_R25_1), (12, r_R25_3), (13, .int .i64 (k : Int))]⟩) (fun k => L_R1_0) (fun k => T8) ?_ ?_
                            · refine ⟨0, (Nat.zero_le _), (LessE.less (by repeat (first | exact LessE.nil | refine LessE.same rfl ?_ | refine LessE.own rfl ?_ | refine LessE.eq rfl ?_ (by first | rfl | (congr 1; omega) | simp))) rfl), (by repeat (first | exact Part.refl _ | refine Part.pull (by repeat (first | exact Pull.here | apply Pull.there)) ?_ | refine Part.skip _ ?_ | exact Part.nil _ | exact Part.app _ _)), (by repeat (first | exact Part.refl _ | refine Part.pull (by repeat (first | exact Pull.here | apply Pull.there)) ?_ | refine Part.skip _ ?_ | exact Part.nil _ | exact Part.app _ _))⟩
                            · rintro k hk4
                              refine HWp.seq ?_
                              refine HWp.seq ?_
                              refine HWp.text (.rd 0 (.rd 1 (.rd 2 (.rd 3 .done)))) rfl ?_
                              refine HPlan.move rfl rfl rfl ?_
                              refine HPlan.move rfl rfl rfl ?_
                              refine HPlan.lenS rfl rfl rfl q_tk_46 hsl (by rw [List.length_map]) ?_
                              refine HPlan.intBin rfl rfl rfl rfl rfl rfl ?_
                              refine HPlan.fin ?_
                              refine onNorm_n ?_
                              refine HWp.cond rfl ?_ ?_
                              · intro hc129
                                first
                                | (exact absurd hc129 Bool.false_ne_true)
                                | (exact absurd hc129.symm Bool.false_ne_true)
                                | ((try simp only [decide_eq_true_eq, decide_eq_false_iff_not, Bool.not_eq_true', Bool.not_eq_false', Bool.not_true, Bool.not_false, beq_iff_eq, bne_iff_ne, bne_eq_false_iff_eq, ne_eq, beq_eq_false_iff_ne, Int.not_lt, Int.not_le] at hc129); exfalso; omega)
                                | (try simp only [decide_eq_true_eq, decide_eq_false_iff_not, Bool.not_eq_true', Bool.not_eq_false', Bool.not_true, Bool.not_false, beq_iff_eq, bne_iff_ne, bne_eq_false_iff_eq, ne_eq, beq_eq_false_iff_ne, Int.not_lt, Int.not_le] at hc129)
                                  refine HWp.skip ?_
                                  refine onNorm_n ?_
                                  refine HWp.seq ?_
                                  refine HWp.block ?_
                                  refine HWp.seq ?_
                                  refine HWp.draw q_mix (.rd 0 (.rd 1 (.rd 2 (.rd 3 (.rd 4 (.rd 5 (.rd 6 (.rd 7 (.rd 8 (.rd 9 (.rd 10 (.rd 11 (.rd 12 (.rd 13 (.rd 14 (.rd 15 (.rd 16 (.rd 17 (.rd 18 (.rd 19 (.rd 20 (.rd 21 (.act 22 [] (.rd 23 (.rd 24 (.rd 25 .done)))))))))))))))))))))))))) (by kernel_rfl) ?_
                                  refine HPlan.move rfl rfl rfl ?_
                                  refine HPlan.move rfl rfl rfl ?_
                                  refine HPlan.indexS rfl rfl rfl rfl q_ix_46 hsl (by omega) (by simp only [List.length_map]; omega) (digs_at (ds := ds2) (k := k) (by omega)) ?_
                                  refine HPlan.loadI rfl rfl rfl q_sh_29 (by rw [dig_len (h32 _ (List.getElem_mem _))]; decide) (dig_whole (h32 _ (List.getElem_mem _))) ?_
                                  refine HPlan.move rfl rfl rfl ?_
                                  refine HPlan.move rfl rfl rfl ?_
                                  refine HPlan.indexS rfl rfl rfl rfl q_ix_46 hsl2 (by omega) (by simp only [List.length_map]; omega) (digs_at (ds := ds2) (k := k) (by omega)) ?_
                                  refine HPlan.loadI rfl rfl rfl q_sh_29 (by rw [dig_len (h32 _ (List.getElem_mem _))]; decide) (dig_whole (h32 _ (List.getElem_mem _))) ?_
                                  refine HPlan.aggNe rfl rfl rfl rfl q_sh_29 q_ck_29 (by decide) q_eg_29 ((bytesLV_length _).trans (h32 _ (List.getElem_mem _))) ((bytesLV_length _).trans (h32 _ (List.getElem_mem _))) (fits_dig (h32 _ (List.getElem_mem _))) (fits_dig (h32 _ (List.getElem_mem _))) ((eq_dig _ _).trans (decide_eq_true rfl)) ?_
                                  refine HPlan.move rfl rfl rfl ?_
                                  refine HPlan.move rfl rfl rfl ?_
                                  refine HPlan.intBin rfl rfl rfl rfl rfl rfl ?_
                                  refine HPlan.move rfl rfl rfl ?_
                                  refine HPlan.split ?_ ?_
                                  · intro hb31_12
                                    first
                                    | (exact absurd hb31_12 Bool.false_ne_true)
                                    | (exact absurd hb31_12.symm Bool.false_ne_true)
                                    | ((try simp only [decide_eq_true_eq, decide_eq_false_iff_not, Bool.not_eq_true', Bool.not_eq_false', Bool.not_true, Bool.not_false, beq_iff_eq, bne_iff_ne, bne_eq_false_iff_eq, ne_eq, beq_eq_false_iff_ne, Int.not_lt, Int.not_le] at hb31_12); exfalso; omega)
                                    | (try simp only [decide_eq_true_eq, decide_eq_false_iff_not, Bool.not_eq_true', Bool.not_eq_false', Bool.not_true, Bool.not_false, beq_iff_eq, bne_iff_ne, bne_eq_false_iff_eq, ne_eq, beq_eq_false_iff_ne, Int.not_lt, Int.not_le] at hb31_12)
                                      refine HPlan.move rfl rfl rfl ?_
                                      refine HPlan.move rfl rfl rfl ?_
                                      refine HPlan.intBin rfl rfl rfl rfl rfl ((congrArg (LV.int .i64) (show IntKind.i64.wrap ((k : Int) - 1) = ((k - 1 : Nat) : Int) by rw [wrap_in (by omega) (by omega)]; omega)) : _ = LV.int .i64 ((k - 1 : Nat) : Int)) ?_
                                      refine HPlan.indexS rfl rfl rfl rfl q_ix_46 hsl (by omega) (by simp only [List.length_map]; omega) (digs_at (ds := ds2) (k := k - 1) (by omega)) ?_
                                      refine HPlan.loadI rfl rfl rfl q_sh_29 (by rw [dig_len (h32 _ (List.getElem_mem _))]; decide) (dig_whole (h32 _ (List.getElem_mem _))) ?_
                                      refine HPlan.move rfl rfl rfl ?_
                                      refine HPlan.move rfl rfl rfl ?_
                                      refine HPlan.indexS rfl rfl rfl rfl q_ix_46 hsl (by omega) (by simp only [List.length_map]; omega) (digs_at (ds := ds2) (k := k) (by omega)) ?_
                                      refine HPlan.loadI rfl rfl rfl q_sh_29 (by rw [dig_len (h32 _ (List.getElem_mem _))]; decide) (dig_whole (h32 _ (List.getElem_mem _))) ?_
                                      refine HPlan.callPure rfl rfl rfl q_en_22 (less_true hrs2 hnd h32 (by omega) (by omega)) keptH_nil ?_
                                      refine HPlan.not rfl rfl rfl rfl ?_
                                      refine HPlan.pickT rfl rfl rfl rfl ?_
                                      refine HPlan.pickF rfl rfl rfl rfl ?_
                                      refine HPlan.fin ?_
                                      refine onNorm_n ?_
                                      refine HWp.cond_f rfl ?_
                                      refine HWp.skip ?_
                                      refine onExitH_n ?_
                                      refine onNorm_n ?_
                                      refine HWp.text (.rd 0 (.rd 1 (.rd 2 .done))) rfl ?_
                                      refine HPlan.move rfl rfl rfl ?_
                                      refine HPlan.intBin rfl rfl rfl rfl rfl (by first | exact add_i64 (by omega) (by omega) | rfl) ?_
                                      refine HPlan.assign rfl rfl rfl ?_
                                      refine HPlan.fin ?_
                                      refine onNorm_n ?_
                                      refine ⟨(k + 1), (by omega), (by omega), (LessE.less (by repeat (first | exact LessE.nil | refine LessE.same rfl ?_ | refine LessE.own rfl ?_ | refine LessE.eq rfl ?_ (by first | rfl | (congr 1; omega) | simp))) rfl), (by repeat (first | exact Part.refl _ | refine Part.pull (by repeat (first | exact Pull.here | apply Pull.there)) ?_ | refine Part.skip _ ?_ | exact Part.nil _ | exact Part.app _ _)), (by repeat (first | exact Part.refl _ | refine Part.pull (by repeat (first | exact Pull.here | apply Pull.there)) ?_ | refine Part.skip _ ?_ | exact Part.nil _ | exact Part.app _ _))⟩
                                  · intro hb31_12
                                    first
                                    | (exact absurd hb31_12 Bool.false_ne_true)
                                    | (exact absurd hb31_12.symm Bool.false_ne_true)
                                    | ((try simp only [decide_eq_true_eq, decide_eq_false_iff_not, Bool.not_eq_true', Bool.not_eq_false', Bool.not_true, Bool.not_false, beq_iff_eq, bne_iff_ne, bne_eq_false_iff_eq, ne_eq, beq_eq_false_iff_ne, Int.not_lt, Int.not_le] at hb31_12); exfalso; omega)
                                    | (try simp only [decide_eq_true_eq, decide_eq_false_iff_not, Bool.not_eq_true', Bool.not_eq_false', Bool.not_true, Bool.not_false, beq_iff_eq, bne_iff_ne, bne_eq_false_iff_eq, ne_eq, beq_eq_false_iff_ne, Int.not_lt, Int.not_le] at hb31_12)
                                      refine HPlan.leftR rfl rfl ?_
                                      refine HPlan.leftR rfl rfl ?_
                                      refine HPlan.leftR rfl rfl ?_
                                      refine HPlan.leftR rfl rfl ?_
                                      refine HPlan.leftR rfl rfl ?_
                                      refine HPlan.leftR rfl rfl ?_
                                      refine HPlan.leftR rfl rfl ?_
                                      refine HPlan.leftR rfl rfl ?_
                                      refine HPlan.leftR rfl rfl ?_
                                      refine HPlan.leftA rfl rfl ?_
                                      refine HPlan.leftR rfl rfl ?_
                                      refine HPlan.pickF rfl rfl rfl rfl ?_
                                      refine HPlan.pickF rfl rfl rfl rfl ?_
                                      refine HPlan.fin ?_
                                      refine onNorm_n ?_
                                      refine HWp.cond_f rfl ?_
                                      refine HWp.skip ?_
                                      refine onExitH_n ?_
                                      refine onNorm_n ?_
                                      refine HWp.text (.rd 0 (.rd 1 (.rd 2 .done))) rfl ?_
                                      refine HPlan.move rfl rfl rfl ?_
                                      refine HPlan.intBin rfl rfl rfl rfl rfl (by first | exact add_i64 (by omega) (by omega) | rfl) ?_
                                      refine HPlan.assign rfl rfl rfl ?_
                                      refine HPlan.fin ?_
                                      refine onNorm_n ?_
                                      refine ⟨(k + 1), (by omega), (by omega), (LessE.less (by repeat (first | exact LessE.nil | refine LessE.same rfl ?_ | refine LessE.own rfl ?_ | refine LessE.eq rfl ?_ (by first | rfl | (congr 1; omega) | simp))) rfl), (by repeat (first | exact Part.refl _ | refine Part.pull (by repeat (first | exact Pull.here | apply Pull.there)) ?_ | refine Part.skip _ ?_ | exact Part.nil _ | exact Part.app _ _)), (by repeat (first | exact Part.refl _ | refine Part.pull (by repeat (first | exact Pull.here | apply Pull.there)) ?_ | refine Part.skip _ ?_ | exact Part.nil _ | exact Part.app _ _))⟩
                              · intro hc129
                                first
                                | (exact absurd hc129 Bool.false_ne_true)
                                | (exact absurd hc129.symm Bool.false_ne_true)
                                | ((try simp only [decide_eq_true_eq, decide_eq_false_iff_not, Bool.not_eq_true', Bool.not_eq_false', Bool.not_true, Bool.not_false, beq_iff_eq, bne_iff_ne, bne_eq_false_iff_eq, ne_eq, beq_eq_false_iff_ne, Int.not_lt, Int.not_le] at hc129); exfalso; omega)
                                | (try simp only [decide_eq_true_eq, decide_eq_false_iff_not, Bool.not_eq_true', Bool.not_eq_false', Bool.not_true, Bool.not_false, beq_iff_eq, bne_iff_ne, bne_eq_false_iff_eq, ne_eq, beq_eq_false_iff_ne, Int.not_lt, Int.not_le] at hc129)
                                  refine HWp.exit ?_
                                  refine onNorm_e ?_
                                  refine onNorm_e ?_
                                  refine onExitH_hit ?_
                                  refine onNorm_n ?_
                                  refine HWp.seq ?_
                                  refine HWp.text (.rd 0 .done) rfl ?_
                                  refine HPlan.assign rfl rfl rfl ?_
                                  refine HPlan.fin ?_
                                  refine onNorm_n ?_
                                  refine HWp.ret ?_
                                  refine retQ_r (.tmp rfl .nil) ?_
                                  exact endK_of ⟨rfl, rfl, rfl⟩ (by repeat (first | exact Part.refl _ | refine Part.pull (by repeat (first | exact Pull.here | apply Pull.there)) ?_ | refine Part.skip _ ?_ | exact Part.nil _ | exact Part.app _ _)) (by repeat (first | exact Part.refl _ | refine Part.pull (by repeat (first | exact Pull.here | apply Pull.there)) ?_ | refine Part.skip _ ?_ | exact Part.nil _ | exact Part.app _ _))
end Go.Proofs.Ythfoobfgdakbmaa
