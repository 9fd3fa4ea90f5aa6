/- WHAT THE WALKS STAND ON, part of a proof: B5 B6 B7 B8 B9 B10 B11 B12 B13 B14 B15 B16 B17 B18 B19 B20. No condition beyond what each theorem states. -/
import Derived.Test.YthfoobfgdakbmaaLib3
import Derived.Test.YthfoobfgdakbmaaPart1
set_option linter.unusedVariables false
set_option linter.unusedSimpArgs false
set_option maxRecDepth 100000
namespace Go.Proofs.Ythfoobfgdakbmaa
open Go Go.RowKit Go.L
theorem q_zo_29 : zeroOf Try.prog 29 = some (LV.agg (List.replicate 32 (LV.int .u8 0))) := by kernel_rfl
theorem q_bs_45 : byteSl Try.prog 45 = true := by kernel_rfl
theorem q_us_9 : (Try.prog.underlying 9).isSome = true := by kernel_rfl
theorem q_se_45 : sliceElem Try.prog 45 = some (5, 1) := by kernel_rfl
theorem q_zs_5 : (zeroOf Try.prog 5).isSome = true := by kernel_rfl
theorem q_src_45 : srcTy Try.prog 45 = true := by kernel_rfl
theorem q_us_71 : (Try.prog.underlying 71).isSome = true := by kernel_rfl
theorem q_it_5 : intTy Try.prog 5 = some .u8 := by kernel_rfl
theorem q_us_67 : (Try.prog.underlying 67).isSome = true := by kernel_rfl
theorem q_ix_29 : indexIn Try.prog 29 = some (some 32, 1) := by kernel_rfl
theorem q_sz_5 : sizeOfT Try.prog 5 = some 1 := by kernel_rfl
theorem q_sh_29 : shapeOf Try.prog 29 = some (true, 32) := by kernel_rfl
theorem q_sz_29 : sizeOfT Try.prog 29 = some 32 := by kernel_rfl
theorem q_f_26 : Try.prog.funcs[26]? = some Try.f26 := by kernel_rfl

theorem rem_i64 {i : Nat} (d : Nat) : intBin .rem .i64 (i : Int) (d : Int) = .int .i64 ((i % d : Nat) : Int) := by
  simp only [intBin]
  rw [Int.tmod_eq_emod_of_nonneg (by omega)]; rfl
def u8Of (z : Int) : UInt8 := UInt8.ofNat (IntKind.u8.wrap z).toNat
theorem u8Of_toNat (z : Int) : ((u8Of z).toNat : Int) = IntKind.u8.wrap z := by
  have h : IntKind.u8.wrap z = z % 256 := by simp [IntKind.wrap, IntKind.signed, IntKind.bits]
  have h0 : 0 ≤ z % 256 := Int.emod_nonneg _ (by decide)
  have h1 : z % 256 < 256 := Int.emod_lt_of_pos _ (by decide)
  unfold u8Of
  rw [h, UInt8.toNat_ofNat']
  omega
theorem bytes_one (z : Int) : [LV.int .u8 (IntKind.u8.wrap z)] = bytesLV [u8Of z] := by simp [bytesLV, u8Of_toNat]
def lenB (n : Int) (j : Nat) : UInt8 := u8Of ((IntKind.u64.wrap (8 * n)).fdiv (2 ^ min (56 - 8 * (j : Int)).toNat 64))
def lenBs (n : Int) : Nat → List UInt8
  | 0 => []
  | j + 1 => lenBs n j ++ [lenB n j]
@[simp] theorem lenBs_length (n : Int) : ∀ j, (lenBs n j).length = j
  | 0 => rfl
  | j + 1 => by simp [lenBs, lenBs_length n j]
def pad (tl : List UInt8) : List UInt8 := tl ++ [128] ++ List.replicate ((119 - tl.length) % 64) 0
def padded (tl : List UInt8) (n : Int) : List UInt8 := pad tl ++ lenBs n 8
def outB (s : List Int) (i : Nat) : UInt8 := u8Of ((s.getD (i / 4) 0).fdiv (2 ^ min (24 - 8 * ((i % 4 : Nat) : Int)).toNat 32))
def outN (s : List Int) : Nat → List UInt8
  | 0 => List.replicate 32 0
  | i + 1 => (outN s i).set i (outB s i)
@[simp] theorem outN_length (s : List Int) : ∀ i, (outN s i).length = 32
  | 0 => by simp [outN]
  | i + 1 => by simp [outN, outN_length s i]
def sumF (st : List Int) (tl : List UInt8) (n : Int) : List UInt8 := outN (absorb st (padded tl n) ((padded tl n).length / 64)) 32
theorem sumF_length (st : List Int) (tl : List UInt8) (n : Int) : (sumF st tl n).length = 32 := outN_length _ _
def digV (l : List UInt8) : LV := .agg (bytesLV l)
theorem ofBytes_toList (l : List UInt8) : (ofBytes l).toList = l := by rw [ba_toList]; rfl
theorem byte_set (d : List UInt8) (k off : Nat) (z : Int) (h : k < d.length) (e : off = k) : splice (bytesLV d) off (LV.int .u8 (IntKind.u8.wrap z)).cells = bytesLV (d.set k (u8Of z)) := by
  subst e
  simp only [splice, LV.cells, List.length_singleton]
  apply List.ext_getElem?
  intro j
  rw [bytesLV_get, List.getElem?_set, List.append_assoc, List.getElem?_append]
  have e1 : ((bytesLV d).take off).length = off := by simp; omega
  rw [e1]
  by_cases hj : j < off
  · rw [if_pos hj, List.getElem?_take, if_pos hj, if_neg (by omega), bytesLV_get]
  · rw [if_neg hj]
    by_cases hj2 : off = j
    · subst hj2; simp [h, u8Of_toNat]
    · rw [if_neg hj2, List.getElem?_append_right (by simp; omega), List.getElem?_drop, bytesLV_get]
      congr 2; simp; omega
theorem load_all (cs : List LV) (n : Nat) (h : cs.length = n) : (bif true then LV.agg ((cs.drop 0).take n) else (cs.drop 0).headD .und) = .agg cs := by
  subst h; simp
@[simp] theorem digV_solid (l : List UInt8) : (LV.agg (bytesLV l)).solid = true := by simp [LV.solid, LV.cells, bytesLV, LV.one]

theorem sum_spec (st : List Int) (hst : st.length = 8) (o : Option (Nat × Nat)) (tl : List UInt8) (htl : tl.length < 64) (hgo : growOk o (bytesLV tl)) (n : Int) (id ver : Nat) (F : Hp) (T : Tk) : HCalls Try.prog 26 [.ref id 0] ((id, .cells 73 (words st ++ [growV o 1 (bytesLV tl), .int .u64 n]) ver) :: F) T (fun r L' T' => r = digV (sumF st tl n) ∧ L' = (id, .cells 73 (words st ++ [growV o 1 (bytesLV tl), .int .u64 n]) ver) :: F ∧ T' = T) := by
  refine HCalls.enterG q_f_26 rfl ?_
  refine HWp.frame (r' := ⟨71, [(0, .ref id 0)]⟩) rfl ?_
  refine HWp.seq ?_
  refine HWp.text (.act 0 [] .done) rfl ?_
  refine HPlan.alloc rfl rfl q_zo_29 (by first | rfl | (simp; done)) (fun i2 => ⟨keptH_nil, ?_⟩)
  refine HPlan.fin ?_
  refine onNorm_n ?_
  refine HWp.seq ?_
  refine HWp.seq ?_
  refine HWp.text (.rd 0 (.rd 1 .done)) rfl ?_
  refine HPlan.move rfl rfl rfl ?_
  refine HPlan.nilEqK rfl rfl rfl rfl q_tk_56 rfl rfl rfl rfl ?_
  refine HPlan.fin ?_
  refine onNorm_n ?_
  refine HWp.cond rfl ?_ ?_
  · intro hc9
    first
    | (exact absurd hc9 Bool.false_ne_true)
    | (exact absurd hc9.symm Bool.false_ne_true)
    | ((try simp only [decide_eq_true_eq, decide_eq_false_iff_not, Bool.not_eq_true', Bool.not_eq_false', Bool.not_true, Bool.not_false, beq_iff_eq, bne_iff_ne, bne_eq_false_iff_eq, ne_eq, beq_eq_false_iff_ne, Int.not_lt, Int.not_le] at hc9); exfalso; omega)
    | (try simp only [decide_eq_true_eq, decide_eq_false_iff_not, Bool.not_eq_true', Bool.not_eq_false', Bool.not_true, Bool.not_false, beq_iff_eq, bne_iff_ne, bne_eq_false_iff_eq, ne_eq, beq_eq_false_iff_ne, Int.not_lt, Int.not_le] at hc9)
      exfalso
      skip
  · intro hc9
    first
    | (exact absurd hc9 Bool.false_ne_true)
    | (exact absurd hc9.symm Bool.false_ne_true)
    | ((try simp only [decide_eq_true_eq, decide_eq_false_iff_not, Bool.not_eq_true', Bool.not_eq_false', Bool.not_true, Bool.not_false, beq_iff_eq, bne_iff_ne, bne_eq_false_iff_eq, ne_eq, beq_eq_false_iff_ne, Int.not_lt, Int.not_le] at hc9); exfalso; omega)
    | (try simp only [decide_eq_true_eq, decide_eq_false_iff_not, Bool.not_eq_true', Bool.not_eq_false', Bool.not_true, Bool.not_false, beq_iff_eq, bne_iff_ne, bne_eq_false_iff_eq, ne_eq, beq_eq_false_iff_ne, Int.not_lt, Int.not_le] at hc9)
      refine HWp.skip ?_
      refine onNorm_n ?_
      refine HWp.seq ?_
      refine HWp.text (.rd 0 (.rd 1 (.rd 2 (.rd 3 (.act 4 [] (.act 5 [] .done)))))) rfl ?_
      refine HPlan.move rfl rfl rfl ?_
      refine HPlan.nilCheck rfl rfl rfl rfl ?_
      refine HPlan.fieldAddr rfl rfl rfl rfl q_fo_73_0 rfl ?_
      refine HPlan.load rfl rfl rfl q_sh_69 (by repeat (first | exact List.Mem.head _ | apply List.Mem.tail | assumption)) (by rw [List.length_append, words_length]; constructor <;> simp [hst]) (load_pre _ _ 8 hst) ?_
      refine HPlan.alloc rfl rfl q_zo_69 (by first | rfl | (simp; done)) (fun i3 => ⟨keptH_nil, ?_⟩)
      refine HPlan.store rfl rfl rfl rfl q_sz_69 (by first | rfl | (simp; done)) (by rw [agg_cells, words_length, hst]) (by repeat (first | exact List.Mem.head _ | apply List.Mem.tail | assumption)) ((splice_all _ _ (by rw [agg_cells, words_length, hst]; rfl)).trans (List.append_nil _).symm) (by repeat (first | exact Upd.here | apply Upd.there)) (by decide) keptH_nil ?_
      refine HPlan.fin ?_
      refine onNorm_n ?_
      refine HWp.seq ?_
      refine HWp.text (.rd 0 (.rd 1 (.rd 2 (.rd 3 (.rd 4 (.act 5 [] (.act 6 [] (.act 7 [] (.rd 8 .done))))))))) rfl ?_
      refine HPlan.move rfl rfl rfl ?_
      refine HPlan.nilCheck rfl rfl rfl rfl ?_
      refine HPlan.fieldAddr rfl rfl rfl rfl q_fo_73_1 rfl ?_
      refine HPlan.load rfl rfl rfl q_sh_45 (by repeat (first | exact List.Mem.head _ | apply List.Mem.tail | assumption)) (by rw [List.length_append, words_length]; constructor <;> simp [hst]) (hash_8 _ _ _ hst) ?_
      refine HPlan.bytesStr rfl rfl rfl q_bs_45 q_st_9 (growV_isSl hgo) rfl ?_
      refine HPlan.strBytes rfl rfl rfl q_us_9 q_bs_45 (congrArg bytesLV (ofBytes_toList tl)) keptH_nil (fun tk0 => ?_)
      refine HPlan.buildSliceN rfl rfl q_se_45 q_zs_5 rfl (by decide) rfl rfl (rfl : _ = bytesLV [128]) (allCells_cons (by first | rfl | (simp; done)) (by first | rfl | decide | omega | (simp; done) | (simp; omega)) allCells_nil) keptH_nil ?_
      refine HPlan.appendG rfl rfl (rfl : _ = some (growV (some (tk0, 0)) 1 (bytesLV tl))) rfl q_el_45 q_src_45 (by first | exact IsSl.sl | exact IsSl.nils | assumption | exact growV_isSl (by assumption)) (List.Perm.refl _) (growOk_isSome rfl) (bytesLV_solid _) (by simp; omega) (by simp; omega) keptH_nil (fun o2 hg_o2 => ?_)
      have ho2 : o2.isSome = true := growOk_pos hg_o2 (by simp)
      rw [← bytesLV_append] at hg_o2 ⊢
      refine HPlan.assign rfl rfl rfl ?_
      refine HPlan.fin ?_
      refine onNorm_n ?_
      refine HWp.seq ?_
      refine HWp.block ?_
      refine HWp.loopF (α := Nat × Option (Nat × Nat)) (fun q => (119 - tl.length) % 64 - q.1) (fun q => q.1 ≤ (119 - tl.length) % 64 ∧ q.2.isSome = true) (fun q => ⟨71, [(0, .ref id 0), (2, .ref i2 0), (3, .ref i3 0), (4, growV q.2 1 (bytesLV (tl ++ [128] ++ List.replicate q.1 0)))]⟩) (fun q => (i3, .cells 69 (words st ++ []) 1) :: (i2, .cells 29 (bytesLV (List.replicate 32 0)) 0) :: (id, .cells 73 (words st ++ [growV o 1 (bytesLV tl), .int .u64 n]) ver) :: F) (fun q => growT q.2 ++ T) ?_ ?_
      · refine ⟨(0, o2), ⟨by simp only; omega, ho2⟩, (LessE.less (by repeat (first | exact LessE.nil | refine LessE.same rfl ?_ | refine LessE.own rfl ?_ | refine LessE.eq rfl ?_ (by first | rfl | (congr 1; omega) | simp))) rfl), (by repeat (first | exact Part.refl _ | refine Part.pull (by repeat (first | exact Pull.here | apply Pull.there)) ?_ | refine Part.skip _ ?_ | exact Part.nil _ | exact Part.app _ _)), (by repeat (first | exact Part.refl _ | refine Part.pull (by repeat (first | exact Pull.here | apply Pull.there)) ?_ | refine Part.skip _ ?_ | exact Part.nil _ | exact Part.app _ _))⟩
      · rintro q ⟨hj, ho⟩
        obtain ⟨j, o1⟩ := q
        simp only at hj ho ⊢
        have hlen : (tl ++ [128] ++ List.replicate j 0).length = tl.length + 1 + j := by simp; omega
        have hgj : growOk o1 (bytesLV (tl ++ [128] ++ List.replicate j 0)) := growOk_isSome ho
        refine HWp.seq ?_
        refine HWp.seq ?_
        refine HWp.text (.rd 0 (.rd 1 (.rd 2 (.rd 3 .done)))) rfl ?_
        refine HPlan.move rfl rfl rfl ?_
        refine HPlan.lenS rfl rfl rfl q_tk_45 (growV_isSl hgj) (by rw [bytesLV_length, hlen]) ?_
        refine HPlan.intBin rfl rfl rfl rfl ⟨rfl, by decide⟩ (rem_i64 64) ?_
        refine HPlan.intBin rfl rfl rfl rfl rfl rfl ?_
        refine HPlan.fin ?_
        refine onNorm_n ?_
        refine HWp.cond rfl ?_ ?_
        · intro hc27
          first
          | (exact absurd hc27 Bool.false_ne_true)
          | (exact absurd hc27.symm Bool.false_ne_true)
          | ((try simp only [decide_eq_true_eq, decide_eq_false_iff_not, Bool.not_eq_true', Bool.not_eq_false', Bool.not_true, Bool.not_false, beq_iff_eq, bne_iff_ne, bne_eq_false_iff_eq, ne_eq, beq_eq_false_iff_ne, Int.not_lt, Int.not_le] at hc27); exfalso; omega)
          | (try simp only [decide_eq_true_eq, decide_eq_false_iff_not, Bool.not_eq_true', Bool.not_eq_false', Bool.not_true, Bool.not_false, beq_iff_eq, bne_iff_ne, bne_eq_false_iff_eq, ne_eq, beq_eq_false_iff_ne, Int.not_lt, Int.not_le] at hc27)
            refine HWp.skip ?_
            refine onNorm_n ?_
            refine HWp.block ?_
            refine HWp.text (.rd 0 (.act 1 [] (.act 2 [] (.rd 3 .done)))) rfl ?_
            refine HPlan.move rfl rfl rfl ?_
            refine HPlan.buildSliceN rfl rfl q_se_45 q_zs_5 rfl (by decide) rfl rfl (rfl : _ = bytesLV [0]) (allCells_cons (by first | rfl | (simp; done)) (by first | rfl | decide | omega | (simp; done) | (simp; omega)) allCells_nil) keptH_nil ?_
            refine HPlan.appendG rfl rfl rfl rfl q_el_45 q_src_45 (by first | exact IsSl.sl | exact IsSl.nils | assumption | exact growV_isSl (by assumption)) (List.Perm.refl _) hgj (bytesLV_solid _) (by simp; omega) (by simp; omega) keptH_nil (fun o3 hg_o3 => ?_)
            have ho3 : o3.isSome = true := growOk_pos hg_o3 (by simp)
            rw [← bytesLV_append, List.append_assoc, ← List.replicate_succ']
            refine HPlan.assign rfl rfl rfl ?_
            refine HPlan.fin ?_
            refine onExitH_n ?_
            refine onNorm_n ?_
            refine ⟨(j + 1, o3), (by simp only; omega), ⟨by simp only; omega, ho3⟩, (LessE.less (by repeat (first | exact LessE.nil | refine LessE.same rfl ?_ | refine LessE.own rfl ?_ | refine LessE.eq rfl ?_ (by first | rfl | (congr 1; omega) | simp))) rfl), (by repeat (first | exact Part.refl _ | refine Part.pull (by repeat (first | exact Pull.here | apply Pull.there)) ?_ | refine Part.skip _ ?_ | exact Part.nil _ | exact Part.app _ _)), (by repeat (first | exact Part.refl _ | refine Part.pull (by repeat (first | exact Pull.here | apply Pull.there)) ?_ | refine Part.skip _ ?_ | exact Part.nil _ | exact Part.app _ _))⟩
        · intro hc27
          first
          | (exact absurd hc27 Bool.false_ne_true)
          | (exact absurd hc27.symm Bool.false_ne_true)
          | ((try simp only [decide_eq_true_eq, decide_eq_false_iff_not, Bool.not_eq_true', Bool.not_eq_false', Bool.not_true, Bool.not_false, beq_iff_eq, bne_iff_ne, bne_eq_false_iff_eq, ne_eq, beq_eq_false_iff_ne, Int.not_lt, Int.not_le] at hc27); exfalso; omega)
          | (try simp only [decide_eq_true_eq, decide_eq_false_iff_not, Bool.not_eq_true', Bool.not_eq_false', Bool.not_true, Bool.not_false, beq_iff_eq, bne_iff_ne, bne_eq_false_iff_eq, ne_eq, beq_eq_false_iff_ne, Int.not_lt, Int.not_le] at hc27)
            refine HWp.exit ?_
            refine onNorm_e ?_
            refine onNorm_e ?_
            have hjz : j = (119 - tl.length) % 64 := by omega
            subst hjz
            rw [show tl ++ [128] ++ List.replicate ((119 - tl.length) % 64) (0 : UInt8) = pad tl ++ lenBs n 0 from (List.append_nil _).symm]
            refine onExitH_hit ?_
            refine onNorm_n ?_
            refine HWp.seq ?_
            refine HWp.seq ?_
            refine HWp.text (.rd 0 .done) rfl ?_
            refine HPlan.assign rfl rfl rfl ?_
            refine HPlan.fin ?_
            refine onNorm_n ?_
            refine HWp.block ?_
            refine HWp.loopF (α := Nat × Option (Nat × Nat)) (fun q => 8 - q.1) (fun q => q.1 ≤ 8 ∧ q.2.isSome = true) (fun q => ⟨71, [(0, .ref id 0), (2, .ref i2 0), (3, .ref i3 0), (4, growV q.2 1 (bytesLV (pad tl ++ lenBs n q.1))), (5, .int .i64 (56 - 8 * (q.1 : Int)))]⟩) (fun q => (i3, .cells 69 (words st ++ []) 1) :: (i2, .cells 29 (bytesLV (List.replicate 32 0)) 0) :: (id, .cells 73 (words st ++ [growV o 1 (bytesLV tl), .int .u64 n]) ver) :: F) (fun q => growT q.2 ++ T) ?_ ?_
            · refine ⟨(0, o1), ⟨by simp only; omega, ho⟩, (LessE.less (by repeat (first | exact LessE.nil | refine LessE.same rfl ?_ | refine LessE.own rfl ?_ | refine LessE.eq rfl ?_ (by first | rfl | (congr 1; omega) | simp))) rfl), (by repeat (first | exact Part.refl _ | refine Part.pull (by repeat (first | exact Pull.here | apply Pull.there)) ?_ | refine Part.skip _ ?_ | exact Part.nil _ | exact Part.app _ _)), (by repeat (first | exact Part.refl _ | refine Part.pull (by repeat (first | exact Pull.here | apply Pull.there)) ?_ | refine Part.skip _ ?_ | exact Part.nil _ | exact Part.app _ _))⟩
            · rintro q ⟨hj2, ho⟩
              obtain ⟨j, o1⟩ := q
              simp only at hj2 ho ⊢
              have hlen : (pad tl ++ lenBs n j).length = tl.length + 1 + (119 - tl.length) % 64 + j := by simp [pad]; omega
              have hgj : growOk o1 (bytesLV (pad tl ++ lenBs n j)) := growOk_isSome ho
              refine HWp.seq ?_
              refine HWp.seq ?_
              refine HWp.text (.rd 0 (.rd 1 .done)) rfl ?_
              refine HPlan.move rfl rfl rfl ?_
              refine HPlan.intBin rfl rfl rfl rfl rfl rfl ?_
              refine HPlan.fin ?_
              refine onNorm_n ?_
              refine HWp.cond rfl ?_ ?_
              · intro hc32
                first
                | (exact absurd hc32 Bool.false_ne_true)
                | (exact absurd hc32.symm Bool.false_ne_true)
                | ((try simp only [decide_eq_true_eq, decide_eq_false_iff_not, Bool.not_eq_true', Bool.not_eq_false', Bool.not_true, Bool.not_false, beq_iff_eq, bne_iff_ne, bne_eq_false_iff_eq, ne_eq, beq_eq_false_iff_ne, Int.not_lt, Int.not_le] at hc32); exfalso; omega)
                | (try simp only [decide_eq_true_eq, decide_eq_false_iff_not, Bool.not_eq_true', Bool.not_eq_false', Bool.not_true, Bool.not_false, beq_iff_eq, bne_iff_ne, bne_eq_false_iff_eq, ne_eq, beq_eq_false_iff_ne, Int.not_lt, Int.not_le] at hc32)
                  refine HWp.skip ?_
                  refine onNorm_n ?_
                  refine HWp.seq ?_
                  refine HWp.block ?_
                  refine HWp.text (.rd 0 (.rd 1 (.rd 2 (.rd 3 (.rd 4 (.rd 5 (.rd 6 (.rd 7 (.rd 8 (.act 9 [] (.act 10 [] (.rd 11 .done)))))))))))) rfl ?_
                  refine HPlan.move rfl rfl rfl ?_
                  refine HPlan.move rfl rfl rfl ?_
                  refine HPlan.nilCheck rfl rfl rfl rfl ?_
                  refine HPlan.fieldAddr rfl rfl rfl rfl q_fo_73_2 rfl ?_
                  refine HPlan.load rfl rfl rfl q_sh_71 (by repeat (first | exact List.Mem.head _ | apply List.Mem.tail | assumption)) (by rw [List.length_append, words_length]; constructor <;> simp [hst]) (hash_9 _ _ _ hst) ?_
                  refine HPlan.intBin rfl rfl rfl rfl rfl rfl ?_
                  refine HPlan.move rfl rfl rfl ?_
                  refine HPlan.intBin rfl rfl rfl rfl (by show (0:Int) ≤ _; omega) rfl ?_
                  refine HPlan.intConv rfl rfl rfl q_us_71 q_it_5 rfl ?_
                  refine HPlan.buildSliceN rfl rfl q_se_45 q_zs_5 rfl (by decide) rfl rfl (show _ = bytesLV [lenB n j] from bytes_one _) (allCells_cons (by first | rfl | (simp; done)) (by first | rfl | decide | omega | (simp; done) | (simp; omega)) allCells_nil) keptH_nil ?_
                  refine HPlan.appendG rfl rfl rfl rfl q_el_45 q_src_45 (by first | exact IsSl.sl | exact IsSl.nils | assumption | exact growV_isSl (by assumption)) (List.Perm.refl _) hgj (bytesLV_solid _) (by rw [bytesLV_length, hlen, bytesLV_length]; simp only [List.length_cons, List.length_nil]; omega) (by rw [bytesLV_length, hlen, bytesLV_length]; simp only [List.length_cons, List.length_nil]; omega) keptH_nil (fun o4 hg_o4 => ?_)
                  have ho4 : o4.isSome = true := growOk_pos hg_o4 (by simp)
                  rw [← bytesLV_append, List.append_assoc, show lenBs n j ++ [lenB n j] = lenBs n (j + 1) from rfl]
                  refine HPlan.assign rfl rfl rfl ?_
                  refine HPlan.fin ?_
                  refine onExitH_n ?_
                  refine onNorm_n ?_
                  refine HWp.text (.rd 0 (.rd 1 (.rd 2 .done))) rfl ?_
                  refine HPlan.move rfl rfl rfl ?_
                  refine HPlan.intBin rfl rfl rfl rfl rfl (by first | exact sub_i64 (by omega) (by omega) | rfl) ?_
                  refine HPlan.assign rfl rfl rfl ?_
                  refine HPlan.fin ?_
                  refine onNorm_n ?_
                  refine ⟨(j + 1, o4), (by simp only; omega), ⟨by simp only; omega, ho4⟩, (LessE.less (by repeat (first | exact LessE.nil | refine LessE.same rfl ?_ | refine LessE.own rfl ?_ | refine LessE.eq rfl ?_ (by first | rfl | (congr 1; omega) | simp))) rfl), (by repeat (first | exact Part.refl _ | refine Part.pull (by repeat (first | exact Pull.here | apply Pull.there)) ?_ | refine Part.skip _ ?_ | exact Part.nil _ | exact Part.app _ _)), (by repeat (first | exact Part.refl _ | refine Part.pull (by repeat (first | exact Pull.here | apply Pull.there)) ?_ | refine Part.skip _ ?_ | exact Part.nil _ | exact Part.app _ _))⟩
              · intro hc32
                first
                | (exact absurd hc32 Bool.false_ne_true)
                | (exact absurd hc32.symm Bool.false_ne_true)
                | ((try simp only [decide_eq_true_eq, decide_eq_false_iff_not, Bool.not_eq_true', Bool.not_eq_false', Bool.not_true, Bool.not_false, beq_iff_eq, bne_iff_ne, bne_eq_false_iff_eq, ne_eq, beq_eq_false_iff_ne, Int.not_lt, Int.not_le] at hc32); exfalso; omega)
                | (try simp only [decide_eq_true_eq, decide_eq_false_iff_not, Bool.not_eq_true', Bool.not_eq_false', Bool.not_true, Bool.not_false, beq_iff_eq, bne_iff_ne, bne_eq_false_iff_eq, ne_eq, beq_eq_false_iff_ne, Int.not_lt, Int.not_le] at hc32)
                  refine HWp.exit ?_
                  refine onNorm_e ?_
                  refine onNorm_e ?_
                  obtain rfl : j = 8 := by omega
                  refine onExitH_hit ?_
                  refine onNorm_n ?_
                  refine HWp.seq ?_
                  refine HWp.block ?_
                  refine HWp.loopF (α := Nat × Nat × List Int × List UInt8 × Option (Nat × Nat)) (fun q => (padded tl n).length - 64 * q.1) (fun q => 64 * q.1 ≤ (padded tl n).length ∧ q.2.2.1 = absorb st (padded tl n) q.1 ∧ q.2.2.2.1 = (padded tl n).drop (64 * q.1) ∧ q.2.2.2.2.isSome = true) (fun q => ⟨71, [(2, .ref i2 0), (3, .ref i3 0), (4, growV q.2.2.2.2 1 (bytesLV q.2.2.2.1))]⟩) (fun q => (i3, .cells 69 (words q.2.2.1 ++ []) q.2.1) :: (i2, .cells 29 (bytesLV (List.replicate 32 0)) 0) :: (id, .cells 73 (words st ++ [growV o 1 (bytesLV tl), .int .u64 n]) ver) :: F) (fun q => growT q.2.2.2.2 ++ T) ?_ ?_
                  · refine ⟨(0, 1, st, padded tl n, o1), ⟨by simp only; omega, rfl, rfl, ho⟩, (LessE.less (by repeat (first | exact LessE.nil | refine LessE.same rfl ?_ | refine LessE.own rfl ?_ | refine LessE.eq rfl ?_ (by first | rfl | (congr 1; omega) | simp))) rfl), (by repeat (first | exact Part.refl _ | refine Part.pull (by repeat (first | exact Pull.here | apply Pull.there)) ?_ | refine Part.skip _ ?_ | exact Part.nil _ | exact Part.app _ _)), (by repeat (first | exact Part.refl _ | refine Part.pull (by repeat (first | exact Pull.here | apply Pull.there)) ?_ | refine Part.skip _ ?_ | exact Part.nil _ | exact Part.app _ _))⟩
                  · rintro q ⟨hk, hw, ht, ho⟩
                    have hpl : (padded tl n).length = tl.length + 1 + (119 - tl.length) % 64 + 8 := by simp [padded, pad]; omega
                    obtain ⟨k, ve, s1, t1, o1⟩ := q
                    simp only at hk hw ht ho ⊢
                    have hst1 : s1.length = 8 := by rw [hw]; exact absorb_length hst _ _
                    have hlt : t1.length = (padded tl n).length - 64 * k := by rw [ht, List.length_drop]
                    refine HWp.seq ?_
                    refine HWp.seq ?_
                    refine HWp.text (.rd 0 (.rd 1 (.rd 2 .done))) rfl ?_
                    refine HPlan.move rfl rfl rfl ?_
                    refine HPlan.lenS rfl rfl rfl q_tk_45 (growV_isSl (growOk_isSome ho)) (by rw [bytesLV_length]) ?_
                    refine HPlan.intBin rfl rfl rfl rfl rfl rfl ?_
                    refine HPlan.fin ?_
                    refine onNorm_n ?_
                    refine HWp.cond rfl ?_ ?_
                    · intro hc48
                      first
                      | (exact absurd hc48 Bool.false_ne_true)
                      | (exact absurd hc48.symm Bool.false_ne_true)
                      | ((try simp only [decide_eq_true_eq, decide_eq_false_iff_not, Bool.not_eq_true', Bool.not_eq_false', Bool.not_true, Bool.not_false, beq_iff_eq, bne_iff_ne, bne_eq_false_iff_eq, ne_eq, beq_eq_false_iff_ne, Int.not_lt, Int.not_le] at hc48); exfalso; omega)
                      | (try simp only [decide_eq_true_eq, decide_eq_false_iff_not, Bool.not_eq_true', Bool.not_eq_false', Bool.not_true, Bool.not_false, beq_iff_eq, bne_iff_ne, bne_eq_false_iff_eq, ne_eq, beq_eq_false_iff_ne, Int.not_lt, Int.not_le] at hc48)
                        refine HWp.skip ?_
                        refine onNorm_n ?_
                        refine HWp.seq ?_
                        refine HWp.block ?_
                        refine HWp.text (.rd 0 (.rd 1 (.act 2 [] .done))) rfl ?_
                        refine HPlan.move rfl rfl rfl ?_
                        refine HPlan.takeG rfl rfl rfl rfl q_sv_45 ho (by decide) (by rw [bytesLV_length]; omega) (bytesLV_take _ _) ?_
                        refine HPlan.callS rfl rfl rfl q_en_33 (take_spec (t1.take 64) _ (by rw [List.length_take]; omega) .sl s1 hst1 [] i3 69 ve ((i2, .cells 29 (bytesLV (List.replicate 32 0)) 0) :: (id, .cells 73 (words st ++ [growV o 1 (bytesLV tl), .int .u64 n]) ver) :: F) (growT o1 ++ T)) (List.Perm.refl _) (List.Perm.refl _) ?_
                        rintro r_R13_2 L_R13_2 T_R13_2 ⟨rfl, ve2, rfl, rfl⟩
                        refine ⟨keptH_nil, ?_⟩
                        refine HPlan.fin ?_
                        refine onExitH_n ?_
                        refine onNorm_n ?_
                        refine HWp.text (.rd 0 (.rd 1 (.rd 2 .done))) rfl ?_
                        refine HPlan.move rfl rfl rfl ?_
                        refine HPlan.dropG rfl rfl rfl rfl q_sv_45 ho (by decide) (by rw [bytesLV_length]; omega) (bytesLV_drop _ _) ?_
                        refine HPlan.assign rfl rfl rfl ?_
                        refine HPlan.fin ?_
                        refine onNorm_n ?_
                        refine ⟨(k + 1, _, takeF s1 (t1.take 64), t1.drop 64, o1), (by simp only; omega), ⟨by simp only; omega, by rw [hw, ht]; rfl, by rw [ht, List.drop_drop]; rfl, ho⟩, (LessE.less (by repeat (first | exact LessE.nil | refine LessE.same rfl ?_ | refine LessE.own rfl ?_ | refine LessE.eq rfl ?_ (by first | rfl | (congr 1; omega) | simp))) rfl), (by repeat (first | exact Part.refl _ | refine Part.pull (by repeat (first | exact Pull.here | apply Pull.there)) ?_ | refine Part.skip _ ?_ | exact Part.nil _ | exact Part.app _ _)), (by repeat (first | exact Part.refl _ | refine Part.pull (by repeat (first | exact Pull.here | apply Pull.there)) ?_ | refine Part.skip _ ?_ | exact Part.nil _ | exact Part.app _ _))⟩
                    · intro hc48
                      first
                      | (exact absurd hc48 Bool.false_ne_true)
                      | (exact absurd hc48.symm Bool.false_ne_true)
                      | ((try simp only [decide_eq_true_eq, decide_eq_false_iff_not, Bool.not_eq_true', Bool.not_eq_false', Bool.not_true, Bool.not_false, beq_iff_eq, bne_iff_ne, bne_eq_false_iff_eq, ne_eq, beq_eq_false_iff_ne, Int.not_lt, Int.not_le] at hc48); exfalso; omega)
                      | (try simp only [decide_eq_true_eq, decide_eq_false_iff_not, Bool.not_eq_true', Bool.not_eq_false', Bool.not_true, Bool.not_false, beq_iff_eq, bne_iff_ne, bne_eq_false_iff_eq, ne_eq, beq_eq_false_iff_ne, Int.not_lt, Int.not_le] at hc48)
                        refine HWp.exit ?_
                        refine onNorm_e ?_
                        refine onNorm_e ?_
                        have hkk : (padded tl n).length / 64 = k := by omega
                        refine onExitH_hit ?_
                        refine onNorm_n ?_
                        refine HWp.seq ?_
                        refine HWp.text (.act 0 [] .done) rfl ?_
                        refine HPlan.alloc rfl rfl q_zo_29 (by first | rfl | (simp; done)) (fun i6 => ⟨keptH_nil, ?_⟩)
                        rw [show (LV.agg (List.replicate 32 (LV.int .u8 0))).cells = bytesLV (List.replicate 32 0) from rfl]
                        refine HPlan.fin ?_
                        refine onNorm_n ?_
                        refine HWp.seq ?_
                        refine HWp.seq ?_
                        refine HWp.text (.rd 0 .done) rfl ?_
                        refine HPlan.move rfl rfl rfl ?_
                        refine HPlan.fin ?_
                        refine onNorm_n ?_
                        refine HWp.block ?_
                        refine HWp.loopF (α := Nat × Nat × List UInt8) (fun q => 32 - q.1) (fun q => q.1 ≤ 32 ∧ q.2.2 = outN s1 q.1) (fun q => ⟨71, [(2, .ref i2 0), (3, .ref i3 0), (6, .ref i6 0), (54, .int .i64 (q.1 : Int))]⟩) (fun q => (i6, .cells 29 (bytesLV q.2.2) q.2.1) :: (i3, .cells 69 (words s1 ++ []) ve) :: (i2, .cells 29 (bytesLV (List.replicate 32 0)) 0) :: (id, .cells 73 (words st ++ [growV o 1 (bytesLV tl), .int .u64 n]) ver) :: F) (fun q => T) ?_ ?_
                        · refine ⟨(0, 0, List.replicate 32 0), ⟨by simp only; omega, rfl⟩, (LessE.less (by repeat (first | exact LessE.nil | refine LessE.same rfl ?_ | refine LessE.own rfl ?_ | refine LessE.eq rfl ?_ (by first | rfl | (congr 1; omega) | simp))) rfl), (by repeat (first | exact Part.refl _ | refine Part.pull (by repeat (first | exact Pull.here | apply Pull.there)) ?_ | refine Part.skip _ ?_ | exact Part.nil _ | exact Part.app _ _)), (by repeat (first | exact Part.refl _ | refine Part.pull (by repeat (first | exact Pull.here | apply Pull.there)) ?_ | refine Part.skip _ ?_ | exact Part.nil _ | exact Part.app _ _))⟩
                        · rintro q ⟨hi, hd⟩
                          obtain ⟨i, v6, d6⟩ := q
                          simp only at hi hd ⊢
                          have hdl : d6.length = 32 := by rw [hd, outN_length]
                          refine HWp.seq ?_
                          refine HWp.text (.rd 0 .done) rfl ?_
                          refine HPlan.intBin rfl rfl rfl rfl rfl rfl ?_
                          refine HPlan.fin ?_
                          refine onNorm_n ?_
                          refine HWp.seq ?_
                          refine HWp.cond rfl ?_ ?_
                          · intro hc55
                            first
                            | (exact absurd hc55 Bool.false_ne_true)
                            | (exact absurd hc55.symm Bool.false_ne_true)
                            | ((try simp only [decide_eq_true_eq, decide_eq_false_iff_not, Bool.not_eq_true', Bool.not_eq_false', Bool.not_true, Bool.not_false, beq_iff_eq, bne_iff_ne, bne_eq_false_iff_eq, ne_eq, beq_eq_false_iff_ne, Int.not_lt, Int.not_le] at hc55); exfalso; omega)
                            | (try simp only [decide_eq_true_eq, decide_eq_false_iff_not, Bool.not_eq_true', Bool.not_eq_false', Bool.not_true, Bool.not_false, beq_iff_eq, bne_iff_ne, bne_eq_false_iff_eq, ne_eq, beq_eq_false_iff_ne, Int.not_lt, Int.not_le] at hc55)
                              refine HWp.skip ?_
                              refine onNorm_n ?_
                              refine HWp.seq ?_
                              refine HWp.block ?_
                              refine HWp.seq ?_
                              refine HWp.text (.rd 0 (.rd 1 .done)) rfl ?_
                              refine HPlan.move rfl rfl rfl ?_
                              refine HPlan.assign rfl rfl rfl ?_
                              refine HPlan.fin ?_
                              refine onNorm_n ?_
                              refine HWp.text (.rd 0 (.rd 1 (.rd 2 (.rd 3 (.rd 4 (.rd 5 (.rd 6 (.rd 7 (.rd 8 (.rd 9 (.rd 10 (.rd 11 (.act 12 [] .done))))))))))))) rfl ?_
                              refine HPlan.move rfl rfl rfl ?_
                              refine HPlan.move rfl rfl rfl ?_
                              refine HPlan.intBin rfl rfl rfl rfl ⟨rfl, by decide⟩ (quo_i64 4 (by decide) (by omega)) ?_
                              refine HPlan.indexArr rfl rfl rfl rfl rfl q_ix_69 (by omega) (by omega) rfl ?_
                              refine HPlan.load rfl rfl rfl q_sh_67 (by repeat (first | exact List.Mem.head _ | apply List.Mem.tail | assumption)) (by rw [List.length_append, words_length]; constructor <;> (try simp only [cond_false]) <;> omega) (word_loadA _ _ (i / 4) _ (by omega) (by omega)) ?_
                              refine HPlan.move rfl rfl rfl ?_
                              refine HPlan.intBin rfl rfl rfl rfl ⟨rfl, by decide⟩ (rem_i64 4) ?_
                              refine HPlan.intBin rfl rfl rfl rfl rfl (by first | exact mul_i64 (by omega) (by omega) | rfl) ?_
                              refine HPlan.intBin rfl rfl rfl rfl rfl (by first | exact sub_i64 (by omega) (by omega) | rfl) ?_
                              refine HPlan.intBin rfl rfl rfl rfl (by show (0:Int) ≤ _; omega) rfl ?_
                              refine HPlan.intConv rfl rfl rfl q_us_67 q_it_5 rfl ?_
                              refine HPlan.indexArr rfl rfl rfl rfl rfl q_ix_29 (by omega) (by omega) rfl ?_
                              refine HPlan.store rfl rfl rfl rfl q_sz_5 (by first | rfl | (simp; done)) (by first | rfl | decide | omega | (simp; done) | (simp; omega)) (by repeat (first | exact List.Mem.head _ | apply List.Mem.tail | assumption)) (byte_set _ i _ _ (by omega) (by omega)) (by repeat (first | exact Upd.here | apply Upd.there)) (by rw [bytesLV_length]; omega) keptH_nil ?_
                              refine HPlan.fin ?_
                              refine onExitH_n ?_
                              refine onNorm_n ?_
                              refine HWp.text (.rd 0 (.rd 1 .done)) rfl ?_
                              refine HPlan.intBin rfl rfl rfl rfl rfl (by first | exact add_i64 (by omega) (by omega) | rfl) ?_
                              refine HPlan.move rfl rfl rfl ?_
                              refine HPlan.fin ?_
                              refine onNorm_n ?_
                              subst hd
                              refine ⟨(i + 1, v6 + 1, outN s1 (i + 1)), (by simp only; omega), ⟨by simp only; omega, rfl⟩, (LessE.less (by repeat (first | exact LessE.nil | refine LessE.same rfl ?_ | refine LessE.own rfl ?_ | refine LessE.eq rfl ?_ (by first | rfl | (congr 1; omega) | simp))) rfl), (by repeat (first | exact Part.refl _ | refine Part.pull (by repeat (first | exact Pull.here | apply Pull.there)) ?_ | refine Part.skip _ ?_ | exact Part.nil _ | exact Part.app _ _)), (by repeat (first | exact Part.refl _ | refine Part.pull (by repeat (first | exact Pull.here | apply Pull.there)) ?_ | refine Part.skip _ ?_ | exact Part.nil _ | exact Part.app _ _))⟩
                          · intro hc55
                            first
                            | (exact absurd hc55 Bool.false_ne_true)
                            | (exact absurd hc55.symm Bool.false_ne_true)
                            | ((try simp only [decide_eq_true_eq, decide_eq_false_iff_not, Bool.not_eq_true', Bool.not_eq_false', Bool.not_true, Bool.not_false, beq_iff_eq, bne_iff_ne, bne_eq_false_iff_eq, ne_eq, beq_eq_false_iff_ne, Int.not_lt, Int.not_le] at hc55); exfalso; omega)
                            | (try simp only [decide_eq_true_eq, decide_eq_false_iff_not, Bool.not_eq_true', Bool.not_eq_false', Bool.not_true, Bool.not_false, beq_iff_eq, bne_iff_ne, bne_eq_false_iff_eq, ne_eq, beq_eq_false_iff_ne, Int.not_lt, Int.not_le] at hc55)
                              refine HWp.exit ?_
                              refine onNorm_e ?_
                              refine onNorm_e ?_
                              obtain rfl : i = 32 := by omega
                              refine onExitH_hit ?_
                              refine onNorm_n ?_
                              refine HWp.seq ?_
                              refine HWp.text (.rd 0 (.act 1 [] .done)) rfl ?_
                              refine HPlan.load rfl rfl rfl q_sh_29 (by repeat (first | exact List.Mem.head _ | apply List.Mem.tail | assumption)) (by rw [bytesLV_length, hdl]; decide) (load_all _ 32 (by rw [bytesLV_length, hdl])) ?_
                              refine HPlan.store rfl rfl rfl rfl q_sz_29 (by first | rfl | (simp; done)) (by rw [agg_cells, bytesLV_length, hdl]) (by repeat (first | exact List.Mem.head _ | apply List.Mem.tail | assumption)) (splice_all _ _ (by rw [agg_cells, bytesLV_length, bytesLV_length, hdl]; rfl)) (by repeat (first | exact Upd.here | apply Upd.there)) (by rw [bytesLV_length]; decide) keptH_nil ?_
                              refine HPlan.fin ?_
                              refine onNorm_n ?_
                              refine HWp.ret ?_
                              refine retQ_r (.cell q_sh_29 rfl (by repeat (first | exact List.Mem.head _ | apply List.Mem.tail | assumption)) (by constructor <;> first | rfl | decide | omega | exact Nat.le_refl _ | (simp; done) | (simp; omega)) (load_all _ 32 ((bytesLV_length d6).trans hdl)) .nil) ?_
                              have hfin : d6 = sumF st tl n := by unfold sumF; rw [hd, hw, hkk]
                              refine endK_of ⟨?_, rfl, rfl⟩ (by repeat (first | exact Part.refl _ | refine Part.pull (by repeat (first | exact Pull.here | apply Pull.there)) ?_ | refine Part.skip _ ?_ | exact Part.nil _ | exact Part.app _ _)) (by repeat (first | exact Part.refl _ | refine Part.pull (by repeat (first | exact Pull.here | apply Pull.there)) ?_ | refine Part.skip _ ?_ | exact Part.nil _ | exact Part.app _ _))
                              exact congrArg digV hfin
end Go.Proofs.Ythfoobfgdakbmaa

set_option linter.unusedVariables false
set_option linter.unusedSimpArgs false
set_option maxRecDepth 100000
namespace Go.Proofs.Ythfoobfgdakbmaa
open Go Go.RowKit Go.L
theorem q_en_24 : enterable Try.prog 24 = true := by kernel_rfl
theorem q_tk_44 : tyKind Try.prog 44 = .sl := by kernel_rfl
theorem q_ix_44 : indexIn Try.prog 44 = some (none, 1) := by kernel_rfl
theorem q_sh_9 : shapeOf Try.prog 9 = some (false, 1) := by kernel_rfl
theorem q_en_25 : enterable Try.prog 25 = true := by kernel_rfl
theorem q_en_26 : enterable Try.prog 26 = true := by kernel_rfl
theorem q_f_17 : Try.prog.funcs[17]? = some Try.f17 := by kernel_rfl

def addS (h : List Int × List UInt8 × Int) (s : ByteArray) : List Int × List UInt8 × Int :=
  (absorb h.1 (h.2.1 ++ s.toList) ((h.2.1 ++ s.toList).length / 64), (h.2.1 ++ s.toList).drop (64 * ((h.2.1 ++ s.toList).length / 64)), IntKind.u64.wrap (h.2.2 + IntKind.u64.wrap s.size))
def hashN (parts : List ByteArray) : Nat → List Int × List UInt8 × Int
  | 0 => (h0List, [], 0)
  | k + 1 => addS (hashN parts k) (parts.getD k .empty)
def shaF (parts : List ByteArray) : List UInt8 := sumF (hashN parts parts.length).1 (hashN parts parts.length).2.1 (hashN parts parts.length).2.2
@[simp] theorem shaF_length (parts : List ByteArray) : (shaF parts).length = 32 := sumF_length _ _ _
theorem addS_ok {h : List Int × List UInt8 × Int} (h1 : h.1.length = 8) (s : ByteArray) : (addS h s).1.length = 8 ∧ (addS h s).2.1.length < 64 := by
  refine ⟨absorb_length h1 _ _, ?_⟩
  simp only [addS, List.length_drop]
  omega
theorem getD_mem {l : List ByteArray} {k : Nat} (h : k < l.length) : l.getD k .empty ∈ l := by
  simp [List.getD_eq_getElem?_getD, h]
theorem str_at {l : List ByteArray} {k : Nat} (h : k < l.length) : (l.map LV.str).getD ((k : Int).toNat) .und = .str (l.getD k .empty) := by
  simp [List.getD_eq_getElem?_getD, h]

theorem sha_spec (parts : List ByteArray) (x : LV) (hp : ∀ s ∈ parts, s.size < 70368744177664) (hpl : parts.length < 70368744177664) (hx : IsSl 1 (parts.map LV.str) x) : HPure Try.prog 17 [x] (digV (shaF parts)) := by
  intro L T
  refine HCalls.enterG q_f_17 rfl ?_
  refine HWp.frame (r' := ⟨19, [(0, x)]⟩) rfl ?_
  refine HWp.seq ?_
  refine HWp.text (.act 0 [] .done) rfl ?_
  refine HPlan.alloc rfl rfl q_zo_29 (by first | rfl | (simp; done)) (fun i2 => ⟨keptH_nil, ?_⟩)
  rw [show (LV.agg (List.replicate 32 (LV.int .u8 0))).cells = bytesLV (List.replicate 32 0) from rfl]
  refine HPlan.fin ?_
  refine onNorm_n ?_
  refine HWp.seq ?_
  refine HWp.text (.act 0 [] (.rd 1 .done)) rfl ?_
  refine HPlan.callS rfl rfl rfl q_en_24 (new_spec _ _) (List.Perm.refl _) (List.Perm.refl _) ?_
  rintro r_R1_0 L_R1_0 T ⟨id, rfl, rfl, rfl⟩
  refine ⟨keptH_nil, ?_⟩
  refine HPlan.assign rfl rfl rfl ?_
  refine HPlan.fin ?_
  refine onNorm_n ?_
  refine HWp.seq ?_
  refine HWp.seq ?_
  refine HWp.text (.rd 0 (.rd 1 (.rd 2 .done))) rfl ?_
  refine HPlan.move rfl rfl rfl ?_
  refine HPlan.lenS rfl rfl rfl q_tk_44 (by first | exact IsSl.sl | exact IsSl.nils | assumption | exact growV_isSl (by assumption)) (by rw [List.length_map]) ?_
  refine HPlan.move rfl rfl rfl ?_
  refine HPlan.fin ?_
  refine onNorm_n ?_
  refine HWp.block ?_
  refine HWp.loopF (α := Nat × Nat × (List Int × List UInt8 × Int) × Option (Nat × Nat)) (fun q => parts.length - q.1) (fun q => q.1 ≤ parts.length ∧ q.2.2.1 = hashN parts q.1 ∧ q.2.2.1.1.length = 8 ∧ q.2.2.1.2.1.length < 64 ∧ growOk q.2.2.2 (bytesLV q.2.2.1.2.1)) (fun q => ⟨19, [(2, .ref i2 0), (3, .ref id 0), (7, x), (8, .int .i64 (parts.length : Int)), (9, .int .i64 (q.1 : Int))]⟩) (fun q => (id, .cells 73 (words q.2.2.1.1 ++ [growV q.2.2.2 1 (bytesLV q.2.2.1.2.1), .int .u64 q.2.2.1.2.2]) q.2.1) :: (i2, .cells 29 (bytesLV (List.replicate 32 0)) 0) :: L) (fun q => growT q.2.2.2 ++ T) ?_ ?_
  · refine ⟨(0, 0, (h0List, [], 0), none), ⟨by simp only; omega, rfl, rfl, by decide, fun _ => rfl⟩, (LessE.less (by repeat (first | exact LessE.nil | refine LessE.same rfl ?_ | refine LessE.own rfl ?_ | refine LessE.eq rfl ?_ (by first | rfl | (congr 1; omega) | simp))) rfl), (by repeat (first | exact Part.refl _ | refine Part.pull (by repeat (first | exact Pull.here | apply Pull.there)) ?_ | refine Part.skip _ ?_ | exact Part.nil _ | exact Part.app _ _)), (by repeat (first | exact Part.refl _ | refine Part.pull (by repeat (first | exact Pull.here | apply Pull.there)) ?_ | refine Part.skip _ ?_ | exact Part.nil _ | exact Part.app _ _))⟩
  · rintro q ⟨hk, hh, h8, h64, hg⟩
    obtain ⟨k, ve, ⟨s1, t1, n1⟩, o1⟩ := q
    simp only at hk hh h8 h64 hg ⊢
    refine HWp.seq ?_
    refine HWp.text (.rd 0 .done) rfl ?_
    refine HPlan.intBin rfl rfl rfl rfl rfl rfl ?_
    refine HPlan.fin ?_
    refine onNorm_n ?_
    refine HWp.seq ?_
    refine HWp.cond rfl ?_ ?_
    · intro hc10
      first
      | (exact absurd hc10 Bool.false_ne_true)
      | (exact absurd hc10.symm Bool.false_ne_true)
      | ((try simp only [decide_eq_true_eq, decide_eq_false_iff_not, Bool.not_eq_true', Bool.not_eq_false', Bool.not_true, Bool.not_false, beq_iff_eq, bne_iff_ne, bne_eq_false_iff_eq, ne_eq, beq_eq_false_iff_ne, Int.not_lt, Int.not_le] at hc10); exfalso; omega)
      | (try simp only [decide_eq_true_eq, decide_eq_false_iff_not, Bool.not_eq_true', Bool.not_eq_false', Bool.not_true, Bool.not_false, beq_iff_eq, bne_iff_ne, bne_eq_false_iff_eq, ne_eq, beq_eq_false_iff_ne, Int.not_lt, Int.not_le] at hc10)
        refine HWp.skip ?_
        refine onNorm_n ?_
        refine HWp.seq ?_
        refine HWp.block ?_
        refine HWp.seq ?_
        refine HWp.text (.rd 0 (.rd 1 (.rd 2 .done))) rfl ?_
        refine HPlan.indexS rfl rfl rfl rfl q_ix_44 (by first | exact IsSl.sl | exact IsSl.nils | assumption | exact growV_isSl (by assumption)) (by omega) (by simp only [List.length_map]; omega) (str_at (l := parts) (k := k) (by omega)) ?_
        refine HPlan.loadI rfl rfl rfl q_sh_9 (by constructor <;> first | rfl | decide | omega | exact Nat.le_refl _ | (simp; done) | (simp; omega)) rfl ?_
        refine HPlan.assign rfl rfl rfl ?_
        refine HPlan.fin ?_
        refine onNorm_n ?_
        refine HWp.text (.rd 0 (.rd 1 (.act 2 [] .done))) rfl ?_
        refine HPlan.move rfl rfl rfl ?_
        refine HPlan.move rfl rfl rfl ?_
        refine HPlan.callS rfl rfl rfl q_en_25 (add_spec s1 h8 o1 t1 h64 hg n1 _ (hp _ (getD_mem (l := parts) (k := k) (by omega))) id ve ((i2, .cells 29 (bytesLV (List.replicate 32 0)) 0) :: L) T) (List.Perm.refl _) (List.Perm.refl _) ?_
        rintro r_R5_2 L_R5_2 T_R5_2 ⟨rfl, o2, ve2, hg2, rfl, rfl⟩
        refine ⟨keptH_nil, ?_⟩
        refine HPlan.fin ?_
        refine onExitH_n ?_
        refine onNorm_n ?_
        refine HWp.text (.rd 0 (.rd 1 .done)) rfl ?_
        refine HPlan.intBin rfl rfl rfl rfl rfl (by first | exact add_i64 (by omega) (by omega) | rfl) ?_
        refine HPlan.move rfl rfl rfl ?_
        refine HPlan.fin ?_
        refine onNorm_n ?_
        refine ⟨(k + 1, ve2, addS (s1, t1, n1) (parts.getD k .empty), o2), (by simp only; omega), ⟨by simp only; omega, by rw [hh]; rfl, (addS_ok (h := (s1, t1, n1)) h8 _).1, (addS_ok (h := (s1, t1, n1)) h8 _).2, hg2⟩, (LessE.less (by repeat (first | exact LessE.nil | refine LessE.same rfl ?_ | refine LessE.own rfl ?_ | refine LessE.eq rfl ?_ (by first | rfl | (congr 1; omega) | simp))) rfl), (by repeat (first | exact Part.refl _ | refine Part.pull (by repeat (first | exact Pull.here | apply Pull.there)) ?_ | refine Part.skip _ ?_ | exact Part.nil _ | exact Part.app _ _)), (by repeat (first | exact Part.refl _ | refine Part.pull (by repeat (first | exact Pull.here | apply Pull.there)) ?_ | refine Part.skip _ ?_ | exact Part.nil _ | exact Part.app _ _))⟩
    · intro hc10
      first
      | (exact absurd hc10 Bool.false_ne_true)
      | (exact absurd hc10.symm Bool.false_ne_true)
      | ((try simp only [decide_eq_true_eq, decide_eq_false_iff_not, Bool.not_eq_true', Bool.not_eq_false', Bool.not_true, Bool.not_false, beq_iff_eq, bne_iff_ne, bne_eq_false_iff_eq, ne_eq, beq_eq_false_iff_ne, Int.not_lt, Int.not_le] at hc10); exfalso; omega)
      | (try simp only [decide_eq_true_eq, decide_eq_false_iff_not, Bool.not_eq_true', Bool.not_eq_false', Bool.not_true, Bool.not_false, beq_iff_eq, bne_iff_ne, bne_eq_false_iff_eq, ne_eq, beq_eq_false_iff_ne, Int.not_lt, Int.not_le] at hc10)
        refine HWp.exit ?_
        refine onNorm_e ?_
        refine onNorm_e ?_
        obtain rfl : k = parts.length := by omega
        refine onExitH_hit ?_
        refine onNorm_n ?_
        refine HWp.seq ?_
        refine HWp.text (.rd 0 (.act 1 [] (.act 2 [] .done))) rfl ?_
        refine HPlan.move rfl rfl rfl ?_
        refine HPlan.callS rfl rfl rfl q_en_26 (sum_spec s1 h8 o1 t1 h64 hg n1 id ve ((i2, .cells 29 (bytesLV (List.replicate 32 0)) 0) :: L) (growT o1 ++ T)) (List.Perm.refl _) (List.Perm.refl _) ?_
        rintro r_R7_1 L_R7_1 T_R7_1 ⟨rfl, rfl, rfl⟩
        refine ⟨keptH_nil, ?_⟩
        generalize hD : sumF s1 t1 n1 = D
        have hDl : D.length = 32 := by rw [← hD]; exact sumF_length _ _ _
        refine HPlan.store rfl rfl rfl rfl q_sz_29 (digV_solid D) ((bytesLV_length D).trans hDl) (by repeat (first | exact List.Mem.head _ | apply List.Mem.tail | assumption)) (splice_all _ (bytesLV D) (by rw [bytesLV_length, bytesLV_length, List.length_replicate]; exact hDl)) (by repeat (first | exact Upd.here | apply Upd.there)) (by rw [bytesLV_length]; decide) keptH_nil ?_
        refine HPlan.fin ?_
        refine onNorm_n ?_
        refine HWp.ret ?_
        refine retQ_r (.cell q_sh_29 rfl (by repeat (first | exact List.Mem.head _ | apply List.Mem.tail | assumption)) (by constructor <;> first | rfl | decide | omega | exact Nat.le_refl _ | (simp; done) | (simp; omega)) (load_all _ 32 ((bytesLV_length D).trans hDl)) .nil) ?_
        refine endK_of ⟨?_, rfl, rfl⟩ (by repeat (first | exact Part.refl _ | refine Part.pull (by repeat (first | exact Pull.here | apply Pull.there)) ?_ | refine Part.skip _ ?_ | exact Part.nil _ | exact Part.app _ _)) (by repeat (first | exact Part.refl _ | refine Part.pull (by repeat (first | exact Pull.here | apply Pull.there)) ?_ | refine Part.skip _ ?_ | exact Part.nil _ | exact Part.app _ _))
        show digV D = digV (shaF parts)
        unfold shaF
        rw [← hh, hD]
end Go.Proofs.Ythfoobfgdakbmaa

set_option linter.unusedVariables false
set_option linter.unusedSimpArgs false
set_option maxRecDepth 100000
namespace Go.Proofs.Ythfoobfgdakbmaa
open Go Go.RowKit Go.L
theorem q_zo_55 : zeroOf Try.prog 55 = some (LV.agg [LV.nilm, (LV.int .i64 0)]) := by kernel_rfl
theorem q_pl_55 : placesOf Try.prog 55 = some (fun i => ([(0, 1), (1, 1)] : List (Nat × Nat))[i]?) := by kernel_rfl
theorem q_f_10 : Try.prog.funcs[10]? = some Try.f10 := by kernel_rfl
theorem q_tk_25 : tyKind Try.prog 25 = .ptr := by kernel_rfl
theorem q_fo_55_1 : fieldOff Try.prog 55 1 = some 1 := by kernel_rfl
theorem q_sh_3 : shapeOf Try.prog 3 = some (false, 1) := by kernel_rfl
theorem q_f_21 : Try.prog.funcs[21]? = some Try.f21 := by kernel_rfl
theorem q_fo_55_0 : fieldOff Try.prog 55 0 = some 0 := by kernel_rfl
theorem q_sh_53 : shapeOf Try.prog 53 = some (false, 1) := by kernel_rfl
theorem q_mt_53 : mapTy Try.prog 53 = some (29, 9) := by kernel_rfl
theorem q_kk_29 : KeysOk Try.prog 29 (.arr 32 (.int .u8)) := ⟨⟨2, by decide, by kernel_rfl⟩, by kernel_rfl⟩
theorem q_zo_9 : zeroOf Try.prog 9 = some (LV.str .empty) := by kernel_rfl
theorem q_f_13 : Try.prog.funcs[13]? = some Try.f13 := by kernel_rfl
theorem q_se_44 : sliceElem Try.prog 44 = some (9, 1) := by kernel_rfl
theorem q_zs_9 : (zeroOf Try.prog 9).isSome = true := by kernel_rfl
theorem q_en_17 : enterable Try.prog 17 = true := by kernel_rfl
theorem q_sz_3 : sizeOfT Try.prog 3 = some 1 := by kernel_rfl
theorem q_f_16 : Try.prog.funcs[16]? = some Try.f16 := by kernel_rfl

def entsV (ks : List (List UInt8 × ByteArray)) : List (LV × LV) := ks.map fun p => (digV p.1, .str p.2)
theorem dig_fits {d : List UInt8} (h : d.length = 32) : (KeyK.arr 32 (.int .u8)).fits (digV d) = true := by
  simp [KeyK.fits, digV, h, bytesLV, CK.fits]
theorem flatEq_bytes : ∀ (a b : List UInt8), flatEq (bytesLV a) (bytesLV b) = decide (a = b)
  | [], [] => rfl
  | [], _ :: _ => rfl
  | _ :: _, [] => rfl
  | x :: a, y :: b => by
    have ih := flatEq_bytes a b
    simp only [bytesLV, List.map_cons] at ih ⊢
    simp only [flatEq, ih, ckEq, List.cons.injEq]
    have e : ((x.toNat : Int) == (y.toNat : Int)) = decide (x = y) := by
      rw [Bool.eq_iff_iff, beq_iff_eq, decide_eq_true_eq, Int.natCast_inj, UInt8.toNat_inj]
    rw [e]
    by_cases h1 : x = y <;> by_cases h2 : a = b <;> simp [h1, h2]
theorem keyEq_dig (a b : List UInt8) : keyEq (digV a) (digV b) = decide (a = b) := flatEq_bytes a b
def Keys32 (ks : List (List UInt8 × ByteArray)) : Prop := ∀ p ∈ ks, p.1.length = 32
theorem ents_fit {ks : List (List UInt8 × ByteArray)} (h : Keys32 ks) : ∀ p ∈ entsV ks, (KeyK.arr 32 (.int .u8)).fits p.1 = true := fun p hp => by
  simp only [entsV, List.mem_map] at hp
  obtain ⟨q, hq, rfl⟩ := hp
  exact dig_fits (h q hq)
def getK (d : List UInt8) : List (List UInt8 × ByteArray) → Option ByteArray
  | [] => none
  | q :: r => if d = q.1 then some q.2 else getK d r
def putK (d : List UInt8) (x : ByteArray) : List (List UInt8 × ByteArray) → List (List UInt8 × ByteArray)
  | [] => [(d, x)]
  | q :: r => if d = q.1 then (d, x) :: r else q :: putK d x r
def delK (d : List UInt8) : List (List UInt8 × ByteArray) → List (List UInt8 × ByteArray)
  | [] => []
  | q :: r => if d = q.1 then r else q :: delK d r
theorem getL_ents (d : List UInt8) : ∀ ks, getL (digV d) (entsV ks) = (getK d ks).map LV.str
  | [] => rfl
  | q :: r => by
    have ih := getL_ents d r
    simp only [entsV, List.map_cons, getL, keyEq_dig, getK] at ih ⊢
    by_cases h : d = q.1 <;> simp [h, ih]
theorem putL_ents (d : List UInt8) (x : ByteArray) : ∀ ks, putL (digV d) (.str x) (entsV ks) = entsV (putK d x ks)
  | [] => rfl
  | q :: r => by
    have ih := putL_ents d x r
    simp only [entsV, List.map_cons, putL, keyEq_dig, putK] at ih ⊢
    by_cases h : d = q.1 <;> simp [h, ih]
theorem delL_ents (d : List UInt8) : ∀ ks, delL (digV d) (entsV ks) = entsV (delK d ks)
  | [] => rfl
  | q :: r => by
    have ih := delL_ents d r
    simp only [entsV, List.map_cons, delL, keyEq_dig, delK] at ih ⊢
    by_cases h : d = q.1 <;> simp [h, ih]
theorem putK_32 {ks : List (List UInt8 × ByteArray)} {d : List UInt8} {x : ByteArray} (h : Keys32 ks) (hd : d.length = 32) : Keys32 (putK d x ks) := by
  induction ks with
  | nil => intro p hp; simp [putK] at hp; subst hp; exact hd
  | cons q r ih =>
    intro p hp
    simp only [putK] at hp
    split at hp
    · rcases List.mem_cons.1 hp with rfl | hp
      · exact hd
      · exact h p (List.mem_cons_of_mem _ hp)
    · rcases List.mem_cons.1 hp with rfl | hp
      · exact h _ List.mem_cons_self
      · exact ih (fun p hp => h p (List.mem_cons_of_mem _ hp)) p hp
theorem delK_32 {ks : List (List UInt8 × ByteArray)} {d : List UInt8} (h : Keys32 ks) : Keys32 (delK d ks) := by
  induction ks with
  | nil => exact h
  | cons q r ih =>
    intro p hp
    simp only [delK] at hp
    split at hp
    · exact h p (List.mem_cons_of_mem _ hp)
    · rcases List.mem_cons.1 hp with rfl | hp
      · exact h _ List.mem_cons_self
      · exact ih (fun p hp => h p (List.mem_cons_of_mem _ hp)) p hp
def gotV (d : List UInt8) (ks : List (List UInt8 × ByteArray)) : LV := .tup [.str ((getK d ks).getD .empty), .bool (getK d ks).isSome]
theorem got_of (d : List UInt8) (ks : List (List UInt8 × ByteArray)) : okTup true ((getL (digV d) (entsV ks)).getD (.str .empty)) (getL (digV d) (entsV ks)).isSome = gotV d ks := by
  rw [getL_ents]
  cases h : getK d ks <;> simp [okTup, gotV, h]

theorem blobs_new (F : Hp) (T : Tk) : HCalls Try.prog 10 [] F T (fun r L' T' => ∃ s m, r = .ref s 0 ∧ L' = (s, .cells 55 [.mp m, .int .i64 0] 0) :: (m, .map (entsV []) 0) :: F ∧ T' = T) := by
  refine HCalls.enterG q_f_10 rfl ?_
  refine HWp.frame (r' := ⟨4, []⟩) rfl ?_
  refine HWp.seq ?_
  refine HWp.text (.rd 0 .done) rfl ?_
  refine HPlan.assign rfl rfl rfl ?_
  refine HPlan.fin ?_
  refine onNorm_n ?_
  refine HWp.seq ?_
  refine HWp.text (.act 0 [] (.rd 1 (.act 2 [] (.rd 3 .done)))) rfl ?_
  refine HPlan.makeMap rfl rfl (fun i1 => ⟨keptH_nil, ?_⟩)
  refine HPlan.build rfl rfl rfl q_zo_55 (by first | rfl | (simp; done)) q_pl_55 (fillOk_cons rfl (by first | rfl | (simp; done)) (by first | rfl | decide | omega | (simp; done) | (simp; omega)) (by first | rfl | decide | omega | (simp; done) | (simp; omega)) fillOk_nil) (by rfl : _ = LV.agg [.mp i1, .int .i64 0]) ?_
  refine HPlan.box rfl rfl rfl (by first | rfl | (simp; done)) (fun i3 => ⟨keptH_nil, ?_⟩)
  refine HPlan.assign rfl rfl rfl ?_
  refine HPlan.fin ?_
  refine onNorm_n ?_
  refine HWp.ret ?_
  refine retQ_r (.tmp rfl .nil) ?_
  exact endK_of ⟨_, _, rfl, rfl, rfl⟩ (by repeat (first | exact Part.refl _ | refine Part.pull (by repeat (first | exact Pull.here | apply Pull.there)) ?_ | refine Part.skip _ ?_ | exact Part.nil _ | exact Part.app _ _)) (by repeat (first | exact Part.refl _ | refine Part.pull (by repeat (first | exact Pull.here | apply Pull.there)) ?_ | refine Part.skip _ ?_ | exact Part.nil _ | exact Part.app _ _))
theorem blobs_size (s m ver mver : Nat) (n : Int) (ks : List (List UInt8 × ByteArray)) (F : Hp) (T : Tk) : HCalls Try.prog 21 [.ref s 0] ((s, .cells 55 [.mp m, .int .i64 n] ver) :: (m, .map (entsV ks) mver) :: F) T (fun r L' T' => r = .int .i64 n ∧ L' = (s, .cells 55 [.mp m, .int .i64 n] ver) :: (m, .map (entsV ks) mver) :: F ∧ T' = T) := by
  refine HCalls.enterG q_f_21 rfl ?_
  refine HWp.frame (r' := ⟨9, [(0, .ref s 0)]⟩) rfl ?_
  refine HWp.seq ?_
  refine HWp.text (.rd 0 .done) rfl ?_
  refine HPlan.assign rfl rfl rfl ?_
  refine HPlan.fin ?_
  refine onNorm_n ?_
  refine HWp.seq ?_
  refine HWp.seq ?_
  refine HWp.text (.rd 0 (.rd 1 .done)) rfl ?_
  refine HPlan.move rfl rfl rfl ?_
  refine HPlan.nilEqK rfl rfl rfl rfl q_tk_25 rfl rfl rfl rfl ?_
  refine HPlan.fin ?_
  refine onNorm_n ?_
  refine HWp.cond rfl ?_ ?_
  · intro hc4
    first
    | (exact absurd hc4 Bool.false_ne_true)
    | (exact absurd hc4.symm Bool.false_ne_true)
    | ((try simp only [decide_eq_true_eq, decide_eq_false_iff_not, Bool.not_eq_true', Bool.not_eq_false', Bool.not_true, Bool.not_false, beq_iff_eq, bne_iff_ne, bne_eq_false_iff_eq, ne_eq, beq_eq_false_iff_ne, Int.not_lt, Int.not_le] at hc4); exfalso; omega)
    | (try simp only [decide_eq_true_eq, decide_eq_false_iff_not, Bool.not_eq_true', Bool.not_eq_false', Bool.not_true, Bool.not_false, beq_iff_eq, bne_iff_ne, bne_eq_false_iff_eq, ne_eq, beq_eq_false_iff_ne, Int.not_lt, Int.not_le] at hc4)
      exfalso
      skip
  · intro hc4
    first
    | (exact absurd hc4 Bool.false_ne_true)
    | (exact absurd hc4.symm Bool.false_ne_true)
    | ((try simp only [decide_eq_true_eq, decide_eq_false_iff_not, Bool.not_eq_true', Bool.not_eq_false', Bool.not_true, Bool.not_false, beq_iff_eq, bne_iff_ne, bne_eq_false_iff_eq, ne_eq, beq_eq_false_iff_ne, Int.not_lt, Int.not_le] at hc4); exfalso; omega)
    | (try simp only [decide_eq_true_eq, decide_eq_false_iff_not, Bool.not_eq_true', Bool.not_eq_false', Bool.not_true, Bool.not_false, beq_iff_eq, bne_iff_ne, bne_eq_false_iff_eq, ne_eq, beq_eq_false_iff_ne, Int.not_lt, Int.not_le] at hc4)
      refine HWp.skip ?_
      refine onNorm_n ?_
      refine HWp.seq ?_
      refine HWp.text (.rd 0 (.rd 1 (.rd 2 (.rd 3 (.rd 4 .done))))) rfl ?_
      refine HPlan.move rfl rfl rfl ?_
      refine HPlan.nilCheck rfl rfl rfl rfl ?_
      refine HPlan.fieldAddr rfl rfl rfl rfl q_fo_55_1 rfl ?_
      refine HPlan.load rfl rfl rfl q_sh_3 (by repeat (first | exact List.Mem.head _ | apply List.Mem.tail | assumption)) (by constructor <;> first | rfl | decide | omega | exact Nat.le_refl _ | (simp; done) | (simp; omega)) rfl ?_
      refine HPlan.assign rfl rfl rfl ?_
      refine HPlan.fin ?_
      refine onNorm_n ?_
      refine HWp.ret ?_
      refine retQ_r (.tmp rfl .nil) ?_
      exact endK_of ⟨rfl, rfl, rfl⟩ (by repeat (first | exact Part.refl _ | refine Part.pull (by repeat (first | exact Pull.here | apply Pull.there)) ?_ | refine Part.skip _ ?_ | exact Part.nil _ | exact Part.app _ _)) (by repeat (first | exact Part.refl _ | refine Part.pull (by repeat (first | exact Pull.here | apply Pull.there)) ?_ | refine Part.skip _ ?_ | exact Part.nil _ | exact Part.app _ _))
theorem blobs_size_nil  : HPure Try.prog 21 [.nilp] (.int .i64 0) := by
  intro L T
  refine HCalls.enterG q_f_21 rfl ?_
  refine HWp.frame (r' := ⟨9, [(0, .nilp)]⟩) rfl ?_
  refine HWp.seq ?_
  refine HWp.text (.rd 0 .done) rfl ?_
  refine HPlan.assign rfl rfl rfl ?_
  refine HPlan.fin ?_
  refine onNorm_n ?_
  refine HWp.seq ?_
  refine HWp.seq ?_
  refine HWp.text (.rd 0 (.rd 1 .done)) rfl ?_
  refine HPlan.move rfl rfl rfl ?_
  refine HPlan.nilEqK rfl rfl rfl rfl q_tk_25 rfl rfl rfl rfl ?_
  refine HPlan.fin ?_
  refine onNorm_n ?_
  refine HWp.cond rfl ?_ ?_
  · intro hc4
    first
    | (exact absurd hc4 Bool.false_ne_true)
    | (exact absurd hc4.symm Bool.false_ne_true)
    | ((try simp only [decide_eq_true_eq, decide_eq_false_iff_not, Bool.not_eq_true', Bool.not_eq_false', Bool.not_true, Bool.not_false, beq_iff_eq, bne_iff_ne, bne_eq_false_iff_eq, ne_eq, beq_eq_false_iff_ne, Int.not_lt, Int.not_le] at hc4); exfalso; omega)
    | (try simp only [decide_eq_true_eq, decide_eq_false_iff_not, Bool.not_eq_true', Bool.not_eq_false', Bool.not_true, Bool.not_false, beq_iff_eq, bne_iff_ne, bne_eq_false_iff_eq, ne_eq, beq_eq_false_iff_ne, Int.not_lt, Int.not_le] at hc4)
      refine HWp.seq ?_
      refine HWp.text (.rd 0 .done) rfl ?_
      refine HPlan.assign rfl rfl rfl ?_
      refine HPlan.fin ?_
      refine onNorm_n ?_
      refine HWp.ret ?_
      refine onNorm_r ?_
      refine retQ_r (.tmp rfl .nil) ?_
      exact endK_of ⟨rfl, rfl, rfl⟩ (by repeat (first | exact Part.refl _ | refine Part.pull (by repeat (first | exact Pull.here | apply Pull.there)) ?_ | refine Part.skip _ ?_ | exact Part.nil _ | exact Part.app _ _)) (by repeat (first | exact Part.refl _ | refine Part.pull (by repeat (first | exact Pull.here | apply Pull.there)) ?_ | refine Part.skip _ ?_ | exact Part.nil _ | exact Part.app _ _))
  · intro hc4
    first
    | (exact absurd hc4 Bool.false_ne_true)
    | (exact absurd hc4.symm Bool.false_ne_true)
    | ((try simp only [decide_eq_true_eq, decide_eq_false_iff_not, Bool.not_eq_true', Bool.not_eq_false', Bool.not_true, Bool.not_false, beq_iff_eq, bne_iff_ne, bne_eq_false_iff_eq, ne_eq, beq_eq_false_iff_ne, Int.not_lt, Int.not_le] at hc4); exfalso; omega)
    | (try simp only [decide_eq_true_eq, decide_eq_false_iff_not, Bool.not_eq_true', Bool.not_eq_false', Bool.not_true, Bool.not_false, beq_iff_eq, bne_iff_ne, bne_eq_false_iff_eq, ne_eq, beq_eq_false_iff_ne, Int.not_lt, Int.not_le] at hc4)
      exfalso
      skip
theorem blobs_get (d : List UInt8) (hd : d.length = 32) (s m ver mver : Nat) (n : Int) (ks : List (List UInt8 × ByteArray)) (hk : Keys32 ks) (F : Hp) (T : Tk) : HCalls Try.prog 13 [.ref s 0, digV d] ((s, .cells 55 [.mp m, .int .i64 n] ver) :: (m, .map (entsV ks) mver) :: F) T (fun r L' T' => r = gotV d ks ∧ L' = (s, .cells 55 [.mp m, .int .i64 n] ver) :: (m, .map (entsV ks) mver) :: F ∧ T' = T) := by
  refine HCalls.enterG q_f_13 rfl ?_
  refine HWp.frame (r' := ⟨21, [(0, .ref s 0), (1, digV d)]⟩) rfl ?_
  refine HWp.seq ?_
  refine HWp.text (.act 0 [] (.rd 1 (.rd 2 .done))) rfl ?_
  refine HPlan.box rfl rfl rfl (digV_solid d) (fun i3 => ⟨keptH_nil, ?_⟩)
  refine HPlan.assign rfl rfl rfl ?_
  refine HPlan.assign rfl rfl rfl ?_
  refine HPlan.fin ?_
  refine onNorm_n ?_
  refine HWp.seq ?_
  refine HWp.seq ?_
  refine HWp.text (.rd 0 (.rd 1 .done)) rfl ?_
  refine HPlan.move rfl rfl rfl ?_
  refine HPlan.nilEqK rfl rfl rfl rfl q_tk_25 rfl rfl rfl rfl ?_
  refine HPlan.fin ?_
  refine onNorm_n ?_
  refine HWp.cond rfl ?_ ?_
  · intro hc9
    first
    | (exact absurd hc9 Bool.false_ne_true)
    | (exact absurd hc9.symm Bool.false_ne_true)
    | ((try simp only [decide_eq_true_eq, decide_eq_false_iff_not, Bool.not_eq_true', Bool.not_eq_false', Bool.not_true, Bool.not_false, beq_iff_eq, bne_iff_ne, bne_eq_false_iff_eq, ne_eq, beq_eq_false_iff_ne, Int.not_lt, Int.not_le] at hc9); exfalso; omega)
    | (try simp only [decide_eq_true_eq, decide_eq_false_iff_not, Bool.not_eq_true', Bool.not_eq_false', Bool.not_true, Bool.not_false, beq_iff_eq, bne_iff_ne, bne_eq_false_iff_eq, ne_eq, beq_eq_false_iff_ne, Int.not_lt, Int.not_le] at hc9)
      exfalso
      skip
  · intro hc9
    first
    | (exact absurd hc9 Bool.false_ne_true)
    | (exact absurd hc9.symm Bool.false_ne_true)
    | ((try simp only [decide_eq_true_eq, decide_eq_false_iff_not, Bool.not_eq_true', Bool.not_eq_false', Bool.not_true, Bool.not_false, beq_iff_eq, bne_iff_ne, bne_eq_false_iff_eq, ne_eq, beq_eq_false_iff_ne, Int.not_lt, Int.not_le] at hc9); exfalso; omega)
    | (try simp only [decide_eq_true_eq, decide_eq_false_iff_not, Bool.not_eq_true', Bool.not_eq_false', Bool.not_true, Bool.not_false, beq_iff_eq, bne_iff_ne, bne_eq_false_iff_eq, ne_eq, beq_eq_false_iff_ne, Int.not_lt, Int.not_le] at hc9)
      refine HWp.skip ?_
      refine onNorm_n ?_
      refine HWp.seq ?_
      refine HWp.draw q_mix (.rd 0 (.rd 1 (.rd 2 (.rd 3 (.rd 4 (.rd 5 (.rd 6 (.rd 7 (.rd 8 (.rd 9 (.rd 10 .done))))))))))) (by kernel_rfl) ?_
      refine HPlan.move rfl rfl rfl ?_
      refine HPlan.nilCheck rfl rfl rfl rfl ?_
      refine HPlan.fieldAddr rfl rfl rfl rfl q_fo_55_0 rfl ?_
      refine HPlan.load rfl rfl rfl q_sh_53 (by repeat (first | exact List.Mem.head _ | apply List.Mem.tail | assumption)) (by constructor <;> first | rfl | decide | omega | exact Nat.le_refl _ | (simp; done) | (simp; omega)) rfl ?_
      refine HPlan.load rfl rfl rfl q_sh_29 (by repeat (first | exact List.Mem.head _ | apply List.Mem.tail | assumption)) (by constructor <;> simp [digV, LV.cells, hd]) (load_all (bytesLV d) 32 ((bytesLV_length d).trans hd)) ?_
      refine HPlan.lookup rfl rfl rfl rfl q_mt_53 q_kk_29 q_zo_9 (by repeat (first | exact List.Mem.head _ | apply List.Mem.tail | assumption)) (dig_fits hd) (ents_fit hk) (got_of d ks) ?_
      refine HPlan.move rfl rfl rfl ?_
      refine HPlan.extract rfl rfl rfl rfl ?_
      refine HPlan.extract rfl rfl rfl rfl ?_
      refine HPlan.assign rfl rfl rfl ?_
      refine HPlan.assign rfl rfl rfl ?_
      refine HPlan.fin ?_
      refine onNorm_n ?_
      refine HWp.seq ?_
      refine HWp.text (.rd 0 (.rd 1 (.rd 2 (.rd 3 .done)))) rfl ?_
      refine HPlan.move rfl rfl rfl ?_
      refine HPlan.move rfl rfl rfl ?_
      refine HPlan.assign rfl rfl rfl ?_
      refine HPlan.assign rfl rfl rfl ?_
      refine HPlan.fin ?_
      refine onNorm_n ?_
      refine HWp.ret ?_
      refine retQ_r (.tmp rfl (.tmp rfl .nil)) ?_
      exact endK_of ⟨rfl, rfl, rfl⟩ (by repeat (first | exact Part.refl _ | refine Part.pull (by repeat (first | exact Pull.here | apply Pull.there)) ?_ | refine Part.skip _ ?_ | exact Part.nil _ | exact Part.app _ _)) (by repeat (first | exact Part.refl _ | refine Part.pull (by repeat (first | exact Pull.here | apply Pull.there)) ?_ | refine Part.skip _ ?_ | exact Part.nil _ | exact Part.app _ _))
theorem blobs_put (data : ByteArray) (hs : data.size < 70368744177664) (s m ver mver : Nat) (n : Int) (ks : List (List UInt8 × ByteArray)) (hk : Keys32 ks) (F : Hp) (T : Tk) : HCalls Try.prog 16 [.ref s 0, .str data] ((s, .cells 55 [.mp m, .int .i64 n] ver) :: (m, .map (entsV ks) mver) :: F) T (fun r L' T' => r = digV (shaF [data]) ∧ T' = T ∧ ∃ ver' mver', L' = (s, .cells 55 [.mp m, .int .i64 (if (getK (shaF [data]) ks).isSome then n else IntKind.i64.wrap (n + data.size))] ver') :: (m, .map (entsV (if (getK (shaF [data]) ks).isSome then ks else putK (shaF [data]) data ks)) mver') :: F) := by
  refine HCalls.enterG q_f_16 rfl ?_
  refine HWp.frame (r' := ⟨41, [(0, .ref s 0), (1, .str data)]⟩) rfl ?_
  refine HWp.seq ?_
  refine HWp.text (.act 0 [] .done) rfl ?_
  refine HPlan.alloc rfl rfl q_zo_29 (by first | rfl | (simp; done)) (fun i4 => ⟨keptH_nil, ?_⟩)
  refine HPlan.fin ?_
  refine onNorm_n ?_
  refine HWp.seq ?_
  refine HWp.text (.rd 0 (.act 1 [] (.act 2 [] (.act 3 [] (.act 4 [] .done))))) rfl ?_
  refine HPlan.move rfl rfl rfl ?_
  refine HPlan.buildSliceN rfl rfl q_se_44 q_zs_9 rfl (by decide) rfl rfl (rfl : _ = [data].map LV.str) (allCells_cons (by first | rfl | (simp; done)) (by first | rfl | decide | omega | (simp; done) | (simp; omega)) allCells_nil) keptH_nil ?_
  refine HPlan.callPure rfl rfl rfl q_en_17 (sha_spec [data] _ (by intro s h; simp at h; subst h; exact hs) (by simp) .sl) keptH_nil ?_
  generalize hD : shaF [data] = D
  have hDl : D.length = 32 := by rw [← hD]; exact shaF_length _
  refine HPlan.alloc rfl rfl q_zo_29 (by first | rfl | (simp; done)) (fun i5 => ⟨keptH_nil, ?_⟩)
  refine HPlan.store rfl rfl rfl rfl q_sz_29 (digV_solid D) ((bytesLV_length D).trans hDl) (by repeat (first | exact List.Mem.head _ | apply List.Mem.tail | assumption)) (splice_all _ (bytesLV D) (by simp; exact hDl)) (by repeat (first | exact Upd.here | apply Upd.there)) (by simp) keptH_nil ?_
  refine HPlan.fin ?_
  refine onNorm_n ?_
  refine HWp.seq ?_
  refine HWp.seq ?_
  refine HWp.text (.rd 0 (.rd 1 .done)) rfl ?_
  refine HPlan.move rfl rfl rfl ?_
  refine HPlan.nilEqK rfl rfl rfl rfl q_tk_25 rfl rfl rfl rfl ?_
  refine HPlan.fin ?_
  refine onNorm_n ?_
  refine HWp.cond rfl ?_ ?_
  · intro hc12
    first
    | (exact absurd hc12 Bool.false_ne_true)
    | (exact absurd hc12.symm Bool.false_ne_true)
    | ((try simp only [decide_eq_true_eq, decide_eq_false_iff_not, Bool.not_eq_true', Bool.not_eq_false', Bool.not_true, Bool.not_false, beq_iff_eq, bne_iff_ne, bne_eq_false_iff_eq, ne_eq, beq_eq_false_iff_ne, Int.not_lt, Int.not_le] at hc12); exfalso; omega)
    | (try simp only [decide_eq_true_eq, decide_eq_false_iff_not, Bool.not_eq_true', Bool.not_eq_false', Bool.not_true, Bool.not_false, beq_iff_eq, bne_iff_ne, bne_eq_false_iff_eq, ne_eq, beq_eq_false_iff_ne, Int.not_lt, Int.not_le] at hc12)
      exfalso
      skip
  · intro hc12
    first
    | (exact absurd hc12 Bool.false_ne_true)
    | (exact absurd hc12.symm Bool.false_ne_true)
    | ((try simp only [decide_eq_true_eq, decide_eq_false_iff_not, Bool.not_eq_true', Bool.not_eq_false', Bool.not_true, Bool.not_false, beq_iff_eq, bne_iff_ne, bne_eq_false_iff_eq, ne_eq, beq_eq_false_iff_ne, Int.not_lt, Int.not_le] at hc12); exfalso; omega)
    | (try simp only [decide_eq_true_eq, decide_eq_false_iff_not, Bool.not_eq_true', Bool.not_eq_false', Bool.not_true, Bool.not_false, beq_iff_eq, bne_iff_ne, bne_eq_false_iff_eq, ne_eq, beq_eq_false_iff_ne, Int.not_lt, Int.not_le] at hc12)
      refine HWp.skip ?_
      refine onNorm_n ?_
      refine HWp.seq ?_
      refine HWp.seq ?_
      refine HWp.draw q_mix (.rd 0 (.rd 1 (.rd 2 (.rd 3 (.rd 4 (.rd 5 (.rd 6 (.rd 7 (.rd 8 (.rd 9 (.rd 10 .done))))))))))) (by kernel_rfl) ?_
      refine HPlan.move rfl rfl rfl ?_
      refine HPlan.nilCheck rfl rfl rfl rfl ?_
      refine HPlan.fieldAddr rfl rfl rfl rfl q_fo_55_0 rfl ?_
      refine HPlan.load rfl rfl rfl q_sh_53 (by repeat (first | exact List.Mem.head _ | apply List.Mem.tail | assumption)) (by constructor <;> first | rfl | decide | omega | exact Nat.le_refl _ | (simp; done) | (simp; omega)) rfl ?_
      refine HPlan.load rfl rfl rfl q_sh_29 (by repeat (first | exact List.Mem.head _ | apply List.Mem.tail | assumption)) (by constructor <;> simp [hDl]) (load_all (bytesLV D) 32 ((bytesLV_length D).trans hDl)) ?_
      refine HPlan.lookup rfl rfl rfl rfl q_mt_53 q_kk_29 q_zo_9 (by repeat (first | exact List.Mem.head _ | apply List.Mem.tail | assumption)) (dig_fits hDl) (ents_fit hk) (got_of D ks) ?_
      refine HPlan.move rfl rfl rfl ?_
      refine HPlan.extract rfl rfl rfl rfl ?_
      refine HPlan.extract rfl rfl rfl rfl ?_
      refine HPlan.assign rfl rfl rfl ?_
      refine HPlan.assign rfl rfl rfl ?_
      refine HPlan.fin ?_
      refine onNorm_n ?_
      refine HWp.seq ?_
      refine HWp.text (.rd 0 (.rd 1 .done)) rfl ?_
      refine HPlan.move rfl rfl rfl ?_
      refine HPlan.not rfl rfl rfl rfl ?_
      refine HPlan.fin ?_
      refine onNorm_n ?_
      refine HWp.cond rfl ?_ ?_
      · intro hc24
        first
        | (exact absurd hc24 Bool.false_ne_true)
        | (exact absurd hc24.symm Bool.false_ne_true)
        | ((try simp only [decide_eq_true_eq, decide_eq_false_iff_not, Bool.not_eq_true', Bool.not_eq_false', Bool.not_true, Bool.not_false, beq_iff_eq, bne_iff_ne, bne_eq_false_iff_eq, ne_eq, beq_eq_false_iff_ne, Int.not_lt, Int.not_le] at hc24); exfalso; omega)
        | (try simp only [decide_eq_true_eq, decide_eq_false_iff_not, Bool.not_eq_true', Bool.not_eq_false', Bool.not_true, Bool.not_false, beq_iff_eq, bne_iff_ne, bne_eq_false_iff_eq, ne_eq, beq_eq_false_iff_ne, Int.not_lt, Int.not_le] at hc24)
          refine HWp.seq ?_
          refine HWp.draw q_mix (.rd 0 (.rd 1 (.rd 2 (.rd 3 (.rd 4 (.rd 5 (.act 6 [] .done))))))) (by kernel_rfl) ?_
          refine HPlan.move rfl rfl rfl ?_
          refine HPlan.nilCheck rfl rfl rfl rfl ?_
          refine HPlan.fieldAddr rfl rfl rfl rfl q_fo_55_0 rfl ?_
          refine HPlan.load rfl rfl rfl q_sh_53 (by repeat (first | exact List.Mem.head _ | apply List.Mem.tail | assumption)) (by constructor <;> first | rfl | decide | omega | exact Nat.le_refl _ | (simp; done) | (simp; omega)) rfl ?_
          refine HPlan.load rfl rfl rfl q_sh_29 (by repeat (first | exact List.Mem.head _ | apply List.Mem.tail | assumption)) (by constructor <;> simp [hDl]) (load_all (bytesLV D) 32 ((bytesLV_length D).trans hDl)) ?_
          refine HPlan.move rfl rfl rfl ?_
          refine HPlan.mapUpdate rfl rfl rfl rfl rfl q_mt_53 q_kk_29 (dig_fits hDl) (ents_fit hk) (putL_ents D data ks) (by repeat (first | exact Upd.here | apply Upd.there)) keptH_nil ?_
          refine HPlan.fin ?_
          refine onNorm_n ?_
          refine HWp.text (.rd 0 (.rd 1 (.rd 2 (.rd 3 (.rd 4 (.rd 5 (.rd 6 (.rd 7 (.rd 8 (.act 9 [] .done)))))))))) rfl ?_
          refine HPlan.move rfl rfl rfl ?_
          refine HPlan.nilCheck rfl rfl rfl rfl ?_
          refine HPlan.fieldAddr rfl rfl rfl rfl q_fo_55_1 rfl ?_
          refine HPlan.load rfl rfl rfl q_sh_3 (by repeat (first | exact List.Mem.head _ | apply List.Mem.tail | assumption)) (by constructor <;> first | rfl | decide | omega | exact Nat.le_refl _ | (simp; done) | (simp; omega)) rfl ?_
          refine HPlan.move rfl rfl rfl ?_
          refine HPlan.lenStr rfl rfl rfl q_tk_9 rfl ?_
          refine HPlan.intBin rfl rfl rfl rfl rfl (by first | exact add_i64 (by omega) (by omega) | rfl) ?_
          refine HPlan.nilCheck rfl rfl rfl rfl ?_
          refine HPlan.fieldAddr rfl rfl rfl rfl q_fo_55_1 rfl ?_
          refine HPlan.store rfl rfl rfl rfl q_sz_3 (by first | rfl | (simp; done)) (by first | rfl | decide | omega | (simp; done) | (simp; omega)) (by repeat (first | exact List.Mem.head _ | apply List.Mem.tail | assumption)) rfl (by repeat (first | exact Upd.here | apply Upd.there)) (by first | rfl | decide | omega | (simp; done) | (simp; omega)) keptH_nil ?_
          refine HPlan.fin ?_
          refine onNorm_n ?_
          refine HWp.seq ?_
          refine HWp.text (.rd 0 (.act 1 [] .done)) rfl ?_
          refine HPlan.load rfl rfl rfl q_sh_29 (by repeat (first | exact List.Mem.head _ | apply List.Mem.tail | assumption)) (by constructor <;> simp [hDl]) (load_all (bytesLV D) 32 ((bytesLV_length D).trans hDl)) ?_
          refine HPlan.store rfl rfl rfl rfl q_sz_29 (digV_solid D) ((bytesLV_length D).trans hDl) (by repeat (first | exact List.Mem.head _ | apply List.Mem.tail | assumption)) (splice_all _ (bytesLV D) (by simp; exact hDl)) (by repeat (first | exact Upd.here | apply Upd.there)) (by simp) keptH_nil ?_
          refine HPlan.fin ?_
          refine onNorm_n ?_
          refine HWp.ret ?_
          refine retQ_r (.cell q_sh_29 rfl (by repeat (first | exact List.Mem.head _ | apply List.Mem.tail | assumption)) (by constructor <;> first | rfl | decide | omega | exact Nat.le_refl _ | (simp; done) | (simp; omega)) (load_all (bytesLV D) 32 ((bytesLV_length D).trans hDl)) .nil) ?_
          first
          | (rw [if_pos hc24, if_pos hc24]; exact endK_of ⟨rfl, rfl, _, _, rfl⟩ (by repeat (first | exact Part.refl _ | refine Part.pull (by repeat (first | exact Pull.here | apply Pull.there)) ?_ | refine Part.skip _ ?_ | exact Part.nil _ | exact Part.app _ _)) (by repeat (first | exact Part.refl _ | refine Part.pull (by repeat (first | exact Pull.here | apply Pull.there)) ?_ | refine Part.skip _ ?_ | exact Part.nil _ | exact Part.app _ _)))
          | (rw [if_neg (by rw [hc24]; exact Bool.false_ne_true), if_neg (by rw [hc24]; exact Bool.false_ne_true)]; exact endK_of ⟨rfl, rfl, _, _, rfl⟩ (by repeat (first | exact Part.refl _ | refine Part.pull (by repeat (first | exact Pull.here | apply Pull.there)) ?_ | refine Part.skip _ ?_ | exact Part.nil _ | exact Part.app _ _)) (by repeat (first | exact Part.refl _ | refine Part.pull (by repeat (first | exact Pull.here | apply Pull.there)) ?_ | refine Part.skip _ ?_ | exact Part.nil _ | exact Part.app _ _)))
      · intro hc24
        first
        | (exact absurd hc24 Bool.false_ne_true)
        | (exact absurd hc24.symm Bool.false_ne_true)
        | ((try simp only [decide_eq_true_eq, decide_eq_false_iff_not, Bool.not_eq_true', Bool.not_eq_false', Bool.not_true, Bool.not_false, beq_iff_eq, bne_iff_ne, bne_eq_false_iff_eq, ne_eq, beq_eq_false_iff_ne, Int.not_lt, Int.not_le] at hc24); exfalso; omega)
        | (try simp only [decide_eq_true_eq, decide_eq_false_iff_not, Bool.not_eq_true', Bool.not_eq_false', Bool.not_true, Bool.not_false, beq_iff_eq, bne_iff_ne, bne_eq_false_iff_eq, ne_eq, beq_eq_false_iff_ne, Int.not_lt, Int.not_le] at hc24)
          refine HWp.skip ?_
          refine onNorm_n ?_
          refine HWp.seq ?_
          refine HWp.text (.rd 0 (.act 1 [] .done)) rfl ?_
          refine HPlan.load rfl rfl rfl q_sh_29 (by repeat (first | exact List.Mem.head _ | apply List.Mem.tail | assumption)) (by constructor <;> simp [hDl]) (load_all (bytesLV D) 32 ((bytesLV_length D).trans hDl)) ?_
          refine HPlan.store rfl rfl rfl rfl q_sz_29 (digV_solid D) ((bytesLV_length D).trans hDl) (by repeat (first | exact List.Mem.head _ | apply List.Mem.tail | assumption)) (splice_all _ (bytesLV D) (by simp; exact hDl)) (by repeat (first | exact Upd.here | apply Upd.there)) (by simp) keptH_nil ?_
          refine HPlan.fin ?_
          refine onNorm_n ?_
          refine HWp.ret ?_
          refine retQ_r (.cell q_sh_29 rfl (by repeat (first | exact List.Mem.head _ | apply List.Mem.tail | assumption)) (by constructor <;> first | rfl | decide | omega | exact Nat.le_refl _ | (simp; done) | (simp; omega)) (load_all (bytesLV D) 32 ((bytesLV_length D).trans hDl)) .nil) ?_
          first
          | (rw [if_pos hc24, if_pos hc24]; exact endK_of ⟨rfl, rfl, _, _, rfl⟩ (by repeat (first | exact Part.refl _ | refine Part.pull (by repeat (first | exact Pull.here | apply Pull.there)) ?_ | refine Part.skip _ ?_ | exact Part.nil _ | exact Part.app _ _)) (by repeat (first | exact Part.refl _ | refine Part.pull (by repeat (first | exact Pull.here | apply Pull.there)) ?_ | refine Part.skip _ ?_ | exact Part.nil _ | exact Part.app _ _)))
          | (rw [if_neg (by rw [hc24]; exact Bool.false_ne_true), if_neg (by rw [hc24]; exact Bool.false_ne_true)]; exact endK_of ⟨rfl, rfl, _, _, rfl⟩ (by repeat (first | exact Part.refl _ | refine Part.pull (by repeat (first | exact Pull.here | apply Pull.there)) ?_ | refine Part.skip _ ?_ | exact Part.nil _ | exact Part.app _ _)) (by repeat (first | exact Part.refl _ | refine Part.pull (by repeat (first | exact Pull.here | apply Pull.there)) ?_ | refine Part.skip _ ?_ | exact Part.nil _ | exact Part.app _ _)))
end Go.Proofs.Ythfoobfgdakbmaa

set_option linter.unusedVariables false
set_option linter.unusedSimpArgs false
set_option maxRecDepth 100000
namespace Go.Proofs.Ythfoobfgdakbmaa
open Go Go.RowKit Go.L
theorem q_ck_29 : kindsOf Try.prog 2 29 = some (List.replicate 32 (.int .u8)) := by kernel_rfl
theorem q_eg_29 : Try.prog.eqGuardType Try.prog.depth 29 = false := by kernel_rfl
theorem q_f_23 : Try.prog.funcs[23]? = some Try.f23 := by kernel_rfl
theorem q_en_13 : enterable Try.prog 13 = true := by kernel_rfl
theorem q_f_14 : Try.prog.funcs[14]? = some Try.f14 := by kernel_rfl

theorem eq_dig (a b : List UInt8) : flatEq (bytesLV a) (bytesLV b) = decide (a = b) := flatEq_bytes a b
theorem fits_dig {d : List UInt8} (h : d.length = 32) : fitsAll (List.replicate 32 (.int .u8)) (bytesLV d) = true := by
  have := kinds_fits (dig_fits h)
  exact this

theorem blobs_check (d : List UInt8) (hd : d.length = 32) (data : ByteArray) (hs : data.size < 70368744177664) : HPure Try.prog 23 [digV d, .str data] (.bool (decide (shaF [data] = d))) := by
  intro L T
  refine HCalls.enterG q_f_23 rfl ?_
  refine HWp.frame (r' := ⟨10, [(0, digV d), (1, .str data)]⟩) rfl ?_
  refine HWp.seq ?_
  refine HWp.text (.act 0 [] (.rd 1 .done)) rfl ?_
  refine HPlan.box rfl rfl rfl (digV_solid d) (fun i2 => ⟨keptH_nil, ?_⟩)
  refine HPlan.assign rfl rfl rfl ?_
  refine HPlan.fin ?_
  refine onNorm_n ?_
  refine HWp.seq ?_
  refine HWp.draw q_mix (.rd 0 (.rd 3 (.act 1 [3] (.act 2 [3] (.rd 4 (.rd 5 .done)))))) (by kernel_rfl) ?_
  refine HPlan.move rfl rfl rfl ?_
  refine HPlan.load rfl rfl rfl q_sh_29 (by repeat (first | exact List.Mem.head _ | apply List.Mem.tail | assumption)) (by constructor <;> simp [digV, LV.cells, hd]) (load_all (bytesLV d) 32 ((bytesLV_length d).trans hd)) ?_
  refine HPlan.buildSliceN rfl rfl q_se_44 q_zs_9 rfl (by decide) rfl rfl (rfl : _ = [data].map LV.str) (allCells_cons (by first | rfl | (simp; done)) (by first | rfl | decide | omega | (simp; done) | (simp; omega)) allCells_nil) (keptH_ids (by repeat (first | exact allId_nil | refine allId_cons (by repeat (first | exact List.Mem.head _ | apply List.Mem.tail | assumption)) (by repeat (first | exact List.Mem.head _ | apply List.Mem.tail | assumption)) ?_))) ?_
  refine HPlan.callPure rfl rfl rfl q_en_17 (sha_spec [data] _ (by intro s h; simp at h; subst h; exact hs) (by simp) .sl) (keptH_ids (by repeat (first | exact allId_nil | refine allId_cons (by repeat (first | exact List.Mem.head _ | apply List.Mem.tail | assumption)) (by repeat (first | exact List.Mem.head _ | apply List.Mem.tail | assumption)) ?_))) ?_
  generalize hD : shaF [data] = D
  have hDl : D.length = 32 := by rw [← hD]; exact shaF_length _
  refine HPlan.aggEq rfl rfl rfl rfl q_sh_29 q_ck_29 (by decide) q_eg_29 ((bytesLV_length D).trans hDl) ((bytesLV_length d).trans hd) (fits_dig hDl) (fits_dig hd) (eq_dig D d) ?_
  refine HPlan.assign rfl rfl rfl ?_
  refine HPlan.fin ?_
  refine onNorm_n ?_
  refine HWp.ret ?_
  refine retQ_r (.tmp rfl .nil) ?_
  exact endK_of ⟨rfl, rfl, rfl⟩ (by repeat (first | exact Part.refl _ | refine Part.pull (by repeat (first | exact Pull.here | apply Pull.there)) ?_ | refine Part.skip _ ?_ | exact Part.nil _ | exact Part.app _ _)) (by repeat (first | exact Part.refl _ | refine Part.pull (by repeat (first | exact Pull.here | apply Pull.there)) ?_ | refine Part.skip _ ?_ | exact Part.nil _ | exact Part.app _ _))
theorem blobs_drop (d : List UInt8) (hd : d.length = 32) (s m ver mver : Nat) (n : Int) (ks : List (List UInt8 × ByteArray)) (hk : Keys32 ks) (F : Hp) (T : Tk) : HCalls Try.prog 14 [.ref s 0, digV d] ((s, .cells 55 [.mp m, .int .i64 n] ver) :: (m, .map (entsV ks) mver) :: F) T (fun r L' T' => r = .bool (getK d ks).isSome ∧ T' = T ∧ ∃ ver' mver', L' = (s, .cells 55 [.mp m, .int .i64 (if (getK d ks).isSome then IntKind.i64.wrap (n - ((getK d ks).getD .empty).size) else n)] ver') :: (m, .map (entsV (if (getK d ks).isSome then delK d ks else ks)) mver') :: F) := by
  refine HCalls.enterG q_f_14 rfl ?_
  refine HWp.frame (r' := ⟨29, [(0, .ref s 0), (1, digV d)]⟩) rfl ?_
  refine HWp.seq ?_
  refine HWp.text (.act 0 [] (.rd 1 .done)) rfl ?_
  refine HPlan.box rfl rfl rfl (digV_solid d) (fun i3 => ⟨keptH_nil, ?_⟩)
  refine HPlan.assign rfl rfl rfl ?_
  refine HPlan.fin ?_
  refine onNorm_n ?_
  refine HWp.seq ?_
  refine HWp.text (.rd 0 (.rd 1 (.act 2 [] (.rd 3 (.rd 4 (.rd 5 (.rd 6 (.rd 7 .done)))))))) rfl ?_
  refine HPlan.move rfl rfl rfl ?_
  refine HPlan.load rfl rfl rfl q_sh_29 (by repeat (first | exact List.Mem.head _ | apply List.Mem.tail | assumption)) (by constructor <;> simp [digV, LV.cells, hd]) (load_all (bytesLV d) 32 ((bytesLV_length d).trans hd)) ?_
  refine HPlan.callS rfl rfl rfl q_en_13 (blobs_get d hd s m ver mver n ks hk ((i3, .cells 29 (digV d).cells 0) :: F) T) ((List.Perm.swap _ _ _).trans ((List.Perm.swap _ _ _).cons _)) (List.Perm.refl _) ?_
  rintro r_R1_2 L_R1_2 T ⟨rfl, rfl, rfl⟩
  refine ⟨keptH_nil, ?_⟩
  refine HPlan.move rfl rfl rfl ?_
  refine HPlan.extract rfl rfl rfl rfl ?_
  refine HPlan.extract rfl rfl rfl rfl ?_
  refine HPlan.assign rfl rfl rfl ?_
  refine HPlan.assign rfl rfl rfl ?_
  refine HPlan.fin ?_
  refine onNorm_n ?_
  refine HWp.seq ?_
  refine HWp.seq ?_
  refine HWp.text (.rd 0 .done) rfl ?_
  refine HPlan.move rfl rfl rfl ?_
  refine HPlan.fin ?_
  refine onNorm_n ?_
  refine HWp.cond rfl ?_ ?_
  · intro hc13
    first
    | (exact absurd hc13 Bool.false_ne_true)
    | (exact absurd hc13.symm Bool.false_ne_true)
    | ((try simp only [decide_eq_true_eq, decide_eq_false_iff_not, Bool.not_eq_true', Bool.not_eq_false', Bool.not_true, Bool.not_false, beq_iff_eq, bne_iff_ne, bne_eq_false_iff_eq, ne_eq, beq_eq_false_iff_ne, Int.not_lt, Int.not_le] at hc13); exfalso; omega)
    | (try simp only [decide_eq_true_eq, decide_eq_false_iff_not, Bool.not_eq_true', Bool.not_eq_false', Bool.not_true, Bool.not_false, beq_iff_eq, bne_iff_ne, bne_eq_false_iff_eq, ne_eq, beq_eq_false_iff_ne, Int.not_lt, Int.not_le] at hc13)
      refine HWp.seq ?_
      refine HWp.text (.rd 0 (.rd 1 (.rd 2 (.rd 3 (.rd 4 (.rd 5 (.rd 6 (.rd 7 (.rd 8 (.act 9 [] .done)))))))))) rfl ?_
      refine HPlan.move rfl rfl rfl ?_
      refine HPlan.nilCheck rfl rfl rfl rfl ?_
      refine HPlan.fieldAddr rfl rfl rfl rfl q_fo_55_1 rfl ?_
      refine HPlan.load rfl rfl rfl q_sh_3 (by repeat (first | exact List.Mem.head _ | apply List.Mem.tail | assumption)) (by constructor <;> first | rfl | decide | omega | exact Nat.le_refl _ | (simp; done) | (simp; omega)) rfl ?_
      refine HPlan.move rfl rfl rfl ?_
      refine HPlan.lenStr rfl rfl rfl q_tk_9 rfl ?_
      refine HPlan.intBin rfl rfl rfl rfl rfl (by first | exact sub_i64 (by omega) (by omega) | rfl) ?_
      refine HPlan.nilCheck rfl rfl rfl rfl ?_
      refine HPlan.fieldAddr rfl rfl rfl rfl q_fo_55_1 rfl ?_
      refine HPlan.store rfl rfl rfl rfl q_sz_3 (by first | rfl | (simp; done)) (by first | rfl | decide | omega | (simp; done) | (simp; omega)) (by repeat (first | exact List.Mem.head _ | apply List.Mem.tail | assumption)) (by exact (rfl : _ = [LV.mp m, LV.int .i64 (IntKind.i64.wrap (n - ((getK d ks).getD .empty).size))])) (by repeat (first | exact Upd.here | apply Upd.there)) (by first | rfl | decide | omega | (simp; done) | (simp; omega)) keptH_nil ?_
      refine HPlan.fin ?_
      refine onNorm_n ?_
      refine HWp.draw q_mix (.rd 0 (.rd 1 (.rd 2 (.rd 3 (.rd 4 (.act 5 [] .done)))))) (by kernel_rfl) ?_
      refine HPlan.move rfl rfl rfl ?_
      refine HPlan.nilCheck rfl rfl rfl rfl ?_
      refine HPlan.fieldAddr rfl rfl rfl rfl q_fo_55_0 rfl ?_
      refine HPlan.load rfl rfl rfl q_sh_53 (by repeat (first | exact List.Mem.head _ | apply List.Mem.tail | assumption)) (by constructor <;> first | rfl | decide | omega | exact Nat.le_refl _ | (simp; done) | (simp; omega)) rfl ?_
      refine HPlan.load rfl rfl rfl q_sh_29 (by repeat (first | exact List.Mem.head _ | apply List.Mem.tail | assumption)) (by constructor <;> simp [digV, LV.cells, hd]) (load_all (bytesLV d) 32 ((bytesLV_length d).trans hd)) ?_
      refine HPlan.delete rfl rfl rfl rfl q_mt_53 q_kk_29 (dig_fits hd) (ents_fit hk) (delL_ents d ks) (by repeat (first | exact Upd.here | apply Upd.there)) keptH_nil ?_
      refine HPlan.fin ?_
      refine onNorm_n ?_
      refine HWp.seq ?_
      refine HWp.text (.rd 0 (.rd 1 .done)) rfl ?_
      refine HPlan.move rfl rfl rfl ?_
      refine HPlan.assign rfl rfl rfl ?_
      refine HPlan.fin ?_
      refine onNorm_n ?_
      refine HWp.ret ?_
      refine retQ_r (.tmp rfl .nil) ?_
      first
      | (rw [if_pos hc13, if_pos hc13]; exact endK_of ⟨by rw [hc13]; rfl, rfl, _, _, rfl⟩ (by repeat (first | exact Part.refl _ | refine Part.pull (by repeat (first | exact Pull.here | apply Pull.there)) ?_ | refine Part.skip _ ?_ | exact Part.nil _ | exact Part.app _ _)) (by repeat (first | exact Part.refl _ | refine Part.pull (by repeat (first | exact Pull.here | apply Pull.there)) ?_ | refine Part.skip _ ?_ | exact Part.nil _ | exact Part.app _ _)))
      | (rw [if_neg (by rw [hc13]; exact Bool.false_ne_true), if_neg (by rw [hc13]; exact Bool.false_ne_true)]; exact endK_of ⟨rfl, rfl, _, _, rfl⟩ (by repeat (first | exact Part.refl _ | refine Part.pull (by repeat (first | exact Pull.here | apply Pull.there)) ?_ | refine Part.skip _ ?_ | exact Part.nil _ | exact Part.app _ _)) (by repeat (first | exact Part.refl _ | refine Part.pull (by repeat (first | exact Pull.here | apply Pull.there)) ?_ | refine Part.skip _ ?_ | exact Part.nil _ | exact Part.app _ _)))
  · intro hc13
    first
    | (exact absurd hc13 Bool.false_ne_true)
    | (exact absurd hc13.symm Bool.false_ne_true)
    | ((try simp only [decide_eq_true_eq, decide_eq_false_iff_not, Bool.not_eq_true', Bool.not_eq_false', Bool.not_true, Bool.not_false, beq_iff_eq, bne_iff_ne, bne_eq_false_iff_eq, ne_eq, beq_eq_false_iff_ne, Int.not_lt, Int.not_le] at hc13); exfalso; omega)
    | (try simp only [decide_eq_true_eq, decide_eq_false_iff_not, Bool.not_eq_true', Bool.not_eq_false', Bool.not_true, Bool.not_false, beq_iff_eq, bne_iff_ne, bne_eq_false_iff_eq, ne_eq, beq_eq_false_iff_ne, Int.not_lt, Int.not_le] at hc13)
      refine HWp.skip ?_
      refine onNorm_n ?_
      refine HWp.seq ?_
      refine HWp.text (.rd 0 (.rd 1 .done)) rfl ?_
      refine HPlan.move rfl rfl rfl ?_
      refine HPlan.assign rfl rfl rfl ?_
      refine HPlan.fin ?_
      refine onNorm_n ?_
      refine HWp.ret ?_
      refine retQ_r (.tmp rfl .nil) ?_
      first
      | (rw [if_pos hc13, if_pos hc13]; exact endK_of ⟨by rw [hc13]; rfl, rfl, _, _, rfl⟩ (by repeat (first | exact Part.refl _ | refine Part.pull (by repeat (first | exact Pull.here | apply Pull.there)) ?_ | refine Part.skip _ ?_ | exact Part.nil _ | exact Part.app _ _)) (by repeat (first | exact Part.refl _ | refine Part.pull (by repeat (first | exact Pull.here | apply Pull.there)) ?_ | refine Part.skip _ ?_ | exact Part.nil _ | exact Part.app _ _)))
      | (rw [if_neg (by rw [hc13]; exact Bool.false_ne_true), if_neg (by rw [hc13]; exact Bool.false_ne_true)]; exact endK_of ⟨rfl, rfl, _, _, rfl⟩ (by repeat (first | exact Part.refl _ | refine Part.pull (by repeat (first | exact Pull.here | apply Pull.there)) ?_ | refine Part.skip _ ?_ | exact Part.nil _ | exact Part.app _ _)) (by repeat (first | exact Part.refl _ | refine Part.pull (by repeat (first | exact Pull.here | apply Pull.there)) ?_ | refine Part.skip _ ?_ | exact Part.nil _ | exact Part.app _ _)))
end Go.Proofs.Ythfoobfgdakbmaa

set_option linter.unusedVariables false
set_option linter.unusedSimpArgs false
set_option maxRecDepth 100000
namespace Go.Proofs.Ythfoobfgdakbmaa
open Go Go.RowKit Go.L
theorem q_tk_27 : tyKind Try.prog 27 = .sl := by kernel_rfl
theorem q_ix_27 : indexIn Try.prog 27 = some (none, 33) := by kernel_rfl
theorem q_fo_37_1 : fieldOff Try.prog 37 1 = some 32 := by kernel_rfl
theorem q_f_27 : Try.prog.funcs[27]? = some Try.f27 := by kernel_rfl

def blobV (p : List UInt8 × ByteArray) : LV := .agg (bytesLV p.1 ++ [.str p.2])
def findK (d : List UInt8) : List (List UInt8 × ByteArray) → Nat → Option Nat
  | [], _ => none
  | q :: r, i => if q.1 = d then some i else findK d r (i + 1)
theorem blob_at {l : List (List UInt8 × ByteArray)} {k : Nat} (h : k < l.length) : (l.map blobV).getD ((k : Int).toNat) .und = blobV l[k] := by
  simp [List.getD_eq_getElem?_getD, h]
theorem blob_dig {p : List UInt8 × ByteArray} (h : p.1.length = 32) : (bif true then LV.agg (((blobV p).cells.drop (0 + 0)).take 32) else ((blobV p).cells.drop (0 + 0)).headD .und) = digV p.1 := by
  simp [blobV, digV, LV.cells, ← h]
theorem blob_len {p : List UInt8 × ByteArray} (h : p.1.length = 32) : (blobV p).cells.length = 33 := by simp [blobV, LV.cells, h]
theorem blob_data {p : List UInt8 × ByteArray} (h : p.1.length = 32) : (bif false then LV.agg (((blobV p).cells.drop (0 + 32)).take 1) else ((blobV p).cells.drop (0 + 32)).headD .und) = .str p.2 := by
  simp [blobV, LV.cells, List.headD_eq_head?_getD, List.head?_drop, List.getElem?_append, h]
def totalK (l : List (List UInt8 × ByteArray)) : Nat → Int
  | 0 => 0
  | k + 1 => IntKind.i64.wrap (totalK l k + (((l[k]?).map (·.2.size)).getD 0 : Nat))

theorem ref_size (l : List (List UInt8 × ByteArray)) (hk : Keys32 l) (hl : l.length < 70368744177664) (x : LV) (hx : IsSl 33 (l.map blobV) x) : HPure Try.prog 27 [x] (.int .i64 (totalK l l.length)) := by
  intro L T
  refine HCalls.enterG q_f_27 rfl ?_
  refine HWp.frame (r' := ⟨20, [(0, x)]⟩) rfl ?_
  refine HWp.seq ?_
  refine HWp.text (.rd 0 .done) rfl ?_
  refine HPlan.assign rfl rfl rfl ?_
  refine HPlan.fin ?_
  refine onNorm_n ?_
  refine HWp.seq ?_
  refine HWp.text (.rd 0 .done) rfl ?_
  refine HPlan.assign rfl rfl rfl ?_
  refine HPlan.fin ?_
  refine onNorm_n ?_
  refine HWp.seq ?_
  refine HWp.seq ?_
  refine HWp.text (.rd 0 .done) rfl ?_
  refine HPlan.assign rfl rfl rfl ?_
  refine HPlan.fin ?_
  refine onNorm_n ?_
  refine HWp.block ?_
  refine HWp.loopF (α := Nat) (fun k => l.length - k) (fun k => k ≤ l.length) (fun k => ⟨20, [(0, x), (3, .int .i64 (totalK l k)), (4, .int .i64 (k : Int))]⟩) (fun k => L) (fun k => T) ?_ ?_
  · refine ⟨0, (Nat.zero_le _), (LessE.less (by repeat (first | exact LessE.nil | refine LessE.same rfl ?_ | refine LessE.own rfl ?_ | refine LessE.eq rfl ?_ (by first | rfl | (congr 1; omega) | simp))) rfl), (by repeat (first | exact Part.refl _ | refine Part.pull (by repeat (first | exact Pull.here | apply Pull.there)) ?_ | refine Part.skip _ ?_ | exact Part.nil _ | exact Part.app _ _)), (by repeat (first | exact Part.refl _ | refine Part.pull (by repeat (first | exact Pull.here | apply Pull.there)) ?_ | refine Part.skip _ ?_ | exact Part.nil _ | exact Part.app _ _))⟩
  · rintro k hk1
    refine HWp.seq ?_
    refine HWp.seq ?_
    refine HWp.text (.rd 0 (.rd 1 (.rd 2 (.rd 3 .done)))) rfl ?_
    refine HPlan.move rfl rfl rfl ?_
    refine HPlan.move rfl rfl rfl ?_
    refine HPlan.lenS rfl rfl rfl q_tk_27 (by first | exact IsSl.sl | exact IsSl.nils | assumption | exact growV_isSl (by assumption)) (by rw [List.length_map]) ?_
    refine HPlan.intBin rfl rfl rfl rfl rfl rfl ?_
    refine HPlan.fin ?_
    refine onNorm_n ?_
    refine HWp.cond rfl ?_ ?_
    · intro hc8
      first
      | (exact absurd hc8 Bool.false_ne_true)
      | (exact absurd hc8.symm Bool.false_ne_true)
      | ((try simp only [decide_eq_true_eq, decide_eq_false_iff_not, Bool.not_eq_true', Bool.not_eq_false', Bool.not_true, Bool.not_false, beq_iff_eq, bne_iff_ne, bne_eq_false_iff_eq, ne_eq, beq_eq_false_iff_ne, Int.not_lt, Int.not_le] at hc8); exfalso; omega)
      | (try simp only [decide_eq_true_eq, decide_eq_false_iff_not, Bool.not_eq_true', Bool.not_eq_false', Bool.not_true, Bool.not_false, beq_iff_eq, bne_iff_ne, bne_eq_false_iff_eq, ne_eq, beq_eq_false_iff_ne, Int.not_lt, Int.not_le] at hc8)
        refine HWp.skip ?_
        refine onNorm_n ?_
        refine HWp.seq ?_
        refine HWp.block ?_
        refine HWp.text (.rd 0 (.rd 1 (.rd 2 (.rd 3 (.rd 4 (.rd 5 (.rd 6 (.rd 7 (.rd 8 .done))))))))) rfl ?_
        refine HPlan.move rfl rfl rfl ?_
        refine HPlan.move rfl rfl rfl ?_
        refine HPlan.move rfl rfl rfl ?_
        refine HPlan.indexS rfl rfl rfl rfl q_ix_27 (by first | exact IsSl.sl | exact IsSl.nils | assumption | exact growV_isSl (by assumption)) (by omega) (by simp only [List.length_map]; omega) (blob_at (l := l) (k := k) (by omega)) ?_
        refine HPlan.fieldAddr rfl rfl rfl rfl q_fo_37_1 rfl ?_
        refine HPlan.loadI rfl rfl rfl q_sh_9 (by rw [blob_len (hk _ (List.getElem_mem _))]; decide) (blob_data (hk _ (List.getElem_mem _))) ?_
        refine HPlan.lenStr rfl rfl rfl q_tk_9 rfl ?_
        refine HPlan.intBin rfl rfl rfl rfl rfl (show _ = LV.int .i64 (totalK l (k + 1)) by simp only [totalK]; rw [List.getElem?_eq_getElem (by omega)]; rfl) ?_
        refine HPlan.assign rfl rfl rfl ?_
        refine HPlan.fin ?_
        refine onExitH_n ?_
        refine onNorm_n ?_
        refine HWp.text (.rd 0 (.rd 1 (.rd 2 .done))) rfl ?_
        refine HPlan.move rfl rfl rfl ?_
        refine HPlan.intBin rfl rfl rfl rfl rfl (by first | exact add_i64 (by omega) (by omega) | rfl) ?_
        refine HPlan.assign rfl rfl rfl ?_
        refine HPlan.fin ?_
        refine onNorm_n ?_
        refine ⟨(k + 1), (by omega), (by omega), (LessE.less (by repeat (first | exact LessE.nil | refine LessE.same rfl ?_ | refine LessE.own rfl ?_ | refine LessE.eq rfl ?_ (by first | rfl | (congr 1; omega) | simp))) rfl), (by repeat (first | exact Part.refl _ | refine Part.pull (by repeat (first | exact Pull.here | apply Pull.there)) ?_ | refine Part.skip _ ?_ | exact Part.nil _ | exact Part.app _ _)), (by repeat (first | exact Part.refl _ | refine Part.pull (by repeat (first | exact Pull.here | apply Pull.there)) ?_ | refine Part.skip _ ?_ | exact Part.nil _ | exact Part.app _ _))⟩
    · intro hc8
      first
      | (exact absurd hc8 Bool.false_ne_true)
      | (exact absurd hc8.symm Bool.false_ne_true)
      | ((try simp only [decide_eq_true_eq, decide_eq_false_iff_not, Bool.not_eq_true', Bool.not_eq_false', Bool.not_true, Bool.not_false, beq_iff_eq, bne_iff_ne, bne_eq_false_iff_eq, ne_eq, beq_eq_false_iff_ne, Int.not_lt, Int.not_le] at hc8); exfalso; omega)
      | (try simp only [decide_eq_true_eq, decide_eq_false_iff_not, Bool.not_eq_true', Bool.not_eq_false', Bool.not_true, Bool.not_false, beq_iff_eq, bne_iff_ne, bne_eq_false_iff_eq, ne_eq, beq_eq_false_iff_ne, Int.not_lt, Int.not_le] at hc8)
        refine HWp.exit ?_
        refine onNorm_e ?_
        refine onNorm_e ?_
        obtain rfl : k = l.length := by omega
        refine onExitH_hit ?_
        refine onNorm_n ?_
        refine HWp.seq ?_
        refine HWp.text (.rd 0 (.rd 1 .done)) rfl ?_
        refine HPlan.move rfl rfl rfl ?_
        refine HPlan.assign rfl rfl rfl ?_
        refine HPlan.fin ?_
        refine onNorm_n ?_
        refine HWp.ret ?_
        refine retQ_r (.tmp rfl .nil) ?_
        exact endK_of ⟨rfl, rfl, rfl⟩ (by repeat (first | exact Part.refl _ | refine Part.pull (by repeat (first | exact Pull.here | apply Pull.there)) ?_ | refine Part.skip _ ?_ | exact Part.nil _ | exact Part.app _ _)) (by repeat (first | exact Part.refl _ | refine Part.pull (by repeat (first | exact Pull.here | apply Pull.there)) ?_ | refine Part.skip _ ?_ | exact Part.nil _ | exact Part.app _ _))
end Go.Proofs.Ythfoobfgdakbmaa

set_option linter.unusedVariables false
set_option linter.unusedSimpArgs false
set_option maxRecDepth 100000
namespace Go.Proofs.Ythfoobfgdakbmaa
open Go Go.RowKit Go.L
theorem q_fo_37_0 : fieldOff Try.prog 37 0 = some 0 := by kernel_rfl
theorem q_f_12 : Try.prog.funcs[12]? = some Try.f12 := by kernel_rfl

theorem findK_step {d : List UInt8} : ∀ {l : List (List UInt8 × ByteArray)} {k : Nat}, k ≤ l.length → (∀ i (h : i < k) (h' : i < l.length), l[i].1 ≠ d) → findK d l 0 = findK d (l.drop k) k := by
  intro l k
  induction k with
  | zero => intro _ _; rfl
  | succ k ih =>
    intro hk h
    rw [ih (by omega) (fun i hi hl => h i (by omega) hl)]
    rw [List.drop_eq_getElem_cons (by omega : k < l.length)]
    simp only [findK]
    rw [if_neg (h k (by omega) (by omega))]
def findV (d : List UInt8) (l : List (List UInt8 × ByteArray)) : Int := match findK d l 0 with | some i => (i : Int) | none => -1
theorem findV_hit {d : List UInt8} {l : List (List UInt8 × ByteArray)} {k : Nat} (hk : k < l.length) (h : ∀ i (h : i < k) (h' : i < l.length), l[i].1 ≠ d) (e : l[k].1 = d) : findV d l = k := by
  unfold findV
  rw [findK_step (by omega) h, List.drop_eq_getElem_cons hk]
  simp [findK, e]
theorem findV_miss {d : List UInt8} {l : List (List UInt8 × ByteArray)} (h : ∀ i (h : i < l.length) (h' : i < l.length), l[i].1 ≠ d) : findV d l = -1 := by
  unfold findV
  rw [findK_step (Nat.le_refl _) h, List.drop_length]
  rfl

theorem ref_find (l : List (List UInt8 × ByteArray)) (hk : Keys32 l) (hl : l.length < 70368744177664) (d : List UInt8) (hd : d.length = 32) (x : LV) (hx : IsSl 33 (l.map blobV) x) : HPure Try.prog 12 [x, digV d] (.int .i64 (findV d l)) := by
  intro L T
  refine HCalls.enterG q_f_12 rfl ?_
  refine HWp.frame (r' := ⟨20, [(0, x), (1, digV d)]⟩) rfl ?_
  refine HWp.seq ?_
  refine HWp.text (.act 0 [] (.rd 1 .done)) rfl ?_
  refine HPlan.box rfl rfl rfl (digV_solid d) (fun i3 => ⟨keptH_nil, ?_⟩)
  refine HPlan.assign rfl rfl rfl ?_
  refine HPlan.fin ?_
  refine onNorm_n ?_
  refine HWp.seq ?_
  refine HWp.seq ?_
  refine HWp.text (.rd 0 .done) rfl ?_
  refine HPlan.assign rfl rfl rfl ?_
  refine HPlan.fin ?_
  refine onNorm_n ?_
  refine HWp.block ?_
  refine HWp.loopF (α := Nat) (fun k => l.length - k) (fun k => k ≤ l.length ∧ ∀ i (h : i < k) (h' : i < l.length), l[i].1 ≠ d) (fun k => ⟨20, [(0, x), (3, .ref i3 0), (5, .int .i64 (k : Int))]⟩) (fun k => (i3, .cells 29 (bytesLV d) 0) :: L) (fun k => T) ?_ ?_
  · refine ⟨0, ⟨Nat.zero_le _, fun i h => absurd h (Nat.not_lt_zero _)⟩, (LessE.less (by repeat (first | exact LessE.nil | refine LessE.same rfl ?_ | refine LessE.own rfl ?_ | refine LessE.eq rfl ?_ (by first | rfl | (congr 1; omega) | simp))) rfl), (by repeat (first | exact Part.refl _ | refine Part.pull (by repeat (first | exact Pull.here | apply Pull.there)) ?_ | refine Part.skip _ ?_ | exact Part.nil _ | exact Part.app _ _)), (by repeat (first | exact Part.refl _ | refine Part.pull (by repeat (first | exact Pull.here | apply Pull.there)) ?_ | refine Part.skip _ ?_ | exact Part.nil _ | exact Part.app _ _))⟩
  · rintro k ⟨hk1, hno⟩
    refine HWp.seq ?_
    refine HWp.seq ?_
    refine HWp.text (.rd 0 (.rd 1 (.rd 2 (.rd 3 .done)))) rfl ?_
    refine HPlan.move rfl rfl rfl ?_
    refine HPlan.move rfl rfl rfl ?_
    refine HPlan.lenS rfl rfl rfl q_tk_27 (by first | exact IsSl.sl | exact IsSl.nils | assumption | exact growV_isSl (by assumption)) (by rw [List.length_map]) ?_
    refine HPlan.intBin rfl rfl rfl rfl rfl rfl ?_
    refine HPlan.fin ?_
    refine onNorm_n ?_
    refine HWp.cond rfl ?_ ?_
    · intro hc9
      first
      | (exact absurd hc9 Bool.false_ne_true)
      | (exact absurd hc9.symm Bool.false_ne_true)
      | ((try simp only [decide_eq_true_eq, decide_eq_false_iff_not, Bool.not_eq_true', Bool.not_eq_false', Bool.not_true, Bool.not_false, beq_iff_eq, bne_iff_ne, bne_eq_false_iff_eq, ne_eq, beq_eq_false_iff_ne, Int.not_lt, Int.not_le] at hc9); exfalso; omega)
      | (try simp only [decide_eq_true_eq, decide_eq_false_iff_not, Bool.not_eq_true', Bool.not_eq_false', Bool.not_true, Bool.not_false, beq_iff_eq, bne_iff_ne, bne_eq_false_iff_eq, ne_eq, beq_eq_false_iff_ne, Int.not_lt, Int.not_le] at hc9)
        refine HWp.skip ?_
        refine onNorm_n ?_
        refine HWp.seq ?_
        refine HWp.block ?_
        refine HWp.seq ?_
        refine HWp.draw q_mix (.rd 0 (.rd 1 (.rd 2 (.rd 3 (.rd 4 (.rd 5 (.rd 6 .done))))))) (by kernel_rfl) ?_
        refine HPlan.move rfl rfl rfl ?_
        refine HPlan.move rfl rfl rfl ?_
        refine HPlan.indexS rfl rfl rfl rfl q_ix_27 (by first | exact IsSl.sl | exact IsSl.nils | assumption | exact growV_isSl (by assumption)) (by omega) (by simp only [List.length_map]; omega) (blob_at (l := l) (k := k) (by omega)) ?_
        refine HPlan.fieldAddr rfl rfl rfl rfl q_fo_37_0 rfl ?_
        refine HPlan.loadI rfl rfl rfl q_sh_29 (by rw [blob_len (hk _ (List.getElem_mem _))]; decide) (blob_dig (hk _ (List.getElem_mem _))) ?_
        refine HPlan.load rfl rfl rfl q_sh_29 (by repeat (first | exact List.Mem.head _ | apply List.Mem.tail | assumption)) (by constructor <;> simp [hd]) (load_all (bytesLV d) 32 ((bytesLV_length d).trans hd)) ?_
        refine HPlan.aggEq rfl rfl rfl rfl q_sh_29 q_ck_29 (by decide) q_eg_29 ((bytesLV_length _).trans (hk _ (List.getElem_mem _))) ((bytesLV_length d).trans hd) (fits_dig (hk _ (List.getElem_mem _))) (fits_dig hd) (eq_dig _ d) ?_
        refine HPlan.fin ?_
        refine onNorm_n ?_
        refine HWp.cond rfl ?_ ?_
        · intro hc18
          first
          | (exact absurd hc18 Bool.false_ne_true)
          | (exact absurd hc18.symm Bool.false_ne_true)
          | ((try simp only [decide_eq_true_eq, decide_eq_false_iff_not, Bool.not_eq_true', Bool.not_eq_false', Bool.not_true, Bool.not_false, beq_iff_eq, bne_iff_ne, bne_eq_false_iff_eq, ne_eq, beq_eq_false_iff_ne, Int.not_lt, Int.not_le] at hc18); exfalso; omega)
          | (try simp only [decide_eq_true_eq, decide_eq_false_iff_not, Bool.not_eq_true', Bool.not_eq_false', Bool.not_true, Bool.not_false, beq_iff_eq, bne_iff_ne, bne_eq_false_iff_eq, ne_eq, beq_eq_false_iff_ne, Int.not_lt, Int.not_le] at hc18)
            refine HWp.seq ?_
            refine HWp.text (.rd 0 (.rd 1 .done)) rfl ?_
            refine HPlan.move rfl rfl rfl ?_
            refine HPlan.assign rfl rfl rfl ?_
            refine HPlan.fin ?_
            refine onNorm_n ?_
            refine HWp.ret ?_
            refine onExitH_r ?_
            refine onNorm_r ?_
            refine onNorm_r ?_
            refine onExitH_r ?_
            refine onNorm_r ?_
            refine retQ_r (.tmp rfl .nil) ?_
            refine endK_of ⟨?_, rfl, rfl⟩ (by repeat (first | exact Part.refl _ | refine Part.pull (by repeat (first | exact Pull.here | apply Pull.there)) ?_ | refine Part.skip _ ?_ | exact Part.nil _ | exact Part.app _ _)) (by repeat (first | exact Part.refl _ | refine Part.pull (by repeat (first | exact Pull.here | apply Pull.there)) ?_ | refine Part.skip _ ?_ | exact Part.nil _ | exact Part.app _ _))
            first
            | exact congrArg (LV.int .i64) (findV_hit (by omega) hno hc18).symm
            | exact congrArg (LV.int .i64) (findV_miss hno).symm
        · intro hc18
          first
          | (exact absurd hc18 Bool.false_ne_true)
          | (exact absurd hc18.symm Bool.false_ne_true)
          | ((try simp only [decide_eq_true_eq, decide_eq_false_iff_not, Bool.not_eq_true', Bool.not_eq_false', Bool.not_true, Bool.not_false, beq_iff_eq, bne_iff_ne, bne_eq_false_iff_eq, ne_eq, beq_eq_false_iff_ne, Int.not_lt, Int.not_le] at hc18); exfalso; omega)
          | (try simp only [decide_eq_true_eq, decide_eq_false_iff_not, Bool.not_eq_true', Bool.not_eq_false', Bool.not_true, Bool.not_false, beq_iff_eq, bne_iff_ne, bne_eq_false_iff_eq, ne_eq, beq_eq_false_iff_ne, Int.not_lt, Int.not_le] at hc18)
            refine HWp.skip ?_
            refine onExitH_n ?_
            refine onNorm_n ?_
            refine HWp.text (.rd 0 (.rd 1 (.rd 2 .done))) rfl ?_
            refine HPlan.move rfl rfl rfl ?_
            refine HPlan.intBin rfl rfl rfl rfl rfl (by first | exact add_i64 (by omega) (by omega) | rfl) ?_
            refine HPlan.assign rfl rfl rfl ?_
            refine HPlan.fin ?_
            refine onNorm_n ?_
            refine ⟨(k + 1), (by omega), ⟨by omega, fun i h h' => (Nat.lt_succ_iff_lt_or_eq.1 h).elim (fun q => hno i q h') (fun q => by subst q; exact hc18)⟩, (LessE.less (by repeat (first | exact LessE.nil | refine LessE.same rfl ?_ | refine LessE.own rfl ?_ | refine LessE.eq rfl ?_ (by first | rfl | (congr 1; omega) | simp))) rfl), (by repeat (first | exact Part.refl _ | refine Part.pull (by repeat (first | exact Pull.here | apply Pull.there)) ?_ | refine Part.skip _ ?_ | exact Part.nil _ | exact Part.app _ _)), (by repeat (first | exact Part.refl _ | refine Part.pull (by repeat (first | exact Pull.here | apply Pull.there)) ?_ | refine Part.skip _ ?_ | exact Part.nil _ | exact Part.app _ _))⟩
    · intro hc9
      first
      | (exact absurd hc9 Bool.false_ne_true)
      | (exact absurd hc9.symm Bool.false_ne_true)
      | ((try simp only [decide_eq_true_eq, decide_eq_false_iff_not, Bool.not_eq_true', Bool.not_eq_false', Bool.not_true, Bool.not_false, beq_iff_eq, bne_iff_ne, bne_eq_false_iff_eq, ne_eq, beq_eq_false_iff_ne, Int.not_lt, Int.not_le] at hc9); exfalso; omega)
      | (try simp only [decide_eq_true_eq, decide_eq_false_iff_not, Bool.not_eq_true', Bool.not_eq_false', Bool.not_true, Bool.not_false, beq_iff_eq, bne_iff_ne, bne_eq_false_iff_eq, ne_eq, beq_eq_false_iff_ne, Int.not_lt, Int.not_le] at hc9)
        refine HWp.exit ?_
        refine onNorm_e ?_
        refine onNorm_e ?_
        obtain rfl : k = l.length := by omega
        refine onExitH_hit ?_
        refine onNorm_n ?_
        refine HWp.seq ?_
        refine HWp.text (.rd 0 .done) rfl ?_
        refine HPlan.assign rfl rfl rfl ?_
        refine HPlan.fin ?_
        refine onNorm_n ?_
        refine HWp.ret ?_
        refine retQ_r (.tmp rfl .nil) ?_
        refine endK_of ⟨?_, rfl, rfl⟩ (by repeat (first | exact Part.refl _ | refine Part.pull (by repeat (first | exact Pull.here | apply Pull.there)) ?_ | refine Part.skip _ ?_ | exact Part.nil _ | exact Part.app _ _)) (by repeat (first | exact Part.refl _ | refine Part.pull (by repeat (first | exact Pull.here | apply Pull.there)) ?_ | refine Part.skip _ ?_ | exact Part.nil _ | exact Part.app _ _))
        first
        | exact congrArg (LV.int .i64) (findV_hit (by omega) hno hc18).symm
        | exact congrArg (LV.int .i64) (findV_miss hno).symm
end Go.Proofs.Ythfoobfgdakbmaa

set_option linter.unusedVariables false
set_option linter.unusedSimpArgs false
set_option maxRecDepth 100000
namespace Go.Proofs.Ythfoobfgdakbmaa
open Go Go.RowKit Go.L
theorem q_sh_37 : shapeOf Try.prog 37 = some (true, 33) := by kernel_rfl
theorem q_se_27 : sliceElem Try.prog 27 = some (37, 33) := by kernel_rfl
theorem q_zs_37 : (zeroOf Try.prog 37).isSome = true := by kernel_rfl
theorem q_el_27 : elemIn Try.prog 27 = some (37, 33, 48) := by kernel_rfl
theorem q_src_27 : srcTy Try.prog 27 = true := by kernel_rfl
theorem q_f_15 : Try.prog.funcs[15]? = some Try.f15 := by kernel_rfl

theorem blob_solid (p : List UInt8 × ByteArray) : (blobV p).solid = true := by simp [blobV, LV.solid, LV.cells, bytesLV, LV.one]
theorem blob_all {p : List UInt8 × ByteArray} (h : p.1.length = 32) : (bif true then LV.agg (((blobV p).cells.drop 0).take 33) else ((blobV p).cells.drop 0).headD .und) = blobV p := by
  have := blob_len h
  simp only [cond_true, List.drop_zero]
  rw [List.take_of_length_le (by omega)]; rfl
theorem map_snoc (l : List (List UInt8 × ByteArray)) (q : List UInt8 × ByteArray) : l.map blobV ++ [blobV q] = (l ++ [q]).map blobV := by simp
def dropF (d : List UInt8) (l : List (List UInt8 × ByteArray)) : List (List UInt8 × ByteArray) := l.filter fun p => !decide (p.1 = d)
theorem dropF_step {d : List UInt8} {l : List (List UInt8 × ByteArray)} {k : Nat} (h : k < l.length) : dropF d (l.take (k + 1)) = dropF d (l.take k) ++ (if l[k].1 = d then [] else [l[k]]) := by
  rw [List.take_add_one, List.getElem?_eq_getElem h]
  simp only [dropF, List.filter_append, Option.toList_some]
  by_cases e : l[k].1 = d <;> simp [e]
theorem dropF_len (d : List UInt8) (l : List (List UInt8 × ByteArray)) (k : Nat) : (dropF d (l.take k)).length ≤ l.length :=
  Nat.le_trans (List.length_filter_le _ _) (by rw [List.length_take]; omega)

theorem ref_drop (l : List (List UInt8 × ByteArray)) (hk : Keys32 l) (hl : l.length < 1048576) (d : List UInt8) (hd : d.length = 32) (x : LV) (hx : IsSl 33 (l.map blobV) x) (F : Hp) (T : Tk) : HCalls Try.prog 15 [x, digV d] F T (fun r L' T' => ∃ o, growOk o ((dropF d l).map blobV) ∧ r = growV o 33 ((dropF d l).map blobV) ∧ L' = F ∧ T' = growT o ++ T) := by
  refine HCalls.enterG q_f_15 rfl ?_
  refine HWp.frame (r' := ⟨28, [(0, x), (1, digV d)]⟩) rfl ?_
  refine HWp.seq ?_
  refine HWp.text (.act 0 [] (.rd 1 .done)) rfl ?_
  refine HPlan.box rfl rfl rfl (digV_solid d) (fun i3 => ⟨keptH_nil, ?_⟩)
  refine HPlan.assign rfl rfl rfl ?_
  refine HPlan.fin ?_
  refine onNorm_n ?_
  refine HWp.seq ?_
  refine HWp.text (.rd 0 .done) rfl ?_
  refine HPlan.assign rfl rfl rfl ?_
  refine HPlan.fin ?_
  refine onNorm_n ?_
  refine HWp.seq ?_
  refine HWp.seq ?_
  refine HWp.text (.rd 0 .done) rfl ?_
  refine HPlan.assign rfl rfl rfl ?_
  refine HPlan.fin ?_
  refine onNorm_n ?_
  refine HWp.block ?_
  refine HWp.loopF (α := Nat × Option (Nat × Nat)) (fun q => l.length - q.1) (fun q => q.1 ≤ l.length ∧ growOk q.2 ((dropF d (l.take q.1)).map blobV)) (fun q => ⟨28, [(0, x), (3, .ref i3 0), (5, growV q.2 33 ((dropF d (l.take q.1)).map blobV)), (6, .int .i64 (q.1 : Int))]⟩) (fun q => (i3, .cells 29 (bytesLV d) 0) :: F) (fun q => growT q.2 ++ T) ?_ ?_
  · refine ⟨(0, none), ⟨Nat.zero_le _, fun _ => rfl⟩, (LessE.less (by repeat (first | exact LessE.nil | refine LessE.same rfl ?_ | refine LessE.own rfl ?_ | refine LessE.eq rfl ?_ (by first | rfl | (congr 1; omega) | simp))) rfl), (by repeat (first | exact Part.refl _ | refine Part.pull (by repeat (first | exact Pull.here | apply Pull.there)) ?_ | refine Part.skip _ ?_ | exact Part.nil _ | exact Part.app _ _)), (by repeat (first | exact Part.refl _ | refine Part.pull (by repeat (first | exact Pull.here | apply Pull.there)) ?_ | refine Part.skip _ ?_ | exact Part.nil _ | exact Part.app _ _))⟩
  · rintro q ⟨hk1, hg⟩
    obtain ⟨k, o⟩ := q
    simp only at hk1 hg ⊢
    have hlen := dropF_len d l k
    refine HWp.seq ?_
    refine HWp.seq ?_
    refine HWp.text (.rd 0 (.rd 1 (.rd 2 (.rd 3 .done)))) rfl ?_
    refine HPlan.move rfl rfl rfl ?_
    refine HPlan.move rfl rfl rfl ?_
    refine HPlan.lenS rfl rfl rfl q_tk_27 (by first | exact IsSl.sl | exact IsSl.nils | assumption | exact growV_isSl (by assumption)) (by rw [List.length_map]) ?_
    refine HPlan.intBin rfl rfl rfl rfl rfl rfl ?_
    refine HPlan.fin ?_
    refine onNorm_n ?_
    refine HWp.cond rfl ?_ ?_
    · intro hc10
      first
      | (exact absurd hc10 Bool.false_ne_true)
      | (exact absurd hc10.symm Bool.false_ne_true)
      | ((try simp only [decide_eq_true_eq, decide_eq_false_iff_not, Bool.not_eq_true', Bool.not_eq_false', Bool.not_true, Bool.not_false, beq_iff_eq, bne_iff_ne, bne_eq_false_iff_eq, ne_eq, beq_eq_false_iff_ne, Int.not_lt, Int.not_le] at hc10); exfalso; omega)
      | (try simp only [decide_eq_true_eq, decide_eq_false_iff_not, Bool.not_eq_true', Bool.not_eq_false', Bool.not_true, Bool.not_false, beq_iff_eq, bne_iff_ne, bne_eq_false_iff_eq, ne_eq, beq_eq_false_iff_ne, Int.not_lt, Int.not_le] at hc10)
        refine HWp.skip ?_
        refine onNorm_n ?_
        refine HWp.seq ?_
        refine HWp.block ?_
        refine HWp.seq ?_
        refine HWp.draw q_mix (.rd 0 (.rd 1 (.rd 2 (.rd 3 (.rd 4 (.rd 5 (.rd 6 .done))))))) (by kernel_rfl) ?_
        refine HPlan.move rfl rfl rfl ?_
        refine HPlan.move rfl rfl rfl ?_
        refine HPlan.indexS rfl rfl rfl rfl q_ix_27 (by first | exact IsSl.sl | exact IsSl.nils | assumption | exact growV_isSl (by assumption)) (by omega) (by simp only [List.length_map]; omega) (blob_at (l := l) (k := k) (by omega)) ?_
        refine HPlan.fieldAddr rfl rfl rfl rfl q_fo_37_0 rfl ?_
        refine HPlan.loadI rfl rfl rfl q_sh_29 (by rw [blob_len (hk _ (List.getElem_mem _))]; decide) (blob_dig (hk _ (List.getElem_mem _))) ?_
        refine HPlan.load rfl rfl rfl q_sh_29 (by repeat (first | exact List.Mem.head _ | apply List.Mem.tail | assumption)) (by constructor <;> simp [hd]) (load_all (bytesLV d) 32 ((bytesLV_length d).trans hd)) ?_
        refine HPlan.aggNe rfl rfl rfl rfl q_sh_29 q_ck_29 (by decide) q_eg_29 ((bytesLV_length _).trans (hk _ (List.getElem_mem _))) ((bytesLV_length d).trans hd) (fits_dig (hk _ (List.getElem_mem _))) (fits_dig hd) (eq_dig _ d) ?_
        refine HPlan.fin ?_
        refine onNorm_n ?_
        refine HWp.cond rfl ?_ ?_
        · intro hc19
          first
          | (exact absurd hc19 Bool.false_ne_true)
          | (exact absurd hc19.symm Bool.false_ne_true)
          | ((try simp only [decide_eq_true_eq, decide_eq_false_iff_not, Bool.not_eq_true', Bool.not_eq_false', Bool.not_true, Bool.not_false, beq_iff_eq, bne_iff_ne, bne_eq_false_iff_eq, ne_eq, beq_eq_false_iff_ne, Int.not_lt, Int.not_le] at hc19); exfalso; omega)
          | (try simp only [decide_eq_true_eq, decide_eq_false_iff_not, Bool.not_eq_true', Bool.not_eq_false', Bool.not_true, Bool.not_false, beq_iff_eq, bne_iff_ne, bne_eq_false_iff_eq, ne_eq, beq_eq_false_iff_ne, Int.not_lt, Int.not_le] at hc19)
            refine HWp.text (.rd 0 (.rd 1 (.rd 2 (.rd 3 (.rd 4 (.act 5 [] (.act 6 [] (.rd 7 .done)))))))) rfl ?_
            refine HPlan.move rfl rfl rfl ?_
            refine HPlan.move rfl rfl rfl ?_
            refine HPlan.move rfl rfl rfl ?_
            refine HPlan.indexS rfl rfl rfl rfl q_ix_27 (by first | exact IsSl.sl | exact IsSl.nils | assumption | exact growV_isSl (by assumption)) (by omega) (by simp only [List.length_map]; omega) (blob_at (l := l) (k := k) (by omega)) ?_
            refine HPlan.loadI rfl rfl rfl q_sh_37 (by rw [blob_len (hk _ (List.getElem_mem _))]; decide) (blob_all (hk _ (List.getElem_mem _))) ?_
            refine HPlan.buildSliceN rfl rfl q_se_27 q_zs_37 rfl (by decide) rfl rfl (rfl : _ = [blobV l[k]]) (allCells_cons (blob_solid _) (blob_len (hk _ (List.getElem_mem _))) allCells_nil) keptH_nil ?_
            refine HPlan.appendG rfl rfl rfl rfl q_el_27 q_src_27 (by first | exact IsSl.sl | exact IsSl.nils | assumption | exact growV_isSl (by assumption)) (List.Perm.refl _) hg (solid_cons (blob_solid _) solid_nil) (by simp only [List.length_map, List.length_cons, List.length_nil]; omega) (by simp only [List.length_map, List.length_cons, List.length_nil]; omega) keptH_nil (fun o2 hg_o2 => ?_)
            have e1 : (dropF d (l.take k)).map blobV ++ [blobV l[k]] = (dropF d (l.take (k + 1))).map blobV := by rw [dropF_step (by omega), if_neg hc19, map_snoc]
            rw [e1] at hg_o2 ⊢
            refine HPlan.assign rfl rfl rfl ?_
            refine HPlan.fin ?_
            refine onExitH_n ?_
            refine onNorm_n ?_
            refine HWp.text (.rd 0 (.rd 1 (.rd 2 .done))) rfl ?_
            refine HPlan.move rfl rfl rfl ?_
            refine HPlan.intBin rfl rfl rfl rfl rfl (by first | exact add_i64 (by omega) (by omega) | rfl) ?_
            refine HPlan.assign rfl rfl rfl ?_
            refine HPlan.fin ?_
            refine onNorm_n ?_
            refine ⟨(k + 1, _), (by simp only; omega), ⟨by simp only; omega, by assumption⟩, (LessE.less (by repeat (first | exact LessE.nil | refine LessE.same rfl ?_ | refine LessE.own rfl ?_ | refine LessE.eq rfl ?_ (by first | rfl | (congr 1; omega) | simp))) rfl), (by repeat (first | exact Part.refl _ | refine Part.pull (by repeat (first | exact Pull.here | apply Pull.there)) ?_ | refine Part.skip _ ?_ | exact Part.nil _ | exact Part.app _ _)), (by repeat (first | exact Part.refl _ | refine Part.pull (by repeat (first | exact Pull.here | apply Pull.there)) ?_ | refine Part.skip _ ?_ | exact Part.nil _ | exact Part.app _ _))⟩
        · intro hc19
          first
          | (exact absurd hc19 Bool.false_ne_true)
          | (exact absurd hc19.symm Bool.false_ne_true)
          | ((try simp only [decide_eq_true_eq, decide_eq_false_iff_not, Bool.not_eq_true', Bool.not_eq_false', Bool.not_true, Bool.not_false, beq_iff_eq, bne_iff_ne, bne_eq_false_iff_eq, ne_eq, beq_eq_false_iff_ne, Int.not_lt, Int.not_le] at hc19); exfalso; omega)
          | (try simp only [decide_eq_true_eq, decide_eq_false_iff_not, Bool.not_eq_true', Bool.not_eq_false', Bool.not_true, Bool.not_false, beq_iff_eq, bne_iff_ne, bne_eq_false_iff_eq, ne_eq, beq_eq_false_iff_ne, Int.not_lt, Int.not_le] at hc19)
            have e2 : dropF d (l.take k) = dropF d (l.take (k + 1)) := by rw [dropF_step (by omega), if_pos hc19, List.append_nil]
            rw [e2] at hg ⊢
            refine HWp.skip ?_
            refine onExitH_n ?_
            refine onNorm_n ?_
            refine HWp.text (.rd 0 (.rd 1 (.rd 2 .done))) rfl ?_
            refine HPlan.move rfl rfl rfl ?_
            refine HPlan.intBin rfl rfl rfl rfl rfl (by first | exact add_i64 (by omega) (by omega) | rfl) ?_
            refine HPlan.assign rfl rfl rfl ?_
            refine HPlan.fin ?_
            refine onNorm_n ?_
            refine ⟨(k + 1, _), (by simp only; omega), ⟨by simp only; omega, by assumption⟩, (LessE.less (by repeat (first | exact LessE.nil | refine LessE.same rfl ?_ | refine LessE.own rfl ?_ | refine LessE.eq rfl ?_ (by first | rfl | (congr 1; omega) | simp))) rfl), (by repeat (first | exact Part.refl _ | refine Part.pull (by repeat (first | exact Pull.here | apply Pull.there)) ?_ | refine Part.skip _ ?_ | exact Part.nil _ | exact Part.app _ _)), (by repeat (first | exact Part.refl _ | refine Part.pull (by repeat (first | exact Pull.here | apply Pull.there)) ?_ | refine Part.skip _ ?_ | exact Part.nil _ | exact Part.app _ _))⟩
    · intro hc10
      first
      | (exact absurd hc10 Bool.false_ne_true)
      | (exact absurd hc10.symm Bool.false_ne_true)
      | ((try simp only [decide_eq_true_eq, decide_eq_false_iff_not, Bool.not_eq_true', Bool.not_eq_false', Bool.not_true, Bool.not_false, beq_iff_eq, bne_iff_ne, bne_eq_false_iff_eq, ne_eq, beq_eq_false_iff_ne, Int.not_lt, Int.not_le] at hc10); exfalso; omega)
      | (try simp only [decide_eq_true_eq, decide_eq_false_iff_not, Bool.not_eq_true', Bool.not_eq_false', Bool.not_true, Bool.not_false, beq_iff_eq, bne_iff_ne, bne_eq_false_iff_eq, ne_eq, beq_eq_false_iff_ne, Int.not_lt, Int.not_le] at hc10)
        refine HWp.exit ?_
        refine onNorm_e ?_
        refine onNorm_e ?_
        obtain rfl : k = l.length := by omega
        rw [List.take_length] at hg
        rw [List.take_length]
        refine onExitH_hit ?_
        refine onNorm_n ?_
        refine HWp.seq ?_
        refine HWp.text (.rd 0 (.rd 1 .done)) rfl ?_
        refine HPlan.move rfl rfl rfl ?_
        refine HPlan.assign rfl rfl rfl ?_
        refine HPlan.fin ?_
        refine onNorm_n ?_
        refine HWp.ret ?_
        refine retQ_r (.tmp rfl .nil) ?_
        exact endK_of ⟨_, hg, rfl, rfl, rfl⟩ (by repeat (first | exact Part.refl _ | refine Part.pull (by repeat (first | exact Pull.here | apply Pull.there)) ?_ | refine Part.skip _ ?_ | exact Part.nil _ | exact Part.app _ _)) (by repeat (first | exact Part.refl _ | refine Part.pull (by repeat (first | exact Pull.here | apply Pull.there)) ?_ | refine Part.skip _ ?_ | exact Part.nil _ | exact Part.app _ _))
end Go.Proofs.Ythfoobfgdakbmaa

set_option linter.unusedVariables false
set_option linter.unusedSimpArgs false
set_option maxRecDepth 100000
namespace Go.Proofs.Ythfoobfgdakbmaa
open Go Go.RowKit Go.L
theorem q_f_22 : Try.prog.funcs[22]? = some Try.f22 := by kernel_rfl
def lexLt : List UInt8 → List UInt8 → Bool
  | a :: x, b :: y => if a = b then lexLt x y else decide (a < b)
  | _, _ => false
theorem dig_load (l : List UInt8) (k : Nat) (h : k < l.length) : (bif false then LV.agg (((bytesLV l).drop (0 + ((k : Int).toNat * 1))).take 1) else ((bytesLV l).drop (0 + ((k : Int).toNat * 1))).headD .und) = .int .u8 ((l[k]'h).toNat : Int) := by
  simp [bytesLV, List.headD_eq_head?_getD, List.head?_drop, h]
theorem take_step {a b : List UInt8} {k : Nat} (h : a.take k = b.take k) (ha : k < a.length) (hb : k < b.length) (e : (a[k].toNat : Int) = (b[k].toNat : Int)) : a.take (k + 1) = b.take (k + 1) := by
  have e : a[k] = b[k] := by
    have : a[k].toNat = b[k].toNat := by omega
    exact UInt8.toNat_inj.1 this
  rw [List.take_add_one, List.take_add_one, h, List.getElem?_eq_getElem ha, List.getElem?_eq_getElem hb, e]
theorem lexLt_at : ∀ {a b : List UInt8} {k : Nat} (h : a.take k = b.take k) (ha : k < a.length) (hb : k < b.length), ¬ ((a[k].toNat : Int) = (b[k].toNat : Int)) → lexLt a b = decide ((a[k].toNat : Int) < (b[k].toNat : Int))
  | [], _, _, _, ha, _, _ => by simp at ha
  | _ :: _, [], _, _, _, hb, _ => by simp at hb
  | x :: a, y :: b, 0, h, _, _, e => by
    simp only [List.getElem_cons_zero, Int.natCast_inj] at e ⊢
    have : x ≠ y := fun q => e (by rw [q])
    simp [lexLt, this, UInt8.lt_iff_toNat_lt]
  | x :: a, y :: b, k + 1, h, ha, hb, e => by
    simp only [List.take_succ_cons, List.cons.injEq] at h
    simp only [List.getElem_cons_succ] at e ⊢
    rw [← lexLt_at h.2 (by simpa using ha) (by simpa using hb) e]
    simp [lexLt, h.1]
theorem lexLt_refl : ∀ a : List UInt8, lexLt a a = false
  | [] => rfl
  | a :: x => by simp [lexLt, lexLt_refl x]
theorem lexLt_same {a b : List UInt8} {k : Nat} (h : a.take k = b.take k) (ha : a.length ≤ k) (hb : b.length ≤ k) : lexLt a b = false := by
  rw [List.take_of_length_le ha, List.take_of_length_le hb] at h
  rw [h, lexLt_refl]

theorem less_spec (a b : List UInt8) (ha : a.length = 32) (hb : b.length = 32) : HPure Try.prog 22 [digV a, digV b] (.bool (lexLt a b)) := by
  intro L T
  refine HCalls.enterG q_f_22 rfl ?_
  refine HWp.frame (r' := ⟨24, [(0, digV a), (1, digV b)]⟩) rfl ?_
  refine HWp.seq ?_
  refine HWp.text (.act 0 [] (.act 1 [] (.rd 2 .done))) rfl ?_
  refine HPlan.box rfl rfl rfl (digV_solid a) (fun i2 => ⟨keptH_nil, ?_⟩)
  refine HPlan.box rfl rfl rfl (digV_solid b) (fun i3 => ⟨keptH_nil, ?_⟩)
  refine HPlan.assign rfl rfl rfl ?_
  refine HPlan.fin ?_
  refine onNorm_n ?_
  refine HWp.seq ?_
  refine HWp.seq ?_
  refine HWp.text (.rd 0 .done) rfl ?_
  refine HPlan.assign rfl rfl rfl ?_
  refine HPlan.fin ?_
  refine onNorm_n ?_
  refine HWp.block ?_
  refine HWp.loopF (α := Nat) (fun k => 32 - k) (fun k => k ≤ 32 ∧ a.take k = b.take k) (fun k => ⟨24, [(2, .ref i2 0), (3, .ref i3 0), (4, .bool false), (5, .int .i64 (k : Int))]⟩) (fun k => (i3, .cells 29 (bytesLV b) 0) :: (i2, .cells 29 (bytesLV a) 0) :: L) (fun k => T) ?_ ?_
  · refine ⟨0, ⟨by omega, rfl⟩, (LessE.less (by repeat (first | exact LessE.nil | refine LessE.same rfl ?_ | refine LessE.own rfl ?_ | refine LessE.eq rfl ?_ (by first | rfl | (congr 1; omega) | simp))) rfl), (by repeat (first | exact Part.refl _ | refine Part.pull (by repeat (first | exact Pull.here | apply Pull.there)) ?_ | refine Part.skip _ ?_ | exact Part.nil _ | exact Part.app _ _)), (by repeat (first | exact Part.refl _ | refine Part.pull (by repeat (first | exact Pull.here | apply Pull.there)) ?_ | refine Part.skip _ ?_ | exact Part.nil _ | exact Part.app _ _))⟩
  · rintro k ⟨hk, hpre⟩
    refine HWp.seq ?_
    refine HWp.seq ?_
    refine HWp.text (.rd 0 (.rd 1 .done)) rfl ?_
    refine HPlan.move rfl rfl rfl ?_
    refine HPlan.intBin rfl rfl rfl rfl rfl rfl ?_
    refine HPlan.fin ?_
    refine onNorm_n ?_
    refine HWp.cond rfl ?_ ?_
    · intro hc7
      first
      | (exact absurd hc7 Bool.false_ne_true)
      | (exact absurd hc7.symm Bool.false_ne_true)
      | ((try simp only [decide_eq_true_eq, decide_eq_false_iff_not, Bool.not_eq_true', Bool.not_eq_false', Bool.not_true, Bool.not_false, beq_iff_eq, bne_iff_ne, bne_eq_false_iff_eq, ne_eq, beq_eq_false_iff_ne, Int.not_lt, Int.not_le] at hc7); exfalso; omega)
      | (try simp only [decide_eq_true_eq, decide_eq_false_iff_not, Bool.not_eq_true', Bool.not_eq_false', Bool.not_true, Bool.not_false, beq_iff_eq, bne_iff_ne, bne_eq_false_iff_eq, ne_eq, beq_eq_false_iff_ne, Int.not_lt, Int.not_le] at hc7)
        refine HWp.skip ?_
        refine onNorm_n ?_
        refine HWp.seq ?_
        refine HWp.block ?_
        refine HWp.seq ?_
        refine HWp.draw q_mix (.rd 0 (.rd 1 (.rd 2 (.rd 3 (.rd 4 (.rd 5 (.rd 6 .done))))))) (by kernel_rfl) ?_
        refine HPlan.move rfl rfl rfl ?_
        refine HPlan.indexArr rfl rfl rfl rfl rfl q_ix_29 (by omega) (by omega) rfl ?_
        refine HPlan.load rfl rfl rfl q_sh_5 (by repeat (first | exact List.Mem.head _ | apply List.Mem.tail | assumption)) (by constructor <;> simp <;> omega) (dig_load a k (by omega)) ?_
        refine HPlan.move rfl rfl rfl ?_
        refine HPlan.indexArr rfl rfl rfl rfl rfl q_ix_29 (by omega) (by omega) rfl ?_
        refine HPlan.load rfl rfl rfl q_sh_5 (by repeat (first | exact List.Mem.head _ | apply List.Mem.tail | assumption)) (by constructor <;> simp <;> omega) (dig_load b k (by omega)) ?_
        refine HPlan.intBin rfl rfl rfl rfl rfl rfl ?_
        refine HPlan.fin ?_
        refine onNorm_n ?_
        refine HWp.cond rfl ?_ ?_
        · intro hc16
          first
          | (exact absurd hc16 Bool.false_ne_true)
          | (exact absurd hc16.symm Bool.false_ne_true)
          | ((try simp only [decide_eq_true_eq, decide_eq_false_iff_not, Bool.not_eq_true', Bool.not_eq_false', Bool.not_true, Bool.not_false, beq_iff_eq, bne_iff_ne, bne_eq_false_iff_eq, ne_eq, beq_eq_false_iff_ne, Int.not_lt, Int.not_le] at hc16); exfalso; omega)
          | (try simp only [decide_eq_true_eq, decide_eq_false_iff_not, Bool.not_eq_true', Bool.not_eq_false', Bool.not_true, Bool.not_false, beq_iff_eq, bne_iff_ne, bne_eq_false_iff_eq, ne_eq, beq_eq_false_iff_ne, Int.not_lt, Int.not_le] at hc16)
            refine HWp.seq ?_
            refine HWp.draw q_mix (.rd 0 (.rd 1 (.rd 2 (.rd 3 (.rd 4 (.rd 5 (.rd 6 (.rd 7 .done)))))))) (by kernel_rfl) ?_
            refine HPlan.move rfl rfl rfl ?_
            refine HPlan.indexArr rfl rfl rfl rfl rfl q_ix_29 (by omega) (by omega) rfl ?_
            refine HPlan.load rfl rfl rfl q_sh_5 (by repeat (first | exact List.Mem.head _ | apply List.Mem.tail | assumption)) (by constructor <;> simp <;> omega) (dig_load a k (by omega)) ?_
            refine HPlan.move rfl rfl rfl ?_
            refine HPlan.indexArr rfl rfl rfl rfl rfl q_ix_29 (by omega) (by omega) rfl ?_
            refine HPlan.load rfl rfl rfl q_sh_5 (by repeat (first | exact List.Mem.head _ | apply List.Mem.tail | assumption)) (by constructor <;> simp <;> omega) (dig_load b k (by omega)) ?_
            refine HPlan.intBin rfl rfl rfl rfl rfl rfl ?_
            refine HPlan.assign rfl rfl rfl ?_
            refine HPlan.fin ?_
            refine onNorm_n ?_
            refine HWp.ret ?_
            refine onExitH_r ?_
            refine onNorm_r ?_
            refine onNorm_r ?_
            refine onExitH_r ?_
            refine onNorm_r ?_
            refine retQ_r (.tmp rfl .nil) ?_
            refine endK_of ⟨?_, rfl, rfl⟩ (by repeat (first | exact Part.refl _ | refine Part.pull (by repeat (first | exact Pull.here | apply Pull.there)) ?_ | refine Part.skip _ ?_ | exact Part.nil _ | exact Part.app _ _)) (by repeat (first | exact Part.refl _ | refine Part.pull (by repeat (first | exact Pull.here | apply Pull.there)) ?_ | refine Part.skip _ ?_ | exact Part.nil _ | exact Part.app _ _))
            first
            | exact congrArg LV.bool (lexLt_at hpre (by omega) (by omega) hc16).symm
            | exact congrArg LV.bool (lexLt_same hpre (by omega) (by omega)).symm
        · intro hc16
          first
          | (exact absurd hc16 Bool.false_ne_true)
          | (exact absurd hc16.symm Bool.false_ne_true)
          | ((try simp only [decide_eq_true_eq, decide_eq_false_iff_not, Bool.not_eq_true', Bool.not_eq_false', Bool.not_true, Bool.not_false, beq_iff_eq, bne_iff_ne, bne_eq_false_iff_eq, ne_eq, beq_eq_false_iff_ne, Int.not_lt, Int.not_le] at hc16); exfalso; omega)
          | (try simp only [decide_eq_true_eq, decide_eq_false_iff_not, Bool.not_eq_true', Bool.not_eq_false', Bool.not_true, Bool.not_false, beq_iff_eq, bne_iff_ne, bne_eq_false_iff_eq, ne_eq, beq_eq_false_iff_ne, Int.not_lt, Int.not_le] at hc16)
            refine HWp.skip ?_
            refine onExitH_n ?_
            refine onNorm_n ?_
            refine HWp.text (.rd 0 (.rd 1 (.rd 2 .done))) rfl ?_
            refine HPlan.move rfl rfl rfl ?_
            refine HPlan.intBin rfl rfl rfl rfl rfl (by first | exact add_i64 (by omega) (by omega) | rfl) ?_
            refine HPlan.assign rfl rfl rfl ?_
            refine HPlan.fin ?_
            refine onNorm_n ?_
            refine ⟨k + 1, (by omega), ⟨by omega, take_step hpre (by omega) (by omega) hc16⟩, (LessE.less (by repeat (first | exact LessE.nil | refine LessE.same rfl ?_ | refine LessE.own rfl ?_ | refine LessE.eq rfl ?_ (by first | rfl | (congr 1; omega) | simp))) rfl), (by repeat (first | exact Part.refl _ | refine Part.pull (by repeat (first | exact Pull.here | apply Pull.there)) ?_ | refine Part.skip _ ?_ | exact Part.nil _ | exact Part.app _ _)), (by repeat (first | exact Part.refl _ | refine Part.pull (by repeat (first | exact Pull.here | apply Pull.there)) ?_ | refine Part.skip _ ?_ | exact Part.nil _ | exact Part.app _ _))⟩
    · intro hc7
      first
      | (exact absurd hc7 Bool.false_ne_true)
      | (exact absurd hc7.symm Bool.false_ne_true)
      | ((try simp only [decide_eq_true_eq, decide_eq_false_iff_not, Bool.not_eq_true', Bool.not_eq_false', Bool.not_true, Bool.not_false, beq_iff_eq, bne_iff_ne, bne_eq_false_iff_eq, ne_eq, beq_eq_false_iff_ne, Int.not_lt, Int.not_le] at hc7); exfalso; omega)
      | (try simp only [decide_eq_true_eq, decide_eq_false_iff_not, Bool.not_eq_true', Bool.not_eq_false', Bool.not_true, Bool.not_false, beq_iff_eq, bne_iff_ne, bne_eq_false_iff_eq, ne_eq, beq_eq_false_iff_ne, Int.not_lt, Int.not_le] at hc7)
        refine HWp.exit ?_
        refine onNorm_e ?_
        refine onNorm_e ?_
        refine onExitH_hit ?_
        refine onNorm_n ?_
        refine HWp.seq ?_
        refine HWp.text (.rd 0 .done) rfl ?_
        refine HPlan.assign rfl rfl rfl ?_
        refine HPlan.fin ?_
        refine onNorm_n ?_
        refine HWp.ret ?_
        refine retQ_r (.tmp rfl .nil) ?_
        refine endK_of ⟨?_, rfl, rfl⟩ (by repeat (first | exact Part.refl _ | refine Part.pull (by repeat (first | exact Pull.here | apply Pull.there)) ?_ | refine Part.skip _ ?_ | exact Part.nil _ | exact Part.app _ _)) (by repeat (first | exact Part.refl _ | refine Part.pull (by repeat (first | exact Pull.here | apply Pull.there)) ?_ | refine Part.skip _ ?_ | exact Part.nil _ | exact Part.app _ _))
        first
        | exact congrArg LV.bool (lexLt_at hpre (by omega) (by omega) hc16).symm
        | exact congrArg LV.bool (lexLt_same hpre (by omega) (by omega)).symm
end Go.Proofs.Ythfoobfgdakbmaa

set_option linter.unusedVariables false
set_option linter.unusedSimpArgs false
set_option maxRecDepth 100000
namespace Go.Proofs.Ythfoobfgdakbmaa
open Go Go.RowKit Go.L


/-- Put's round: what is put out, and whether b stands in it. -/
def insN (b : List UInt8 × ByteArray) (l : List (List UInt8 × ByteArray)) : Nat → List (List UInt8 × ByteArray) × Bool
  | 0 => ([], false)
  | k + 1 => match l[k]? with
    | none => insN b l k
    | some q => if (!(insN b l k).2 && lexLt b.1 q.1) = true then ((insN b l k).1 ++ [b] ++ [q], true) else ((insN b l k).1 ++ [q], (insN b l k).2)
def insF (b : List UInt8 × ByteArray) (l : List (List UInt8 × ByteArray)) : List (List UInt8 × ByteArray) :=
  if (insN b l l.length).2 then (insN b l l.length).1 else (insN b l l.length).1 ++ [b]
theorem insN_len (b : List UInt8 × ByteArray) (l : List (List UInt8 × ByteArray)) : ∀ k, (insN b l k).1.length ≤ 2 * k
  | 0 => by simp [insN]
  | k + 1 => by
    have ih := insN_len b l k
    simp only [insN]
    split
    · omega
    · split <;> simp <;> omega
theorem blob_box {p : List UInt8 × ByteArray} (h : p.1.length = 32) : (bif true then LV.agg (((blobV p).cells.drop 0).take 32) else ((blobV p).cells.drop 0).headD .und) = digV p.1 := blob_dig h

end Go.Proofs.Ythfoobfgdakbmaa

set_option linter.unusedVariables false
set_option linter.unusedSimpArgs false
set_option maxRecDepth 100000
namespace Go.Proofs.Ythfoobfgdakbmaa
open Go Go.RowKit Go.L


theorem insN_yes {b : List UInt8 × ByteArray} {l : List (List UInt8 × ByteArray)} {k : Nat} (h : k < l.length) (h1 : (insN b l k).2 = false) (h2 : lexLt b.1 l[k].1 = true) : insN b l (k + 1) = ((insN b l k).1 ++ [b] ++ [l[k]], true) := by
  simp [insN, List.getElem?_eq_getElem h, h1, h2]
theorem insN_no {b : List UInt8 × ByteArray} {l : List (List UInt8 × ByteArray)} {k : Nat} (h : k < l.length) (h1 : (insN b l k).2 = true ∨ lexLt b.1 l[k].1 = false) : insN b l (k + 1) = ((insN b l k).1 ++ [l[k]], (insN b l k).2) := by
  rcases h1 with h1 | h1 <;> simp [insN, List.getElem?_eq_getElem h, h1]

end Go.Proofs.Ythfoobfgdakbmaa

set_option linter.unusedVariables false
set_option linter.unusedSimpArgs false
set_option maxRecDepth 100000
namespace Go.Proofs.Ythfoobfgdakbmaa
open Go Go.RowKit Go.L
theorem q_en_12 : enterable Try.prog 12 = true := by kernel_rfl
theorem q_en_22 : enterable Try.prog 22 = true := by kernel_rfl
theorem q_f_18 : Try.prog.funcs[18]? = some Try.f18 := by kernel_rfl
theorem ref_put (l : List (List UInt8 × ByteArray)) (hk : Keys32 l) (hl : l.length < 1048576) (b : List UInt8 × ByteArray) (hb : b.1.length = 32) (x : LV) (hx : IsSl 33 (l.map blobV) x) (F : Hp) (T : Tk) : HCalls Try.prog 18 [x, blobV b] F T (fun r L' T' => L' = F ∧ ((0 ≤ findV b.1 l ∧ r = x ∧ T' = T) ∨ (findV b.1 l < 0 ∧ ∃ o, growOk o ((insF b l).map blobV) ∧ r = growV o 33 ((insF b l).map blobV) ∧ T' = growT o ++ T))) := by
  refine HCalls.enterG q_f_18 rfl ?_
  refine HWp.frame (r' := ⟨50, [(0, x), (1, blobV b)]⟩) rfl ?_
  refine HWp.seq ?_
  refine HWp.text (.act 0 [] (.rd 1 .done)) rfl ?_
  refine HPlan.box rfl rfl rfl (blob_solid b) (fun i3 => ⟨keptH_nil, ?_⟩)
  refine HPlan.assign rfl rfl rfl ?_
  refine HPlan.fin ?_
  refine onNorm_n ?_
  refine HWp.seq ?_
  refine HWp.seq ?_
  refine HWp.text (.rd 0 (.rd 1 (.rd 2 (.act 3 [] (.rd 4 .done))))) rfl ?_
  refine HPlan.move rfl rfl rfl ?_
  refine HPlan.fieldAddr rfl rfl rfl rfl q_fo_37_0 rfl ?_
  refine HPlan.load rfl rfl rfl q_sh_29 (by repeat (first | exact List.Mem.head _ | apply List.Mem.tail | assumption)) (by rw [blob_len hb]; decide) (blob_dig hb) ?_
  refine HPlan.callPure rfl rfl rfl q_en_12 (ref_find l hk (by omega) b.1 hb x hx) keptH_nil ?_
  refine HPlan.intBin rfl rfl rfl rfl rfl rfl ?_
  refine HPlan.fin ?_
  refine onNorm_n ?_
  refine HWp.cond rfl ?_ ?_
  · intro hc12
    first
    | (exact absurd hc12 Bool.false_ne_true)
    | (exact absurd hc12.symm Bool.false_ne_true)
    | ((try simp only [decide_eq_true_eq, decide_eq_false_iff_not, Bool.not_eq_true', Bool.not_eq_false', Bool.not_true, Bool.not_false, beq_iff_eq, bne_iff_ne, bne_eq_false_iff_eq, ne_eq, beq_eq_false_iff_ne, Int.not_lt, Int.not_le] at hc12); exfalso; omega)
    | (try simp only [decide_eq_true_eq, decide_eq_false_iff_not, Bool.not_eq_true', Bool.not_eq_false', Bool.not_true, Bool.not_false, beq_iff_eq, bne_iff_ne, bne_eq_false_iff_eq, ne_eq, beq_eq_false_iff_ne, Int.not_lt, Int.not_le] at hc12)
      refine HWp.seq ?_
      refine HWp.text (.rd 0 (.rd 1 .done)) rfl ?_
      refine HPlan.move rfl rfl rfl ?_
      refine HPlan.assign rfl rfl rfl ?_
      refine HPlan.fin ?_
      refine onNorm_n ?_
      refine HWp.ret ?_
      refine onNorm_r ?_
      refine retQ_r (.tmp rfl .nil) ?_
      first
      | exact endK_of ⟨rfl, .inl ⟨hc12, rfl, rfl⟩⟩ (by repeat (first | exact Part.refl _ | refine Part.pull (by repeat (first | exact Pull.here | apply Pull.there)) ?_ | refine Part.skip _ ?_ | exact Part.nil _ | exact Part.app _ _)) (by repeat (first | exact Part.refl _ | refine Part.pull (by repeat (first | exact Pull.here | apply Pull.there)) ?_ | refine Part.skip _ ?_ | exact Part.nil _ | exact Part.app _ _))
      | exact endK_of ⟨rfl, .inr ⟨hc12, _, (by rw [insF, ← hd, ← ho, hc44]; exact hg_o6), (by rw [insF, ← hd, ← ho, hc44]; rfl), rfl⟩⟩ (by repeat (first | exact Part.refl _ | refine Part.pull (by repeat (first | exact Pull.here | apply Pull.there)) ?_ | refine Part.skip _ ?_ | exact Part.nil _ | exact Part.app _ _)) (by repeat (first | exact Part.refl _ | refine Part.pull (by repeat (first | exact Pull.here | apply Pull.there)) ?_ | refine Part.skip _ ?_ | exact Part.nil _ | exact Part.app _ _))
      | exact endK_of ⟨rfl, .inr ⟨hc12, _, (by rw [insF, ← hd, ← ho, hc44]; exact hg), (by rw [insF, ← hd, ← ho, hc44]; rfl), rfl⟩⟩ (by repeat (first | exact Part.refl _ | refine Part.pull (by repeat (first | exact Pull.here | apply Pull.there)) ?_ | refine Part.skip _ ?_ | exact Part.nil _ | exact Part.app _ _)) (by repeat (first | exact Part.refl _ | refine Part.pull (by repeat (first | exact Pull.here | apply Pull.there)) ?_ | refine Part.skip _ ?_ | exact Part.nil _ | exact Part.app _ _))
  · intro hc12
    first
    | (exact absurd hc12 Bool.false_ne_true)
    | (exact absurd hc12.symm Bool.false_ne_true)
    | ((try simp only [decide_eq_true_eq, decide_eq_false_iff_not, Bool.not_eq_true', Bool.not_eq_false', Bool.not_true, Bool.not_false, beq_iff_eq, bne_iff_ne, bne_eq_false_iff_eq, ne_eq, beq_eq_false_iff_ne, Int.not_lt, Int.not_le] at hc12); exfalso; omega)
    | (try simp only [decide_eq_true_eq, decide_eq_false_iff_not, Bool.not_eq_true', Bool.not_eq_false', Bool.not_true, Bool.not_false, beq_iff_eq, bne_iff_ne, bne_eq_false_iff_eq, ne_eq, beq_eq_false_iff_ne, Int.not_lt, Int.not_le] at hc12)
      refine HWp.skip ?_
      refine onNorm_n ?_
      refine HWp.seq ?_
      refine HWp.text (.rd 0 .done) rfl ?_
      refine HPlan.assign rfl rfl rfl ?_
      refine HPlan.fin ?_
      refine onNorm_n ?_
      refine HWp.seq ?_
      refine HWp.text (.rd 0 .done) rfl ?_
      refine HPlan.assign rfl rfl rfl ?_
      refine HPlan.fin ?_
      refine onNorm_n ?_
      refine HWp.seq ?_
      refine HWp.seq ?_
      refine HWp.text (.rd 0 .done) rfl ?_
      refine HPlan.assign rfl rfl rfl ?_
      refine HPlan.fin ?_
      refine onNorm_n ?_
      refine HWp.block ?_
      refine HWp.loopF (α := Nat × Option (Nat × Nat) × Bool × List (List UInt8 × ByteArray)) (fun q => l.length - q.1) (fun q => q.1 ≤ l.length ∧ growOk q.2.1 (q.2.2.2.map blobV) ∧ q.2.2.2 = (insN b l q.1).1 ∧ q.2.2.1 = (insN b l q.1).2) (fun q => ⟨50, [(0, x), (3, .ref i3 0), (5, growV q.2.1 33 (q.2.2.2.map blobV)), (6, .bool q.2.2.1), (7, .int .i64 (q.1 : Int))]⟩) (fun q => (i3, .cells 37 (blobV b).cells 0) :: F) (fun q => growT q.2.1 ++ T) ?_ ?_
      · refine ⟨(0, none, false, []), ⟨Nat.zero_le _, fun _ => rfl, rfl, rfl⟩, (LessE.less (by repeat (first | exact LessE.nil | refine LessE.same rfl ?_ | refine LessE.own rfl ?_ | refine LessE.eq rfl ?_ (by first | rfl | (congr 1; omega) | simp))) rfl), (by repeat (first | exact Part.refl _ | refine Part.pull (by repeat (first | exact Pull.here | apply Pull.there)) ?_ | refine Part.skip _ ?_ | exact Part.nil _ | exact Part.app _ _)), (by repeat (first | exact Part.refl _ | refine Part.pull (by repeat (first | exact Pull.here | apply Pull.there)) ?_ | refine Part.skip _ ?_ | exact Part.nil _ | exact Part.app _ _))⟩
      · rintro q ⟨hk1, hg, ho, hd⟩
        obtain ⟨k, o, dn, out⟩ := q
        simp only at hk1 hg ho hd ⊢
        have hlen := insN_len b l k
        rw [← ho] at hlen
        refine HWp.seq ?_
        refine HWp.seq ?_
        refine HWp.text (.rd 0 (.rd 1 (.rd 2 (.rd 3 .done)))) rfl ?_
        refine HPlan.move rfl rfl rfl ?_
        refine HPlan.move rfl rfl rfl ?_
        refine HPlan.lenS rfl rfl rfl q_tk_27 (by first | exact IsSl.sl | exact IsSl.nils | assumption | exact growV_isSl (by assumption)) (by rw [List.length_map]) ?_
        refine HPlan.intBin rfl rfl rfl rfl rfl rfl ?_
        refine HPlan.fin ?_
        refine onNorm_n ?_
        refine HWp.cond rfl ?_ ?_
        · intro hc17
          first
          | (exact absurd hc17 Bool.false_ne_true)
          | (exact absurd hc17.symm Bool.false_ne_true)
          | ((try simp only [decide_eq_true_eq, decide_eq_false_iff_not, Bool.not_eq_true', Bool.not_eq_false', Bool.not_true, Bool.not_false, beq_iff_eq, bne_iff_ne, bne_eq_false_iff_eq, ne_eq, beq_eq_false_iff_ne, Int.not_lt, Int.not_le] at hc17); exfalso; omega)
          | (try simp only [decide_eq_true_eq, decide_eq_false_iff_not, Bool.not_eq_true', Bool.not_eq_false', Bool.not_true, Bool.not_false, beq_iff_eq, bne_iff_ne, bne_eq_false_iff_eq, ne_eq, beq_eq_false_iff_ne, Int.not_lt, Int.not_le] at hc17)
            refine HWp.skip ?_
            refine onNorm_n ?_
            refine HWp.seq ?_
            refine HWp.block ?_
            refine HWp.seq ?_
            refine HWp.seq ?_
            refine HWp.draw q_mix (.rd 0 (.rd 1 (.rd 2 (.rd 3 (.rd 4 (.rd 5 (.rd 6 (.rd 7 (.rd 8 (.rd 9 (.act 10 [] (.rd 11 .done)))))))))))) (by kernel_rfl) ?_
            refine HPlan.move rfl rfl rfl ?_
            refine HPlan.not rfl rfl rfl rfl ?_
            refine HPlan.move rfl rfl rfl ?_
            refine HPlan.split ?_ ?_
            · intro hb8_2
              first
              | (exact absurd hb8_2 Bool.false_ne_true)
              | (exact absurd hb8_2.symm Bool.false_ne_true)
              | ((try simp only [decide_eq_true_eq, decide_eq_false_iff_not, Bool.not_eq_true', Bool.not_eq_false', Bool.not_true, Bool.not_false, beq_iff_eq, bne_iff_ne, bne_eq_false_iff_eq, ne_eq, beq_eq_false_iff_ne, Int.not_lt, Int.not_le] at hb8_2); exfalso; omega)
              | (try simp only [decide_eq_true_eq, decide_eq_false_iff_not, Bool.not_eq_true', Bool.not_eq_false', Bool.not_true, Bool.not_false, beq_iff_eq, bne_iff_ne, bne_eq_false_iff_eq, ne_eq, beq_eq_false_iff_ne, Int.not_lt, Int.not_le] at hb8_2)
                refine HPlan.fieldAddr rfl rfl rfl rfl q_fo_37_0 rfl ?_
                refine HPlan.load rfl rfl rfl q_sh_29 (by repeat (first | exact List.Mem.head _ | apply List.Mem.tail | assumption)) (by rw [blob_len hb]; decide) (blob_dig hb) ?_
                refine HPlan.move rfl rfl rfl ?_
                refine HPlan.move rfl rfl rfl ?_
                refine HPlan.indexS rfl rfl rfl rfl q_ix_27 (by first | exact IsSl.sl | exact IsSl.nils | assumption | exact growV_isSl (by assumption)) (by omega) (by simp only [List.length_map]; omega) (blob_at (l := l) (k := k) (by omega)) ?_
                refine HPlan.fieldAddr rfl rfl rfl rfl q_fo_37_0 rfl ?_
                refine HPlan.loadI rfl rfl rfl q_sh_29 (by rw [blob_len (hk _ (List.getElem_mem _))]; decide) (blob_dig (hk _ (List.getElem_mem _))) ?_
                refine HPlan.callPure rfl rfl rfl q_en_22 (less_spec b.1 _ hb (hk _ (List.getElem_mem _))) keptH_nil ?_
                refine HPlan.pickT rfl rfl rfl rfl ?_
                refine HPlan.fin ?_
                refine onNorm_n ?_
                refine HWp.cond rfl ?_ ?_
                · intro hc31
                  first
                  | (exact absurd hc31 Bool.false_ne_true)
                  | (exact absurd hc31.symm Bool.false_ne_true)
                  | ((try simp only [decide_eq_true_eq, decide_eq_false_iff_not, Bool.not_eq_true', Bool.not_eq_false', Bool.not_true, Bool.not_false, beq_iff_eq, bne_iff_ne, bne_eq_false_iff_eq, ne_eq, beq_eq_false_iff_ne, Int.not_lt, Int.not_le] at hc31); exfalso; omega)
                  | (try simp only [decide_eq_true_eq, decide_eq_false_iff_not, Bool.not_eq_true', Bool.not_eq_false', Bool.not_true, Bool.not_false, beq_iff_eq, bne_iff_ne, bne_eq_false_iff_eq, ne_eq, beq_eq_false_iff_ne, Int.not_lt, Int.not_le] at hc31)
                    refine HWp.seq ?_
                    refine HWp.text (.rd 0 (.rd 1 (.act 2 [] (.act 3 [] (.rd 4 .done))))) rfl ?_
                    refine HPlan.move rfl rfl rfl ?_
                    refine HPlan.load rfl rfl rfl q_sh_37 (by repeat (first | exact List.Mem.head _ | apply List.Mem.tail | assumption)) (by rw [blob_len hb]; decide) (blob_all hb) ?_
                    refine HPlan.buildSliceN rfl rfl q_se_27 q_zs_37 rfl (by decide) rfl rfl (rfl : _ = [blobV b]) (allCells_cons (blob_solid _) (blob_len hb) allCells_nil) keptH_nil ?_
                    refine HPlan.appendG rfl rfl rfl rfl q_el_27 q_src_27 (by first | exact IsSl.sl | exact IsSl.nils | assumption | exact growV_isSl (by assumption)) (List.Perm.refl _) hg (solid_cons (blob_solid _) solid_nil) (by simp only [List.length_map, List.length_cons, List.length_nil, List.length_append]; omega) (by simp only [List.length_map, List.length_cons, List.length_nil, List.length_append]; omega) keptH_nil (fun o4 hg_o4 => ?_)
                    rw [map_snoc] at hg_o4 ⊢
                    refine HPlan.assign rfl rfl rfl ?_
                    refine HPlan.fin ?_
                    refine onNorm_n ?_
                    refine HWp.text (.rd 0 .done) rfl ?_
                    refine HPlan.assign rfl rfl rfl ?_
                    refine HPlan.fin ?_
                    refine onNorm_n ?_
                    refine HWp.text (.rd 0 (.rd 1 (.rd 2 (.rd 3 (.rd 4 (.act 5 [] (.act 6 [] (.rd 7 .done)))))))) rfl ?_
                    refine HPlan.move rfl rfl rfl ?_
                    refine HPlan.move rfl rfl rfl ?_
                    refine HPlan.move rfl rfl rfl ?_
                    refine HPlan.indexS rfl rfl rfl rfl q_ix_27 (by first | exact IsSl.sl | exact IsSl.nils | assumption | exact growV_isSl (by assumption)) (by omega) (by simp only [List.length_map]; omega) (blob_at (l := l) (k := k) (by omega)) ?_
                    refine HPlan.loadI rfl rfl rfl q_sh_37 (by rw [blob_len (hk _ (List.getElem_mem _))]; decide) (blob_all (hk _ (List.getElem_mem _))) ?_
                    refine HPlan.buildSliceN rfl rfl q_se_27 q_zs_37 rfl (by decide) rfl rfl (rfl : _ = [blobV l[k]]) (allCells_cons (blob_solid _) (blob_len (hk _ (List.getElem_mem _))) allCells_nil) keptH_nil ?_
                    refine HPlan.appendG rfl rfl rfl rfl q_el_27 q_src_27 (by first | exact IsSl.sl | exact IsSl.nils | assumption | exact growV_isSl (by assumption)) (List.Perm.refl _) (by assumption) (solid_cons (blob_solid _) solid_nil) (by simp only [List.length_map, List.length_cons, List.length_nil, List.length_append]; omega) (by simp only [List.length_map, List.length_cons, List.length_nil, List.length_append]; omega) keptH_nil (fun o5 hg_o5 => ?_)
                    rw [map_snoc] at hg_o5 ⊢
                    refine HPlan.assign rfl rfl rfl ?_
                    refine HPlan.fin ?_
                    refine onExitH_n ?_
                    refine onNorm_n ?_
                    refine HWp.text (.rd 0 (.rd 1 (.rd 2 .done))) rfl ?_
                    refine HPlan.move rfl rfl rfl ?_
                    refine HPlan.intBin rfl rfl rfl rfl rfl (by first | exact add_i64 (by omega) (by omega) | rfl) ?_
                    refine HPlan.assign rfl rfl rfl ?_
                    refine HPlan.fin ?_
                    refine onNorm_n ?_
                    first
                    | exact ⟨(k + 1, o5, true, out ++ [b] ++ [l[k]]), (by simp only; omega), ⟨by simp only; omega, hg_o5, by simp only [insN_yes (by omega : k < l.length) (hd.symm.trans hb8_2) hc31, ho], by simp only [insN_yes (by omega : k < l.length) (hd.symm.trans hb8_2) hc31]⟩, (LessE.less (by repeat (first | exact LessE.nil | refine LessE.same rfl ?_ | refine LessE.own rfl ?_ | refine LessE.eq rfl ?_ (by first | rfl | (congr 1; omega) | simp))) rfl), (by repeat (first | exact Part.refl _ | refine Part.pull (by repeat (first | exact Pull.here | apply Pull.there)) ?_ | refine Part.skip _ ?_ | exact Part.nil _ | exact Part.app _ _)), (by repeat (first | exact Part.refl _ | refine Part.pull (by repeat (first | exact Pull.here | apply Pull.there)) ?_ | refine Part.skip _ ?_ | exact Part.nil _ | exact Part.app _ _))⟩
                    | exact ⟨(k + 1, o5, dn, out ++ [l[k]]), (by simp only; omega), ⟨by simp only; omega, hg_o5, by simp only [insN_no (by omega : k < l.length) (by first | exact .inl (hd.symm.trans hb8_2) | exact .inr hc31), ho], by simp only [insN_no (by omega : k < l.length) (by first | exact .inl (hd.symm.trans hb8_2) | exact .inr hc31), hd]⟩, (LessE.less (by repeat (first | exact LessE.nil | refine LessE.same rfl ?_ | refine LessE.own rfl ?_ | refine LessE.eq rfl ?_ (by first | rfl | (congr 1; omega) | simp))) rfl), (by repeat (first | exact Part.refl _ | refine Part.pull (by repeat (first | exact Pull.here | apply Pull.there)) ?_ | refine Part.skip _ ?_ | exact Part.nil _ | exact Part.app _ _)), (by repeat (first | exact Part.refl _ | refine Part.pull (by repeat (first | exact Pull.here | apply Pull.there)) ?_ | refine Part.skip _ ?_ | exact Part.nil _ | exact Part.app _ _))⟩
                · intro hc31
                  first
                  | (exact absurd hc31 Bool.false_ne_true)
                  | (exact absurd hc31.symm Bool.false_ne_true)
                  | ((try simp only [decide_eq_true_eq, decide_eq_false_iff_not, Bool.not_eq_true', Bool.not_eq_false', Bool.not_true, Bool.not_false, beq_iff_eq, bne_iff_ne, bne_eq_false_iff_eq, ne_eq, beq_eq_false_iff_ne, Int.not_lt, Int.not_le] at hc31); exfalso; omega)
                  | (try simp only [decide_eq_true_eq, decide_eq_false_iff_not, Bool.not_eq_true', Bool.not_eq_false', Bool.not_true, Bool.not_false, beq_iff_eq, bne_iff_ne, bne_eq_false_iff_eq, ne_eq, beq_eq_false_iff_ne, Int.not_lt, Int.not_le] at hc31)
                    refine HWp.skip ?_
                    refine onNorm_n ?_
                    refine HWp.text (.rd 0 (.rd 1 (.rd 2 (.rd 3 (.rd 4 (.act 5 [] (.act 6 [] (.rd 7 .done)))))))) rfl ?_
                    refine HPlan.move rfl rfl rfl ?_
                    refine HPlan.move rfl rfl rfl ?_
                    refine HPlan.move rfl rfl rfl ?_
                    refine HPlan.indexS rfl rfl rfl rfl q_ix_27 (by first | exact IsSl.sl | exact IsSl.nils | assumption | exact growV_isSl (by assumption)) (by omega) (by simp only [List.length_map]; omega) (blob_at (l := l) (k := k) (by omega)) ?_
                    refine HPlan.loadI rfl rfl rfl q_sh_37 (by rw [blob_len (hk _ (List.getElem_mem _))]; decide) (blob_all (hk _ (List.getElem_mem _))) ?_
                    refine HPlan.buildSliceN rfl rfl q_se_27 q_zs_37 rfl (by decide) rfl rfl (rfl : _ = [blobV l[k]]) (allCells_cons (blob_solid _) (blob_len (hk _ (List.getElem_mem _))) allCells_nil) keptH_nil ?_
                    refine HPlan.appendG rfl rfl rfl rfl q_el_27 q_src_27 (by first | exact IsSl.sl | exact IsSl.nils | assumption | exact growV_isSl (by assumption)) (List.Perm.refl _) (by assumption) (solid_cons (blob_solid _) solid_nil) (by simp only [List.length_map, List.length_cons, List.length_nil, List.length_append]; omega) (by simp only [List.length_map, List.length_cons, List.length_nil, List.length_append]; omega) keptH_nil (fun o5 hg_o5 => ?_)
                    rw [map_snoc] at hg_o5 ⊢
                    refine HPlan.assign rfl rfl rfl ?_
                    refine HPlan.fin ?_
                    refine onExitH_n ?_
                    refine onNorm_n ?_
                    refine HWp.text (.rd 0 (.rd 1 (.rd 2 .done))) rfl ?_
                    refine HPlan.move rfl rfl rfl ?_
                    refine HPlan.intBin rfl rfl rfl rfl rfl (by first | exact add_i64 (by omega) (by omega) | rfl) ?_
                    refine HPlan.assign rfl rfl rfl ?_
                    refine HPlan.fin ?_
                    refine onNorm_n ?_
                    first
                    | exact ⟨(k + 1, o5, true, out ++ [b] ++ [l[k]]), (by simp only; omega), ⟨by simp only; omega, hg_o5, by simp only [insN_yes (by omega : k < l.length) (hd.symm.trans hb8_2) hc31, ho], by simp only [insN_yes (by omega : k < l.length) (hd.symm.trans hb8_2) hc31]⟩, (LessE.less (by repeat (first | exact LessE.nil | refine LessE.same rfl ?_ | refine LessE.own rfl ?_ | refine LessE.eq rfl ?_ (by first | rfl | (congr 1; omega) | simp))) rfl), (by repeat (first | exact Part.refl _ | refine Part.pull (by repeat (first | exact Pull.here | apply Pull.there)) ?_ | refine Part.skip _ ?_ | exact Part.nil _ | exact Part.app _ _)), (by repeat (first | exact Part.refl _ | refine Part.pull (by repeat (first | exact Pull.here | apply Pull.there)) ?_ | refine Part.skip _ ?_ | exact Part.nil _ | exact Part.app _ _))⟩
                    | exact ⟨(k + 1, o5, dn, out ++ [l[k]]), (by simp only; omega), ⟨by simp only; omega, hg_o5, by simp only [insN_no (by omega : k < l.length) (by first | exact .inl (hd.symm.trans hb8_2) | exact .inr hc31), ho], by simp only [insN_no (by omega : k < l.length) (by first | exact .inl (hd.symm.trans hb8_2) | exact .inr hc31), hd]⟩, (LessE.less (by repeat (first | exact LessE.nil | refine LessE.same rfl ?_ | refine LessE.own rfl ?_ | refine LessE.eq rfl ?_ (by first | rfl | (congr 1; omega) | simp))) rfl), (by repeat (first | exact Part.refl _ | refine Part.pull (by repeat (first | exact Pull.here | apply Pull.there)) ?_ | refine Part.skip _ ?_ | exact Part.nil _ | exact Part.app _ _)), (by repeat (first | exact Part.refl _ | refine Part.pull (by repeat (first | exact Pull.here | apply Pull.there)) ?_ | refine Part.skip _ ?_ | exact Part.nil _ | exact Part.app _ _))⟩
            · intro hb8_2
              first
              | (exact absurd hb8_2 Bool.false_ne_true)
              | (exact absurd hb8_2.symm Bool.false_ne_true)
              | ((try simp only [decide_eq_true_eq, decide_eq_false_iff_not, Bool.not_eq_true', Bool.not_eq_false', Bool.not_true, Bool.not_false, beq_iff_eq, bne_iff_ne, bne_eq_false_iff_eq, ne_eq, beq_eq_false_iff_ne, Int.not_lt, Int.not_le] at hb8_2); exfalso; omega)
              | (try simp only [decide_eq_true_eq, decide_eq_false_iff_not, Bool.not_eq_true', Bool.not_eq_false', Bool.not_true, Bool.not_false, beq_iff_eq, bne_iff_ne, bne_eq_false_iff_eq, ne_eq, beq_eq_false_iff_ne, Int.not_lt, Int.not_le] at hb8_2)
                refine HPlan.leftR rfl rfl ?_
                refine HPlan.leftR rfl rfl ?_
                refine HPlan.leftR rfl rfl ?_
                refine HPlan.leftR rfl rfl ?_
                refine HPlan.leftR rfl rfl ?_
                refine HPlan.leftR rfl rfl ?_
                refine HPlan.leftR rfl rfl ?_
                refine HPlan.leftA rfl rfl ?_
                refine HPlan.pickF rfl rfl rfl rfl ?_
                refine HPlan.fin ?_
                refine onNorm_n ?_
                refine HWp.cond_f rfl ?_
                refine HWp.skip ?_
                refine onNorm_n ?_
                refine HWp.text (.rd 0 (.rd 1 (.rd 2 (.rd 3 (.rd 4 (.act 5 [] (.act 6 [] (.rd 7 .done)))))))) rfl ?_
                refine HPlan.move rfl rfl rfl ?_
                refine HPlan.move rfl rfl rfl ?_
                refine HPlan.move rfl rfl rfl ?_
                refine HPlan.indexS rfl rfl rfl rfl q_ix_27 (by first | exact IsSl.sl | exact IsSl.nils | assumption | exact growV_isSl (by assumption)) (by omega) (by simp only [List.length_map]; omega) (blob_at (l := l) (k := k) (by omega)) ?_
                refine HPlan.loadI rfl rfl rfl q_sh_37 (by rw [blob_len (hk _ (List.getElem_mem _))]; decide) (blob_all (hk _ (List.getElem_mem _))) ?_
                refine HPlan.buildSliceN rfl rfl q_se_27 q_zs_37 rfl (by decide) rfl rfl (rfl : _ = [blobV l[k]]) (allCells_cons (blob_solid _) (blob_len (hk _ (List.getElem_mem _))) allCells_nil) keptH_nil ?_
                refine HPlan.appendG rfl rfl rfl rfl q_el_27 q_src_27 (by first | exact IsSl.sl | exact IsSl.nils | assumption | exact growV_isSl (by assumption)) (List.Perm.refl _) (by assumption) (solid_cons (blob_solid _) solid_nil) (by simp only [List.length_map, List.length_cons, List.length_nil, List.length_append]; omega) (by simp only [List.length_map, List.length_cons, List.length_nil, List.length_append]; omega) keptH_nil (fun o5 hg_o5 => ?_)
                rw [map_snoc] at hg_o5 ⊢
                refine HPlan.assign rfl rfl rfl ?_
                refine HPlan.fin ?_
                refine onExitH_n ?_
                refine onNorm_n ?_
                refine HWp.text (.rd 0 (.rd 1 (.rd 2 .done))) rfl ?_
                refine HPlan.move rfl rfl rfl ?_
                refine HPlan.intBin rfl rfl rfl rfl rfl (by first | exact add_i64 (by omega) (by omega) | rfl) ?_
                refine HPlan.assign rfl rfl rfl ?_
                refine HPlan.fin ?_
                refine onNorm_n ?_
                first
                | exact ⟨(k + 1, o5, true, out ++ [b] ++ [l[k]]), (by simp only; omega), ⟨by simp only; omega, hg_o5, by simp only [insN_yes (by omega : k < l.length) (hd.symm.trans hb8_2) hc31, ho], by simp only [insN_yes (by omega : k < l.length) (hd.symm.trans hb8_2) hc31]⟩, (LessE.less (by repeat (first | exact LessE.nil | refine LessE.same rfl ?_ | refine LessE.own rfl ?_ | refine LessE.eq rfl ?_ (by first | rfl | (congr 1; omega) | simp))) rfl), (by repeat (first | exact Part.refl _ | refine Part.pull (by repeat (first | exact Pull.here | apply Pull.there)) ?_ | refine Part.skip _ ?_ | exact Part.nil _ | exact Part.app _ _)), (by repeat (first | exact Part.refl _ | refine Part.pull (by repeat (first | exact Pull.here | apply Pull.there)) ?_ | refine Part.skip _ ?_ | exact Part.nil _ | exact Part.app _ _))⟩
                | exact ⟨(k + 1, o5, dn, out ++ [l[k]]), (by simp only; omega), ⟨by simp only; omega, hg_o5, by simp only [insN_no (by omega : k < l.length) (by first | exact .inl (hd.symm.trans hb8_2) | exact .inr hc31), ho], by simp only [insN_no (by omega : k < l.length) (by first | exact .inl (hd.symm.trans hb8_2) | exact .inr hc31), hd]⟩, (LessE.less (by repeat (first | exact LessE.nil | refine LessE.same rfl ?_ | refine LessE.own rfl ?_ | refine LessE.eq rfl ?_ (by first | rfl | (congr 1; omega) | simp))) rfl), (by repeat (first | exact Part.refl _ | refine Part.pull (by repeat (first | exact Pull.here | apply Pull.there)) ?_ | refine Part.skip _ ?_ | exact Part.nil _ | exact Part.app _ _)), (by repeat (first | exact Part.refl _ | refine Part.pull (by repeat (first | exact Pull.here | apply Pull.there)) ?_ | refine Part.skip _ ?_ | exact Part.nil _ | exact Part.app _ _))⟩
        · intro hc17
          first
          | (exact absurd hc17 Bool.false_ne_true)
          | (exact absurd hc17.symm Bool.false_ne_true)
          | ((try simp only [decide_eq_true_eq, decide_eq_false_iff_not, Bool.not_eq_true', Bool.not_eq_false', Bool.not_true, Bool.not_false, beq_iff_eq, bne_iff_ne, bne_eq_false_iff_eq, ne_eq, beq_eq_false_iff_ne, Int.not_lt, Int.not_le] at hc17); exfalso; omega)
          | (try simp only [decide_eq_true_eq, decide_eq_false_iff_not, Bool.not_eq_true', Bool.not_eq_false', Bool.not_true, Bool.not_false, beq_iff_eq, bne_iff_ne, bne_eq_false_iff_eq, ne_eq, beq_eq_false_iff_ne, Int.not_lt, Int.not_le] at hc17)
            refine HWp.exit ?_
            refine onNorm_e ?_
            refine onNorm_e ?_
            obtain rfl : k = l.length := by omega
            refine onExitH_hit ?_
            refine onNorm_n ?_
            refine HWp.seq ?_
            refine HWp.seq ?_
            refine HWp.text (.rd 0 (.rd 1 .done)) rfl ?_
            refine HPlan.move rfl rfl rfl ?_
            refine HPlan.not rfl rfl rfl rfl ?_
            refine HPlan.fin ?_
            refine onNorm_n ?_
            refine HWp.cond rfl ?_ ?_
            · intro hc44
              first
              | (exact absurd hc44 Bool.false_ne_true)
              | (exact absurd hc44.symm Bool.false_ne_true)
              | ((try simp only [decide_eq_true_eq, decide_eq_false_iff_not, Bool.not_eq_true', Bool.not_eq_false', Bool.not_true, Bool.not_false, beq_iff_eq, bne_iff_ne, bne_eq_false_iff_eq, ne_eq, beq_eq_false_iff_ne, Int.not_lt, Int.not_le] at hc44); exfalso; omega)
              | (try simp only [decide_eq_true_eq, decide_eq_false_iff_not, Bool.not_eq_true', Bool.not_eq_false', Bool.not_true, Bool.not_false, beq_iff_eq, bne_iff_ne, bne_eq_false_iff_eq, ne_eq, beq_eq_false_iff_ne, Int.not_lt, Int.not_le] at hc44)
                refine HWp.text (.rd 0 (.rd 1 (.act 2 [] (.act 3 [] (.rd 4 .done))))) rfl ?_
                refine HPlan.move rfl rfl rfl ?_
                refine HPlan.load rfl rfl rfl q_sh_37 (by repeat (first | exact List.Mem.head _ | apply List.Mem.tail | assumption)) (by rw [blob_len hb]; decide) (blob_all hb) ?_
                refine HPlan.buildSliceN rfl rfl q_se_27 q_zs_37 rfl (by decide) rfl rfl (rfl : _ = [blobV b]) (allCells_cons (blob_solid _) (blob_len hb) allCells_nil) keptH_nil ?_
                refine HPlan.appendG rfl rfl rfl rfl q_el_27 q_src_27 (by first | exact IsSl.sl | exact IsSl.nils | assumption | exact growV_isSl (by assumption)) (List.Perm.refl _) hg (solid_cons (blob_solid _) solid_nil) (by simp only [List.length_map, List.length_cons, List.length_nil, List.length_append]; omega) (by simp only [List.length_map, List.length_cons, List.length_nil, List.length_append]; omega) keptH_nil (fun o6 hg_o6 => ?_)
                rw [map_snoc] at hg_o6 ⊢
                refine HPlan.assign rfl rfl rfl ?_
                refine HPlan.fin ?_
                refine onNorm_n ?_
                refine HWp.seq ?_
                refine HWp.text (.rd 0 (.rd 1 .done)) rfl ?_
                refine HPlan.move rfl rfl rfl ?_
                refine HPlan.assign rfl rfl rfl ?_
                refine HPlan.fin ?_
                refine onNorm_n ?_
                refine HWp.ret ?_
                refine retQ_r (.tmp rfl .nil) ?_
                first
                | exact endK_of ⟨rfl, .inl ⟨hc12, rfl, rfl⟩⟩ (by repeat (first | exact Part.refl _ | refine Part.pull (by repeat (first | exact Pull.here | apply Pull.there)) ?_ | refine Part.skip _ ?_ | exact Part.nil _ | exact Part.app _ _)) (by repeat (first | exact Part.refl _ | refine Part.pull (by repeat (first | exact Pull.here | apply Pull.there)) ?_ | refine Part.skip _ ?_ | exact Part.nil _ | exact Part.app _ _))
                | exact endK_of ⟨rfl, .inr ⟨hc12, _, (by rw [insF, ← hd, ← ho, hc44]; exact hg_o6), (by rw [insF, ← hd, ← ho, hc44]; rfl), rfl⟩⟩ (by repeat (first | exact Part.refl _ | refine Part.pull (by repeat (first | exact Pull.here | apply Pull.there)) ?_ | refine Part.skip _ ?_ | exact Part.nil _ | exact Part.app _ _)) (by repeat (first | exact Part.refl _ | refine Part.pull (by repeat (first | exact Pull.here | apply Pull.there)) ?_ | refine Part.skip _ ?_ | exact Part.nil _ | exact Part.app _ _))
                | exact endK_of ⟨rfl, .inr ⟨hc12, _, (by rw [insF, ← hd, ← ho, hc44]; exact hg), (by rw [insF, ← hd, ← ho, hc44]; rfl), rfl⟩⟩ (by repeat (first | exact Part.refl _ | refine Part.pull (by repeat (first | exact Pull.here | apply Pull.there)) ?_ | refine Part.skip _ ?_ | exact Part.nil _ | exact Part.app _ _)) (by repeat (first | exact Part.refl _ | refine Part.pull (by repeat (first | exact Pull.here | apply Pull.there)) ?_ | refine Part.skip _ ?_ | exact Part.nil _ | exact Part.app _ _))
            · intro hc44
              first
              | (exact absurd hc44 Bool.false_ne_true)
              | (exact absurd hc44.symm Bool.false_ne_true)
              | ((try simp only [decide_eq_true_eq, decide_eq_false_iff_not, Bool.not_eq_true', Bool.not_eq_false', Bool.not_true, Bool.not_false, beq_iff_eq, bne_iff_ne, bne_eq_false_iff_eq, ne_eq, beq_eq_false_iff_ne, Int.not_lt, Int.not_le] at hc44); exfalso; omega)
              | (try simp only [decide_eq_true_eq, decide_eq_false_iff_not, Bool.not_eq_true', Bool.not_eq_false', Bool.not_true, Bool.not_false, beq_iff_eq, bne_iff_ne, bne_eq_false_iff_eq, ne_eq, beq_eq_false_iff_ne, Int.not_lt, Int.not_le] at hc44)
                refine HWp.skip ?_
                refine onNorm_n ?_
                refine HWp.seq ?_
                refine HWp.text (.rd 0 (.rd 1 .done)) rfl ?_
                refine HPlan.move rfl rfl rfl ?_
                refine HPlan.assign rfl rfl rfl ?_
                refine HPlan.fin ?_
                refine onNorm_n ?_
                refine HWp.ret ?_
                refine retQ_r (.tmp rfl .nil) ?_
                first
                | exact endK_of ⟨rfl, .inl ⟨hc12, rfl, rfl⟩⟩ (by repeat (first | exact Part.refl _ | refine Part.pull (by repeat (first | exact Pull.here | apply Pull.there)) ?_ | refine Part.skip _ ?_ | exact Part.nil _ | exact Part.app _ _)) (by repeat (first | exact Part.refl _ | refine Part.pull (by repeat (first | exact Pull.here | apply Pull.there)) ?_ | refine Part.skip _ ?_ | exact Part.nil _ | exact Part.app _ _))
                | exact endK_of ⟨rfl, .inr ⟨hc12, _, (by rw [insF, ← hd, ← ho, hc44]; exact hg_o6), (by rw [insF, ← hd, ← ho, hc44]; rfl), rfl⟩⟩ (by repeat (first | exact Part.refl _ | refine Part.pull (by repeat (first | exact Pull.here | apply Pull.there)) ?_ | refine Part.skip _ ?_ | exact Part.nil _ | exact Part.app _ _)) (by repeat (first | exact Part.refl _ | refine Part.pull (by repeat (first | exact Pull.here | apply Pull.there)) ?_ | refine Part.skip _ ?_ | exact Part.nil _ | exact Part.app _ _))
                | exact endK_of ⟨rfl, .inr ⟨hc12, _, (by rw [insF, ← hd, ← ho, hc44]; exact hg), (by rw [insF, ← hd, ← ho, hc44]; rfl), rfl⟩⟩ (by repeat (first | exact Part.refl _ | refine Part.pull (by repeat (first | exact Pull.here | apply Pull.there)) ?_ | refine Part.skip _ ?_ | exact Part.nil _ | exact Part.app _ _)) (by repeat (first | exact Part.refl _ | refine Part.pull (by repeat (first | exact Pull.here | apply Pull.there)) ?_ | refine Part.skip _ ?_ | exact Part.nil _ | exact Part.app _ _))
end Go.Proofs.Ythfoobfgdakbmaa

set_option linter.unusedVariables false
set_option linter.unusedSimpArgs false
set_option maxRecDepth 100000
namespace Go.Proofs.Ythfoobfgdakbmaa
open Go Go.RowKit Go.L
theorem q_f_36 : Try.prog.funcs[36]? = some Try.f36 := by kernel_rfl

/-- Which entries are left. -/
def leftN (n : Nat) (js : List Nat) : List Nat := (List.range n).filter fun j => !js.contains j
theorem left_start (n : Nat) : List.range n = leftN n [] := by
  rw [leftN]; symm; rw [List.filter_eq_self]; simp
theorem left_step (n : Nat) (js : List Nat) (j : Nat) : (leftN n js).filter (· != j) = leftN n (js ++ [j]) := by
  simp only [leftN, List.filter_filter]
  apply List.filter_congr
  intro x _
  simp only [List.contains_append, List.contains_cons, List.contains_nil, Bool.or_false, Bool.not_or, bne]
  cases x == j <;> simp
theorem mem_leftN {n : Nat} {js : List Nat} {j : Nat} : j ∈ leftN n js ↔ j < n ∧ j ∉ js := by simp [leftN, List.mem_filter]
def keyAt (es : List (LV × LV)) (j : Nat) : List LV := [((es[j]?).map (·.1)).getD .und]
def KeysS (es : List (LV × LV)) (xs : List (List LV)) : Prop := xs.Perm (es.map fun kv => [kv.1])
def KeysP (es : List (LV × LV)) (pre : List (List LV)) (x : List LV) : Prop := pre.length < es.length ∧ ∃ kv ∈ es, x = [kv.1]
theorem walked_len {n : Nat} {js : List Nat} (h1 : js.Nodup) (h2 : ∀ j ∈ js, j < n) : js.length ≤ n := by
  have := h1.length_le_of_subset (l₂ := List.range n) (fun j hj => List.mem_range.2 (h2 j hj))
  simpa using this
theorem walked_all {es : List (LV × LV)} {js : List Nat} (h1 : js.Nodup) (h2 : ∀ j ∈ js, j < es.length) (h3 : ∀ j, j < es.length → j ∉ leftN es.length js) : KeysS es (js.map (keyAt es)) := by
  have hp : js.Perm (List.range es.length) := (List.perm_ext_iff_of_nodup h1 List.nodup_range).2 fun j => ⟨fun h => List.mem_range.2 (h2 j h), fun h => by
    have h := List.mem_range.1 h
    have := h3 j h
    rw [mem_leftN] at this
    exact Classical.byContradiction fun hn => this ⟨h, hn⟩⟩
  have h4 := hp.map (keyAt es)
  refine h4.trans (.of_eq ?_)
  apply List.ext_getElem?
  intro i
  simp only [List.getElem?_map]
  by_cases hi : i < es.length
  · simp [hi, keyAt]
  · simp [hi]

theorem keys_next (mb m bver ver l : Nat) (es : List (LV × LV)) (hk : ∀ p ∈ es, ∃ d : List UInt8, d.length = 32 ∧ p.1 = digV d) (J : List (List LV) → Hp → Tk → Prop) (E : Hp → Tk → Prop) (hY : ∀ pre x L T F FT, KeysP es pre x → J pre L T → HYield Try.prog l x (F ++ ([(mb, .cells 53 [.mp m] bver), (m, .map es ver)] ++ L)) (FT ++ ([] ++ T)) (YieldQ (F ++ [(mb, .cells 53 [.mp m] bver), (m, .map es ver)]) (FT ++ []) (J (pre ++ [x])) E)) (L : Hp) (T : Tk) (hJ : J [] L T) : HCalls Try.prog 36 [.fn (.yield l) [] [], .ref mb 0] ((mb, .cells 53 [.mp m] bver) :: (m, .map es ver) :: L) T (fun r L' T' => ∃ L1 T1, Part ([(mb, .cells 53 [.mp m] bver), (m, .map es ver)] ++ L1) L' ∧ Part ([] ++ T1) T' ∧ ((∃ xs, KeysS es xs ∧ J xs L1 T1) ∨ E L1 T1)) := by
  refine HCalls.enterG q_f_36 rfl ?_
  refine HWp.frame (r' := ⟨14, [(0, .fn (.yield l) [] []), (1, .ref mb 0)]⟩) rfl ?_
  refine HWp.seq ?_
  refine HWp.text (.rd 0 (.act 1 [] .done)) rfl ?_
  refine HPlan.load rfl rfl rfl q_sh_53 (by repeat (first | exact List.Mem.head _ | apply List.Mem.tail | assumption)) (by constructor <;> first | rfl | decide | omega | exact Nat.le_refl _ | (simp; done) | (simp; omega)) rfl ?_
  refine HPlan.rangeM rfl rfl rfl q_mt_53 (by repeat (first | exact List.Mem.head _ | apply List.Mem.tail | assumption)) (fun i5 => ⟨keptH_nil, ?_⟩)
  refine HPlan.fin ?_
  refine onNorm_n ?_
  refine HWp.block ?_
  refine HWp.loopF (α := List Nat × Option Nat × Nat × Hp × Tk) (fun q => es.length - q.1.length) (fun q => q.1.Nodup ∧ (∀ j ∈ q.1, j < es.length) ∧ J (q.1.map (keyAt es)) q.2.2.2.1 q.2.2.2.2) (fun q => ⟨14, [(0, .fn (.yield l) [] []), (1, .ref mb 0), (5, .ref i5 0)]⟩) (fun q => (i5, .iter m ver (leftN es.length q.1) q.2.1 q.2.2.1) :: (mb, .cells 53 [.mp m] bver) :: (m, .map es ver) :: q.2.2.2.1) (fun q => q.2.2.2.2) ?_ ?_
  · rw [left_start]
    refine ⟨([], none, 0, L, T), ⟨List.nodup_nil, by simp, hJ⟩, (LessE.less (by repeat (first | exact LessE.nil | refine LessE.same rfl ?_ | refine LessE.own rfl ?_ | refine LessE.eq rfl ?_ (by first | rfl | (congr 1; omega) | simp))) rfl), (by repeat (first | exact Part.refl _ | refine Part.pull (by repeat (first | exact Pull.here | apply Pull.there)) ?_ | refine Part.skip _ ?_ | exact Part.nil _ | exact Part.app _ _)), (by repeat (first | exact Part.refl _ | refine Part.pull (by repeat (first | exact Pull.here | apply Pull.there)) ?_ | refine Part.skip _ ?_ | exact Part.nil _ | exact Part.app _ _))⟩
  · rintro q ⟨hnd, hlt, hJq⟩
    obtain ⟨js, cur, v, Lx, Tx⟩ := q
    simp only at hnd hlt hJq ⊢
    refine HWp.seq ?_
    refine HWp.text (.act 0 [] (.rd 1 .done)) rfl ?_
    refine HPlan.nextM rfl rfl rfl (by repeat (first | exact List.Mem.head _ | apply List.Mem.tail | assumption)) (by repeat (first | exact List.Mem.head _ | apply List.Mem.tail | assumption)) keptH_nil ?_ ?_
    · intro hn0
      refine HPlan.extract rfl rfl rfl rfl ?_
      refine HPlan.fin ?_
      refine onNorm_n ?_
      refine HWp.seq ?_
      refine HWp.cond_f rfl ?_
      refine HWp.exit ?_
      refine onNorm_e ?_
      refine onNorm_e ?_
      refine onExitH_hit ?_
      refine retQ_n .nil ?_
      first
      | exact endK_of ⟨Lx, Tx, (by repeat (first | exact Part.refl _ | refine Part.pull (by repeat (first | exact Pull.here | apply Pull.there)) ?_ | refine Part.skip _ ?_ | exact Part.nil _ | exact Part.app _ _)), (by repeat (first | exact Part.refl _ | refine Part.pull (by repeat (first | exact Pull.here | apply Pull.there)) ?_ | refine Part.skip _ ?_ | exact Part.nil _ | exact Part.app _ _)), .inl ⟨_, walked_all hnd hlt hn0, hJq⟩⟩ (by repeat (first | exact Part.refl _ | refine Part.pull (by repeat (first | exact Pull.here | apply Pull.there)) ?_ | refine Part.skip _ ?_ | exact Part.nil _ | exact Part.app _ _)) (by repeat (first | exact Part.refl _ | refine Part.pull (by repeat (first | exact Pull.here | apply Pull.there)) ?_ | refine Part.skip _ ?_ | exact Part.nil _ | exact Part.app _ _))
      | exact endK_of ⟨L1, T1, (by repeat (first | exact Part.refl _ | refine Part.pull (by repeat (first | exact Pull.here | apply Pull.there)) ?_ | refine Part.skip _ ?_ | exact Part.nil _ | exact Part.app _ _)), (by repeat (first | exact Part.refl _ | refine Part.pull (by repeat (first | exact Pull.here | apply Pull.there)) ?_ | refine Part.skip _ ?_ | exact Part.nil _ | exact Part.app _ _)), .inr (hE2 (by simpa using hc13))⟩ (by repeat (first | exact Part.refl _ | refine Part.pull (by repeat (first | exact Pull.here | apply Pull.there)) ?_ | refine Part.skip _ ?_ | exact Part.nil _ | exact Part.app _ _)) (by repeat (first | exact Part.refl _ | refine Part.pull (by repeat (first | exact Pull.here | apply Pull.there)) ?_ | refine Part.skip _ ?_ | exact Part.nil _ | exact Part.app _ _))
    · intro j kv hj hjm
      refine ⟨_, (by repeat (first | exact Upd.here | apply Upd.there)), keptH_nil, ?_⟩
      rw [left_step]
      obtain ⟨dg, hdl, hdk⟩ := hk kv (List.mem_of_getElem? hj)
      obtain ⟨k1, kv2⟩ := kv
      simp only at hdk
      subst hdk
      have hjl := (mem_leftN.1 hjm)
      have hnd2 : (js ++ [j]).Nodup := List.nodup_append.2 ⟨hnd, by simp, fun a ha b hb => by simp at hb; subst hb; exact fun e => hjl.2 (e ▸ ha)⟩
      have hlt2 : ∀ i ∈ js ++ [j], i < es.length := fun i hi => (List.mem_append.1 hi).elim (hlt i) (fun h => by simp at h; subst h; exact hjl.1)
      have hl2 := walked_len hnd2 hlt2
      rw [List.length_append, List.length_singleton] at hl2
      have hkx : keyAt es j = [digV dg] := by simp [keyAt, hj]
      have hdec : es.length - (js ++ [j]).length < es.length - js.length := by rw [List.length_append, List.length_singleton]; omega
      refine HPlan.extract rfl rfl rfl rfl ?_
      refine HPlan.fin ?_
      refine onNorm_n ?_
      refine HWp.seq ?_
      refine HWp.cond_t rfl ?_
      refine HWp.skip ?_
      refine onNorm_n ?_
      refine HWp.block ?_
      refine HWp.seq ?_
      refine HWp.text (.act 0 [] (.rd 1 (.act 2 [] (.act 3 [] .done)))) rfl ?_
      refine HPlan.entryM rfl rfl rfl (by repeat (first | exact List.Mem.head _ | apply List.Mem.tail | assumption)) (by repeat (first | exact List.Mem.head _ | apply List.Mem.tail | assumption)) hj keptH_nil ?_
      refine HPlan.extract rfl rfl rfl rfl ?_
      refine HPlan.alloc rfl rfl q_zo_29 (by first | rfl | (simp; done)) (fun i3 => ⟨keptH_nil, ?_⟩)
      refine HPlan.store rfl rfl rfl rfl q_sz_29 (digV_solid dg) ((bytesLV_length dg).trans hdl) (by repeat (first | exact List.Mem.head _ | apply List.Mem.tail | assumption)) (splice_all _ (bytesLV dg) (by simp; exact hdl)) (by repeat (first | exact Upd.here | apply Upd.there)) (by simp) keptH_nil ?_
      refine HPlan.fin ?_
      refine onNorm_n ?_
      refine HWp.seq ?_
      refine HWp.text (.rd 0 (.rd 1 (.act 2 [] (.rd 3 .done)))) rfl ?_
      refine HPlan.move rfl rfl rfl ?_
      refine HPlan.load rfl rfl rfl q_sh_29 (by repeat (first | exact List.Mem.head _ | apply List.Mem.tail | assumption)) (by constructor <;> simp [hdl]) (load_all (bytesLV dg) 32 ((bytesLV_length dg).trans hdl)) ?_
      refine HPlan.callYU rfl rfl rfl rfl (hY (js.map (keyAt es)) [digV dg] Lx Tx [_, _] [] ⟨by rw [List.length_map]; omega, (digV dg, kv2), List.mem_of_getElem? hj, rfl⟩ hJq) (by repeat (first | exact Part.refl _ | refine Part.pull (by repeat (first | exact Pull.here | apply Pull.there)) ?_ | refine Part.skip _ ?_ | exact Part.nil _ | exact Part.app _ _)) (by repeat (first | exact Part.refl _ | refine Part.pull (by repeat (first | exact Pull.here | apply Pull.there)) ?_ | refine Part.skip _ ?_ | exact Part.nil _ | exact Part.app _ _)) ?_
      rintro r_R3_2 L_R3_2 T_R3_2 ⟨b, L1, T1, rfl, p1, p2, hJ2, hE2⟩
      refine ⟨_, _, p1, p2, keptH_nil, ?_⟩
      refine HPlan.not rfl rfl rfl rfl ?_
      refine HPlan.fin ?_
      refine onNorm_n ?_
      refine HWp.cond rfl ?_ ?_
      · intro hc13
        first
        | (exact absurd hc13 Bool.false_ne_true)
        | (exact absurd hc13.symm Bool.false_ne_true)
        | ((try simp only [decide_eq_true_eq, decide_eq_false_iff_not, Bool.not_eq_true', Bool.not_eq_false', Bool.not_true, Bool.not_false, beq_iff_eq, bne_iff_ne, bne_eq_false_iff_eq, ne_eq, beq_eq_false_iff_ne, Int.not_lt, Int.not_le] at hc13); exfalso; omega)
        | (try simp only [decide_eq_true_eq, decide_eq_false_iff_not, Bool.not_eq_true', Bool.not_eq_false', Bool.not_true, Bool.not_false, beq_iff_eq, bne_iff_ne, bne_eq_false_iff_eq, ne_eq, beq_eq_false_iff_ne, Int.not_lt, Int.not_le] at hc13)
          refine HWp.ret ?_
          refine onExitH_r ?_
          refine onNorm_r ?_
          refine onExitH_r ?_
          refine retQ_r .nil ?_
          first
          | exact endK_of ⟨Lx, Tx, (by repeat (first | exact Part.refl _ | refine Part.pull (by repeat (first | exact Pull.here | apply Pull.there)) ?_ | refine Part.skip _ ?_ | exact Part.nil _ | exact Part.app _ _)), (by repeat (first | exact Part.refl _ | refine Part.pull (by repeat (first | exact Pull.here | apply Pull.there)) ?_ | refine Part.skip _ ?_ | exact Part.nil _ | exact Part.app _ _)), .inl ⟨_, walked_all hnd hlt hn0, hJq⟩⟩ (by repeat (first | exact Part.refl _ | refine Part.pull (by repeat (first | exact Pull.here | apply Pull.there)) ?_ | refine Part.skip _ ?_ | exact Part.nil _ | exact Part.app _ _)) (by repeat (first | exact Part.refl _ | refine Part.pull (by repeat (first | exact Pull.here | apply Pull.there)) ?_ | refine Part.skip _ ?_ | exact Part.nil _ | exact Part.app _ _))
          | exact endK_of ⟨L1, T1, (by repeat (first | exact Part.refl _ | refine Part.pull (by repeat (first | exact Pull.here | apply Pull.there)) ?_ | refine Part.skip _ ?_ | exact Part.nil _ | exact Part.app _ _)), (by repeat (first | exact Part.refl _ | refine Part.pull (by repeat (first | exact Pull.here | apply Pull.there)) ?_ | refine Part.skip _ ?_ | exact Part.nil _ | exact Part.app _ _)), .inr (hE2 (by simpa using hc13))⟩ (by repeat (first | exact Part.refl _ | refine Part.pull (by repeat (first | exact Pull.here | apply Pull.there)) ?_ | refine Part.skip _ ?_ | exact Part.nil _ | exact Part.app _ _)) (by repeat (first | exact Part.refl _ | refine Part.pull (by repeat (first | exact Pull.here | apply Pull.there)) ?_ | refine Part.skip _ ?_ | exact Part.nil _ | exact Part.app _ _))
      · intro hc13
        first
        | (exact absurd hc13 Bool.false_ne_true)
        | (exact absurd hc13.symm Bool.false_ne_true)
        | ((try simp only [decide_eq_true_eq, decide_eq_false_iff_not, Bool.not_eq_true', Bool.not_eq_false', Bool.not_true, Bool.not_false, beq_iff_eq, bne_iff_ne, bne_eq_false_iff_eq, ne_eq, beq_eq_false_iff_ne, Int.not_lt, Int.not_le] at hc13); exfalso; omega)
        | (try simp only [decide_eq_true_eq, decide_eq_false_iff_not, Bool.not_eq_true', Bool.not_eq_false', Bool.not_true, Bool.not_false, beq_iff_eq, bne_iff_ne, bne_eq_false_iff_eq, ne_eq, beq_eq_false_iff_ne, Int.not_lt, Int.not_le] at hc13)
          refine HWp.skip ?_
          refine onExitH_n ?_
          refine onNorm_n ?_
          refine ⟨(js ++ [j], some j, v + 1, L1, T1), hdec, ⟨hnd2, hlt2, by simpa [hkx] using hJ2 (by simpa using hc13)⟩, (LessE.less (by repeat (first | exact LessE.nil | refine LessE.same rfl ?_ | refine LessE.own rfl ?_ | refine LessE.eq rfl ?_ (by first | rfl | (congr 1; omega) | simp))) rfl), (by repeat (first | exact Part.refl _ | refine Part.pull (by repeat (first | exact Pull.here | apply Pull.there)) ?_ | refine Part.skip _ ?_ | exact Part.nil _ | exact Part.app _ _)), (by repeat (first | exact Part.refl _ | refine Part.pull (by repeat (first | exact Pull.here | apply Pull.there)) ?_ | refine Part.skip _ ?_ | exact Part.nil _ | exact Part.app _ _))⟩
end Go.Proofs.Ythfoobfgdakbmaa

set_option linter.unusedVariables false
set_option linter.unusedSimpArgs false
set_option maxRecDepth 100000
namespace Go.Proofs.Ythfoobfgdakbmaa
open Go Go.RowKit Go.L
theorem q_f_29 : Try.prog.funcs[29]? = some Try.f29 := by kernel_rfl
theorem q_sh_46 : shapeOf Try.prog 46 = some (false, 1) := by kernel_rfl
theorem q_se_46 : sliceElem Try.prog 46 = some (29, 32) := by kernel_rfl
theorem q_zs_29 : (zeroOf Try.prog 29).isSome = true := by kernel_rfl
theorem q_el_46 : elemIn Try.prog 46 = some (29, 32, 32) := by kernel_rfl
theorem q_src_46 : srcTy Try.prog 46 = true := by kernel_rfl
theorem q_sz_46 : sizeOfT Try.prog 46 = some 1 := by kernel_rfl
theorem q_f_41 : Try.prog.funcs[41]? = some Try.f41 := by kernel_rfl

def DigS (ds : List (List UInt8)) : List (List LV) := ds.map fun d => [digV d]
theorem perm_two {α : Type} (a b : α) (A B : List α) : (a :: b :: (A ++ B)).Perm (B ++ (a :: b :: A)) := by
  have : (a :: b :: (A ++ B)) = (a :: b :: A) ++ B := rfl
  rw [this]; exact List.perm_append_comm
theorem perm_app3 {α : Type} (a b : α) (F Lv R : List α) : (a :: b :: (F ++ Lv ++ R)).Perm (Lv ++ (a :: b :: (F ++ R))) := by
  refine List.Perm.trans ?_ List.perm_append_comm
  refine ((List.Perm.cons _ (List.Perm.cons _ ?_)))
  show (F ++ Lv ++ R).Perm (F ++ R ++ Lv)
  rw [List.append_assoc, List.append_assoc]
  exact List.perm_append_comm.append_left F
theorem part_end {α : Type} (a b : α) (F F1 L0 lv : List α) : Part ((F1 ++ L0) ++ (b :: (F ++ lv))) (a :: b :: (F ++ (F1 ++ L0) ++ lv)) := by
  refine Part.skip _ (.of_perm ?_)
  refine List.Perm.trans ?_ List.perm_middle.symm
  refine List.Perm.cons _ ?_
  rw [show F1 ++ L0 ++ (F ++ lv) = (F1 ++ L0) ++ F ++ lv by simp]
  exact List.perm_append_comm.append_right _
theorem own_cells {k : Nat} {es : List LV} {v : LV} {Lv : Hp} (h : OwnSl k es v Lv) : v.cells = [v] := by cases h <;> rfl
theorem own_solid {k : Nat} {es : List LV} {v : LV} {Lv : Hp} (h : OwnSl k es v Lv) : v.solid = true := by cases h <;> rfl

theorem maps_keys (m : LV) (hm : m.solid = true) (F : Hp) (T : Tk) : HCalls Try.prog 29 [m] F T (fun r L' T' => ∃ mb, r = .fn (.func 36) [] [.ref mb 0] ∧ L' = (mb, .cells 53 m.cells 0) :: F ∧ T' = T) := by
  refine HCalls.enterG q_f_29 rfl ?_
  refine HWp.frame (r' := ⟨4, [(0, m)]⟩) rfl ?_
  refine HWp.seq ?_
  refine HWp.text (.act 0 [] (.rd 1 .done)) rfl ?_
  refine HPlan.box rfl rfl rfl hm (fun i1 => ⟨keptH_nil, ?_⟩)
  refine HPlan.assign rfl rfl rfl ?_
  refine HPlan.fin ?_
  refine onNorm_n ?_
  refine HWp.seq ?_
  refine HWp.text (.rd 0 (.rd 1 .done)) rfl ?_
  refine HPlan.makeFunc rfl rfl rfl rfl ?_
  refine HPlan.assign rfl rfl rfl ?_
  refine HPlan.fin ?_
  refine onNorm_n ?_
  refine HWp.ret ?_
  refine retQ_r (.tmp rfl .nil) ?_
  exact endK_of ⟨_, rfl, rfl, rfl⟩ (by repeat (first | exact Part.refl _ | refine Part.pull (by repeat (first | exact Pull.here | apply Pull.there)) ?_ | refine Part.skip _ ?_ | exact Part.nil _ | exact Part.app _ _)) (by repeat (first | exact Part.refl _ | refine Part.pull (by repeat (first | exact Pull.here | apply Pull.there)) ?_ | refine Part.skip _ ?_ | exact Part.nil _ | exact Part.app _ _))
theorem append_seq {f : FuncId} {first cap : List LV} {L0 : Hp} {S : List (List LV) → Prop} {Ok : List (List LV) → List LV → Prop} (hen : enterable Try.prog f = true) (it : IterOk Try.prog f first cap 1 L0 [] Ok S) (hok : ∀ pre x, Ok pre x → pre.length < 1048576 ∧ ∃ d : List UInt8, d.length = 32 ∧ x = [digV d]) (F : Hp) (T : Tk) : HCalls Try.prog 41 [.nils, .fn (.func f) first cap] (L0 ++ F) T (fun r L' T' => ∃ ds Lv, S (DigS ds) ∧ (∀ d ∈ ds, d.length = 32) ∧ OwnSl 32 (ds.map digV) r Lv ∧ L' = L0 ++ (F ++ Lv) ∧ T' = T) := by
  refine HCalls.enterG q_f_41 rfl ?_
  refine HWp.frame (r' := ⟨13, [(0, .nils), (1, .fn (.func f) first cap)]⟩) rfl ?_
  refine HWp.seq ?_
  refine HWp.text (.act 0 [] (.rd 1 .done)) rfl ?_
  refine HPlan.box rfl rfl rfl (by first | rfl | (simp; done)) (fun i2 => ⟨keptH_nil, ?_⟩)
  refine HPlan.assign rfl rfl rfl ?_
  refine HPlan.fin ?_
  refine onNorm_n ?_
  refine HWp.seq ?_
  refine HWp.seq ?_
  refine HWp.text (.rd 0 .done) rfl ?_
  refine HPlan.move rfl rfl rfl ?_
  refine HPlan.fin ?_
  refine onNorm_n ?_
  refine HWp.block ?_
  refine HWp.rangeFunc (L0 := L0) (T0 := []) (L1 := (i2, .cells 46 [.nils] 0) :: F) (T1 := T) (fun pre L1 T1 => ∃ ds v Lv bver, pre = DigS ds ∧ (∀ d ∈ ds, d.length = 32) ∧ OwnSl 32 (ds.map digV) v Lv ∧ L1 = (i2, .cells 46 [v] bver) :: (F ++ Lv) ∧ T = T1) (fun _ _ _ => False) (fun pre x r La Ta => ∃ d ds v Lv bver i5, d.length = 32 ∧ pre.length < 1048576 ∧ x = [digV d] ∧ pre = DigS ds ∧ (∀ d ∈ ds, d.length = 32) ∧ OwnSl 32 (ds.map digV) v Lv ∧ r = ⟨13, [(2, .ref i2 0), (5, .ref i5 0)]⟩ ∧ La = (i5, .cells 29 (bytesLV d) 1) :: (i2, .cells 46 [v] bver) :: (F ++ Lv) ∧ T = Ta) rfl hen rfl rfl it (.of_perm List.perm_middle.symm) (by repeat (first | exact Part.refl _ | refine Part.pull (by repeat (first | exact Pull.here | apply Pull.there)) ?_ | refine Part.skip _ ?_ | exact Part.nil _ | exact Part.app _ _)) ⟨[], .nils, [], 0, rfl, by simp, .nil rfl, by rw [List.append_nil], rfl⟩ ?_ ?_ ?_ ?_
  · rintro pre x L1 T1 F1 FT hokx ⟨ds, v, Lv, bver, rfl, h32, hown, rfl, rfl⟩
    obtain ⟨hpl, d, hd, rfl⟩ := hok _ _ hokx
    refine HWp.perm (perm_rot _ _ _) ?_
    simp only [List.cons_append]
    refine HWp.frame (r' := setR (some 7) (digV d) _) rfl ?_
    refine HWp.text (.act 0 [] (.act 1 [] .done)) rfl ?_
    refine HPlan.alloc rfl rfl q_zo_29 (by first | rfl | (simp; done)) (fun i5 => ⟨keptH_nil, ?_⟩)
    refine HPlan.store rfl rfl rfl rfl q_sz_29 (digV_solid d) ((bytesLV_length d).trans hd) (by repeat (first | exact List.Mem.head _ | apply List.Mem.tail | assumption)) (splice_all _ (bytesLV d) (by simp; exact hd)) (by repeat (first | exact Upd.here | apply Upd.there)) (by simp) keptH_nil ?_
    refine HPlan.fin ?_
    refine ⟨⟨13, [(2, .ref i2 0), (5, .ref i5 0)]⟩, (i5, .cells 29 (bytesLV d) 1) :: (i2, .cells 46 [v] bver) :: (F ++ Lv), T, (LessE.less (by repeat (first | exact LessE.nil | refine LessE.same rfl ?_ | refine LessE.own rfl ?_ | refine LessE.eq rfl ?_ (by first | rfl | (congr 1; omega) | simp))) rfl), (.of_perm (perm_two _ _ _ _)), (.of_perm (.of_eq (by simp))), ⟨d, ds, v, Lv, bver, i5, hd, hpl, rfl, rfl, h32, hown, rfl, rfl, rfl⟩⟩
  · rintro pre x r La Ta F1 FT hokx ⟨d, ds, v, Lv, bver, i5, hd, hpl, rfl, rfl, h32, hown, rfl, rfl, rfl⟩
    refine HWp.perm (perm_rot _ _ _) ?_
    simp only [List.cons_append]
    have hdl : (DigS ds).length = ds.length := by simp [DigS]
    rw [hdl] at hpl
    refine HWp.block ?_
    refine HWp.text (.rd 0 (.rd 1 (.act 2 [] (.act 3 [] (.act 4 [] .done))))) rfl ?_
    refine HPlan.load rfl rfl rfl q_sh_46 (by repeat (first | exact List.Mem.head _ | apply List.Mem.tail | assumption)) (by constructor <;> first | rfl | decide | omega | exact Nat.le_refl _ | (simp; done) | (simp; omega)) rfl ?_
    refine HPlan.load rfl rfl rfl q_sh_29 (by repeat (first | exact List.Mem.head _ | apply List.Mem.tail | assumption)) (by constructor <;> simp [hd]) (load_all (bytesLV d) 32 ((bytesLV_length d).trans hd)) ?_
    refine HPlan.buildSliceN rfl rfl q_se_46 q_zs_29 rfl (by decide) rfl rfl (rfl : _ = [digV d]) (allCells_cons (digV_solid d) ((bytesLV_length d).trans hd) allCells_nil) keptH_nil ?_
    refine HPlan.appendH rfl rfl rfl rfl q_el_46 q_src_46 hown (by first | exact IsSl.sl | exact IsSl.nils | assumption | exact growV_isSl (by assumption)) (by intro e he; simp at he; subst he; exact (bytesLV_length d).trans hd) (perm_app3 _ _ _ _ _) (solid_cons (digV_solid d) solid_nil) (by simp only [List.length_map, List.length_cons, List.length_nil]; omega) (by simp only [List.length_map, List.length_cons, List.length_nil]; omega) ?_
    intro v2 lv2 ho_v2
    refine ⟨keptH_nil, ?_⟩
    simp only [List.cons_append]
    refine HPlan.store rfl rfl rfl rfl q_sz_46 (own_solid ho_v2) (by rw [own_cells ho_v2]; rfl) (by repeat (first | exact List.Mem.head _ | apply List.Mem.tail | assumption)) (by rw [own_cells ho_v2]; rfl : _ = [v2]) (by repeat (first | exact Upd.here | apply Upd.there)) (by simp) keptH_nil ?_
    refine HPlan.fin ?_
    refine onExitH_n ?_
    refine ⟨(i2, .cells 46 [v2] (bver + 1)) :: (F ++ lv2), T, part_end _ _ _ _ _ _, .of_perm (.of_eq (by simp)), ⟨ds ++ [d], v2, lv2, bver + 1, by simp [DigS], fun x hx => (List.mem_append.1 hx).elim (h32 x) (fun h => by simp at h; subst h; exact hd), by rw [List.map_append]; exact ho_v2, rfl, rfl⟩⟩
  · rintro xs L1 T1 hS ⟨ds, v, Lv, bver, rfl, h32, hown, rfl, rfl⟩
    simp only [List.nil_append]
    refine onExitH_n ?_
    refine onNorm_n ?_
    refine HWp.seq ?_
    refine HWp.text (.rd 0 (.rd 1 .done)) rfl ?_
    refine HPlan.load rfl rfl rfl q_sh_46 (List.mem_append_right _ (List.Mem.head _)) (by constructor <;> first | rfl | decide | omega | exact Nat.le_refl _ | (simp; done) | (simp; omega)) rfl ?_
    refine HPlan.assign rfl rfl rfl ?_
    refine HPlan.fin ?_
    refine onNorm_n ?_
    refine HWp.ret ?_
    refine retQ_r (.tmp rfl .nil) ?_
    refine endK_of ⟨ds, Lv, hS, h32, hown, rfl, rfl⟩ ?_ (.refl _)
    exact ⟨[_], (List.perm_middle.trans (List.perm_append_comm (l₁ := [_])))⟩
  · rintro e c L T hj hE
    exact hE.elim
end Go.Proofs.Ythfoobfgdakbmaa

set_option linter.unusedVariables false
set_option linter.unusedSimpArgs false
set_option maxRecDepth 100000
namespace Go.Proofs.Ythfoobfgdakbmaa
open Go Go.RowKit Go.L
theorem q_en_41 : enterable Try.prog 41 = true := by kernel_rfl
theorem q_f_34 : Try.prog.funcs[34]? = some Try.f34 := by kernel_rfl

theorem keys_iter {mb m bver ver : Nat} {es : List (LV × LV)} (hk : ∀ p ∈ es, ∃ d : List UInt8, d.length = 32 ∧ p.1 = digV d) : IterOk Try.prog 36 [] [.ref mb 0] 1 [(mb, .cells 53 [.mp m] bver), (m, .map es ver)] [] (KeysP es) (KeysS es) :=
  ⟨fun pre x h => by obtain ⟨_, kv, _, rfl⟩ := h; rfl, fun l J E hY L T hJ => keys_next mb m bver ver l es hk J E hY L T hJ⟩
theorem keys_dig {N : Nat} {es : List (LV × LV)} (hk : ∀ p ∈ es, ∃ d : List UInt8, d.length = 32 ∧ p.1 = digV d) (hn : es.length ≤ N) {pre : List (List LV)} {x : List LV} (h : KeysP es pre x) : pre.length < N ∧ ∃ d : List UInt8, d.length = 32 ∧ x = [digV d] := by
  obtain ⟨h1, kv, h2, rfl⟩ := h
  obtain ⟨d, h3, h4⟩ := hk kv h2
  exact ⟨by omega, d, h3, by rw [h4]⟩

theorem collect {f : FuncId} {first cap : List LV} {L0 : Hp} {S : List (List LV) → Prop} {Ok : List (List LV) → List LV → Prop} (hen : enterable Try.prog f = true) (it : IterOk Try.prog f first cap 1 L0 [] Ok S) (hok : ∀ pre x, Ok pre x → pre.length < 1048576 ∧ ∃ d : List UInt8, d.length = 32 ∧ x = [digV d]) (F : Hp) (T : Tk) : HCalls Try.prog 34 [.fn (.func f) first cap] (L0 ++ F) T (fun r L' T' => ∃ ds Lv, S (DigS ds) ∧ (∀ d ∈ ds, d.length = 32) ∧ OwnSl 32 (ds.map digV) r Lv ∧ L' = L0 ++ (F ++ Lv) ∧ T' = T) := by
  refine HCalls.enterG q_f_34 rfl ?_
  refine HWp.frame (r' := ⟨5, [(0, .fn (.func f) first cap)]⟩) rfl ?_
  refine HWp.seq ?_
  refine HWp.text (.rd 0 .done) rfl ?_
  refine HPlan.assign rfl rfl rfl ?_
  refine HPlan.fin ?_
  refine onNorm_n ?_
  refine HWp.seq ?_
  refine HWp.text (.rd 0 (.act 1 [] (.rd 2 .done))) rfl ?_
  refine HPlan.move rfl rfl rfl ?_
  refine HPlan.callS rfl rfl rfl q_en_41 (append_seq hen it hok F T) (List.Perm.refl _) (List.Perm.refl _) ?_
  rintro r_R1_1 L_R1_1 T2 ⟨ds, Lv, hS, h32, hown, rfl, rfl⟩
  refine ⟨keptH_nil, ?_⟩
  refine HPlan.assign rfl rfl rfl ?_
  refine HPlan.fin ?_
  refine onNorm_n ?_
  refine HWp.ret ?_
  refine retQ_r (.tmp rfl .nil) ?_
  exact endK_of ⟨ds, Lv, hS, h32, hown, rfl, rfl⟩ (.refl _) (.refl _)
end Go.Proofs.Ythfoobfgdakbmaa

set_option linter.unusedVariables false
set_option linter.unusedSimpArgs false
set_option maxRecDepth 100000
namespace Go.Proofs.Ythfoobfgdakbmaa
open Go Go.RowKit Go.L
theorem q_f_37 : Try.prog.funcs[37]? = some Try.f37 := by kernel_rfl
theorem q_f_31 : Try.prog.funcs[31]? = some Try.f31 := by kernel_rfl
theorem q_at_29 : arrTy Try.prog 29 = some (32, 1) := by kernel_rfl
theorem q_en_31 : enterable Try.prog 31 = true := by kernel_rfl
theorem q_f_30 : Try.prog.funcs[30]? = some Try.f30 := by kernel_rfl

def cmpD (a b : List UInt8) : Int := Lib.compareBytes a b

theorem bytes_compare {L0 : Hp} {T0 : Tk} {x y : LV} {a b : List UInt8} (ha : IsBytes L0 x a) (hb : IsBytes L0 y b) : HCalls Try.prog 31 [x, y] L0 T0 (fun r L' T' => r = .int .i64 (cmpD a b) ∧ L' = L0 ∧ T' = T0) := by
  refine HCalls.enterG q_f_31 rfl ?_
  refine HWp.frame (r' := ⟨8, [(0, x), (1, y)]⟩) rfl ?_
  refine HWp.seq ?_
  refine HWp.text (.rd 0 .done) rfl ?_
  refine HPlan.assign rfl rfl rfl ?_
  refine HPlan.fin ?_
  refine onNorm_n ?_
  refine HWp.seq ?_
  refine HWp.text (.rd 0 (.rd 1 (.act 2 [] (.rd 3 .done)))) rfl ?_
  refine HPlan.move rfl rfl rfl ?_
  refine HPlan.move rfl rfl rfl ?_
  refine HPlan.compareX rfl rfl rfl rfl q_f_37 (by decide) rfl (by kernel_rfl) (by kernel_rfl) ha hb rfl keptH_nil ?_
  refine HPlan.assign rfl rfl rfl ?_
  refine HPlan.fin ?_
  refine onNorm_n ?_
  refine HWp.ret ?_
  refine retQ_r (.tmp rfl .nil) ?_
  exact endK_of ⟨rfl, rfl, rfl⟩ (by repeat (first | exact Part.refl _ | refine Part.pull (by repeat (first | exact Pull.here | apply Pull.there)) ?_ | refine Part.skip _ ?_ | exact Part.nil _ | exact Part.app _ _)) (by repeat (first | exact Part.refl _ | refine Part.pull (by repeat (first | exact Pull.here | apply Pull.there)) ?_ | refine Part.skip _ ?_ | exact Part.nil _ | exact Part.app _ _))
theorem all_cmp (a b : List UInt8) (ha : a.length = 32) (hb : b.length = 32) : HPure Try.prog 30 [digV a, digV b] (.int .i64 (cmpD a b)) := by
  intro L T
  refine HCalls.enterG q_f_30 rfl ?_
  refine HWp.frame (r' := ⟨8, [(0, digV a), (1, digV b)]⟩) rfl ?_
  refine HWp.seq ?_
  refine HWp.text (.act 0 [] (.act 1 [] (.rd 2 .done))) rfl ?_
  refine HPlan.box rfl rfl rfl (digV_solid a) (fun i2 => ⟨keptH_nil, ?_⟩)
  refine HPlan.box rfl rfl rfl (digV_solid b) (fun i3 => ⟨keptH_nil, ?_⟩)
  refine HPlan.assign rfl rfl rfl ?_
  refine HPlan.fin ?_
  refine onNorm_n ?_
  refine HWp.seq ?_
  refine HWp.draw q_mix (.rd 0 (.rd 1 (.act 2 [] (.rd 3 .done)))) (by kernel_rfl) ?_
  refine HPlan.sliceArr rfl rfl rfl rfl rfl q_at_29 (by omega) (by omega) (by omega) (by rfl : _ = LV.hs i2 0 32 32) ?_
  refine HPlan.sliceArr rfl rfl rfl rfl rfl q_at_29 (by omega) (by omega) (by omega) (by rfl : _ = LV.hs i3 0 32 32) ?_
  refine HPlan.callS rfl rfl rfl q_en_31 (bytes_compare (L0 := (i3, .cells 29 (bytesLV b) 0) :: (i2, .cells 29 (bytesLV a) 0) :: L) (T0 := T) (a := a) (b := b) (.hs (List.Mem.tail _ (List.Mem.head _)) ha (fun j b h => by rw [Nat.zero_add, bytesLV_get, h]; rfl)) (.hs (List.Mem.head _) hb (fun j b h => by rw [Nat.zero_add, bytesLV_get, h]; rfl))) (List.Perm.refl _) (List.Perm.refl _) ?_
  rintro r_R1_2 L_R1_2 T1 ⟨rfl, rfl, rfl⟩
  refine ⟨keptH_nil, ?_⟩
  refine HPlan.assign rfl rfl rfl ?_
  refine HPlan.fin ?_
  refine onNorm_n ?_
  refine HWp.ret ?_
  refine retQ_r (.tmp rfl .nil) ?_
  exact endK_of ⟨rfl, rfl, rfl⟩ (by repeat (first | exact Part.refl _ | refine Part.pull (by repeat (first | exact Pull.here | apply Pull.there)) ?_ | refine Part.skip _ ?_ | exact Part.nil _ | exact Part.app _ _)) (by repeat (first | exact Part.refl _ | refine Part.pull (by repeat (first | exact Pull.here | apply Pull.there)) ?_ | refine Part.skip _ ?_ | exact Part.nil _ | exact Part.app _ _))
end Go.Proofs.Ythfoobfgdakbmaa

set_option linter.unusedVariables false
set_option linter.unusedSimpArgs false
set_option maxRecDepth 100000
namespace Go.Proofs.Ythfoobfgdakbmaa
open Go Go.RowKit Go.L


/-! ### sha, reckoned -/
def forceN {α : Type} (n : Nat) (k : Nat → α) : α := Nat.rec (k 0) (fun m _ => k (m + 1)) n
theorem forceN_eq {α : Type} (n : Nat) (k : Nat → α) : forceN n k = k n := by cases n <;> rfl
def forceI {α : Type} (x : Int) (k : Int → α) : α := match x with
  | .ofNat n => forceN n fun n => k (.ofNat n)
  | .negSucc n => forceN n fun n => k (.negSucc n)
theorem forceI_eq {α : Type} (x : Int) (k : Int → α) : forceI x k = k x := by cases x <;> simp [forceI, forceN_eq]
def forceL {α : Type} : List Int → (List Int → α) → α
  | [], k => k []
  | x :: r, k => forceI x fun x => forceL r fun r => k (x :: r)
theorem forceL_eq {α : Type} : ∀ (l : List Int) (k : List Int → α), forceL l k = k l
  | [], k => rfl
  | x :: r, k => by simp [forceL, forceI_eq, forceL_eq r]
/-- A row that is written step by step. -/
def iterL (f : List Int → Nat → List Int) : Nat → Nat → List Int → List Int
  | 0, _, s => s
  | n + 1, i, s => forceL (f s i) fun s => iterL f n (i + 1) s
def stepsL (f : List Int → Nat → List Int) (s : List Int) : Nat → List Int
  | 0 => s
  | n + 1 => f (stepsL f s n) n
theorem iterL_eq (f : List Int → Nat → List Int) : ∀ (n i : Nat) (s t : List Int), stepsL f s i = t → iterL f n i t = stepsL f s (i + n)
  | 0, i, s, t, h => by rw [← h]; rfl
  | n + 1, i, s, t, h => by
    simp only [iterL, forceL_eq]
    rw [iterL_eq f n (i + 1) s (f t i) (by simp [stepsL, h])]
    congr 1; omega
theorem w1_steps (l : List UInt8) : ∀ n, w1 l n = stepsL (fun w k => w.set (k / 4) (bitI .or .u32 (IntKind.u32.wrap (w.getD (k / 4) 0 * 2 ^ min (8 : Int).toNat 32)) (IntKind.u32.wrap ((l.getD k 0).toNat : Int)))) (List.replicate 64 0) n
  | 0 => rfl
  | n + 1 => by simp only [w1, stepsL, w1_steps l n]
theorem w2_steps (w : List Int) : ∀ n, w2 w n = stepsL (fun w k => w.set (16 + k) (IntKind.u32.wrap (IntKind.u32.wrap (IntKind.u32.wrap (w.getD k 0 + sg (w.getD (1 + k) 0) 7 18 3) + w.getD (9 + k) 0) + sg (w.getD (14 + k) 0) 17 19 10))) w n
  | 0 => rfl
  | n + 1 => by simp only [w2, stepsL, w2_steps w n]
theorem rounds_steps (ws s : List Int) : ∀ n, rounds ws s n = stepsL (fun s n => roundF s (kList.getD n 0) (ws.getD n 0)) s n
  | 0 => rfl
  | n + 1 => by simp only [rounds, stepsL, rounds_steps ws s n]
theorem addN_steps (s t : List Int) : ∀ n, addN s t n = stepsL (fun u n => u.set n (addW (u.getD n 0) (t.getD n 0))) s n
  | 0 => rfl
  | n + 1 => by simp only [addN, stepsL, addN_steps s t n]
/-- A block, reckoned. -/
def takeS (s : List Int) (l : List UInt8) : List Int :=
  forceL (iterL (fun w k => w.set (k / 4) (bitI .or .u32 (IntKind.u32.wrap (w.getD (k / 4) 0 * 2 ^ min (8 : Int).toNat 32)) (IntKind.u32.wrap ((l.getD k 0).toNat : Int)))) 64 0 (List.replicate 64 0)) fun a =>
  forceL (iterL (fun w k => w.set (16 + k) (IntKind.u32.wrap (IntKind.u32.wrap (IntKind.u32.wrap (w.getD k 0 + sg (w.getD (1 + k) 0) 7 18 3) + w.getD (9 + k) 0) + sg (w.getD (14 + k) 0) 17 19 10))) 48 0 a) fun ws =>
  forceL (iterL (fun s n => roundF s (kList.getD n 0) (ws.getD n 0)) 64 0 s) fun t =>
  forceL (iterL (fun u n => u.set n (addW (u.getD n 0) (t.getD n 0))) 8 0 s) fun r => r
theorem iter0 (f : List Int → Nat → List Int) (n : Nat) (s : List Int) : iterL f n 0 s = stepsL f s n := by rw [iterL_eq f n 0 s s rfl, Nat.zero_add]
theorem takeS_eq (s : List Int) (l : List UInt8) : takeS s l = takeF s l := by
  simp only [takeS, forceL_eq, iter0]
  rw [takeF, spreadF, addN_steps, rounds_steps, w2_steps, w1_steps]
def absorbS (all : List UInt8) : Nat → Nat → List Int → List Int
  | 0, _, s => s
  | n + 1, i, s => forceL (takeS s ((all.drop (64 * i)).take 64)) fun s => absorbS all n (i + 1) s
theorem absorbS_eq (all : List UInt8) : ∀ (n i : Nat) (s t : List Int), absorb s all i = t → absorbS all n i t = absorb s all (i + n)
  | 0, i, s, t, h => by rw [← h]; rfl
  | n + 1, i, s, t, h => by
    simp only [absorbS, forceL_eq, takeS_eq]
    rw [absorbS_eq all n (i + 1) s _ (by simp [absorb, h])]
    congr 1; omega
def hashS {α : Type} : List ByteArray → List Int × List UInt8 × Int → (List Int × List UInt8 × Int → α) → α
  | [], h, k => k h
  | s :: r, h, k => forceL (absorbS (h.2.1 ++ s.toList) ((h.2.1 ++ s.toList).length / 64) 0 h.1) fun st =>
    hashS r (st, (h.2.1 ++ s.toList).drop (64 * ((h.2.1 ++ s.toList).length / 64)), IntKind.u64.wrap (h.2.2 + IntKind.u64.wrap s.size)) k
theorem absorb0 (all : List UInt8) (n : Nat) (s : List Int) : absorbS all n 0 s = absorb s all n := by rw [absorbS_eq all n 0 s s rfl, Nat.zero_add]
theorem hashS_eq {α : Type} : ∀ (parts : List ByteArray) (h : List Int × List UInt8 × Int) (k : List Int × List UInt8 × Int → α), hashS parts h k = k (parts.foldl addS h)
  | [], h, k => rfl
  | s :: r, h, k => by simp only [hashS, forceL_eq, absorb0, List.foldl_cons]; rw [hashS_eq r]; rfl
theorem hashN_fold (parts : List ByteArray) : ∀ n, n ≤ parts.length → hashN parts n = (parts.take n).foldl addS (h0List, [], 0)
  | 0, _ => rfl
  | n + 1, h => by
    rw [List.take_add_one, List.getElem?_eq_getElem (by omega), Option.toList_some, List.foldl_append, ← hashN_fold parts n (by omega)]
    simp [hashN, List.getD_eq_getElem?_getD, List.getElem?_eq_getElem (show n < parts.length by omega)]
def shaS (parts : List ByteArray) : List UInt8 := hashS parts (h0List, [], 0) fun h => forceL (absorbS (padded h.2.1 h.2.2) ((padded h.2.1 h.2.2).length / 64) 0 h.1) fun st => outN st 32
theorem shaS_eq (parts : List ByteArray) : shaS parts = shaF parts := by
  simp only [shaS, hashS_eq, forceL_eq, absorb0]
  have := hashN_fold parts parts.length (Nat.le_refl _)
  rw [List.take_length] at this
  rw [← this]; rfl
def txt (l : List UInt8) : ByteArray := ⟨l.toArray⟩
theorem sha_a : shaF [txt [97]] = [202, 151, 129, 18, 202, 27, 189, 202, 250, 194, 49, 179, 154, 35, 220, 77, 167, 134, 239, 248, 20, 124, 78, 114, 185, 128, 119, 133, 175, 238, 72, 187] := by rw [← shaS_eq]; kernel_rfl
theorem sha_b : shaF [txt [98]] = [62, 35, 232, 22, 0, 57, 89, 74, 51, 137, 79, 101, 100, 225, 177, 52, 139, 189, 122, 0, 136, 212, 44, 74, 203, 115, 238, 174, 213, 156, 0, 157] := by rw [← shaS_eq]; kernel_rfl
theorem sha_ab : shaF [txt [97]] ≠ shaF [txt [98]] := by rw [sha_a, sha_b]; decide

end Go.Proofs.Ythfoobfgdakbmaa
