/- WHAT THE WALKS STAND ON, part of a proof: B1 B2 B3 B4. No condition beyond what each theorem states. -/
import Derived.Test.YthfoobfgdakbmaaProg
import Derived.Test.YthfoobfgdakbmaaLib2
import Derived.Test.YthfoobfgdakbmaaLib3
set_option linter.unusedVariables false
set_option linter.unusedSimpArgs false
set_option maxRecDepth 100000
namespace Go.Proofs.Ythfoobfgdakbmaa
open Go Go.RowKit Go.L
theorem q_us_3 : (Try.prog.underlying 3).isSome = true := by kernel_rfl
theorem q_it_85 : intTy Try.prog 85 = some .u64 := by kernel_rfl
theorem q_f_44 : Try.prog.funcs[44]? = some Try.f44 := by kernel_rfl
theorem q_en_44 : enterable Try.prog 44 = true := by kernel_rfl
theorem q_f_40 : Try.prog.funcs[40]? = some Try.f40 := by kernel_rfl
theorem q_zo_78 : zeroOf Try.prog 78 = some (LV.agg (List.replicate 64 (LV.int .u32 0))) := by kernel_rfl
theorem q_pl_78 : placesOf Try.prog 78 = some (fun i => some (i * 1, 1)) := by kernel_rfl
theorem q_sz_78 : sizeOfT Try.prog 78 = some 64 := by kernel_rfl
theorem q_sh_78 : shapeOf Try.prog 78 = some (true, 64) := by kernel_rfl
theorem q_f_38 : Try.prog.funcs[38]? = some Try.f38 := by kernel_rfl
theorem q_zo_69 : zeroOf Try.prog 69 = some (LV.agg (List.replicate 8 (LV.int .u32 0))) := by kernel_rfl
theorem q_pl_69 : placesOf Try.prog 69 = some (fun i => some (i * 1, 1)) := by kernel_rfl
theorem q_sz_69 : sizeOfT Try.prog 69 = some 8 := by kernel_rfl
theorem q_sh_69 : shapeOf Try.prog 69 = some (true, 8) := by kernel_rfl
theorem q_f_32 : Try.prog.funcs[32]? = some Try.f32 := by kernel_rfl

theorem wrap_nonneg {k : IntKind} (h : k.signed = false) (n : Int) : 0 ≤ k.wrap n := by
  simp only [IntKind.wrap, h, Bool.false_and, Bool.false_eq_true, if_false]
  exact Int.emod_nonneg _ (by have : (0 : Int) < 2 ^ k.bits := Int.pow_pos (by decide); omega)
def rotS (k : Int) : Int := bitI .and .u64 (IntKind.u64.wrap k) 31
def rotF (x k : Int) : Int := bitI .or .u32 (IntKind.u32.wrap (x * 2 ^ min (rotS k).toNat 32)) (x.fdiv (2 ^ min (IntKind.u64.wrap (32 - rotS k)).toNat 32))
theorem rotS_nonneg (k : Int) : 0 ≤ rotS k := by
  unfold rotS bitI
  exact wrap_nonneg rfl _

theorem rot_spec (x k : Int) : HPure Try.prog 44 [.int .u32 x, .int .i64 k] (.int .u32 (rotF x k)) := by
  intro L T
  refine HCalls.enterG q_f_44 rfl ?_
  refine HWp.frame (r' := ⟨17, [(0, .int .u32 x), (1, .int .i64 k)]⟩) rfl ?_
  refine HWp.seq ?_
  refine HWp.text (.rd 0 .done) rfl ?_
  refine HPlan.assign rfl rfl rfl ?_
  refine HPlan.fin ?_
  refine onNorm_n ?_
  refine HWp.seq ?_
  refine HWp.text (.rd 0 (.rd 1 (.rd 2 (.rd 3 .done)))) rfl ?_
  refine HPlan.move rfl rfl rfl ?_
  refine HPlan.intConv rfl rfl rfl q_us_3 q_it_85 rfl ?_
  refine HPlan.intBin rfl rfl rfl rfl rfl rfl ?_
  refine HPlan.assign rfl rfl rfl ?_
  refine HPlan.fin ?_
  refine onNorm_n ?_
  refine HWp.seq ?_
  refine HWp.text (.rd 0 (.rd 1 (.rd 2 (.rd 3 (.rd 4 (.rd 5 (.rd 6 (.rd 7 (.rd 8 .done))))))))) rfl ?_
  refine HPlan.move rfl rfl rfl ?_
  refine HPlan.move rfl rfl rfl ?_
  refine HPlan.intBin rfl rfl rfl rfl (rotS_nonneg k) rfl ?_
  refine HPlan.move rfl rfl rfl ?_
  refine HPlan.move rfl rfl rfl ?_
  refine HPlan.intBin rfl rfl rfl rfl rfl (by first | exact sub_i64 (by omega) (by omega) | rfl) ?_
  refine HPlan.intBin rfl rfl rfl rfl (wrap_nonneg rfl _) rfl ?_
  refine HPlan.intBin rfl rfl rfl rfl rfl rfl ?_
  refine HPlan.assign rfl rfl rfl ?_
  refine HPlan.fin ?_
  refine onNorm_n ?_
  refine HWp.ret ?_
  refine retQ_r (.tmp rfl .nil) ?_
  exact endK_of ⟨rfl, rfl, rfl⟩ (by repeat (first | exact Part.refl _ | refine Part.pull (by repeat (first | exact Pull.here | apply Pull.there)) ?_ | refine Part.skip _ ?_ | exact Part.nil _ | exact Part.app _ _)) (by repeat (first | exact Part.refl _ | refine Part.pull (by repeat (first | exact Pull.here | apply Pull.there)) ?_ | refine Part.skip _ ?_ | exact Part.nil _ | exact Part.app _ _))

def turnF (x n : Int) : Int := rotF x (IntKind.i64.wrap (32 - n))

theorem turn_spec (x k : Int) : HPure Try.prog 40 [.int .u32 x, .int .i64 k] (.int .u32 (turnF x k)) := by
  intro L T
  refine HCalls.enterG q_f_40 rfl ?_
  refine HWp.frame (r' := ⟨9, [(0, .int .u32 x), (1, .int .i64 k)]⟩) rfl ?_
  refine HWp.seq ?_
  refine HWp.text (.rd 0 .done) rfl ?_
  refine HPlan.assign rfl rfl rfl ?_
  refine HPlan.fin ?_
  refine onNorm_n ?_
  refine HWp.seq ?_
  refine HWp.text (.rd 0 (.rd 1 (.rd 2 (.act 3 [] (.rd 4 .done))))) rfl ?_
  refine HPlan.move rfl rfl rfl ?_
  refine HPlan.move rfl rfl rfl ?_
  refine HPlan.intBin rfl rfl rfl rfl rfl rfl ?_
  refine HPlan.callPure rfl rfl rfl q_en_44 (rot_spec _ _) keptH_nil ?_
  refine HPlan.assign rfl rfl rfl ?_
  refine HPlan.fin ?_
  refine onNorm_n ?_
  refine HWp.ret ?_
  refine retQ_r (.tmp rfl .nil) ?_
  exact endK_of ⟨rfl, rfl, rfl⟩ (by repeat (first | exact Part.refl _ | refine Part.pull (by repeat (first | exact Pull.here | apply Pull.there)) ?_ | refine Part.skip _ ?_ | exact Part.nil _ | exact Part.app _ _)) (by repeat (first | exact Part.refl _ | refine Part.pull (by repeat (first | exact Pull.here | apply Pull.there)) ?_ | refine Part.skip _ ?_ | exact Part.nil _ | exact Part.app _ _))

def kList : List Int := [1116352408, 1899447441, 3049323471, 3921009573, 961987163, 1508970993, 2453635748, 2870763221, 3624381080, 310598401, 607225278, 1426881987, 1925078388, 2162078206, 2614888103, 3248222580, 3835390401, 4022224774, 264347078, 604807628, 770255983, 1249150122, 1555081692, 1996064986, 2554220882, 2821834349, 2952996808, 3210313671, 3336571891, 3584528711, 113926993, 338241895, 666307205, 773529912, 1294757372, 1396182291, 1695183700, 1986661051, 2177026350, 2456956037, 2730485921, 2820302411, 3259730800, 3345764771, 3516065817, 3600352804, 4094571909, 275423344, 430227734, 506948616, 659060556, 883997877, 958139571, 1322822218, 1537002063, 1747873779, 1955562222, 2024104815, 2227730452, 2361852424, 2428436474, 2756734187, 3204031479, 3329325298]
def words (l : List Int) : List LV := l.map (LV.int .u32)
def h0List : List Int := [1779033703, 3144134277, 1013904242, 2773480762, 1359893119, 2600822924, 528734635, 1541459225]
@[simp] theorem agg_cells (cs : List LV) : (LV.agg cs).cells = cs := rfl
theorem splice_all (a b : List LV) (h : b.length = a.length) : splice a 0 b = b := by simp [splice, h]
@[simp] theorem words_solid (l : List Int) : (LV.agg (words l)).solid = true := by simp [LV.solid, LV.cells, words, LV.one]
@[simp] theorem words_length (l : List Int) : (words l).length = l.length := by simp [words]

theorem const_spec  : HPure Try.prog 38 [] (.agg (words kList)) := by
  intro L T
  refine HCalls.enterG q_f_38 rfl ?_
  refine HWp.frame (r' := ⟨2, []⟩) rfl ?_
  refine HWp.seq ?_
  refine HWp.text (.act 0 [] .done) rfl ?_
  refine HPlan.alloc rfl rfl q_zo_78 (by first | rfl | (simp; done)) (fun i0 => ⟨keptH_nil, ?_⟩)
  refine HPlan.fin ?_
  refine onNorm_n ?_
  refine HWp.seq ?_
  refine HWp.text (.rd 0 (.act 1 [] .done)) rfl ?_
  refine HPlan.build rfl rfl rfl q_zo_78 (by first | rfl | (simp; done)) q_pl_78 (fillOk_cons rfl (by first | rfl | (simp; done)) (by first | rfl | decide | omega | (simp; done) | (simp; omega)) (by first | rfl | decide | omega | (simp; done) | (simp; omega)) (fillOk_cons rfl (by first | rfl | (simp; done)) (by first | rfl | decide | omega | (simp; done) | (simp; omega)) (by first | rfl | decide | omega | (simp; done) | (simp; omega)) (fillOk_cons rfl (by first | rfl | (simp; done)) (by first | rfl | decide | omega | (simp; done) | (simp; omega)) (by first | rfl | decide | omega | (simp; done) | (simp; omega)) (fillOk_cons rfl (by first | rfl | (simp; done)) (by first | rfl | decide | omega | (simp; done) | (simp; omega)) (by first | rfl | decide | omega | (simp; done) | (simp; omega)) (fillOk_cons rfl (by first | rfl | (simp; done)) (by first | rfl | decide | omega | (simp; done) | (simp; omega)) (by first | rfl | decide | omega | (simp; done) | (simp; omega)) (fillOk_cons rfl (by first | rfl | (simp; done)) (by first | rfl | decide | omega | (simp; done) | (simp; omega)) (by first | rfl | decide | omega | (simp; done) | (simp; omega)) (fillOk_cons rfl (by first | rfl | (simp; done)) (by first | rfl | decide | omega | (simp; done) | (simp; omega)) (by first | rfl | decide | omega | (simp; done) | (simp; omega)) (fillOk_cons rfl (by first | rfl | (simp; done)) (by first | rfl | decide | omega | (simp; done) | (simp; omega)) (by first | rfl | decide | omega | (simp; done) | (simp; omega)) (fillOk_cons rfl (by first | rfl | (simp; done)) (by first | rfl | decide | omega | (simp; done) | (simp; omega)) (by first | rfl | decide | omega | (simp; done) | (simp; omega)) (fillOk_cons rfl (by first | rfl | (simp; done)) (by first | rfl | decide | omega | (simp; done) | (simp; omega)) (by first | rfl | decide | omega | (simp; done) | (simp; omega)) (fillOk_cons rfl (by first | rfl | (simp; done)) (by first | rfl | decide | omega | (simp; done) | (simp; omega)) (by first | rfl | decide | omega | (simp; done) | (simp; omega)) (fillOk_cons rfl (by first | rfl | (simp; done)) (by first | rfl | decide | omega | (simp; done) | (simp; omega)) (by first | rfl | decide | omega | (simp; done) | (simp; omega)) (fillOk_cons rfl (by first | rfl | (simp; done)) (by first | rfl | decide | omega | (simp; done) | (simp; omega)) (by first | rfl | decide | omega | (simp; done) | (simp; omega)) (fillOk_cons rfl (by first | rfl | (simp; done)) (by first | rfl | decide | omega | (simp; done) | (simp; omega)) (by first | rfl | decide | omega | (simp; done) | (simp; omega)) (fillOk_cons rfl (by first | rfl | (simp; done)) (by first | rfl | decide | omega | (simp; done) | (simp; omega)) (by first | rfl | decide | omega | (simp; done) | (simp; omega)) (fillOk_cons rfl (by first | rfl | (simp; done)) (by first | rfl | decide | omega | (simp; done) | (simp; omega)) (by first | rfl | decide | omega | (simp; done) | (simp; omega)) (fillOk_cons rfl (by first | rfl | (simp; done)) (by first | rfl | decide | omega | (simp; done) | (simp; omega)) (by first | rfl | decide | omega | (simp; done) | (simp; omega)) (fillOk_cons rfl (by first | rfl | (simp; done)) (by first | rfl | decide | omega | (simp; done) | (simp; omega)) (by first | rfl | decide | omega | (simp; done) | (simp; omega)) (fillOk_cons rfl (by first | rfl | (simp; done)) (by first | rfl | decide | omega | (simp; done) | (simp; omega)) (by first | rfl | decide | omega | (simp; done) | (simp; omega)) (fillOk_cons rfl (by first | rfl | (simp; done)) (by first | rfl | decide | omega | (simp; done) | (simp; omega)) (by first | rfl | decide | omega | (simp; done) | (simp; omega)) (fillOk_cons rfl (by first | rfl | (simp; done)) (by first | rfl | decide | omega | (simp; done) | (simp; omega)) (by first | rfl | decide | omega | (simp; done) | (simp; omega)) (fillOk_cons rfl (by first | rfl | (simp; done)) (by first | rfl | decide | omega | (simp; done) | (simp; omega)) (by first | rfl | decide | omega | (simp; done) | (simp; omega)) (fillOk_cons rfl (by first | rfl | (simp; done)) (by first | rfl | decide | omega | (simp; done) | (simp; omega)) (by first | rfl | decide | omega | (simp; done) | (simp; omega)) (fillOk_cons rfl (by first | rfl | (simp; done)) (by first | rfl | decide | omega | (simp; done) | (simp; omega)) (by first | rfl | decide | omega | (simp; done) | (simp; omega)) (fillOk_cons rfl (by first | rfl | (simp; done)) (by first | rfl | decide | omega | (simp; done) | (simp; omega)) (by first | rfl | decide | omega | (simp; done) | (simp; omega)) (fillOk_cons rfl (by first | rfl | (simp; done)) (by first | rfl | decide | omega | (simp; done) | (simp; omega)) (by first | rfl | decide | omega | (simp; done) | (simp; omega)) (fillOk_cons rfl (by first | rfl | (simp; done)) (by first | rfl | decide | omega | (simp; done) | (simp; omega)) (by first | rfl | decide | omega | (simp; done) | (simp; omega)) (fillOk_cons rfl (by first | rfl | (simp; done)) (by first | rfl | decide | omega | (simp; done) | (simp; omega)) (by first | rfl | decide | omega | (simp; done) | (simp; omega)) (fillOk_cons rfl (by first | rfl | (simp; done)) (by first | rfl | decide | omega | (simp; done) | (simp; omega)) (by first | rfl | decide | omega | (simp; done) | (simp; omega)) (fillOk_cons rfl (by first | rfl | (simp; done)) (by first | rfl | decide | omega | (simp; done) | (simp; omega)) (by first | rfl | decide | omega | (simp; done) | (simp; omega)) (fillOk_cons rfl (by first | rfl | (simp; done)) (by first | rfl | decide | omega | (simp; done) | (simp; omega)) (by first | rfl | decide | omega | (simp; done) | (simp; omega)) (fillOk_cons rfl (by first | rfl | (simp; done)) (by first | rfl | decide | omega | (simp; done) | (simp; omega)) (by first | rfl | decide | omega | (simp; done) | (simp; omega)) (fillOk_cons rfl (by first | rfl | (simp; done)) (by first | rfl | decide | omega | (simp; done) | (simp; omega)) (by first | rfl | decide | omega | (simp; done) | (simp; omega)) (fillOk_cons rfl (by first | rfl | (simp; done)) (by first | rfl | decide | omega | (simp; done) | (simp; omega)) (by first | rfl | decide | omega | (simp; done) | (simp; omega)) (fillOk_cons rfl (by first | rfl | (simp; done)) (by first | rfl | decide | omega | (simp; done) | (simp; omega)) (by first | rfl | decide | omega | (simp; done) | (simp; omega)) (fillOk_cons rfl (by first | rfl | (simp; done)) (by first | rfl | decide | omega | (simp; done) | (simp; omega)) (by first | rfl | decide | omega | (simp; done) | (simp; omega)) (fillOk_cons rfl (by first | rfl | (simp; done)) (by first | rfl | decide | omega | (simp; done) | (simp; omega)) (by first | rfl | decide | omega | (simp; done) | (simp; omega)) (fillOk_cons rfl (by first | rfl | (simp; done)) (by first | rfl | decide | omega | (simp; done) | (simp; omega)) (by first | rfl | decide | omega | (simp; done) | (simp; omega)) (fillOk_cons rfl (by first | rfl | (simp; done)) (by first | rfl | decide | omega | (simp; done) | (simp; omega)) (by first | rfl | decide | omega | (simp; done) | (simp; omega)) (fillOk_cons rfl (by first | rfl | (simp; done)) (by first | rfl | decide | omega | (simp; done) | (simp; omega)) (by first | rfl | decide | omega | (simp; done) | (simp; omega)) (fillOk_cons rfl (by first | rfl | (simp; done)) (by first | rfl | decide | omega | (simp; done) | (simp; omega)) (by first | rfl | decide | omega | (simp; done) | (simp; omega)) (fillOk_cons rfl (by first | rfl | (simp; done)) (by first | rfl | decide | omega | (simp; done) | (simp; omega)) (by first | rfl | decide | omega | (simp; done) | (simp; omega)) (fillOk_cons rfl (by first | rfl | (simp; done)) (by first | rfl | decide | omega | (simp; done) | (simp; omega)) (by first | rfl | decide | omega | (simp; done) | (simp; omega)) (fillOk_cons rfl (by first | rfl | (simp; done)) (by first | rfl | decide | omega | (simp; done) | (simp; omega)) (by first | rfl | decide | omega | (simp; done) | (simp; omega)) (fillOk_cons rfl (by first | rfl | (simp; done)) (by first | rfl | decide | omega | (simp; done) | (simp; omega)) (by first | rfl | decide | omega | (simp; done) | (simp; omega)) (fillOk_cons rfl (by first | rfl | (simp; done)) (by first | rfl | decide | omega | (simp; done) | (simp; omega)) (by first | rfl | decide | omega | (simp; done) | (simp; omega)) (fillOk_cons rfl (by first | rfl | (simp; done)) (by first | rfl | decide | omega | (simp; done) | (simp; omega)) (by first | rfl | decide | omega | (simp; done) | (simp; omega)) (fillOk_cons rfl (by first | rfl | (simp; done)) (by first | rfl | decide | omega | (simp; done) | (simp; omega)) (by first | rfl | decide | omega | (simp; done) | (simp; omega)) (fillOk_cons rfl (by first | rfl | (simp; done)) (by first | rfl | decide | omega | (simp; done) | (simp; omega)) (by first | rfl | decide | omega | (simp; done) | (simp; omega)) (fillOk_cons rfl (by first | rfl | (simp; done)) (by first | rfl | decide | omega | (simp; done) | (simp; omega)) (by first | rfl | decide | omega | (simp; done) | (simp; omega)) (fillOk_cons rfl (by first | rfl | (simp; done)) (by first | rfl | decide | omega | (simp; done) | (simp; omega)) (by first | rfl | decide | omega | (simp; done) | (simp; omega)) (fillOk_cons rfl (by first | rfl | (simp; done)) (by first | rfl | decide | omega | (simp; done) | (simp; omega)) (by first | rfl | decide | omega | (simp; done) | (simp; omega)) (fillOk_cons rfl (by first | rfl | (simp; done)) (by first | rfl | decide | omega | (simp; done) | (simp; omega)) (by first | rfl | decide | omega | (simp; done) | (simp; omega)) (fillOk_cons rfl (by first | rfl | (simp; done)) (by first | rfl | decide | omega | (simp; done) | (simp; omega)) (by first | rfl | decide | omega | (simp; done) | (simp; omega)) (fillOk_cons rfl (by first | rfl | (simp; done)) (by first | rfl | decide | omega | (simp; done) | (simp; omega)) (by first | rfl | decide | omega | (simp; done) | (simp; omega)) (fillOk_cons rfl (by first | rfl | (simp; done)) (by first | rfl | decide | omega | (simp; done) | (simp; omega)) (by first | rfl | decide | omega | (simp; done) | (simp; omega)) (fillOk_cons rfl (by first | rfl | (simp; done)) (by first | rfl | decide | omega | (simp; done) | (simp; omega)) (by first | rfl | decide | omega | (simp; done) | (simp; omega)) (fillOk_cons rfl (by first | rfl | (simp; done)) (by first | rfl | decide | omega | (simp; done) | (simp; omega)) (by first | rfl | decide | omega | (simp; done) | (simp; omega)) (fillOk_cons rfl (by first | rfl | (simp; done)) (by first | rfl | decide | omega | (simp; done) | (simp; omega)) (by first | rfl | decide | omega | (simp; done) | (simp; omega)) (fillOk_cons rfl (by first | rfl | (simp; done)) (by first | rfl | decide | omega | (simp; done) | (simp; omega)) (by first | rfl | decide | omega | (simp; done) | (simp; omega)) (fillOk_cons rfl (by first | rfl | (simp; done)) (by first | rfl | decide | omega | (simp; done) | (simp; omega)) (by first | rfl | decide | omega | (simp; done) | (simp; omega)) (fillOk_cons rfl (by first | rfl | (simp; done)) (by first | rfl | decide | omega | (simp; done) | (simp; omega)) (by first | rfl | decide | omega | (simp; done) | (simp; omega)) (fillOk_cons rfl (by first | rfl | (simp; done)) (by first | rfl | decide | omega | (simp; done) | (simp; omega)) (by first | rfl | decide | omega | (simp; done) | (simp; omega)) (fillOk_cons rfl (by first | rfl | (simp; done)) (by first | rfl | decide | omega | (simp; done) | (simp; omega)) (by first | rfl | decide | omega | (simp; done) | (simp; omega)) fillOk_nil)))))))))))))))))))))))))))))))))))))))))))))))))))))))))))))))) (by rfl : _ = LV.agg (words kList)) ?_
  refine HPlan.store rfl rfl rfl rfl q_sz_78 (by first | rfl | (simp; done)) (by first | rfl | decide | omega | (simp; done) | (simp; omega)) (by repeat (first | exact List.Mem.head _ | apply List.Mem.tail | assumption)) rfl (by repeat (first | exact Upd.here | apply Upd.there)) (by first | rfl | decide | omega | (simp; done) | (simp; omega)) keptH_nil ?_
  refine HPlan.fin ?_
  refine onNorm_n ?_
  refine HWp.ret ?_
  refine retQ_r (.cell q_sh_78 rfl (by repeat (first | exact List.Mem.head _ | apply List.Mem.tail | assumption)) (by constructor <;> first | rfl | decide | omega | exact Nat.le_refl _ | (simp; done) | (simp; omega)) rfl .nil) ?_
  exact endK_of ⟨rfl, rfl, rfl⟩ (by repeat (first | exact Part.refl _ | refine Part.pull (by repeat (first | exact Pull.here | apply Pull.there)) ?_ | refine Part.skip _ ?_ | exact Part.nil _ | exact Part.app _ _)) (by repeat (first | exact Part.refl _ | refine Part.pull (by repeat (first | exact Pull.here | apply Pull.there)) ?_ | refine Part.skip _ ?_ | exact Part.nil _ | exact Part.app _ _))
theorem begin_spec  : HPure Try.prog 32 [] (.agg (words h0List)) := by
  intro L T
  refine HCalls.enterG q_f_32 rfl ?_
  refine HWp.frame (r' := ⟨2, []⟩) rfl ?_
  refine HWp.seq ?_
  refine HWp.text (.act 0 [] .done) rfl ?_
  refine HPlan.alloc rfl rfl q_zo_69 (by first | rfl | (simp; done)) (fun i0 => ⟨keptH_nil, ?_⟩)
  refine HPlan.fin ?_
  refine onNorm_n ?_
  refine HWp.seq ?_
  refine HWp.text (.rd 0 (.act 1 [] .done)) rfl ?_
  refine HPlan.build rfl rfl rfl q_zo_69 (by first | rfl | (simp; done)) q_pl_69 (fillOk_cons rfl (by first | rfl | (simp; done)) (by first | rfl | decide | omega | (simp; done) | (simp; omega)) (by first | rfl | decide | omega | (simp; done) | (simp; omega)) (fillOk_cons rfl (by first | rfl | (simp; done)) (by first | rfl | decide | omega | (simp; done) | (simp; omega)) (by first | rfl | decide | omega | (simp; done) | (simp; omega)) (fillOk_cons rfl (by first | rfl | (simp; done)) (by first | rfl | decide | omega | (simp; done) | (simp; omega)) (by first | rfl | decide | omega | (simp; done) | (simp; omega)) (fillOk_cons rfl (by first | rfl | (simp; done)) (by first | rfl | decide | omega | (simp; done) | (simp; omega)) (by first | rfl | decide | omega | (simp; done) | (simp; omega)) (fillOk_cons rfl (by first | rfl | (simp; done)) (by first | rfl | decide | omega | (simp; done) | (simp; omega)) (by first | rfl | decide | omega | (simp; done) | (simp; omega)) (fillOk_cons rfl (by first | rfl | (simp; done)) (by first | rfl | decide | omega | (simp; done) | (simp; omega)) (by first | rfl | decide | omega | (simp; done) | (simp; omega)) (fillOk_cons rfl (by first | rfl | (simp; done)) (by first | rfl | decide | omega | (simp; done) | (simp; omega)) (by first | rfl | decide | omega | (simp; done) | (simp; omega)) (fillOk_cons rfl (by first | rfl | (simp; done)) (by first | rfl | decide | omega | (simp; done) | (simp; omega)) (by first | rfl | decide | omega | (simp; done) | (simp; omega)) fillOk_nil)))))))) (by rfl : _ = LV.agg (words h0List)) ?_
  refine HPlan.store rfl rfl rfl rfl q_sz_69 (by first | rfl | (simp; done)) (by first | rfl | decide | omega | (simp; done) | (simp; omega)) (by repeat (first | exact List.Mem.head _ | apply List.Mem.tail | assumption)) rfl (by repeat (first | exact Upd.here | apply Upd.there)) (by first | rfl | decide | omega | (simp; done) | (simp; omega)) keptH_nil ?_
  refine HPlan.fin ?_
  refine onNorm_n ?_
  refine HWp.ret ?_
  refine retQ_r (.cell q_sh_69 rfl (by repeat (first | exact List.Mem.head _ | apply List.Mem.tail | assumption)) (by constructor <;> first | rfl | decide | omega | exact Nat.le_refl _ | (simp; done) | (simp; omega)) rfl .nil) ?_
  exact endK_of ⟨rfl, rfl, rfl⟩ (by repeat (first | exact Part.refl _ | refine Part.pull (by repeat (first | exact Pull.here | apply Pull.there)) ?_ | refine Part.skip _ ?_ | exact Part.nil _ | exact Part.app _ _)) (by repeat (first | exact Part.refl _ | refine Part.pull (by repeat (first | exact Pull.here | apply Pull.there)) ?_ | refine Part.skip _ ?_ | exact Part.nil _ | exact Part.app _ _))
end Go.Proofs.Ythfoobfgdakbmaa

set_option linter.unusedVariables false
set_option linter.unusedSimpArgs false
set_option maxRecDepth 100000
namespace Go.Proofs.Ythfoobfgdakbmaa
open Go Go.RowKit Go.L
theorem q_tk_45 : tyKind Try.prog 45 = .sl := by kernel_rfl
theorem q_ix_45 : indexIn Try.prog 45 = some (none, 1) := by kernel_rfl
theorem q_sh_5 : shapeOf Try.prog 5 = some (false, 1) := by kernel_rfl
theorem q_ix_78 : indexIn Try.prog 78 = some (some 64, 1) := by kernel_rfl
theorem q_sh_67 : shapeOf Try.prog 67 = some (false, 1) := by kernel_rfl
theorem q_us_5 : (Try.prog.underlying 5).isSome = true := by kernel_rfl
theorem q_it_67 : intTy Try.prog 67 = some .u32 := by kernel_rfl
theorem q_sz_67 : sizeOfT Try.prog 67 = some 1 := by kernel_rfl
theorem q_mix : Try.prog.follows .mixedOrders = true := by kernel_rfl
theorem q_en_40 : enterable Try.prog 40 = true := by kernel_rfl
theorem q_f_39 : Try.prog.funcs[39]? = some Try.f39 := by kernel_rfl

theorem quo_i64 {i : Nat} (d : Nat) (hd : 0 < d) (h : (i : Int) ≤ 9223372036854775807) : intBin .quo .i64 (i : Int) (d : Int) = .int .i64 ((i / d : Nat) : Int) := by
  have e : (i : Int).tdiv (d : Int) = ((i / d : Nat) : Int) := by
    rw [Int.tdiv_eq_ediv_of_nonneg (by omega)]; rfl
  simp only [intBin, e]
  have : i / d ≤ i := Nat.div_le_self _ _
  generalize i / d = q at this
  rw [wrap_i64 (by omega) (by omega)]
theorem word_load (w : List Int) (k off : Nat) (h : k < w.length) (e : off = k) : (bif false then LV.agg (((words w).drop off).take 1) else ((words w).drop off).headD .und) = .int .u32 (w.getD k 0) := by
  subst e
  simp [words, List.headD_eq_head?_getD, List.head?_drop, h, List.getD_eq_getElem?_getD]
theorem word_set (w : List Int) (k off : Nat) (x : Int) (h : k < w.length) (e : off = k) : splice (words w) off (LV.int .u32 x).cells = words (w.set k x) := by
  subst e
  simp only [splice, LV.cells, List.length_singleton]
  apply List.ext_getElem?
  intro j
  simp only [words, List.getElem?_map, List.getElem?_set]
  rw [List.append_assoc, List.getElem?_append]
  have e1 : ((w.map (LV.int .u32)).take off).length = off := by simp; omega
  rw [e1]
  by_cases hj : j < off
  · rw [if_pos hj, List.getElem?_take, if_pos hj, if_neg (by omega), List.getElem?_map]
  · rw [if_neg hj]
    by_cases hj2 : off = j
    · subst hj2; simp [h]
    · rw [if_neg hj2, List.getElem?_append_right (by simp; omega), List.getElem?_drop, List.getElem?_map]
      congr 2; simp; omega
def w1 (l : List UInt8) : Nat → List Int
  | 0 => List.replicate 64 0
  | k + 1 => (w1 l k).set (k / 4) (bitI .or .u32 (IntKind.u32.wrap ((w1 l k).getD (k / 4) 0 * 2 ^ min (8 : Int).toNat 32)) (IntKind.u32.wrap ((l.getD k 0).toNat : Int)))
@[simp] theorem w1_length (l : List UInt8) (k : Nat) : (w1 l k).length = 64 := by
  induction k with
  | zero => simp [w1]
  | succ k ih => simp [w1, ih]
def sg (x : Int) (a b c : Int) : Int := bitI .xor .u32 (bitI .xor .u32 (turnF x a) (turnF x b)) (x.fdiv (2 ^ min c.toNat 32))
def w2 (w : List Int) : Nat → List Int
  | 0 => w
  | k + 1 => (w2 w k).set (16 + k) (IntKind.u32.wrap (IntKind.u32.wrap (IntKind.u32.wrap ((w2 w k).getD k 0 + sg ((w2 w k).getD (1 + k) 0) 7 18 3) + (w2 w k).getD (9 + k) 0) + sg ((w2 w k).getD (14 + k) 0) 17 19 10))
@[simp] theorem w2_length (w : List Int) (k : Nat) : (w2 w k).length = w.length := by
  induction k with
  | zero => simp [w2]
  | succ k ih => simp [w2, ih]
def spreadF (l : List UInt8) : List Int := w2 (w1 l 64) 48
theorem byte_at {l : List UInt8} {k : Nat} (h : k < l.length) : (bytesLV l).getD ((k : Int).toNat) .und = .int .u8 ((l.getD k 0).toNat : Int) := by
  simp [bytesLV, List.getD_eq_getElem?_getD, h]

theorem spread_spec (l : List UInt8) (x : LV) (hl : l.length = 64) (hx : IsSl 1 (bytesLV l) x) : HPure Try.prog 39 [x] (.agg (words (spreadF l))) := by
  intro L T
  refine HCalls.enterG q_f_39 rfl ?_
  refine HWp.frame (r' := ⟨74, [(0, x)]⟩) rfl ?_
  refine HWp.seq ?_
  refine HWp.text (.act 0 [] .done) rfl ?_
  refine HPlan.alloc rfl rfl q_zo_78 (by first | rfl | (simp; done)) (fun i2 => ⟨keptH_nil, ?_⟩)
  refine HPlan.fin ?_
  refine onNorm_n ?_
  refine HWp.seq ?_
  refine HWp.text (.act 0 [] .done) rfl ?_
  refine HPlan.alloc rfl rfl q_zo_78 (by first | rfl | (simp; done)) (fun i3 => ⟨keptH_nil, ?_⟩)
  refine HPlan.fin ?_
  refine onNorm_n ?_
  refine HWp.seq ?_
  refine HWp.seq ?_
  refine HWp.text (.rd 0 (.rd 1 (.rd 2 .done))) rfl ?_
  refine HPlan.move rfl rfl rfl ?_
  refine HPlan.lenS rfl rfl rfl q_tk_45 (by first | exact IsSl.sl | exact IsSl.nils | assumption | exact growV_isSl (by assumption)) (by rw [bytesLV_length, hl]) ?_
  refine HPlan.move rfl rfl rfl ?_
  refine HPlan.fin ?_
  refine onNorm_n ?_
  refine HWp.block ?_
  refine HWp.loopF (α := Nat × Nat × List Int) (fun q => 64 - q.1) (fun q => q.1 ≤ 64 ∧ q.2.2 = w1 l q.1) (fun q => ⟨74, [(2, .ref i2 0), (3, .ref i3 0), (11, x), (12, .int .i64 64), (13, .int .i64 (q.1 : Int))]⟩) (fun q => (i3, .cells 78 (words q.2.2) q.2.1) :: (i2, .cells 78 (words (List.replicate 64 0)) 0) :: L) (fun q => T) ?_ ?_
  · refine ⟨(0, 0, List.replicate 64 0), ⟨by simp only; omega, rfl⟩, (LessE.less (by repeat (first | exact LessE.nil | refine LessE.same rfl ?_ | refine LessE.own rfl ?_ | refine LessE.eq rfl ?_ (by first | rfl | (congr 1; omega) | simp))) rfl), (by repeat (first | exact Part.refl _ | refine Part.pull (by repeat (first | exact Pull.here | apply Pull.there)) ?_ | refine Part.skip _ ?_ | exact Part.nil _ | exact Part.app _ _)), (by repeat (first | exact Part.refl _ | refine Part.pull (by repeat (first | exact Pull.here | apply Pull.there)) ?_ | refine Part.skip _ ?_ | exact Part.nil _ | exact Part.app _ _))⟩
  · rintro q ⟨hk, hw⟩
    obtain ⟨k, ver, w⟩ := q
    simp only at hk hw ⊢
    have hwl : w.length = 64 := by rw [hw, w1_length]
    refine HWp.seq ?_
    refine HWp.text (.rd 0 .done) rfl ?_
    refine HPlan.intBin rfl rfl rfl rfl rfl rfl ?_
    refine HPlan.fin ?_
    refine onNorm_n ?_
    refine HWp.seq ?_
    refine HWp.cond rfl ?_ ?_
    · intro hc14
      first
      | (exact absurd hc14 Bool.false_ne_true)
      | (exact absurd hc14.symm Bool.false_ne_true)
      | ((try simp only [decide_eq_true_eq, decide_eq_false_iff_not, Bool.not_eq_true', Bool.not_eq_false', Bool.not_true, Bool.not_false, beq_iff_eq, bne_iff_ne, bne_eq_false_iff_eq, ne_eq, beq_eq_false_iff_ne, Int.not_lt, Int.not_le] at hc14); exfalso; omega)
      | (try simp only [decide_eq_true_eq, decide_eq_false_iff_not, Bool.not_eq_true', Bool.not_eq_false', Bool.not_true, Bool.not_false, beq_iff_eq, bne_iff_ne, bne_eq_false_iff_eq, ne_eq, beq_eq_false_iff_ne, Int.not_lt, Int.not_le] at hc14)
        refine HWp.skip ?_
        refine onNorm_n ?_
        refine HWp.seq ?_
        refine HWp.block ?_
        refine HWp.seq ?_
        refine HWp.text (.rd 0 (.rd 1 (.rd 2 (.rd 3 (.rd 4 .done))))) rfl ?_
        refine HPlan.move rfl rfl rfl ?_
        refine HPlan.indexS rfl rfl rfl rfl q_ix_45 (by first | exact IsSl.sl | exact IsSl.nils | assumption | exact growV_isSl (by assumption)) (by omega) (by rw [bytesLV_length]; omega) (byte_at (by omega)) ?_
        refine HPlan.loadI rfl rfl rfl q_sh_5 (by constructor <;> first | rfl | decide | omega | exact Nat.le_refl _ | (simp; done) | (simp; omega)) rfl ?_
        refine HPlan.assign rfl rfl rfl ?_
        refine HPlan.assign rfl rfl rfl ?_
        refine HPlan.fin ?_
        refine onNorm_n ?_
        refine HWp.text (.rd 0 (.rd 1 (.rd 2 (.rd 3 (.rd 4 (.rd 5 (.rd 6 (.rd 7 (.rd 8 (.rd 9 (.rd 10 (.act 11 [] .done)))))))))))) rfl ?_
        refine HPlan.move rfl rfl rfl ?_
        refine HPlan.intBin rfl rfl rfl rfl ⟨rfl, by decide⟩ (quo_i64 4 (by decide) (by omega)) ?_
        refine HPlan.move rfl rfl rfl ?_
        refine HPlan.intBin rfl rfl rfl rfl ⟨rfl, by decide⟩ (quo_i64 4 (by decide) (by omega)) ?_
        refine HPlan.indexArr rfl rfl rfl rfl rfl q_ix_78 (by omega) (by omega) rfl ?_
        refine HPlan.load rfl rfl rfl q_sh_67 (by repeat (first | exact List.Mem.head _ | apply List.Mem.tail | assumption)) (by rw [words_length]; constructor <;> (try simp only [cond_false]) <;> omega) (word_load _ (k / 4) _ (by omega) (by omega)) ?_
        refine HPlan.intBin rfl rfl rfl rfl (by show (0:Int) ≤ _; omega) rfl ?_
        refine HPlan.move rfl rfl rfl ?_
        refine HPlan.intConv rfl rfl rfl q_us_5 q_it_67 rfl ?_
        refine HPlan.intBin rfl rfl rfl rfl rfl rfl ?_
        refine HPlan.indexArr rfl rfl rfl rfl rfl q_ix_78 (by omega) (by omega) rfl ?_
        refine HPlan.store rfl rfl rfl rfl q_sz_67 (by first | rfl | (simp; done)) (by first | rfl | decide | omega | (simp; done) | (simp; omega)) (by repeat (first | exact List.Mem.head _ | apply List.Mem.tail | assumption)) (word_set _ (k / 4) _ _ (by omega) (by omega)) (by repeat (first | exact Upd.here | apply Upd.there)) (by rw [words_length]; omega) keptH_nil ?_
        refine HPlan.fin ?_
        refine onExitH_n ?_
        refine onNorm_n ?_
        refine HWp.text (.rd 0 (.rd 1 .done)) rfl ?_
        refine HPlan.intBin rfl rfl rfl rfl rfl (by first | exact add_i64 (by omega) (by omega) | rfl) ?_
        refine HPlan.move rfl rfl rfl ?_
        refine HPlan.fin ?_
        refine onNorm_n ?_
        subst hw
        refine ⟨(k + 1, ver + 1, w1 l (k + 1)), (by simp only; omega), ⟨by simp only; omega, rfl⟩, (LessE.less (by repeat (first | exact LessE.nil | refine LessE.same rfl ?_ | refine LessE.own rfl ?_ | refine LessE.eq rfl ?_ (by first | rfl | (congr 1; omega) | simp))) rfl), (by repeat (first | exact Part.refl _ | refine Part.pull (by repeat (first | exact Pull.here | apply Pull.there)) ?_ | refine Part.skip _ ?_ | exact Part.nil _ | exact Part.app _ _)), (by repeat (first | exact Part.refl _ | refine Part.pull (by repeat (first | exact Pull.here | apply Pull.there)) ?_ | refine Part.skip _ ?_ | exact Part.nil _ | exact Part.app _ _))⟩
    · intro hc14
      first
      | (exact absurd hc14 Bool.false_ne_true)
      | (exact absurd hc14.symm Bool.false_ne_true)
      | ((try simp only [decide_eq_true_eq, decide_eq_false_iff_not, Bool.not_eq_true', Bool.not_eq_false', Bool.not_true, Bool.not_false, beq_iff_eq, bne_iff_ne, bne_eq_false_iff_eq, ne_eq, beq_eq_false_iff_ne, Int.not_lt, Int.not_le] at hc14); exfalso; omega)
      | (try simp only [decide_eq_true_eq, decide_eq_false_iff_not, Bool.not_eq_true', Bool.not_eq_false', Bool.not_true, Bool.not_false, beq_iff_eq, bne_iff_ne, bne_eq_false_iff_eq, ne_eq, beq_eq_false_iff_ne, Int.not_lt, Int.not_le] at hc14)
        refine HWp.exit ?_
        refine onNorm_e ?_
        refine onNorm_e ?_
        obtain rfl : k = 64 := by omega
        refine onExitH_hit ?_
        refine onNorm_n ?_
        refine HWp.seq ?_
        refine HWp.seq ?_
        refine HWp.text (.rd 0 .done) rfl ?_
        refine HPlan.assign rfl rfl rfl ?_
        refine HPlan.fin ?_
        refine onNorm_n ?_
        refine HWp.block ?_
        refine HWp.loopF (α := Nat × Nat × List Int) (fun q => 48 - q.1) (fun q => q.1 ≤ 48 ∧ q.2.2 = w2 (w1 l 64) q.1) (fun q => ⟨74, [(2, .ref i2 0), (3, .ref i3 0), (6, .int .i64 ((16 + q.1 : Nat) : Int))]⟩) (fun q => (i3, .cells 78 (words q.2.2) q.2.1) :: (i2, .cells 78 (words (List.replicate 64 0)) 0) :: L) (fun q => T) ?_ ?_
        · refine ⟨(0, ver, w), ⟨by simp only; omega, hw⟩, (LessE.less (by repeat (first | exact LessE.nil | refine LessE.same rfl ?_ | refine LessE.own rfl ?_ | refine LessE.eq rfl ?_ (by first | rfl | (congr 1; omega) | simp))) rfl), (by repeat (first | exact Part.refl _ | refine Part.pull (by repeat (first | exact Pull.here | apply Pull.there)) ?_ | refine Part.skip _ ?_ | exact Part.nil _ | exact Part.app _ _)), (by repeat (first | exact Part.refl _ | refine Part.pull (by repeat (first | exact Pull.here | apply Pull.there)) ?_ | refine Part.skip _ ?_ | exact Part.nil _ | exact Part.app _ _))⟩
        · rintro q ⟨hk2, hw2⟩
          obtain ⟨k, ver2, w2'⟩ := q
          simp only at hk2 hw2 ⊢
          have hwl2 : w2'.length = 64 := by rw [hw2, w2_length, w1_length]
          refine HWp.seq ?_
          refine HWp.seq ?_
          refine HWp.text (.rd 0 (.rd 1 .done)) rfl ?_
          refine HPlan.move rfl rfl rfl ?_
          refine HPlan.intBin rfl rfl rfl rfl rfl rfl ?_
          refine HPlan.fin ?_
          refine onNorm_n ?_
          refine HWp.cond rfl ?_ ?_
          · intro hc31
            first
            | (exact absurd hc31 Bool.false_ne_true)
            | (exact absurd hc31.symm Bool.false_ne_true)
            | ((try simp only [decide_eq_true_eq, decide_eq_false_iff_not, Bool.not_eq_true', Bool.not_eq_false', Bool.not_true, Bool.not_false, beq_iff_eq, bne_iff_ne, bne_eq_false_iff_eq, ne_eq, beq_eq_false_iff_ne, Int.not_lt, Int.not_le] at hc31); exfalso; omega)
            | (try simp only [decide_eq_true_eq, decide_eq_false_iff_not, Bool.not_eq_true', Bool.not_eq_false', Bool.not_true, Bool.not_false, beq_iff_eq, bne_iff_ne, bne_eq_false_iff_eq, ne_eq, beq_eq_false_iff_ne, Int.not_lt, Int.not_le] at hc31)
              refine HWp.skip ?_
              refine onNorm_n ?_
              refine HWp.seq ?_
              refine HWp.block ?_
              refine HWp.seq ?_
              refine HWp.draw q_mix (.rd 0 (.rd 1 (.rd 2 (.rd 3 (.rd 4 (.rd 5 (.rd 6 (.rd 7 (.rd 8 (.rd 9 .done)))))))))) (by kernel_rfl) ?_
              refine HPlan.move rfl rfl rfl ?_
              refine HPlan.intBin rfl rfl rfl rfl rfl (by first | exact sub_i64 (by omega) (by omega) | rfl) ?_
              refine HPlan.indexArr rfl rfl rfl rfl rfl q_ix_78 (by omega) (by omega) rfl ?_
              refine HPlan.load rfl rfl rfl q_sh_67 (by repeat (first | exact List.Mem.head _ | apply List.Mem.tail | assumption)) (by rw [words_length]; constructor <;> (try simp only [cond_false]) <;> omega) (word_load _ (1 + k) _ (by omega) (by omega)) ?_
              refine HPlan.move rfl rfl rfl ?_
              refine HPlan.intBin rfl rfl rfl rfl rfl (by first | exact sub_i64 (by omega) (by omega) | rfl) ?_
              refine HPlan.indexArr rfl rfl rfl rfl rfl q_ix_78 (by omega) (by omega) rfl ?_
              refine HPlan.load rfl rfl rfl q_sh_67 (by repeat (first | exact List.Mem.head _ | apply List.Mem.tail | assumption)) (by rw [words_length]; constructor <;> (try simp only [cond_false]) <;> omega) (word_load _ (14 + k) _ (by omega) (by omega)) ?_
              refine HPlan.assign rfl rfl rfl ?_
              refine HPlan.assign rfl rfl rfl ?_
              refine HPlan.fin ?_
              refine onNorm_n ?_
              refine HWp.seq ?_
              refine HWp.text (.rd 0 (.act 1 [] (.rd 2 (.act 3 [] (.rd 4 (.rd 5 (.rd 6 (.rd 7 (.rd 8 .done))))))))) rfl ?_
              refine HPlan.move rfl rfl rfl ?_
              refine HPlan.callPure rfl rfl rfl q_en_40 (turn_spec _ _) keptH_nil ?_
              refine HPlan.move rfl rfl rfl ?_
              refine HPlan.callPure rfl rfl rfl q_en_40 (turn_spec _ _) keptH_nil ?_
              refine HPlan.intBin rfl rfl rfl rfl rfl rfl ?_
              refine HPlan.move rfl rfl rfl ?_
              refine HPlan.intBin rfl rfl rfl rfl (by show (0:Int) ≤ _; omega) rfl ?_
              refine HPlan.intBin rfl rfl rfl rfl rfl rfl ?_
              refine HPlan.assign rfl rfl rfl ?_
              refine HPlan.fin ?_
              refine onNorm_n ?_
              refine HWp.seq ?_
              refine HWp.text (.rd 0 (.act 1 [] (.rd 2 (.act 3 [] (.rd 4 (.rd 5 (.rd 6 (.rd 7 (.rd 8 .done))))))))) rfl ?_
              refine HPlan.move rfl rfl rfl ?_
              refine HPlan.callPure rfl rfl rfl q_en_40 (turn_spec _ _) keptH_nil ?_
              refine HPlan.move rfl rfl rfl ?_
              refine HPlan.callPure rfl rfl rfl q_en_40 (turn_spec _ _) keptH_nil ?_
              refine HPlan.intBin rfl rfl rfl rfl rfl rfl ?_
              refine HPlan.move rfl rfl rfl ?_
              refine HPlan.intBin rfl rfl rfl rfl (by show (0:Int) ≤ _; omega) rfl ?_
              refine HPlan.intBin rfl rfl rfl rfl rfl rfl ?_
              refine HPlan.assign rfl rfl rfl ?_
              refine HPlan.fin ?_
              refine onNorm_n ?_
              refine HWp.draw q_mix (.rd 0 (.rd 1 (.rd 2 (.rd 3 (.rd 4 (.rd 5 (.rd 6 (.rd 7 (.rd 8 (.rd 9 (.rd 10 (.rd 11 (.rd 12 (.rd 13 (.rd 14 (.act 15 [] .done)))))))))))))))) (by kernel_rfl) ?_
              refine HPlan.move rfl rfl rfl ?_
              refine HPlan.move rfl rfl rfl ?_
              refine HPlan.intBin rfl rfl rfl rfl rfl (by first | exact sub_i64 (by omega) (by omega) | rfl) ?_
              refine HPlan.indexArr rfl rfl rfl rfl rfl q_ix_78 (by omega) (by omega) rfl ?_
              refine HPlan.load rfl rfl rfl q_sh_67 (by repeat (first | exact List.Mem.head _ | apply List.Mem.tail | assumption)) (by rw [words_length]; constructor <;> (try simp only [cond_false]) <;> omega) (word_load _ k _ (by omega) (by omega)) ?_
              refine HPlan.move rfl rfl rfl ?_
              refine HPlan.intBin rfl rfl rfl rfl rfl (by first | exact add_i64 (by omega) (by omega) | rfl) ?_
              refine HPlan.move rfl rfl rfl ?_
              refine HPlan.intBin rfl rfl rfl rfl rfl (by first | exact sub_i64 (by omega) (by omega) | rfl) ?_
              refine HPlan.indexArr rfl rfl rfl rfl rfl q_ix_78 (by omega) (by omega) rfl ?_
              refine HPlan.load rfl rfl rfl q_sh_67 (by repeat (first | exact List.Mem.head _ | apply List.Mem.tail | assumption)) (by rw [words_length]; constructor <;> (try simp only [cond_false]) <;> omega) (word_load _ (9 + k) _ (by omega) (by omega)) ?_
              refine HPlan.intBin rfl rfl rfl rfl rfl (by first | exact add_i64 (by omega) (by omega) | rfl) ?_
              refine HPlan.move rfl rfl rfl ?_
              refine HPlan.intBin rfl rfl rfl rfl rfl (by first | exact add_i64 (by omega) (by omega) | rfl) ?_
              refine HPlan.indexArr rfl rfl rfl rfl rfl q_ix_78 (by omega) (by omega) rfl ?_
              refine HPlan.store rfl rfl rfl rfl q_sz_67 (by first | rfl | (simp; done)) (by first | rfl | decide | omega | (simp; done) | (simp; omega)) (by repeat (first | exact List.Mem.head _ | apply List.Mem.tail | assumption)) (word_set _ (16 + k) _ _ (by omega) (by omega)) (by repeat (first | exact Upd.here | apply Upd.there)) (by rw [words_length]; omega) keptH_nil ?_
              refine HPlan.fin ?_
              refine onExitH_n ?_
              refine onNorm_n ?_
              refine HWp.text (.rd 0 (.rd 1 (.rd 2 .done))) rfl ?_
              refine HPlan.move rfl rfl rfl ?_
              refine HPlan.intBin rfl rfl rfl rfl rfl (by first | exact add_i64 (by omega) (by omega) | rfl) ?_
              refine HPlan.assign rfl rfl rfl ?_
              refine HPlan.fin ?_
              refine onNorm_n ?_
              subst hw2
              refine ⟨(k + 1, ver2 + 1, w2 (w1 l 64) (k + 1)), (by simp only; omega), ⟨by simp only; omega, rfl⟩, (LessE.less (by repeat (first | exact LessE.nil | refine LessE.same rfl ?_ | refine LessE.own rfl ?_ | refine LessE.eq rfl ?_ (by first | rfl | (congr 1; omega) | simp))) rfl), (by repeat (first | exact Part.refl _ | refine Part.pull (by repeat (first | exact Pull.here | apply Pull.there)) ?_ | refine Part.skip _ ?_ | exact Part.nil _ | exact Part.app _ _)), (by repeat (first | exact Part.refl _ | refine Part.pull (by repeat (first | exact Pull.here | apply Pull.there)) ?_ | refine Part.skip _ ?_ | exact Part.nil _ | exact Part.app _ _))⟩
          · intro hc31
            first
            | (exact absurd hc31 Bool.false_ne_true)
            | (exact absurd hc31.symm Bool.false_ne_true)
            | ((try simp only [decide_eq_true_eq, decide_eq_false_iff_not, Bool.not_eq_true', Bool.not_eq_false', Bool.not_true, Bool.not_false, beq_iff_eq, bne_iff_ne, bne_eq_false_iff_eq, ne_eq, beq_eq_false_iff_ne, Int.not_lt, Int.not_le] at hc31); exfalso; omega)
            | (try simp only [decide_eq_true_eq, decide_eq_false_iff_not, Bool.not_eq_true', Bool.not_eq_false', Bool.not_true, Bool.not_false, beq_iff_eq, bne_iff_ne, bne_eq_false_iff_eq, ne_eq, beq_eq_false_iff_ne, Int.not_lt, Int.not_le] at hc31)
              refine HWp.exit ?_
              refine onNorm_e ?_
              refine onNorm_e ?_
              obtain rfl : k = 48 := by omega
              refine onExitH_hit ?_
              refine onNorm_n ?_
              refine HWp.seq ?_
              refine HWp.text (.rd 0 (.act 1 [] .done)) rfl ?_
              refine HPlan.load rfl rfl rfl q_sh_78 (by repeat (first | exact List.Mem.head _ | apply List.Mem.tail | assumption)) (by rw [words_length]; constructor <;> (try simp only [cond_true]) <;> omega) (by simp only [cond_true, List.drop_zero]; rw [List.take_of_length_le (by rw [words_length]; omega)]) ?_
              refine HPlan.store rfl rfl rfl rfl q_sz_78 (by first | rfl | (simp; done)) (by rw [agg_cells, words_length]; exact hwl2) (by repeat (first | exact List.Mem.head _ | apply List.Mem.tail | assumption)) (splice_all _ _ (by rw [agg_cells, words_length, words_length, List.length_replicate]; exact hwl2)) (by repeat (first | exact Upd.here | apply Upd.there)) (by rw [words_length]; decide) keptH_nil ?_
              refine HPlan.fin ?_
              refine onNorm_n ?_
              refine HWp.ret ?_
              refine retQ_r (.cell q_sh_78 rfl (by repeat (first | exact List.Mem.head _ | apply List.Mem.tail | assumption)) (by constructor <;> first | rfl | decide | omega | exact Nat.le_refl _ | (simp; done) | (simp; omega)) (by simp only [cond_true]; rw [List.take_of_length_le (by rw [agg_cells, words_length, hwl2]; exact Nat.le_refl _), agg_cells]) .nil) ?_
              refine endK_of (L2 := L) (T2 := T) ⟨?_, rfl, rfl⟩ (by repeat (first | exact Part.refl _ | refine Part.pull (by repeat (first | exact Pull.here | apply Pull.there)) ?_ | refine Part.skip _ ?_ | exact Part.nil _ | exact Part.app _ _)) (by repeat (first | exact Part.refl _ | refine Part.pull (by repeat (first | exact Pull.here | apply Pull.there)) ?_ | refine Part.skip _ ?_ | exact Part.nil _ | exact Part.app _ _))
              exact congrArg (fun z => LV.agg (words z)) (hw2.trans rfl : _ = spreadF l)
end Go.Proofs.Ythfoobfgdakbmaa

set_option linter.unusedVariables false
set_option linter.unusedSimpArgs false
set_option maxRecDepth 100000
namespace Go.Proofs.Ythfoobfgdakbmaa
open Go Go.RowKit Go.L
theorem q_en_38 : enterable Try.prog 38 = true := by kernel_rfl
theorem q_en_39 : enterable Try.prog 39 = true := by kernel_rfl
theorem q_ar_78 : arrIn Try.prog 78 = some (64, false, 1) := by kernel_rfl
theorem q_ix_69 : indexIn Try.prog 69 = some (some 8, 1) := by kernel_rfl
theorem q_ar_69 : arrIn Try.prog 69 = some (8, false, 1) := by kernel_rfl
theorem q_f_33 : Try.prog.funcs[33]? = some Try.f33 := by kernel_rfl

def addW (a b : Int) : Int := IntKind.u32.wrap (a + b)
def xorW (a b : Int) : Int := bitI .xor .u32 a b
def andW (a b : Int) : Int := bitI .and .u32 a b
def notW (a : Int) : Int := bitI .xor .u32 (if IntKind.u32.signed then -1 else IntKind.u32.max) a
def big1 (e : Int) : Int := xorW (xorW (turnF e 6) (turnF e 11)) (turnF e 25)
def big0 (a : Int) : Int := xorW (xorW (turnF a 2) (turnF a 13)) (turnF a 22)
def t1F (s : List Int) (k w : Int) : Int :=
  addW (addW (addW (addW (s.getD 7 0) (big1 (s.getD 4 0))) (xorW (andW (s.getD 4 0) (s.getD 5 0)) (andW (notW (s.getD 4 0)) (s.getD 6 0)))) k) w
def t2F (s : List Int) : Int := addW (big0 (s.getD 0 0)) (xorW (xorW (andW (s.getD 0 0) (s.getD 1 0)) (andW (s.getD 0 0) (s.getD 2 0))) (andW (s.getD 1 0) (s.getD 2 0)))
def roundF (s : List Int) (k w : Int) : List Int :=
  [addW (t1F s k w) (t2F s), s.getD 0 0, s.getD 1 0, s.getD 2 0, addW (s.getD 3 0) (t1F s k w), s.getD 4 0, s.getD 5 0, s.getD 6 0]
def rounds (ws : List Int) (s : List Int) : Nat → List Int
  | 0 => s
  | n + 1 => roundF (rounds ws s n) (kList.getD n 0) (ws.getD n 0)
theorem rounds_length (ws s : List Int) (h : s.length = 8) : ∀ n, (rounds ws s n).length = 8
  | 0 => h
  | n + 1 => rfl
def addN (s t : List Int) : Nat → List Int
  | 0 => s
  | n + 1 => (addN s t n).set n (addW ((addN s t n).getD n 0) (t.getD n 0))
@[simp] theorem addN_length (s t : List Int) : ∀ n, (addN s t n).length = s.length
  | 0 => rfl
  | n + 1 => by simp [addN, addN_length s t n]
def takeF (s : List Int) (l : List UInt8) : List Int := addN s (rounds (spreadF l) s 64) 8
theorem takeF_length {s : List Int} (h : s.length = 8) (l : List UInt8) : (takeF s l).length = 8 := by simp [takeF, h]
theorem spreadF_length (l : List UInt8) : (spreadF l).length = 64 := by simp [spreadF]
theorem word_part (w : List Int) (k : Nat) (h : k < w.length) : partV false 1 ((k : Int).toNat * 1) (words w) = .int .u32 (w.getD k 0) := by
  simp [partV, words, List.getD_eq_getElem?_getD, h]
theorem load_pre (st : List Int) (rest : List LV) (n : Nat) (h : st.length = n) : (bif true then LV.agg (((words st ++ rest).drop 0).take n) else ((words st ++ rest).drop 0).headD .und) = .agg (words st) := by
  subst h
  simp [List.take_append_of_le_length]
theorem word_loadA (w : List Int) (rest : List LV) (k off : Nat) (h : k < w.length) (e : off = k) : (bif false then LV.agg (((words w ++ rest).drop off).take 1) else ((words w ++ rest).drop off).headD .und) = .int .u32 (w.getD k 0) := by
  subst e
  simp [words, List.headD_eq_head?_getD, List.head?_drop, h, List.getD_eq_getElem?_getD, List.getElem?_append]
theorem word_setA (w : List Int) (rest : List LV) (k off : Nat) (x : Int) (h : k < w.length) (e : off = k) : splice (words w ++ rest) off (LV.int .u32 x).cells = words (w.set k x) ++ rest := by
  rw [← word_set w k off x h e]
  simp only [splice, LV.cells, List.length_singleton]
  rw [List.take_append_of_le_length (by simp; omega), List.drop_append_of_le_length (by simp; omega)]
  simp

theorem take_spec (l : List UInt8) (x : LV) (hl : l.length = 64) (hx : IsSl 1 (bytesLV l) x) (st : List Int) (hst : st.length = 8) (rest : List LV) (id ty ver : Nat) (F : Hp) (T : Tk) : HCalls Try.prog 33 [.ref id 0, x] ((id, .cells ty (words st ++ rest) ver) :: F) T (fun r L' T' => r = .tup [] ∧ ∃ ver', L' = (id, .cells ty (words (takeF st l) ++ rest) ver') :: F ∧ T' = T) := by
  refine HCalls.enterG q_f_33 rfl ?_
  refine HWp.frame (r' := ⟨114, [(0, .ref id 0), (1, x)]⟩) rfl ?_
  refine HWp.seq ?_
  refine HWp.draw q_mix (.rd 0 (.rd 1 (.rd 2 (.alt (.act 3 [2] (.alt (.act 4 [2] (.act 5 [2] (.act 6 [] (.act 7 [] .done)))) (.act 5 [2] (.act 4 [2] (.act 6 [] (.act 7 [] .done)))))) (.alt (.act 4 [2] (.alt (.act 3 [2] (.act 5 [2] (.act 6 [] (.act 7 [] .done)))) (.act 5 [2] (.act 3 [2] (.act 6 [] (.act 7 [] .done)))))) (.act 5 [2] (.alt (.act 3 [2] (.act 4 [2] (.act 6 [] (.act 7 [] .done)))) (.act 4 [2] (.act 3 [2] (.act 6 [] (.act 7 [] .done))))))))))) (by kernel_rfl) ?_
  refine HPlan.move rfl rfl rfl ?_
  refine HPlan.nilCheck rfl rfl rfl rfl ?_
  refine HPlan.load rfl rfl rfl q_sh_69 (by repeat (first | exact List.Mem.head _ | apply List.Mem.tail | assumption)) (by simp [hst]; omega) (load_pre _ _ 8 hst) ?_
  refine HPlan.both ?_ ?_
  · refine HPlan.callPure rfl rfl rfl q_en_38 const_spec (keptH_ids (by repeat (first | exact allId_nil | refine allId_cons (by repeat (first | exact List.Mem.head _ | apply List.Mem.tail | assumption)) (by repeat (first | exact List.Mem.head _ | apply List.Mem.tail | assumption)) ?_))) ?_
    refine HPlan.both ?_ ?_
    · refine HPlan.alloc rfl rfl q_zo_69 (by first | rfl | (simp; done)) (fun i4 => ⟨(keptH_ids (by repeat (first | exact allId_nil | refine allId_cons (by repeat (first | exact List.Mem.head _ | apply List.Mem.tail | assumption)) (by repeat (first | exact List.Mem.head _ | apply List.Mem.tail | assumption)) ?_))), ?_⟩)
      refine HPlan.alloc rfl rfl q_zo_78 (by first | rfl | (simp; done)) (fun i5 => ⟨(keptH_ids (by repeat (first | exact allId_nil | refine allId_cons (by repeat (first | exact List.Mem.head _ | apply List.Mem.tail | assumption)) (by repeat (first | exact List.Mem.head _ | apply List.Mem.tail | assumption)) ?_))), ?_⟩)
      refine HPlan.store rfl rfl rfl rfl q_sz_69 (by first | rfl | (simp; done)) (by rw [agg_cells, words_length, hst]) (by repeat (first | exact List.Mem.head _ | apply List.Mem.tail | assumption)) (splice_all _ _ (by rw [agg_cells, words_length, hst]; rfl)) (by repeat (first | exact Upd.here | apply Upd.there)) (by decide) keptH_nil ?_
      refine HPlan.store rfl rfl rfl rfl q_sz_78 (by first | rfl | (simp; done)) (by rw [agg_cells, words_length]; rfl) (by repeat (first | exact List.Mem.head _ | apply List.Mem.tail | assumption)) (splice_all _ _ (by rw [agg_cells, words_length]; rfl)) (by repeat (first | exact Upd.here | apply Upd.there)) (by decide) keptH_nil ?_
      refine HPlan.fin ?_
      refine onNorm_n ?_
      refine HWp.seq ?_
      refine HWp.seq ?_
      refine HWp.text (.rd 0 (.act 1 [] (.rd 2 .done))) rfl ?_
      refine HPlan.move rfl rfl rfl ?_
      refine HPlan.callPure rfl rfl rfl q_en_39 (spread_spec l _ hl hx) keptH_nil ?_
      refine HPlan.move rfl rfl rfl ?_
      refine HPlan.fin ?_
      refine onNorm_n ?_
      refine HWp.block ?_
      refine HWp.loopF (α := Nat × Nat × List Int) (fun q => 64 - q.1) (fun q => q.1 ≤ 64 ∧ q.2.2 = rounds (spreadF l) st q.1) (fun q => ⟨114, [(0, .ref id 0), (4, .ref i4 0), (5, .ref i5 0), (19, .agg (words (spreadF l))), (20, .int .i64 (q.1 : Int))]⟩) (fun q => (i4, .cells 69 (words q.2.2) q.2.1) :: (i5, .cells 78 (words kList) 1) :: (id, .cells ty (words st ++ rest) ver) :: F) (fun q => T) ?_ ?_
      · refine ⟨(0, 1, st), ⟨by simp only; omega, rfl⟩, (LessE.less (by repeat (first | exact LessE.nil | refine LessE.same rfl ?_ | refine LessE.own rfl ?_ | refine LessE.eq rfl ?_ (by first | rfl | (congr 1; omega) | simp))) rfl), (by repeat (first | exact Part.refl _ | refine Part.pull (by repeat (first | exact Pull.here | apply Pull.there)) ?_ | refine Part.skip _ ?_ | exact Part.nil _ | exact Part.app _ _)), (by repeat (first | exact Part.refl _ | refine Part.pull (by repeat (first | exact Pull.here | apply Pull.there)) ?_ | refine Part.skip _ ?_ | exact Part.nil _ | exact Part.app _ _))⟩
      · rintro q ⟨hk, hw⟩
        obtain ⟨k, ve, s⟩ := q
        simp only at hk hw ⊢
        have hsl : s.length = 8 := by rw [hw]; exact rounds_length _ _ hst _
        have hkl : kList.length = 64 := rfl
        have hwl := spreadF_length l
        refine HWp.seq ?_
        refine HWp.text (.rd 0 .done) rfl ?_
        refine HPlan.intBin rfl rfl rfl rfl rfl rfl ?_
        refine HPlan.fin ?_
        refine onNorm_n ?_
        refine HWp.seq ?_
        refine HWp.cond rfl ?_ ?_
        · intro hc21
          first
          | (exact absurd hc21 Bool.false_ne_true)
          | (exact absurd hc21.symm Bool.false_ne_true)
          | ((try simp only [decide_eq_true_eq, decide_eq_false_iff_not, Bool.not_eq_true', Bool.not_eq_false', Bool.not_true, Bool.not_false, beq_iff_eq, bne_iff_ne, bne_eq_false_iff_eq, ne_eq, beq_eq_false_iff_ne, Int.not_lt, Int.not_le] at hc21); exfalso; omega)
          | (try simp only [decide_eq_true_eq, decide_eq_false_iff_not, Bool.not_eq_true', Bool.not_eq_false', Bool.not_true, Bool.not_false, beq_iff_eq, bne_iff_ne, bne_eq_false_iff_eq, ne_eq, beq_eq_false_iff_ne, Int.not_lt, Int.not_le] at hc21)
            refine HWp.skip ?_
            refine onNorm_n ?_
            refine HWp.seq ?_
            refine HWp.block ?_
            refine HWp.seq ?_
            refine HWp.text (.rd 0 (.rd 1 (.rd 2 (.rd 3 .done)))) rfl ?_
            refine HPlan.move rfl rfl rfl ?_
            refine HPlan.indexAgg rfl rfl rfl rfl q_ar_78 (by decide) (by rw [words_length, hwl]) (by omega) (by omega) (word_part _ _ (by omega)) ?_
            refine HPlan.assign rfl rfl rfl ?_
            refine HPlan.assign rfl rfl rfl ?_
            refine HPlan.fin ?_
            refine onNorm_n ?_
            refine HWp.seq ?_
            refine HWp.draw q_mix (.rd 0 (.rd 1 (.rd 2 (.rd 3 (.rd 4 (.rd 5 .done)))))) (by kernel_rfl) ?_
            refine HPlan.indexArr rfl rfl rfl rfl rfl q_ix_69 (by omega) (by omega) rfl ?_
            refine HPlan.load rfl rfl rfl q_sh_67 (by repeat (first | exact List.Mem.head _ | apply List.Mem.tail | assumption)) (by rw [words_length]; constructor <;> (try simp only [cond_false]) <;> omega) (word_load _ 0 _ (by omega) rfl) ?_
            refine HPlan.indexArr rfl rfl rfl rfl rfl q_ix_69 (by omega) (by omega) rfl ?_
            refine HPlan.load rfl rfl rfl q_sh_67 (by repeat (first | exact List.Mem.head _ | apply List.Mem.tail | assumption)) (by rw [words_length]; constructor <;> (try simp only [cond_false]) <;> omega) (word_load _ 4 _ (by omega) rfl) ?_
            refine HPlan.assign rfl rfl rfl ?_
            refine HPlan.assign rfl rfl rfl ?_
            refine HPlan.fin ?_
            refine onNorm_n ?_
            refine HWp.seq ?_
            refine HWp.draw q_mix (.rd 0 (.rd 1 (.rd 2 (.rd 4 (.rd 7 (.rd 11 (.rd 12 (.rd 13 (.rd 14 (.rd 15 (.rd 16 (.rd 17 (.rd 18 (.rd 19 (.rd 20 (.rd 22 (.rd 23 (.rd 24 (.rd 26 (.act 3 [1, 13, 18, 24] (.act 5 [1, 13, 18, 24] (.rd 6 (.act 8 [1, 13, 18, 24] (.rd 9 (.rd 10 (.rd 21 (.rd 25 (.rd 27 (.rd 28 .done))))))))))))))))))))))))))))) (by kernel_rfl) ?_
            refine HPlan.indexArr rfl rfl rfl rfl rfl q_ix_69 (by omega) (by omega) rfl ?_
            refine HPlan.load rfl rfl rfl q_sh_67 (by repeat (first | exact List.Mem.head _ | apply List.Mem.tail | assumption)) (by rw [words_length]; constructor <;> (try simp only [cond_false]) <;> omega) (word_load _ 7 _ (by omega) rfl) ?_
            refine HPlan.move rfl rfl rfl ?_
            refine HPlan.move rfl rfl rfl ?_
            refine HPlan.move rfl rfl rfl ?_
            refine HPlan.move rfl rfl rfl ?_
            refine HPlan.indexArr rfl rfl rfl rfl rfl q_ix_69 (by omega) (by omega) rfl ?_
            refine HPlan.load rfl rfl rfl q_sh_67 (by repeat (first | exact List.Mem.head _ | apply List.Mem.tail | assumption)) (by rw [words_length]; constructor <;> (try simp only [cond_false]) <;> omega) (word_load _ 5 _ (by omega) rfl) ?_
            refine HPlan.intBin rfl rfl rfl rfl rfl rfl ?_
            refine HPlan.move rfl rfl rfl ?_
            refine HPlan.compl rfl rfl rfl rfl ?_
            refine HPlan.indexArr rfl rfl rfl rfl rfl q_ix_69 (by omega) (by omega) rfl ?_
            refine HPlan.load rfl rfl rfl q_sh_67 (by repeat (first | exact List.Mem.head _ | apply List.Mem.tail | assumption)) (by rw [words_length]; constructor <;> (try simp only [cond_false]) <;> omega) (word_load _ 6 _ (by omega) rfl) ?_
            refine HPlan.intBin rfl rfl rfl rfl rfl rfl ?_
            refine HPlan.intBin rfl rfl rfl rfl rfl rfl ?_
            refine HPlan.move rfl rfl rfl ?_
            refine HPlan.indexArr rfl rfl rfl rfl rfl q_ix_78 (by omega) (by omega) rfl ?_
            refine HPlan.load rfl rfl rfl q_sh_67 (by repeat (first | exact List.Mem.head _ | apply List.Mem.tail | assumption)) (by rw [words_length]; constructor <;> (try simp only [cond_false]) <;> omega) (word_load _ k _ (by omega) (by omega)) ?_
            refine HPlan.move rfl rfl rfl ?_
            refine HPlan.callPure rfl rfl rfl q_en_40 (turn_spec _ _) (keptH_ids (by repeat (first | exact allId_nil | refine allId_cons (by repeat (first | exact List.Mem.head _ | apply List.Mem.tail | assumption)) (by repeat (first | exact List.Mem.head _ | apply List.Mem.tail | assumption)) ?_))) ?_
            refine HPlan.callPure rfl rfl rfl q_en_40 (turn_spec _ _) (keptH_ids (by repeat (first | exact allId_nil | refine allId_cons (by repeat (first | exact List.Mem.head _ | apply List.Mem.tail | assumption)) (by repeat (first | exact List.Mem.head _ | apply List.Mem.tail | assumption)) ?_))) ?_
            refine HPlan.intBin rfl rfl rfl rfl rfl rfl ?_
            refine HPlan.callPure rfl rfl rfl q_en_40 (turn_spec _ _) (keptH_ids (by repeat (first | exact allId_nil | refine allId_cons (by repeat (first | exact List.Mem.head _ | apply List.Mem.tail | assumption)) (by repeat (first | exact List.Mem.head _ | apply List.Mem.tail | assumption)) ?_))) ?_
            refine HPlan.intBin rfl rfl rfl rfl rfl rfl ?_
            refine HPlan.intBin rfl rfl rfl rfl rfl (by first | exact add_i64 (by omega) (by omega) | rfl) ?_
            refine HPlan.intBin rfl rfl rfl rfl rfl (by first | exact add_i64 (by omega) (by omega) | rfl) ?_
            refine HPlan.intBin rfl rfl rfl rfl rfl (by first | exact add_i64 (by omega) (by omega) | rfl) ?_
            refine HPlan.intBin rfl rfl rfl rfl rfl (by first | exact add_i64 (by omega) (by omega) | rfl) ?_
            refine HPlan.assign rfl rfl rfl ?_
            refine HPlan.fin ?_
            refine onNorm_n ?_
            refine HWp.seq ?_
            refine HWp.draw q_mix (.rd 0 (.rd 2 (.rd 5 (.rd 8 (.rd 9 (.rd 10 (.rd 11 (.rd 12 (.rd 13 (.rd 14 (.rd 15 (.rd 16 (.rd 17 (.rd 18 (.rd 19 (.rd 20 (.rd 21 (.rd 22 (.act 1 [10, 14, 18, 20] (.act 3 [10, 14, 18, 20] (.rd 4 (.act 6 [10, 14, 18, 20] (.rd 7 (.rd 23 (.rd 24 .done))))))))))))))))))))))))) (by kernel_rfl) ?_
            refine HPlan.move rfl rfl rfl ?_
            refine HPlan.move rfl rfl rfl ?_
            refine HPlan.move rfl rfl rfl ?_
            refine HPlan.move rfl rfl rfl ?_
            refine HPlan.indexArr rfl rfl rfl rfl rfl q_ix_69 (by omega) (by omega) rfl ?_
            refine HPlan.load rfl rfl rfl q_sh_67 (by repeat (first | exact List.Mem.head _ | apply List.Mem.tail | assumption)) (by rw [words_length]; constructor <;> (try simp only [cond_false]) <;> omega) (word_load _ 1 _ (by omega) rfl) ?_
            refine HPlan.intBin rfl rfl rfl rfl rfl rfl ?_
            refine HPlan.move rfl rfl rfl ?_
            refine HPlan.indexArr rfl rfl rfl rfl rfl q_ix_69 (by omega) (by omega) rfl ?_
            refine HPlan.load rfl rfl rfl q_sh_67 (by repeat (first | exact List.Mem.head _ | apply List.Mem.tail | assumption)) (by rw [words_length]; constructor <;> (try simp only [cond_false]) <;> omega) (word_load _ 2 _ (by omega) rfl) ?_
            refine HPlan.intBin rfl rfl rfl rfl rfl rfl ?_
            refine HPlan.intBin rfl rfl rfl rfl rfl rfl ?_
            refine HPlan.indexArr rfl rfl rfl rfl rfl q_ix_69 (by omega) (by omega) rfl ?_
            refine HPlan.load rfl rfl rfl q_sh_67 (by repeat (first | exact List.Mem.head _ | apply List.Mem.tail | assumption)) (by rw [words_length]; constructor <;> (try simp only [cond_false]) <;> omega) (word_load _ 1 _ (by omega) rfl) ?_
            refine HPlan.indexArr rfl rfl rfl rfl rfl q_ix_69 (by omega) (by omega) rfl ?_
            refine HPlan.load rfl rfl rfl q_sh_67 (by repeat (first | exact List.Mem.head _ | apply List.Mem.tail | assumption)) (by rw [words_length]; constructor <;> (try simp only [cond_false]) <;> omega) (word_load _ 2 _ (by omega) rfl) ?_
            refine HPlan.intBin rfl rfl rfl rfl rfl rfl ?_
            refine HPlan.intBin rfl rfl rfl rfl rfl rfl ?_
            refine HPlan.callPure rfl rfl rfl q_en_40 (turn_spec _ _) (keptH_ids (by repeat (first | exact allId_nil | refine allId_cons (by repeat (first | exact List.Mem.head _ | apply List.Mem.tail | assumption)) (by repeat (first | exact List.Mem.head _ | apply List.Mem.tail | assumption)) ?_))) ?_
            refine HPlan.callPure rfl rfl rfl q_en_40 (turn_spec _ _) (keptH_ids (by repeat (first | exact allId_nil | refine allId_cons (by repeat (first | exact List.Mem.head _ | apply List.Mem.tail | assumption)) (by repeat (first | exact List.Mem.head _ | apply List.Mem.tail | assumption)) ?_))) ?_
            refine HPlan.intBin rfl rfl rfl rfl rfl rfl ?_
            refine HPlan.callPure rfl rfl rfl q_en_40 (turn_spec _ _) (keptH_ids (by repeat (first | exact allId_nil | refine allId_cons (by repeat (first | exact List.Mem.head _ | apply List.Mem.tail | assumption)) (by repeat (first | exact List.Mem.head _ | apply List.Mem.tail | assumption)) ?_))) ?_
            refine HPlan.intBin rfl rfl rfl rfl rfl rfl ?_
            refine HPlan.intBin rfl rfl rfl rfl rfl (by first | exact add_i64 (by omega) (by omega) | rfl) ?_
            refine HPlan.assign rfl rfl rfl ?_
            refine HPlan.fin ?_
            refine onNorm_n ?_
            refine HWp.text (.rd 0 (.rd 1 (.rd 2 (.rd 3 (.rd 4 (.rd 5 (.rd 6 (.rd 7 (.rd 8 (.rd 9 (.rd 10 (.rd 11 (.rd 12 (.rd 13 (.rd 14 (.rd 15 (.rd 16 (.rd 17 (.act 18 [] .done))))))))))))))))))) rfl ?_
            refine HPlan.move rfl rfl rfl ?_
            refine HPlan.move rfl rfl rfl ?_
            refine HPlan.intBin rfl rfl rfl rfl rfl (by first | exact add_i64 (by omega) (by omega) | rfl) ?_
            refine HPlan.move rfl rfl rfl ?_
            refine HPlan.indexArr rfl rfl rfl rfl rfl q_ix_69 (by omega) (by omega) rfl ?_
            refine HPlan.load rfl rfl rfl q_sh_67 (by repeat (first | exact List.Mem.head _ | apply List.Mem.tail | assumption)) (by rw [words_length]; constructor <;> (try simp only [cond_false]) <;> omega) (word_load _ 1 _ (by omega) rfl) ?_
            refine HPlan.indexArr rfl rfl rfl rfl rfl q_ix_69 (by omega) (by omega) rfl ?_
            refine HPlan.load rfl rfl rfl q_sh_67 (by repeat (first | exact List.Mem.head _ | apply List.Mem.tail | assumption)) (by rw [words_length]; constructor <;> (try simp only [cond_false]) <;> omega) (word_load _ 2 _ (by omega) rfl) ?_
            refine HPlan.indexArr rfl rfl rfl rfl rfl q_ix_69 (by omega) (by omega) rfl ?_
            refine HPlan.load rfl rfl rfl q_sh_67 (by repeat (first | exact List.Mem.head _ | apply List.Mem.tail | assumption)) (by rw [words_length]; constructor <;> (try simp only [cond_false]) <;> omega) (word_load _ 3 _ (by omega) rfl) ?_
            refine HPlan.move rfl rfl rfl ?_
            refine HPlan.intBin rfl rfl rfl rfl rfl (by first | exact add_i64 (by omega) (by omega) | rfl) ?_
            refine HPlan.move rfl rfl rfl ?_
            refine HPlan.indexArr rfl rfl rfl rfl rfl q_ix_69 (by omega) (by omega) rfl ?_
            refine HPlan.load rfl rfl rfl q_sh_67 (by repeat (first | exact List.Mem.head _ | apply List.Mem.tail | assumption)) (by rw [words_length]; constructor <;> (try simp only [cond_false]) <;> omega) (word_load _ 5 _ (by omega) rfl) ?_
            refine HPlan.indexArr rfl rfl rfl rfl rfl q_ix_69 (by omega) (by omega) rfl ?_
            refine HPlan.load rfl rfl rfl q_sh_67 (by repeat (first | exact List.Mem.head _ | apply List.Mem.tail | assumption)) (by rw [words_length]; constructor <;> (try simp only [cond_false]) <;> omega) (word_load _ 6 _ (by omega) rfl) ?_
            refine HPlan.build rfl rfl rfl q_zo_69 (by first | rfl | (simp; done)) q_pl_69 (fillOk_cons rfl (by first | rfl | (simp; done)) (by first | rfl | decide | omega | (simp; done) | (simp; omega)) (by first | rfl | decide | omega | (simp; done) | (simp; omega)) (fillOk_cons rfl (by first | rfl | (simp; done)) (by first | rfl | decide | omega | (simp; done) | (simp; omega)) (by first | rfl | decide | omega | (simp; done) | (simp; omega)) (fillOk_cons rfl (by first | rfl | (simp; done)) (by first | rfl | decide | omega | (simp; done) | (simp; omega)) (by first | rfl | decide | omega | (simp; done) | (simp; omega)) (fillOk_cons rfl (by first | rfl | (simp; done)) (by first | rfl | decide | omega | (simp; done) | (simp; omega)) (by first | rfl | decide | omega | (simp; done) | (simp; omega)) (fillOk_cons rfl (by first | rfl | (simp; done)) (by first | rfl | decide | omega | (simp; done) | (simp; omega)) (by first | rfl | decide | omega | (simp; done) | (simp; omega)) (fillOk_cons rfl (by first | rfl | (simp; done)) (by first | rfl | decide | omega | (simp; done) | (simp; omega)) (by first | rfl | decide | omega | (simp; done) | (simp; omega)) (fillOk_cons rfl (by first | rfl | (simp; done)) (by first | rfl | decide | omega | (simp; done) | (simp; omega)) (by first | rfl | decide | omega | (simp; done) | (simp; omega)) (fillOk_cons rfl (by first | rfl | (simp; done)) (by first | rfl | decide | omega | (simp; done) | (simp; omega)) (by first | rfl | decide | omega | (simp; done) | (simp; omega)) fillOk_nil)))))))) (by rfl : _ = LV.agg (words (roundF s (kList.getD k 0) ((spreadF l).getD k 0)))) ?_
            refine HPlan.store rfl rfl rfl rfl q_sz_69 (by first | rfl | (simp; done)) (by rw [agg_cells, words_length]; rfl) (by repeat (first | exact List.Mem.head _ | apply List.Mem.tail | assumption)) (splice_all _ _ (by rw [agg_cells, words_length, words_length, hsl]; rfl)) (by repeat (first | exact Upd.here | apply Upd.there)) (by rw [words_length]; omega) keptH_nil ?_
            refine HPlan.fin ?_
            refine onExitH_n ?_
            refine onNorm_n ?_
            refine HWp.text (.rd 0 (.rd 1 .done)) rfl ?_
            refine HPlan.intBin rfl rfl rfl rfl rfl (by first | exact add_i64 (by omega) (by omega) | rfl) ?_
            refine HPlan.move rfl rfl rfl ?_
            refine HPlan.fin ?_
            refine onNorm_n ?_
            subst hw
            refine ⟨(k + 1, ve + 1, rounds (spreadF l) st (k + 1)), (by simp only; omega), ⟨by simp only; omega, rfl⟩, (LessE.less (by repeat (first | exact LessE.nil | refine LessE.same rfl ?_ | refine LessE.own rfl ?_ | refine LessE.eq rfl ?_ (by first | rfl | (congr 1; omega) | simp))) rfl), (by repeat (first | exact Part.refl _ | refine Part.pull (by repeat (first | exact Pull.here | apply Pull.there)) ?_ | refine Part.skip _ ?_ | exact Part.nil _ | exact Part.app _ _)), (by repeat (first | exact Part.refl _ | refine Part.pull (by repeat (first | exact Pull.here | apply Pull.there)) ?_ | refine Part.skip _ ?_ | exact Part.nil _ | exact Part.app _ _))⟩
        · intro hc21
          first
          | (exact absurd hc21 Bool.false_ne_true)
          | (exact absurd hc21.symm Bool.false_ne_true)
          | ((try simp only [decide_eq_true_eq, decide_eq_false_iff_not, Bool.not_eq_true', Bool.not_eq_false', Bool.not_true, Bool.not_false, beq_iff_eq, bne_iff_ne, bne_eq_false_iff_eq, ne_eq, beq_eq_false_iff_ne, Int.not_lt, Int.not_le] at hc21); exfalso; omega)
          | (try simp only [decide_eq_true_eq, decide_eq_false_iff_not, Bool.not_eq_true', Bool.not_eq_false', Bool.not_true, Bool.not_false, beq_iff_eq, bne_iff_ne, bne_eq_false_iff_eq, ne_eq, beq_eq_false_iff_ne, Int.not_lt, Int.not_le] at hc21)
            refine HWp.exit ?_
            refine onNorm_e ?_
            refine onNorm_e ?_
            obtain rfl : k = 64 := by omega
            refine onExitH_hit ?_
            refine onNorm_n ?_
            refine HWp.seq ?_
            refine HWp.text (.rd 0 (.rd 1 .done)) rfl ?_
            refine HPlan.load rfl rfl rfl q_sh_69 (by repeat (first | exact List.Mem.head _ | apply List.Mem.tail | assumption)) (by rw [words_length]; constructor <;> (try simp only [cond_true]) <;> omega) (by simp only [cond_true, List.drop_zero]; rw [List.take_of_length_le (by rw [words_length]; omega)]) ?_
            refine HPlan.move rfl rfl rfl ?_
            refine HPlan.fin ?_
            refine onNorm_n ?_
            refine HWp.block ?_
            refine HWp.loopF (α := Nat × Nat × List Int) (fun q => 8 - q.1) (fun q => q.1 ≤ 8 ∧ q.2.2 = addN st s q.1) (fun q => ⟨114, [(0, .ref id 0), (99, .agg (words s)), (100, .int .i64 (q.1 : Int))]⟩) (fun q => (id, .cells ty (words q.2.2 ++ rest) q.2.1) :: F) (fun q => T) ?_ ?_
            · refine ⟨(0, ver, st), ⟨by simp only; omega, rfl⟩, (LessE.less (by repeat (first | exact LessE.nil | refine LessE.same rfl ?_ | refine LessE.own rfl ?_ | refine LessE.eq rfl ?_ (by first | rfl | (congr 1; omega) | simp))) rfl), (by repeat (first | exact Part.refl _ | refine Part.pull (by repeat (first | exact Pull.here | apply Pull.there)) ?_ | refine Part.skip _ ?_ | exact Part.nil _ | exact Part.app _ _)), (by repeat (first | exact Part.refl _ | refine Part.pull (by repeat (first | exact Pull.here | apply Pull.there)) ?_ | refine Part.skip _ ?_ | exact Part.nil _ | exact Part.app _ _))⟩
            · rintro q ⟨hk2, hw2⟩
              obtain ⟨k, ve2, s2⟩ := q
              simp only at hk2 hw2 ⊢
              have hsl2 : s2.length = 8 := by rw [hw2, addN_length, hst]
              refine HWp.seq ?_
              refine HWp.text (.rd 0 .done) rfl ?_
              refine HPlan.intBin rfl rfl rfl rfl rfl rfl ?_
              refine HPlan.fin ?_
              refine onNorm_n ?_
              refine HWp.seq ?_
              refine HWp.cond rfl ?_ ?_
              · intro hc101
                first
                | (exact absurd hc101 Bool.false_ne_true)
                | (exact absurd hc101.symm Bool.false_ne_true)
                | ((try simp only [decide_eq_true_eq, decide_eq_false_iff_not, Bool.not_eq_true', Bool.not_eq_false', Bool.not_true, Bool.not_false, beq_iff_eq, bne_iff_ne, bne_eq_false_iff_eq, ne_eq, beq_eq_false_iff_ne, Int.not_lt, Int.not_le] at hc101); exfalso; omega)
                | (try simp only [decide_eq_true_eq, decide_eq_false_iff_not, Bool.not_eq_true', Bool.not_eq_false', Bool.not_true, Bool.not_false, beq_iff_eq, bne_iff_ne, bne_eq_false_iff_eq, ne_eq, beq_eq_false_iff_ne, Int.not_lt, Int.not_le] at hc101)
                  refine HWp.skip ?_
                  refine onNorm_n ?_
                  refine HWp.seq ?_
                  refine HWp.block ?_
                  refine HWp.seq ?_
                  refine HWp.text (.rd 0 (.rd 1 (.rd 2 (.rd 3 .done)))) rfl ?_
                  refine HPlan.move rfl rfl rfl ?_
                  refine HPlan.indexAgg rfl rfl rfl rfl q_ar_69 (by decide) (by rw [words_length, hsl]) (by omega) (by omega) (word_part _ _ (by omega)) ?_
                  refine HPlan.assign rfl rfl rfl ?_
                  refine HPlan.assign rfl rfl rfl ?_
                  refine HPlan.fin ?_
                  refine onNorm_n ?_
                  refine HWp.draw q_mix (.rd 0 (.rd 1 (.rd 2 (.rd 3 (.rd 4 (.rd 5 (.rd 6 (.rd 7 (.rd 8 (.act 9 [] .done)))))))))) (by kernel_rfl) ?_
                  refine HPlan.move rfl rfl rfl ?_
                  refine HPlan.move rfl rfl rfl ?_
                  refine HPlan.nilCheck rfl rfl rfl rfl ?_
                  refine HPlan.indexArr rfl rfl rfl rfl rfl q_ix_69 (by omega) (by omega) rfl ?_
                  refine HPlan.load rfl rfl rfl q_sh_67 (by repeat (first | exact List.Mem.head _ | apply List.Mem.tail | assumption)) (by rw [List.length_append, words_length]; constructor <;> (try simp only [cond_false]) <;> omega) (word_loadA _ _ k _ (by omega) (by omega)) ?_
                  refine HPlan.move rfl rfl rfl ?_
                  refine HPlan.intBin rfl rfl rfl rfl rfl (by first | exact add_i64 (by omega) (by omega) | rfl) ?_
                  refine HPlan.nilCheck rfl rfl rfl rfl ?_
                  refine HPlan.indexArr rfl rfl rfl rfl rfl q_ix_69 (by omega) (by omega) rfl ?_
                  refine HPlan.store rfl rfl rfl rfl q_sz_67 (by first | rfl | (simp; done)) (by first | rfl | decide | omega | (simp; done) | (simp; omega)) (by repeat (first | exact List.Mem.head _ | apply List.Mem.tail | assumption)) (word_setA _ _ k _ _ (by omega) (by omega)) (by repeat (first | exact Upd.here | apply Upd.there)) (by rw [List.length_append, words_length]; omega) keptH_nil ?_
                  refine HPlan.fin ?_
                  refine onExitH_n ?_
                  refine onNorm_n ?_
                  refine HWp.text (.rd 0 (.rd 1 .done)) rfl ?_
                  refine HPlan.intBin rfl rfl rfl rfl rfl (by first | exact add_i64 (by omega) (by omega) | rfl) ?_
                  refine HPlan.move rfl rfl rfl ?_
                  refine HPlan.fin ?_
                  refine onNorm_n ?_
                  subst hw2
                  refine ⟨(k + 1, ve2 + 1, addN st s (k + 1)), (by simp only; omega), ⟨by simp only; omega, rfl⟩, (LessE.less (by repeat (first | exact LessE.nil | refine LessE.same rfl ?_ | refine LessE.own rfl ?_ | refine LessE.eq rfl ?_ (by first | rfl | (congr 1; omega) | simp))) rfl), (by repeat (first | exact Part.refl _ | refine Part.pull (by repeat (first | exact Pull.here | apply Pull.there)) ?_ | refine Part.skip _ ?_ | exact Part.nil _ | exact Part.app _ _)), (by repeat (first | exact Part.refl _ | refine Part.pull (by repeat (first | exact Pull.here | apply Pull.there)) ?_ | refine Part.skip _ ?_ | exact Part.nil _ | exact Part.app _ _))⟩
              · intro hc101
                first
                | (exact absurd hc101 Bool.false_ne_true)
                | (exact absurd hc101.symm Bool.false_ne_true)
                | ((try simp only [decide_eq_true_eq, decide_eq_false_iff_not, Bool.not_eq_true', Bool.not_eq_false', Bool.not_true, Bool.not_false, beq_iff_eq, bne_iff_ne, bne_eq_false_iff_eq, ne_eq, beq_eq_false_iff_ne, Int.not_lt, Int.not_le] at hc101); exfalso; omega)
                | (try simp only [decide_eq_true_eq, decide_eq_false_iff_not, Bool.not_eq_true', Bool.not_eq_false', Bool.not_true, Bool.not_false, beq_iff_eq, bne_iff_ne, bne_eq_false_iff_eq, ne_eq, beq_eq_false_iff_ne, Int.not_lt, Int.not_le] at hc101)
                  refine HWp.exit ?_
                  refine onNorm_e ?_
                  refine onNorm_e ?_
                  obtain rfl : k = 8 := by omega
                  refine onExitH_hit ?_
                  refine retQ_n .nil ?_
                  have hfin : s2 = takeF st l := by rw [hw2, hw]; rfl
                  rw [← hfin]
                  exact endK_of ⟨rfl, ve2, rfl, rfl⟩ (by repeat (first | exact Part.refl _ | refine Part.pull (by repeat (first | exact Pull.here | apply Pull.there)) ?_ | refine Part.skip _ ?_ | exact Part.nil _ | exact Part.app _ _)) (by repeat (first | exact Part.refl _ | refine Part.pull (by repeat (first | exact Pull.here | apply Pull.there)) ?_ | refine Part.skip _ ?_ | exact Part.nil _ | exact Part.app _ _))
    · refine HPlan.alloc rfl rfl q_zo_78 (by first | rfl | (simp; done)) (fun i5 => ⟨(keptH_ids (by repeat (first | exact allId_nil | refine allId_cons (by repeat (first | exact List.Mem.head _ | apply List.Mem.tail | assumption)) (by repeat (first | exact List.Mem.head _ | apply List.Mem.tail | assumption)) ?_))), ?_⟩)
      refine HPlan.alloc rfl rfl q_zo_69 (by first | rfl | (simp; done)) (fun i4 => ⟨(keptH_ids (by repeat (first | exact allId_nil | refine allId_cons (by repeat (first | exact List.Mem.head _ | apply List.Mem.tail | assumption)) (by repeat (first | exact List.Mem.head _ | apply List.Mem.tail | assumption)) ?_))), ?_⟩)
      refine HPlan.store rfl rfl rfl rfl q_sz_69 (by first | rfl | (simp; done)) (by rw [agg_cells, words_length, hst]) (by repeat (first | exact List.Mem.head _ | apply List.Mem.tail | assumption)) (splice_all _ _ (by rw [agg_cells, words_length, hst]; rfl)) (by repeat (first | exact Upd.here | apply Upd.there)) (by decide) keptH_nil ?_
      refine HPlan.store rfl rfl rfl rfl q_sz_78 (by first | rfl | (simp; done)) (by rw [agg_cells, words_length]; rfl) (by repeat (first | exact List.Mem.head _ | apply List.Mem.tail | assumption)) (splice_all _ _ (by rw [agg_cells, words_length]; rfl)) (by repeat (first | exact Upd.here | apply Upd.there)) (by decide) keptH_nil ?_
      refine HPlan.fin ?_
      refine onNorm_n ?_
      refine HWp.seq ?_
      refine HWp.seq ?_
      refine HWp.text (.rd 0 (.act 1 [] (.rd 2 .done))) rfl ?_
      refine HPlan.move rfl rfl rfl ?_
      refine HPlan.callPure rfl rfl rfl q_en_39 (spread_spec l _ hl hx) keptH_nil ?_
      refine HPlan.move rfl rfl rfl ?_
      refine HPlan.fin ?_
      refine onNorm_n ?_
      refine HWp.block ?_
      refine HWp.loopF (α := Nat × Nat × List Int) (fun q => 64 - q.1) (fun q => q.1 ≤ 64 ∧ q.2.2 = rounds (spreadF l) st q.1) (fun q => ⟨114, [(0, .ref id 0), (4, .ref i4 0), (5, .ref i5 0), (19, .agg (words (spreadF l))), (20, .int .i64 (q.1 : Int))]⟩) (fun q => (i4, .cells 69 (words q.2.2) q.2.1) :: (i5, .cells 78 (words kList) 1) :: (id, .cells ty (words st ++ rest) ver) :: F) (fun q => T) ?_ ?_
      · refine ⟨(0, 1, st), ⟨by simp only; omega, rfl⟩, (LessE.less (by repeat (first | exact LessE.nil | refine LessE.same rfl ?_ | refine LessE.own rfl ?_ | refine LessE.eq rfl ?_ (by first | rfl | (congr 1; omega) | simp))) rfl), (by repeat (first | exact Part.refl _ | refine Part.pull (by repeat (first | exact Pull.here | apply Pull.there)) ?_ | refine Part.skip _ ?_ | exact Part.nil _ | exact Part.app _ _)), (by repeat (first | exact Part.refl _ | refine Part.pull (by repeat (first | exact Pull.here | apply Pull.there)) ?_ | refine Part.skip _ ?_ | exact Part.nil _ | exact Part.app _ _))⟩
      · rintro q ⟨hk, hw⟩
        obtain ⟨k, ve, s⟩ := q
        simp only at hk hw ⊢
        have hsl : s.length = 8 := by rw [hw]; exact rounds_length _ _ hst _
        have hkl : kList.length = 64 := rfl
        have hwl := spreadF_length l
        refine HWp.seq ?_
        refine HWp.text (.rd 0 .done) rfl ?_
        refine HPlan.intBin rfl rfl rfl rfl rfl rfl ?_
        refine HPlan.fin ?_
        refine onNorm_n ?_
        refine HWp.seq ?_
        refine HWp.cond rfl ?_ ?_
        · intro hc21
          first
          | (exact absurd hc21 Bool.false_ne_true)
          | (exact absurd hc21.symm Bool.false_ne_true)
          | ((try simp only [decide_eq_true_eq, decide_eq_false_iff_not, Bool.not_eq_true', Bool.not_eq_false', Bool.not_true, Bool.not_false, beq_iff_eq, bne_iff_ne, bne_eq_false_iff_eq, ne_eq, beq_eq_false_iff_ne, Int.not_lt, Int.not_le] at hc21); exfalso; omega)
          | (try simp only [decide_eq_true_eq, decide_eq_false_iff_not, Bool.not_eq_true', Bool.not_eq_false', Bool.not_true, Bool.not_false, beq_iff_eq, bne_iff_ne, bne_eq_false_iff_eq, ne_eq, beq_eq_false_iff_ne, Int.not_lt, Int.not_le] at hc21)
            refine HWp.skip ?_
            refine onNorm_n ?_
            refine HWp.seq ?_
            refine HWp.block ?_
            refine HWp.seq ?_
            refine HWp.text (.rd 0 (.rd 1 (.rd 2 (.rd 3 .done)))) rfl ?_
            refine HPlan.move rfl rfl rfl ?_
            refine HPlan.indexAgg rfl rfl rfl rfl q_ar_78 (by decide) (by rw [words_length, hwl]) (by omega) (by omega) (word_part _ _ (by omega)) ?_
            refine HPlan.assign rfl rfl rfl ?_
            refine HPlan.assign rfl rfl rfl ?_
            refine HPlan.fin ?_
            refine onNorm_n ?_
            refine HWp.seq ?_
            refine HWp.draw q_mix (.rd 0 (.rd 1 (.rd 2 (.rd 3 (.rd 4 (.rd 5 .done)))))) (by kernel_rfl) ?_
            refine HPlan.indexArr rfl rfl rfl rfl rfl q_ix_69 (by omega) (by omega) rfl ?_
            refine HPlan.load rfl rfl rfl q_sh_67 (by repeat (first | exact List.Mem.head _ | apply List.Mem.tail | assumption)) (by rw [words_length]; constructor <;> (try simp only [cond_false]) <;> omega) (word_load _ 0 _ (by omega) rfl) ?_
            refine HPlan.indexArr rfl rfl rfl rfl rfl q_ix_69 (by omega) (by omega) rfl ?_
            refine HPlan.load rfl rfl rfl q_sh_67 (by repeat (first | exact List.Mem.head _ | apply List.Mem.tail | assumption)) (by rw [words_length]; constructor <;> (try simp only [cond_false]) <;> omega) (word_load _ 4 _ (by omega) rfl) ?_
            refine HPlan.assign rfl rfl rfl ?_
            refine HPlan.assign rfl rfl rfl ?_
            refine HPlan.fin ?_
            refine onNorm_n ?_
            refine HWp.seq ?_
            refine HWp.draw q_mix (.rd 0 (.rd 1 (.rd 2 (.rd 4 (.rd 7 (.rd 11 (.rd 12 (.rd 13 (.rd 14 (.rd 15 (.rd 16 (.rd 17 (.rd 18 (.rd 19 (.rd 20 (.rd 22 (.rd 23 (.rd 24 (.rd 26 (.act 3 [1, 13, 18, 24] (.act 5 [1, 13, 18, 24] (.rd 6 (.act 8 [1, 13, 18, 24] (.rd 9 (.rd 10 (.rd 21 (.rd 25 (.rd 27 (.rd 28 .done))))))))))))))))))))))))))))) (by kernel_rfl) ?_
            refine HPlan.indexArr rfl rfl rfl rfl rfl q_ix_69 (by omega) (by omega) rfl ?_
            refine HPlan.load rfl rfl rfl q_sh_67 (by repeat (first | exact List.Mem.head _ | apply List.Mem.tail | assumption)) (by rw [words_length]; constructor <;> (try simp only [cond_false]) <;> omega) (word_load _ 7 _ (by omega) rfl) ?_
            refine HPlan.move rfl rfl rfl ?_
            refine HPlan.move rfl rfl rfl ?_
            refine HPlan.move rfl rfl rfl ?_
            refine HPlan.move rfl rfl rfl ?_
            refine HPlan.indexArr rfl rfl rfl rfl rfl q_ix_69 (by omega) (by omega) rfl ?_
            refine HPlan.load rfl rfl rfl q_sh_67 (by repeat (first | exact List.Mem.head _ | apply List.Mem.tail | assumption)) (by rw [words_length]; constructor <;> (try simp only [cond_false]) <;> omega) (word_load _ 5 _ (by omega) rfl) ?_
            refine HPlan.intBin rfl rfl rfl rfl rfl rfl ?_
            refine HPlan.move rfl rfl rfl ?_
            refine HPlan.compl rfl rfl rfl rfl ?_
            refine HPlan.indexArr rfl rfl rfl rfl rfl q_ix_69 (by omega) (by omega) rfl ?_
            refine HPlan.load rfl rfl rfl q_sh_67 (by repeat (first | exact List.Mem.head _ | apply List.Mem.tail | assumption)) (by rw [words_length]; constructor <;> (try simp only [cond_false]) <;> omega) (word_load _ 6 _ (by omega) rfl) ?_
            refine HPlan.intBin rfl rfl rfl rfl rfl rfl ?_
            refine HPlan.intBin rfl rfl rfl rfl rfl rfl ?_
            refine HPlan.move rfl rfl rfl ?_
            refine HPlan.indexArr rfl rfl rfl rfl rfl q_ix_78 (by omega) (by omega) rfl ?_
            refine HPlan.load rfl rfl rfl q_sh_67 (by repeat (first | exact List.Mem.head _ | apply List.Mem.tail | assumption)) (by rw [words_length]; constructor <;> (try simp only [cond_false]) <;> omega) (word_load _ k _ (by omega) (by omega)) ?_
            refine HPlan.move rfl rfl rfl ?_
            refine HPlan.callPure rfl rfl rfl q_en_40 (turn_spec _ _) (keptH_ids (by repeat (first | exact allId_nil | refine allId_cons (by repeat (first | exact List.Mem.head _ | apply List.Mem.tail | assumption)) (by repeat (first | exact List.Mem.head _ | apply List.Mem.tail | assumption)) ?_))) ?_
            refine HPlan.callPure rfl rfl rfl q_en_40 (turn_spec _ _) (keptH_ids (by repeat (first | exact allId_nil | refine allId_cons (by repeat (first | exact List.Mem.head _ | apply List.Mem.tail | assumption)) (by repeat (first | exact List.Mem.head _ | apply List.Mem.tail | assumption)) ?_))) ?_
            refine HPlan.intBin rfl rfl rfl rfl rfl rfl ?_
            refine HPlan.callPure rfl rfl rfl q_en_40 (turn_spec _ _) (keptH_ids (by repeat (first | exact allId_nil | refine allId_cons (by repeat (first | exact List.Mem.head _ | apply List.Mem.tail | assumption)) (by repeat (first | exact List.Mem.head _ | apply List.Mem.tail | assumption)) ?_))) ?_
            refine HPlan.intBin rfl rfl rfl rfl rfl rfl ?_
            refine HPlan.intBin rfl rfl rfl rfl rfl (by first | exact add_i64 (by omega) (by omega) | rfl) ?_
            refine HPlan.intBin rfl rfl rfl rfl rfl (by first | exact add_i64 (by omega) (by omega) | rfl) ?_
            refine HPlan.intBin rfl rfl rfl rfl rfl (by first | exact add_i64 (by omega) (by omega) | rfl) ?_
            refine HPlan.intBin rfl rfl rfl rfl rfl (by first | exact add_i64 (by omega) (by omega) | rfl) ?_
            refine HPlan.assign rfl rfl rfl ?_
            refine HPlan.fin ?_
            refine onNorm_n ?_
            refine HWp.seq ?_
            refine HWp.draw q_mix (.rd 0 (.rd 2 (.rd 5 (.rd 8 (.rd 9 (.rd 10 (.rd 11 (.rd 12 (.rd 13 (.rd 14 (.rd 15 (.rd 16 (.rd 17 (.rd 18 (.rd 19 (.rd 20 (.rd 21 (.rd 22 (.act 1 [10, 14, 18, 20] (.act 3 [10, 14, 18, 20] (.rd 4 (.act 6 [10, 14, 18, 20] (.rd 7 (.rd 23 (.rd 24 .done))))))))))))))))))))))))) (by kernel_rfl) ?_
            refine HPlan.move rfl rfl rfl ?_
            refine HPlan.move rfl rfl rfl ?_
            refine HPlan.move rfl rfl rfl ?_
            refine HPlan.move rfl rfl rfl ?_
            refine HPlan.indexArr rfl rfl rfl rfl rfl q_ix_69 (by omega) (by omega) rfl ?_
            refine HPlan.load rfl rfl rfl q_sh_67 (by repeat (first | exact List.Mem.head _ | apply List.Mem.tail | assumption)) (by rw [words_length]; constructor <;> (try simp only [cond_false]) <;> omega) (word_load _ 1 _ (by omega) rfl) ?_
            refine HPlan.intBin rfl rfl rfl rfl rfl rfl ?_
            refine HPlan.move rfl rfl rfl ?_
            refine HPlan.indexArr rfl rfl rfl rfl rfl q_ix_69 (by omega) (by omega) rfl ?_
            refine HPlan.load rfl rfl rfl q_sh_67 (by repeat (first | exact List.Mem.head _ | apply List.Mem.tail | assumption)) (by rw [words_length]; constructor <;> (try simp only [cond_false]) <;> omega) (word_load _ 2 _ (by omega) rfl) ?_
            refine HPlan.intBin rfl rfl rfl rfl rfl rfl ?_
            refine HPlan.intBin rfl rfl rfl rfl rfl rfl ?_
            refine HPlan.indexArr rfl rfl rfl rfl rfl q_ix_69 (by omega) (by omega) rfl ?_
            refine HPlan.load rfl rfl rfl q_sh_67 (by repeat (first | exact List.Mem.head _ | apply List.Mem.tail | assumption)) (by rw [words_length]; constructor <;> (try simp only [cond_false]) <;> omega) (word_load _ 1 _ (by omega) rfl) ?_
            refine HPlan.indexArr rfl rfl rfl rfl rfl q_ix_69 (by omega) (by omega) rfl ?_
            refine HPlan.load rfl rfl rfl q_sh_67 (by repeat (first | exact List.Mem.head _ | apply List.Mem.tail | assumption)) (by rw [words_length]; constructor <;> (try simp only [cond_false]) <;> omega) (word_load _ 2 _ (by omega) rfl) ?_
            refine HPlan.intBin rfl rfl rfl rfl rfl rfl ?_
            refine HPlan.intBin rfl rfl rfl rfl rfl rfl ?_
            refine HPlan.callPure rfl rfl rfl q_en_40 (turn_spec _ _) (keptH_ids (by repeat (first | exact allId_nil | refine allId_cons (by repeat (first | exact List.Mem.head _ | apply List.Mem.tail | assumption)) (by repeat (first | exact List.Mem.head _ | apply List.Mem.tail | assumption)) ?_))) ?_
            refine HPlan.callPure rfl rfl rfl q_en_40 (turn_spec _ _) (keptH_ids (by repeat (first | exact allId_nil | refine allId_cons (by repeat (first | exact List.Mem.head _ | apply List.Mem.tail | assumption)) (by repeat (first | exact List.Mem.head _ | apply List.Mem.tail | assumption)) ?_))) ?_
            refine HPlan.intBin rfl rfl rfl rfl rfl rfl ?_
            refine HPlan.callPure rfl rfl rfl q_en_40 (turn_spec _ _) (keptH_ids (by repeat (first | exact allId_nil | refine allId_cons (by repeat (first | exact List.Mem.head _ | apply List.Mem.tail | assumption)) (by repeat (first | exact List.Mem.head _ | apply List.Mem.tail | assumption)) ?_))) ?_
            refine HPlan.intBin rfl rfl rfl rfl rfl rfl ?_
            refine HPlan.intBin rfl rfl rfl rfl rfl (by first | exact add_i64 (by omega) (by omega) | rfl) ?_
            refine HPlan.assign rfl rfl rfl ?_
            refine HPlan.fin ?_
            refine onNorm_n ?_
            refine HWp.text (.rd 0 (.rd 1 (.rd 2 (.rd 3 (.rd 4 (.rd 5 (.rd 6 (.rd 7 (.rd 8 (.rd 9 (.rd 10 (.rd 11 (.rd 12 (.rd 13 (.rd 14 (.rd 15 (.rd 16 (.rd 17 (.act 18 [] .done))))))))))))))))))) rfl ?_
            refine HPlan.move rfl rfl rfl ?_
            refine HPlan.move rfl rfl rfl ?_
            refine HPlan.intBin rfl rfl rfl rfl rfl (by first | exact add_i64 (by omega) (by omega) | rfl) ?_
            refine HPlan.move rfl rfl rfl ?_
            refine HPlan.indexArr rfl rfl rfl rfl rfl q_ix_69 (by omega) (by omega) rfl ?_
            refine HPlan.load rfl rfl rfl q_sh_67 (by repeat (first | exact List.Mem.head _ | apply List.Mem.tail | assumption)) (by rw [words_length]; constructor <;> (try simp only [cond_false]) <;> omega) (word_load _ 1 _ (by omega) rfl) ?_
            refine HPlan.indexArr rfl rfl rfl rfl rfl q_ix_69 (by omega) (by omega) rfl ?_
            refine HPlan.load rfl rfl rfl q_sh_67 (by repeat (first | exact List.Mem.head _ | apply List.Mem.tail | assumption)) (by rw [words_length]; constructor <;> (try simp only [cond_false]) <;> omega) (word_load _ 2 _ (by omega) rfl) ?_
            refine HPlan.indexArr rfl rfl rfl rfl rfl q_ix_69 (by omega) (by omega) rfl ?_
            refine HPlan.load rfl rfl rfl q_sh_67 (by repeat (first | exact List.Mem.head _ | apply List.Mem.tail | assumption)) (by rw [words_length]; constructor <;> (try simp only [cond_false]) <;> omega) (word_load _ 3 _ (by omega) rfl) ?_
            refine HPlan.move rfl rfl rfl ?_
            refine HPlan.intBin rfl rfl rfl rfl rfl (by first | exact add_i64 (by omega) (by omega) | rfl) ?_
            refine HPlan.move rfl rfl rfl ?_
            refine HPlan.indexArr rfl rfl rfl rfl rfl q_ix_69 (by omega) (by omega) rfl ?_
            refine HPlan.load rfl rfl rfl q_sh_67 (by repeat (first | exact List.Mem.head _ | apply List.Mem.tail | assumption)) (by rw [words_length]; constructor <;> (try simp only [cond_false]) <;> omega) (word_load _ 5 _ (by omega) rfl) ?_
            refine HPlan.indexArr rfl rfl rfl rfl rfl q_ix_69 (by omega) (by omega) rfl ?_
            refine HPlan.load rfl rfl rfl q_sh_67 (by repeat (first | exact List.Mem.head _ | apply List.Mem.tail | assumption)) (by rw [words_length]; constructor <;> (try simp only [cond_false]) <;> omega) (word_load _ 6 _ (by omega) rfl) ?_
            refine HPlan.build rfl rfl rfl q_zo_69 (by first | rfl | (simp; done)) q_pl_69 (fillOk_cons rfl (by first | rfl | (simp; done)) (by first | rfl | decide | omega | (simp; done) | (simp; omega)) (by first | rfl | decide | omega | (simp; done) | (simp; omega)) (fillOk_cons rfl (by first | rfl | (simp; done)) (by first | rfl | decide | omega | (simp; done) | (simp; omega)) (by first | rfl | decide | omega | (simp; done) | (simp; omega)) (fillOk_cons rfl (by first | rfl | (simp; done)) (by first | rfl | decide | omega | (simp; done) | (simp; omega)) (by first | rfl | decide | omega | (simp; done) | (simp; omega)) (fillOk_cons rfl (by first | rfl | (simp; done)) (by first | rfl | decide | omega | (simp; done) | (simp; omega)) (by first | rfl | decide | omega | (simp; done) | (simp; omega)) (fillOk_cons rfl (by first | rfl | (simp; done)) (by first | rfl | decide | omega | (simp; done) | (simp; omega)) (by first | rfl | decide | omega | (simp; done) | (simp; omega)) (fillOk_cons rfl (by first | rfl | (simp; done)) (by first | rfl | decide | omega | (simp; done) | (simp; omega)) (by first | rfl | decide | omega | (simp; done) | (simp; omega)) (fillOk_cons rfl (by first | rfl | (simp; done)) (by first | rfl | decide | omega | (simp; done) | (simp; omega)) (by first | rfl | decide | omega | (simp; done) | (simp; omega)) (fillOk_cons rfl (by first | rfl | (simp; done)) (by first | rfl | decide | omega | (simp; done) | (simp; omega)) (by first | rfl | decide | omega | (simp; done) | (simp; omega)) fillOk_nil)))))))) (by rfl : _ = LV.agg (words (roundF s (kList.getD k 0) ((spreadF l).getD k 0)))) ?_
            refine HPlan.store rfl rfl rfl rfl q_sz_69 (by first | rfl | (simp; done)) (by rw [agg_cells, words_length]; rfl) (by repeat (first | exact List.Mem.head _ | apply List.Mem.tail | assumption)) (splice_all _ _ (by rw [agg_cells, words_length, words_length, hsl]; rfl)) (by repeat (first | exact Upd.here | apply Upd.there)) (by rw [words_length]; omega) keptH_nil ?_
            refine HPlan.fin ?_
            refine onExitH_n ?_
            refine onNorm_n ?_
            refine HWp.text (.rd 0 (.rd 1 .done)) rfl ?_
            refine HPlan.intBin rfl rfl rfl rfl rfl (by first | exact add_i64 (by omega) (by omega) | rfl) ?_
            refine HPlan.move rfl rfl rfl ?_
            refine HPlan.fin ?_
            refine onNorm_n ?_
            subst hw
            refine ⟨(k + 1, ve + 1, rounds (spreadF l) st (k + 1)), (by simp only; omega), ⟨by simp only; omega, rfl⟩, (LessE.less (by repeat (first | exact LessE.nil | refine LessE.same rfl ?_ | refine LessE.own rfl ?_ | refine LessE.eq rfl ?_ (by first | rfl | (congr 1; omega) | simp))) rfl), (by repeat (first | exact Part.refl _ | refine Part.pull (by repeat (first | exact Pull.here | apply Pull.there)) ?_ | refine Part.skip _ ?_ | exact Part.nil _ | exact Part.app _ _)), (by repeat (first | exact Part.refl _ | refine Part.pull (by repeat (first | exact Pull.here | apply Pull.there)) ?_ | refine Part.skip _ ?_ | exact Part.nil _ | exact Part.app _ _))⟩
        · intro hc21
          first
          | (exact absurd hc21 Bool.false_ne_true)
          | (exact absurd hc21.symm Bool.false_ne_true)
          | ((try simp only [decide_eq_true_eq, decide_eq_false_iff_not, Bool.not_eq_true', Bool.not_eq_false', Bool.not_true, Bool.not_false, beq_iff_eq, bne_iff_ne, bne_eq_false_iff_eq, ne_eq, beq_eq_false_iff_ne, Int.not_lt, Int.not_le] at hc21); exfalso; omega)
          | (try simp only [decide_eq_true_eq, decide_eq_false_iff_not, Bool.not_eq_true', Bool.not_eq_false', Bool.not_true, Bool.not_false, beq_iff_eq, bne_iff_ne, bne_eq_false_iff_eq, ne_eq, beq_eq_false_iff_ne, Int.not_lt, Int.not_le] at hc21)
            refine HWp.exit ?_
            refine onNorm_e ?_
            refine onNorm_e ?_
            obtain rfl : k = 64 := by omega
            refine onExitH_hit ?_
            refine onNorm_n ?_
            refine HWp.seq ?_
            refine HWp.text (.rd 0 (.rd 1 .done)) rfl ?_
            refine HPlan.load rfl rfl rfl q_sh_69 (by repeat (first | exact List.Mem.head _ | apply List.Mem.tail | assumption)) (by rw [words_length]; constructor <;> (try simp only [cond_true]) <;> omega) (by simp only [cond_true, List.drop_zero]; rw [List.take_of_length_le (by rw [words_length]; omega)]) ?_
            refine HPlan.move rfl rfl rfl ?_
            refine HPlan.fin ?_
            refine onNorm_n ?_
            refine HWp.block ?_
            refine HWp.loopF (α := Nat × Nat × List Int) (fun q => 8 - q.1) (fun q => q.1 ≤ 8 ∧ q.2.2 = addN st s q.1) (fun q => ⟨114, [(0, .ref id 0), (99, .agg (words s)), (100, .int .i64 (q.1 : Int))]⟩) (fun q => (id, .cells ty (words q.2.2 ++ rest) q.2.1) :: F) (fun q => T) ?_ ?_
            · refine ⟨(0, ver, st), ⟨by simp only; omega, rfl⟩, (LessE.less (by repeat (first | exact LessE.nil | refine LessE.same rfl ?_ | refine LessE.own rfl ?_ | refine LessE.eq rfl ?_ (by first | rfl | (congr 1; omega) | simp))) rfl), (by repeat (first | exact Part.refl _ | refine Part.pull (by repeat (first | exact Pull.here | apply Pull.there)) ?_ | refine Part.skip _ ?_ | exact Part.nil _ | exact Part.app _ _)), (by repeat (first | exact Part.refl _ | refine Part.pull (by repeat (first | exact Pull.here | apply Pull.there)) ?_ | refine Part.skip _ ?_ | exact Part.nil _ | exact Part.app _ _))⟩
            · rintro q ⟨hk2, hw2⟩
              obtain ⟨k, ve2, s2⟩ := q
              simp only at hk2 hw2 ⊢
              have hsl2 : s2.length = 8 := by rw [hw2, addN_length, hst]
              refine HWp.seq ?_
              refine HWp.text (.rd 0 .done) rfl ?_
              refine HPlan.intBin rfl rfl rfl rfl rfl rfl ?_
              refine HPlan.fin ?_
              refine onNorm_n ?_
              refine HWp.seq ?_
              refine HWp.cond rfl ?_ ?_
              · intro hc101
                first
                | (exact absurd hc101 Bool.false_ne_true)
                | (exact absurd hc101.symm Bool.false_ne_true)
                | ((try simp only [decide_eq_true_eq, decide_eq_false_iff_not, Bool.not_eq_true', Bool.not_eq_false', Bool.not_true, Bool.not_false, beq_iff_eq, bne_iff_ne, bne_eq_false_iff_eq, ne_eq, beq_eq_false_iff_ne, Int.not_lt, Int.not_le] at hc101); exfalso; omega)
                | (try simp only [decide_eq_true_eq, decide_eq_false_iff_not, Bool.not_eq_true', Bool.not_eq_false', Bool.not_true, Bool.not_false, beq_iff_eq, bne_iff_ne, bne_eq_false_iff_eq, ne_eq, beq_eq_false_iff_ne, Int.not_lt, Int.not_le] at hc101)
                  refine HWp.skip ?_
                  refine onNorm_n ?_
                  refine HWp.seq ?_
                  refine HWp.block ?_
                  refine HWp.seq ?_
                  refine HWp.text (.rd 0 (.rd 1 (.rd 2 (.rd 3 .done)))) rfl ?_
                  refine HPlan.move rfl rfl rfl ?_
                  refine HPlan.indexAgg rfl rfl rfl rfl q_ar_69 (by decide) (by rw [words_length, hsl]) (by omega) (by omega) (word_part _ _ (by omega)) ?_
                  refine HPlan.assign rfl rfl rfl ?_
                  refine HPlan.assign rfl rfl rfl ?_
                  refine HPlan.fin ?_
                  refine onNorm_n ?_
                  refine HWp.draw q_mix (.rd 0 (.rd 1 (.rd 2 (.rd 3 (.rd 4 (.rd 5 (.rd 6 (.rd 7 (.rd 8 (.act 9 [] .done)))))))))) (by kernel_rfl) ?_
                  refine HPlan.move rfl rfl rfl ?_
                  refine HPlan.move rfl rfl rfl ?_
                  refine HPlan.nilCheck rfl rfl rfl rfl ?_
                  refine HPlan.indexArr rfl rfl rfl rfl rfl q_ix_69 (by omega) (by omega) rfl ?_
                  refine HPlan.load rfl rfl rfl q_sh_67 (by repeat (first | exact List.Mem.head _ | apply List.Mem.tail | assumption)) (by rw [List.length_append, words_length]; constructor <;> (try simp only [cond_false]) <;> omega) (word_loadA _ _ k _ (by omega) (by omega)) ?_
                  refine HPlan.move rfl rfl rfl ?_
                  refine HPlan.intBin rfl rfl rfl rfl rfl (by first | exact add_i64 (by omega) (by omega) | rfl) ?_
                  refine HPlan.nilCheck rfl rfl rfl rfl ?_
                  refine HPlan.indexArr rfl rfl rfl rfl rfl q_ix_69 (by omega) (by omega) rfl ?_
                  refine HPlan.store rfl rfl rfl rfl q_sz_67 (by first | rfl | (simp; done)) (by first | rfl | decide | omega | (simp; done) | (simp; omega)) (by repeat (first | exact List.Mem.head _ | apply List.Mem.tail | assumption)) (word_setA _ _ k _ _ (by omega) (by omega)) (by repeat (first | exact Upd.here | apply Upd.there)) (by rw [List.length_append, words_length]; omega) keptH_nil ?_
                  refine HPlan.fin ?_
                  refine onExitH_n ?_
                  refine onNorm_n ?_
                  refine HWp.text (.rd 0 (.rd 1 .done)) rfl ?_
                  refine HPlan.intBin rfl rfl rfl rfl rfl (by first | exact add_i64 (by omega) (by omega) | rfl) ?_
                  refine HPlan.move rfl rfl rfl ?_
                  refine HPlan.fin ?_
                  refine onNorm_n ?_
                  subst hw2
                  refine ⟨(k + 1, ve2 + 1, addN st s (k + 1)), (by simp only; omega), ⟨by simp only; omega, rfl⟩, (LessE.less (by repeat (first | exact LessE.nil | refine LessE.same rfl ?_ | refine LessE.own rfl ?_ | refine LessE.eq rfl ?_ (by first | rfl | (congr 1; omega) | simp))) rfl), (by repeat (first | exact Part.refl _ | refine Part.pull (by repeat (first | exact Pull.here | apply Pull.there)) ?_ | refine Part.skip _ ?_ | exact Part.nil _ | exact Part.app _ _)), (by repeat (first | exact Part.refl _ | refine Part.pull (by repeat (first | exact Pull.here | apply Pull.there)) ?_ | refine Part.skip _ ?_ | exact Part.nil _ | exact Part.app _ _))⟩
              · intro hc101
                first
                | (exact absurd hc101 Bool.false_ne_true)
                | (exact absurd hc101.symm Bool.false_ne_true)
                | ((try simp only [decide_eq_true_eq, decide_eq_false_iff_not, Bool.not_eq_true', Bool.not_eq_false', Bool.not_true, Bool.not_false, beq_iff_eq, bne_iff_ne, bne_eq_false_iff_eq, ne_eq, beq_eq_false_iff_ne, Int.not_lt, Int.not_le] at hc101); exfalso; omega)
                | (try simp only [decide_eq_true_eq, decide_eq_false_iff_not, Bool.not_eq_true', Bool.not_eq_false', Bool.not_true, Bool.not_false, beq_iff_eq, bne_iff_ne, bne_eq_false_iff_eq, ne_eq, beq_eq_false_iff_ne, Int.not_lt, Int.not_le] at hc101)
                  refine HWp.exit ?_
                  refine onNorm_e ?_
                  refine onNorm_e ?_
                  obtain rfl : k = 8 := by omega
                  refine onExitH_hit ?_
                  refine retQ_n .nil ?_
                  have hfin : s2 = takeF st l := by rw [hw2, hw]; rfl
                  rw [← hfin]
                  exact endK_of ⟨rfl, ve2, rfl, rfl⟩ (by repeat (first | exact Part.refl _ | refine Part.pull (by repeat (first | exact Pull.here | apply Pull.there)) ?_ | refine Part.skip _ ?_ | exact Part.nil _ | exact Part.app _ _)) (by repeat (first | exact Part.refl _ | refine Part.pull (by repeat (first | exact Pull.here | apply Pull.there)) ?_ | refine Part.skip _ ?_ | exact Part.nil _ | exact Part.app _ _))
  · refine HPlan.both ?_ ?_
    · refine HPlan.alloc rfl rfl q_zo_69 (by first | rfl | (simp; done)) (fun i4 => ⟨(keptH_ids (by repeat (first | exact allId_nil | refine allId_cons (by repeat (first | exact List.Mem.head _ | apply List.Mem.tail | assumption)) (by repeat (first | exact List.Mem.head _ | apply List.Mem.tail | assumption)) ?_))), ?_⟩)
      refine HPlan.both ?_ ?_
      · refine HPlan.callPure rfl rfl rfl q_en_38 const_spec (keptH_ids (by repeat (first | exact allId_nil | refine allId_cons (by repeat (first | exact List.Mem.head _ | apply List.Mem.tail | assumption)) (by repeat (first | exact List.Mem.head _ | apply List.Mem.tail | assumption)) ?_))) ?_
        refine HPlan.alloc rfl rfl q_zo_78 (by first | rfl | (simp; done)) (fun i5 => ⟨(keptH_ids (by repeat (first | exact allId_nil | refine allId_cons (by repeat (first | exact List.Mem.head _ | apply List.Mem.tail | assumption)) (by repeat (first | exact List.Mem.head _ | apply List.Mem.tail | assumption)) ?_))), ?_⟩)
        refine HPlan.store rfl rfl rfl rfl q_sz_69 (by first | rfl | (simp; done)) (by rw [agg_cells, words_length, hst]) (by repeat (first | exact List.Mem.head _ | apply List.Mem.tail | assumption)) (splice_all _ _ (by rw [agg_cells, words_length, hst]; rfl)) (by repeat (first | exact Upd.here | apply Upd.there)) (by decide) keptH_nil ?_
        refine HPlan.store rfl rfl rfl rfl q_sz_78 (by first | rfl | (simp; done)) (by rw [agg_cells, words_length]; rfl) (by repeat (first | exact List.Mem.head _ | apply List.Mem.tail | assumption)) (splice_all _ _ (by rw [agg_cells, words_length]; rfl)) (by repeat (first | exact Upd.here | apply Upd.there)) (by decide) keptH_nil ?_
        refine HPlan.fin ?_
        refine onNorm_n ?_
        refine HWp.seq ?_
        refine HWp.seq ?_
        refine HWp.text (.rd 0 (.act 1 [] (.rd 2 .done))) rfl ?_
        refine HPlan.move rfl rfl rfl ?_
        refine HPlan.callPure rfl rfl rfl q_en_39 (spread_spec l _ hl hx) keptH_nil ?_
        refine HPlan.move rfl rfl rfl ?_
        refine HPlan.fin ?_
        refine onNorm_n ?_
        refine HWp.block ?_
        refine HWp.loopF (α := Nat × Nat × List Int) (fun q => 64 - q.1) (fun q => q.1 ≤ 64 ∧ q.2.2 = rounds (spreadF l) st q.1) (fun q => ⟨114, [(0, .ref id 0), (4, .ref i4 0), (5, .ref i5 0), (19, .agg (words (spreadF l))), (20, .int .i64 (q.1 : Int))]⟩) (fun q => (i4, .cells 69 (words q.2.2) q.2.1) :: (i5, .cells 78 (words kList) 1) :: (id, .cells ty (words st ++ rest) ver) :: F) (fun q => T) ?_ ?_
        · refine ⟨(0, 1, st), ⟨by simp only; omega, rfl⟩, (LessE.less (by repeat (first | exact LessE.nil | refine LessE.same rfl ?_ | refine LessE.own rfl ?_ | refine LessE.eq rfl ?_ (by first | rfl | (congr 1; omega) | simp))) rfl), (by repeat (first | exact Part.refl _ | refine Part.pull (by repeat (first | exact Pull.here | apply Pull.there)) ?_ | refine Part.skip _ ?_ | exact Part.nil _ | exact Part.app _ _)), (by repeat (first | exact Part.refl _ | refine Part.pull (by repeat (first | exact Pull.here | apply Pull.there)) ?_ | refine Part.skip _ ?_ | exact Part.nil _ | exact Part.app _ _))⟩
        · rintro q ⟨hk, hw⟩
          obtain ⟨k, ve, s⟩ := q
          simp only at hk hw ⊢
          have hsl : s.length = 8 := by rw [hw]; exact rounds_length _ _ hst _
          have hkl : kList.length = 64 := rfl
          have hwl := spreadF_length l
          refine HWp.seq ?_
          refine HWp.text (.rd 0 .done) rfl ?_
          refine HPlan.intBin rfl rfl rfl rfl rfl rfl ?_
          refine HPlan.fin ?_
          refine onNorm_n ?_
          refine HWp.seq ?_
          refine HWp.cond rfl ?_ ?_
          · intro hc21
            first
            | (exact absurd hc21 Bool.false_ne_true)
            | (exact absurd hc21.symm Bool.false_ne_true)
            | ((try simp only [decide_eq_true_eq, decide_eq_false_iff_not, Bool.not_eq_true', Bool.not_eq_false', Bool.not_true, Bool.not_false, beq_iff_eq, bne_iff_ne, bne_eq_false_iff_eq, ne_eq, beq_eq_false_iff_ne, Int.not_lt, Int.not_le] at hc21); exfalso; omega)
            | (try simp only [decide_eq_true_eq, decide_eq_false_iff_not, Bool.not_eq_true', Bool.not_eq_false', Bool.not_true, Bool.not_false, beq_iff_eq, bne_iff_ne, bne_eq_false_iff_eq, ne_eq, beq_eq_false_iff_ne, Int.not_lt, Int.not_le] at hc21)
              refine HWp.skip ?_
              refine onNorm_n ?_
              refine HWp.seq ?_
              refine HWp.block ?_
              refine HWp.seq ?_
              refine HWp.text (.rd 0 (.rd 1 (.rd 2 (.rd 3 .done)))) rfl ?_
              refine HPlan.move rfl rfl rfl ?_
              refine HPlan.indexAgg rfl rfl rfl rfl q_ar_78 (by decide) (by rw [words_length, hwl]) (by omega) (by omega) (word_part _ _ (by omega)) ?_
              refine HPlan.assign rfl rfl rfl ?_
              refine HPlan.assign rfl rfl rfl ?_
              refine HPlan.fin ?_
              refine onNorm_n ?_
              refine HWp.seq ?_
              refine HWp.draw q_mix (.rd 0 (.rd 1 (.rd 2 (.rd 3 (.rd 4 (.rd 5 .done)))))) (by kernel_rfl) ?_
              refine HPlan.indexArr rfl rfl rfl rfl rfl q_ix_69 (by omega) (by omega) rfl ?_
              refine HPlan.load rfl rfl rfl q_sh_67 (by repeat (first | exact List.Mem.head _ | apply List.Mem.tail | assumption)) (by rw [words_length]; constructor <;> (try simp only [cond_false]) <;> omega) (word_load _ 0 _ (by omega) rfl) ?_
              refine HPlan.indexArr rfl rfl rfl rfl rfl q_ix_69 (by omega) (by omega) rfl ?_
              refine HPlan.load rfl rfl rfl q_sh_67 (by repeat (first | exact List.Mem.head _ | apply List.Mem.tail | assumption)) (by rw [words_length]; constructor <;> (try simp only [cond_false]) <;> omega) (word_load _ 4 _ (by omega) rfl) ?_
              refine HPlan.assign rfl rfl rfl ?_
              refine HPlan.assign rfl rfl rfl ?_
              refine HPlan.fin ?_
              refine onNorm_n ?_
              refine HWp.seq ?_
              refine HWp.draw q_mix (.rd 0 (.rd 1 (.rd 2 (.rd 4 (.rd 7 (.rd 11 (.rd 12 (.rd 13 (.rd 14 (.rd 15 (.rd 16 (.rd 17 (.rd 18 (.rd 19 (.rd 20 (.rd 22 (.rd 23 (.rd 24 (.rd 26 (.act 3 [1, 13, 18, 24] (.act 5 [1, 13, 18, 24] (.rd 6 (.act 8 [1, 13, 18, 24] (.rd 9 (.rd 10 (.rd 21 (.rd 25 (.rd 27 (.rd 28 .done))))))))))))))))))))))))))))) (by kernel_rfl) ?_
              refine HPlan.indexArr rfl rfl rfl rfl rfl q_ix_69 (by omega) (by omega) rfl ?_
              refine HPlan.load rfl rfl rfl q_sh_67 (by repeat (first | exact List.Mem.head _ | apply List.Mem.tail | assumption)) (by rw [words_length]; constructor <;> (try simp only [cond_false]) <;> omega) (word_load _ 7 _ (by omega) rfl) ?_
              refine HPlan.move rfl rfl rfl ?_
              refine HPlan.move rfl rfl rfl ?_
              refine HPlan.move rfl rfl rfl ?_
              refine HPlan.move rfl rfl rfl ?_
              refine HPlan.indexArr rfl rfl rfl rfl rfl q_ix_69 (by omega) (by omega) rfl ?_
              refine HPlan.load rfl rfl rfl q_sh_67 (by repeat (first | exact List.Mem.head _ | apply List.Mem.tail | assumption)) (by rw [words_length]; constructor <;> (try simp only [cond_false]) <;> omega) (word_load _ 5 _ (by omega) rfl) ?_
              refine HPlan.intBin rfl rfl rfl rfl rfl rfl ?_
              refine HPlan.move rfl rfl rfl ?_
              refine HPlan.compl rfl rfl rfl rfl ?_
              refine HPlan.indexArr rfl rfl rfl rfl rfl q_ix_69 (by omega) (by omega) rfl ?_
              refine HPlan.load rfl rfl rfl q_sh_67 (by repeat (first | exact List.Mem.head _ | apply List.Mem.tail | assumption)) (by rw [words_length]; constructor <;> (try simp only [cond_false]) <;> omega) (word_load _ 6 _ (by omega) rfl) ?_
              refine HPlan.intBin rfl rfl rfl rfl rfl rfl ?_
              refine HPlan.intBin rfl rfl rfl rfl rfl rfl ?_
              refine HPlan.move rfl rfl rfl ?_
              refine HPlan.indexArr rfl rfl rfl rfl rfl q_ix_78 (by omega) (by omega) rfl ?_
              refine HPlan.load rfl rfl rfl q_sh_67 (by repeat (first | exact List.Mem.head _ | apply List.Mem.tail | assumption)) (by rw [words_length]; constructor <;> (try simp only [cond_false]) <;> omega) (word_load _ k _ (by omega) (by omega)) ?_
              refine HPlan.move rfl rfl rfl ?_
              refine HPlan.callPure rfl rfl rfl q_en_40 (turn_spec _ _) (keptH_ids (by repeat (first | exact allId_nil | refine allId_cons (by repeat (first | exact List.Mem.head _ | apply List.Mem.tail | assumption)) (by repeat (first | exact List.Mem.head _ | apply List.Mem.tail | assumption)) ?_))) ?_
              refine HPlan.callPure rfl rfl rfl q_en_40 (turn_spec _ _) (keptH_ids (by repeat (first | exact allId_nil | refine allId_cons (by repeat (first | exact List.Mem.head _ | apply List.Mem.tail | assumption)) (by repeat (first | exact List.Mem.head _ | apply List.Mem.tail | assumption)) ?_))) ?_
              refine HPlan.intBin rfl rfl rfl rfl rfl rfl ?_
              refine HPlan.callPure rfl rfl rfl q_en_40 (turn_spec _ _) (keptH_ids (by repeat (first | exact allId_nil | refine allId_cons (by repeat (first | exact List.Mem.head _ | apply List.Mem.tail | assumption)) (by repeat (first | exact List.Mem.head _ | apply List.Mem.tail | assumption)) ?_))) ?_
              refine HPlan.intBin rfl rfl rfl rfl rfl rfl ?_
              refine HPlan.intBin rfl rfl rfl rfl rfl (by first | exact add_i64 (by omega) (by omega) | rfl) ?_
              refine HPlan.intBin rfl rfl rfl rfl rfl (by first | exact add_i64 (by omega) (by omega) | rfl) ?_
              refine HPlan.intBin rfl rfl rfl rfl rfl (by first | exact add_i64 (by omega) (by omega) | rfl) ?_
              refine HPlan.intBin rfl rfl rfl rfl rfl (by first | exact add_i64 (by omega) (by omega) | rfl) ?_
              refine HPlan.assign rfl rfl rfl ?_
              refine HPlan.fin ?_
              refine onNorm_n ?_
              refine HWp.seq ?_
              refine HWp.draw q_mix (.rd 0 (.rd 2 (.rd 5 (.rd 8 (.rd 9 (.rd 10 (.rd 11 (.rd 12 (.rd 13 (.rd 14 (.rd 15 (.rd 16 (.rd 17 (.rd 18 (.rd 19 (.rd 20 (.rd 21 (.rd 22 (.act 1 [10, 14, 18, 20] (.act 3 [10, 14, 18, 20] (.rd 4 (.act 6 [10, 14, 18, 20] (.rd 7 (.rd 23 (.rd 24 .done))))))))))))))))))))))))) (by kernel_rfl) ?_
              refine HPlan.move rfl rfl rfl ?_
              refine HPlan.move rfl rfl rfl ?_
              refine HPlan.move rfl rfl rfl ?_
              refine HPlan.move rfl rfl rfl ?_
              refine HPlan.indexArr rfl rfl rfl rfl rfl q_ix_69 (by omega) (by omega) rfl ?_
              refine HPlan.load rfl rfl rfl q_sh_67 (by repeat (first | exact List.Mem.head _ | apply List.Mem.tail | assumption)) (by rw [words_length]; constructor <;> (try simp only [cond_false]) <;> omega) (word_load _ 1 _ (by omega) rfl) ?_
              refine HPlan.intBin rfl rfl rfl rfl rfl rfl ?_
              refine HPlan.move rfl rfl rfl ?_
              refine HPlan.indexArr rfl rfl rfl rfl rfl q_ix_69 (by omega) (by omega) rfl ?_
              refine HPlan.load rfl rfl rfl q_sh_67 (by repeat (first | exact List.Mem.head _ | apply List.Mem.tail | assumption)) (by rw [words_length]; constructor <;> (try simp only [cond_false]) <;> omega) (word_load _ 2 _ (by omega) rfl) ?_
              refine HPlan.intBin rfl rfl rfl rfl rfl rfl ?_
              refine HPlan.intBin rfl rfl rfl rfl rfl rfl ?_
              refine HPlan.indexArr rfl rfl rfl rfl rfl q_ix_69 (by omega) (by omega) rfl ?_
              refine HPlan.load rfl rfl rfl q_sh_67 (by repeat (first | exact List.Mem.head _ | apply List.Mem.tail | assumption)) (by rw [words_length]; constructor <;> (try simp only [cond_false]) <;> omega) (word_load _ 1 _ (by omega) rfl) ?_
              refine HPlan.indexArr rfl rfl rfl rfl rfl q_ix_69 (by omega) (by omega) rfl ?_
              refine HPlan.load rfl rfl rfl q_sh_67 (by repeat (first | exact List.Mem.head _ | apply List.Mem.tail | assumption)) (by rw [words_length]; constructor <;> (try simp only [cond_false]) <;> omega) (word_load _ 2 _ (by omega) rfl) ?_
              refine HPlan.intBin rfl rfl rfl rfl rfl rfl ?_
              refine HPlan.intBin rfl rfl rfl rfl rfl rfl ?_
              refine HPlan.callPure rfl rfl rfl q_en_40 (turn_spec _ _) (keptH_ids (by repeat (first | exact allId_nil | refine allId_cons (by repeat (first | exact List.Mem.head _ | apply List.Mem.tail | assumption)) (by repeat (first | exact List.Mem.head _ | apply List.Mem.tail | assumption)) ?_))) ?_
              refine HPlan.callPure rfl rfl rfl q_en_40 (turn_spec _ _) (keptH_ids (by repeat (first | exact allId_nil | refine allId_cons (by repeat (first | exact List.Mem.head _ | apply List.Mem.tail | assumption)) (by repeat (first | exact List.Mem.head _ | apply List.Mem.tail | assumption)) ?_))) ?_
              refine HPlan.intBin rfl rfl rfl rfl rfl rfl ?_
              refine HPlan.callPure rfl rfl rfl q_en_40 (turn_spec _ _) (keptH_ids (by repeat (first | exact allId_nil | refine allId_cons (by repeat (first | exact List.Mem.head _ | apply List.Mem.tail | assumption)) (by repeat (first | exact List.Mem.head _ | apply List.Mem.tail | assumption)) ?_))) ?_
              refine HPlan.intBin rfl rfl rfl rfl rfl rfl ?_
              refine HPlan.intBin rfl rfl rfl rfl rfl (by first | exact add_i64 (by omega) (by omega) | rfl) ?_
              refine HPlan.assign rfl rfl rfl ?_
              refine HPlan.fin ?_
              refine onNorm_n ?_
              refine HWp.text (.rd 0 (.rd 1 (.rd 2 (.rd 3 (.rd 4 (.rd 5 (.rd 6 (.rd 7 (.rd 8 (.rd 9 (.rd 10 (.rd 11 (.rd 12 (.rd 13 (.rd 14 (.rd 15 (.rd 16 (.rd 17 (.act 18 [] .done))))))))))))))))))) rfl ?_
              refine HPlan.move rfl rfl rfl ?_
              refine HPlan.move rfl rfl rfl ?_
              refine HPlan.intBin rfl rfl rfl rfl rfl (by first | exact add_i64 (by omega) (by omega) | rfl) ?_
              refine HPlan.move rfl rfl rfl ?_
              refine HPlan.indexArr rfl rfl rfl rfl rfl q_ix_69 (by omega) (by omega) rfl ?_
              refine HPlan.load rfl rfl rfl q_sh_67 (by repeat (first | exact List.Mem.head _ | apply List.Mem.tail | assumption)) (by rw [words_length]; constructor <;> (try simp only [cond_false]) <;> omega) (word_load _ 1 _ (by omega) rfl) ?_
              refine HPlan.indexArr rfl rfl rfl rfl rfl q_ix_69 (by omega) (by omega) rfl ?_
              refine HPlan.load rfl rfl rfl q_sh_67 (by repeat (first | exact List.Mem.head _ | apply List.Mem.tail | assumption)) (by rw [words_length]; constructor <;> (try simp only [cond_false]) <;> omega) (word_load _ 2 _ (by omega) rfl) ?_
              refine HPlan.indexArr rfl rfl rfl rfl rfl q_ix_69 (by omega) (by omega) rfl ?_
              refine HPlan.load rfl rfl rfl q_sh_67 (by repeat (first | exact List.Mem.head _ | apply List.Mem.tail | assumption)) (by rw [words_length]; constructor <;> (try simp only [cond_false]) <;> omega) (word_load _ 3 _ (by omega) rfl) ?_
              refine HPlan.move rfl rfl rfl ?_
              refine HPlan.intBin rfl rfl rfl rfl rfl (by first | exact add_i64 (by omega) (by omega) | rfl) ?_
              refine HPlan.move rfl rfl rfl ?_
              refine HPlan.indexArr rfl rfl rfl rfl rfl q_ix_69 (by omega) (by omega) rfl ?_
              refine HPlan.load rfl rfl rfl q_sh_67 (by repeat (first | exact List.Mem.head _ | apply List.Mem.tail | assumption)) (by rw [words_length]; constructor <;> (try simp only [cond_false]) <;> omega) (word_load _ 5 _ (by omega) rfl) ?_
              refine HPlan.indexArr rfl rfl rfl rfl rfl q_ix_69 (by omega) (by omega) rfl ?_
              refine HPlan.load rfl rfl rfl q_sh_67 (by repeat (first | exact List.Mem.head _ | apply List.Mem.tail | assumption)) (by rw [words_length]; constructor <;> (try simp only [cond_false]) <;> omega) (word_load _ 6 _ (by omega) rfl) ?_
              refine HPlan.build rfl rfl rfl q_zo_69 (by first | rfl | (simp; done)) q_pl_69 (fillOk_cons rfl (by first | rfl | (simp; done)) (by first | rfl | decide | omega | (simp; done) | (simp; omega)) (by first | rfl | decide | omega | (simp; done) | (simp; omega)) (fillOk_cons rfl (by first | rfl | (simp; done)) (by first | rfl | decide | omega | (simp; done) | (simp; omega)) (by first | rfl | decide | omega | (simp; done) | (simp; omega)) (fillOk_cons rfl (by first | rfl | (simp; done)) (by first | rfl | decide | omega | (simp; done) | (simp; omega)) (by first | rfl | decide | omega | (simp; done) | (simp; omega)) (fillOk_cons rfl (by first | rfl | (simp; done)) (by first | rfl | decide | omega | (simp; done) | (simp; omega)) (by first | rfl | decide | omega | (simp; done) | (simp; omega)) (fillOk_cons rfl (by first | rfl | (simp; done)) (by first | rfl | decide | omega | (simp; done) | (simp; omega)) (by first | rfl | decide | omega | (simp; done) | (simp; omega)) (fillOk_cons rfl (by first | rfl | (simp; done)) (by first | rfl | decide | omega | (simp; done) | (simp; omega)) (by first | rfl | decide | omega | (simp; done) | (simp; omega)) (fillOk_cons rfl (by first | rfl | (simp; done)) (by first | rfl | decide | omega | (simp; done) | (simp; omega)) (by first | rfl | decide | omega | (simp; done) | (simp; omega)) (fillOk_cons rfl (by first | rfl | (simp; done)) (by first | rfl | decide | omega | (simp; done) | (simp; omega)) (by first | rfl | decide | omega | (simp; done) | (simp; omega)) fillOk_nil)))))))) (by rfl : _ = LV.agg (words (roundF s (kList.getD k 0) ((spreadF l).getD k 0)))) ?_
              refine HPlan.store rfl rfl rfl rfl q_sz_69 (by first | rfl | (simp; done)) (by rw [agg_cells, words_length]; rfl) (by repeat (first | exact List.Mem.head _ | apply List.Mem.tail | assumption)) (splice_all _ _ (by rw [agg_cells, words_length, words_length, hsl]; rfl)) (by repeat (first | exact Upd.here | apply Upd.there)) (by rw [words_length]; omega) keptH_nil ?_
              refine HPlan.fin ?_
              refine onExitH_n ?_
              refine onNorm_n ?_
              refine HWp.text (.rd 0 (.rd 1 .done)) rfl ?_
              refine HPlan.intBin rfl rfl rfl rfl rfl (by first | exact add_i64 (by omega) (by omega) | rfl) ?_
              refine HPlan.move rfl rfl rfl ?_
              refine HPlan.fin ?_
              refine onNorm_n ?_
              subst hw
              refine ⟨(k + 1, ve + 1, rounds (spreadF l) st (k + 1)), (by simp only; omega), ⟨by simp only; omega, rfl⟩, (LessE.less (by repeat (first | exact LessE.nil | refine LessE.same rfl ?_ | refine LessE.own rfl ?_ | refine LessE.eq rfl ?_ (by first | rfl | (congr 1; omega) | simp))) rfl), (by repeat (first | exact Part.refl _ | refine Part.pull (by repeat (first | exact Pull.here | apply Pull.there)) ?_ | refine Part.skip _ ?_ | exact Part.nil _ | exact Part.app _ _)), (by repeat (first | exact Part.refl _ | refine Part.pull (by repeat (first | exact Pull.here | apply Pull.there)) ?_ | refine Part.skip _ ?_ | exact Part.nil _ | exact Part.app _ _))⟩
          · intro hc21
            first
            | (exact absurd hc21 Bool.false_ne_true)
            | (exact absurd hc21.symm Bool.false_ne_true)
            | ((try simp only [decide_eq_true_eq, decide_eq_false_iff_not, Bool.not_eq_true', Bool.not_eq_false', Bool.not_true, Bool.not_false, beq_iff_eq, bne_iff_ne, bne_eq_false_iff_eq, ne_eq, beq_eq_false_iff_ne, Int.not_lt, Int.not_le] at hc21); exfalso; omega)
            | (try simp only [decide_eq_true_eq, decide_eq_false_iff_not, Bool.not_eq_true', Bool.not_eq_false', Bool.not_true, Bool.not_false, beq_iff_eq, bne_iff_ne, bne_eq_false_iff_eq, ne_eq, beq_eq_false_iff_ne, Int.not_lt, Int.not_le] at hc21)
              refine HWp.exit ?_
              refine onNorm_e ?_
              refine onNorm_e ?_
              obtain rfl : k = 64 := by omega
              refine onExitH_hit ?_
              refine onNorm_n ?_
              refine HWp.seq ?_
              refine HWp.text (.rd 0 (.rd 1 .done)) rfl ?_
              refine HPlan.load rfl rfl rfl q_sh_69 (by repeat (first | exact List.Mem.head _ | apply List.Mem.tail | assumption)) (by rw [words_length]; constructor <;> (try simp only [cond_true]) <;> omega) (by simp only [cond_true, List.drop_zero]; rw [List.take_of_length_le (by rw [words_length]; omega)]) ?_
              refine HPlan.move rfl rfl rfl ?_
              refine HPlan.fin ?_
              refine onNorm_n ?_
              refine HWp.block ?_
              refine HWp.loopF (α := Nat × Nat × List Int) (fun q => 8 - q.1) (fun q => q.1 ≤ 8 ∧ q.2.2 = addN st s q.1) (fun q => ⟨114, [(0, .ref id 0), (99, .agg (words s)), (100, .int .i64 (q.1 : Int))]⟩) (fun q => (id, .cells ty (words q.2.2 ++ rest) q.2.1) :: F) (fun q => T) ?_ ?_
              · refine ⟨(0, ver, st), ⟨by simp only; omega, rfl⟩, (LessE.less (by repeat (first | exact LessE.nil | refine LessE.same rfl ?_ | refine LessE.own rfl ?_ | refine LessE.eq rfl ?_ (by first | rfl | (congr 1; omega) | simp))) rfl), (by repeat (first | exact Part.refl _ | refine Part.pull (by repeat (first | exact Pull.here | apply Pull.there)) ?_ | refine Part.skip _ ?_ | exact Part.nil _ | exact Part.app _ _)), (by repeat (first | exact Part.refl _ | refine Part.pull (by repeat (first | exact Pull.here | apply Pull.there)) ?_ | refine Part.skip _ ?_ | exact Part.nil _ | exact Part.app _ _))⟩
              · rintro q ⟨hk2, hw2⟩
                obtain ⟨k, ve2, s2⟩ := q
                simp only at hk2 hw2 ⊢
                have hsl2 : s2.length = 8 := by rw [hw2, addN_length, hst]
                refine HWp.seq ?_
                refine HWp.text (.rd 0 .done) rfl ?_
                refine HPlan.intBin rfl rfl rfl rfl rfl rfl ?_
                refine HPlan.fin ?_
                refine onNorm_n ?_
                refine HWp.seq ?_
                refine HWp.cond rfl ?_ ?_
                · intro hc101
                  first
                  | (exact absurd hc101 Bool.false_ne_true)
                  | (exact absurd hc101.symm Bool.false_ne_true)
                  | ((try simp only [decide_eq_true_eq, decide_eq_false_iff_not, Bool.not_eq_true', Bool.not_eq_false', Bool.not_true, Bool.not_false, beq_iff_eq, bne_iff_ne, bne_eq_false_iff_eq, ne_eq, beq_eq_false_iff_ne, Int.not_lt, Int.not_le] at hc101); exfalso; omega)
                  | (try simp only [decide_eq_true_eq, decide_eq_false_iff_not, Bool.not_eq_true', Bool.not_eq_false', Bool.not_true, Bool.not_false, beq_iff_eq, bne_iff_ne, bne_eq_false_iff_eq, ne_eq, beq_eq_false_iff_ne, Int.not_lt, Int.not_le] at hc101)
                    refine HWp.skip ?_
                    refine onNorm_n ?_
                    refine HWp.seq ?_
                    refine HWp.block ?_
                    refine HWp.seq ?_
                    refine HWp.text (.rd 0 (.rd 1 (.rd 2 (.rd 3 .done)))) rfl ?_
                    refine HPlan.move rfl rfl rfl ?_
                    refine HPlan.indexAgg rfl rfl rfl rfl q_ar_69 (by decide) (by rw [words_length, hsl]) (by omega) (by omega) (word_part _ _ (by omega)) ?_
                    refine HPlan.assign rfl rfl rfl ?_
                    refine HPlan.assign rfl rfl rfl ?_
                    refine HPlan.fin ?_
                    refine onNorm_n ?_
                    refine HWp.draw q_mix (.rd 0 (.rd 1 (.rd 2 (.rd 3 (.rd 4 (.rd 5 (.rd 6 (.rd 7 (.rd 8 (.act 9 [] .done)))))))))) (by kernel_rfl) ?_
                    refine HPlan.move rfl rfl rfl ?_
                    refine HPlan.move rfl rfl rfl ?_
                    refine HPlan.nilCheck rfl rfl rfl rfl ?_
                    refine HPlan.indexArr rfl rfl rfl rfl rfl q_ix_69 (by omega) (by omega) rfl ?_
                    refine HPlan.load rfl rfl rfl q_sh_67 (by repeat (first | exact List.Mem.head _ | apply List.Mem.tail | assumption)) (by rw [List.length_append, words_length]; constructor <;> (try simp only [cond_false]) <;> omega) (word_loadA _ _ k _ (by omega) (by omega)) ?_
                    refine HPlan.move rfl rfl rfl ?_
                    refine HPlan.intBin rfl rfl rfl rfl rfl (by first | exact add_i64 (by omega) (by omega) | rfl) ?_
                    refine HPlan.nilCheck rfl rfl rfl rfl ?_
                    refine HPlan.indexArr rfl rfl rfl rfl rfl q_ix_69 (by omega) (by omega) rfl ?_
                    refine HPlan.store rfl rfl rfl rfl q_sz_67 (by first | rfl | (simp; done)) (by first | rfl | decide | omega | (simp; done) | (simp; omega)) (by repeat (first | exact List.Mem.head _ | apply List.Mem.tail | assumption)) (word_setA _ _ k _ _ (by omega) (by omega)) (by repeat (first | exact Upd.here | apply Upd.there)) (by rw [List.length_append, words_length]; omega) keptH_nil ?_
                    refine HPlan.fin ?_
                    refine onExitH_n ?_
                    refine onNorm_n ?_
                    refine HWp.text (.rd 0 (.rd 1 .done)) rfl ?_
                    refine HPlan.intBin rfl rfl rfl rfl rfl (by first | exact add_i64 (by omega) (by omega) | rfl) ?_
                    refine HPlan.move rfl rfl rfl ?_
                    refine HPlan.fin ?_
                    refine onNorm_n ?_
                    subst hw2
                    refine ⟨(k + 1, ve2 + 1, addN st s (k + 1)), (by simp only; omega), ⟨by simp only; omega, rfl⟩, (LessE.less (by repeat (first | exact LessE.nil | refine LessE.same rfl ?_ | refine LessE.own rfl ?_ | refine LessE.eq rfl ?_ (by first | rfl | (congr 1; omega) | simp))) rfl), (by repeat (first | exact Part.refl _ | refine Part.pull (by repeat (first | exact Pull.here | apply Pull.there)) ?_ | refine Part.skip _ ?_ | exact Part.nil _ | exact Part.app _ _)), (by repeat (first | exact Part.refl _ | refine Part.pull (by repeat (first | exact Pull.here | apply Pull.there)) ?_ | refine Part.skip _ ?_ | exact Part.nil _ | exact Part.app _ _))⟩
                · intro hc101
                  first
                  | (exact absurd hc101 Bool.false_ne_true)
                  | (exact absurd hc101.symm Bool.false_ne_true)
                  | ((try simp only [decide_eq_true_eq, decide_eq_false_iff_not, Bool.not_eq_true', Bool.not_eq_false', Bool.not_true, Bool.not_false, beq_iff_eq, bne_iff_ne, bne_eq_false_iff_eq, ne_eq, beq_eq_false_iff_ne, Int.not_lt, Int.not_le] at hc101); exfalso; omega)
                  | (try simp only [decide_eq_true_eq, decide_eq_false_iff_not, Bool.not_eq_true', Bool.not_eq_false', Bool.not_true, Bool.not_false, beq_iff_eq, bne_iff_ne, bne_eq_false_iff_eq, ne_eq, beq_eq_false_iff_ne, Int.not_lt, Int.not_le] at hc101)
                    refine HWp.exit ?_
                    refine onNorm_e ?_
                    refine onNorm_e ?_
                    obtain rfl : k = 8 := by omega
                    refine onExitH_hit ?_
                    refine retQ_n .nil ?_
                    have hfin : s2 = takeF st l := by rw [hw2, hw]; rfl
                    rw [← hfin]
                    exact endK_of ⟨rfl, ve2, rfl, rfl⟩ (by repeat (first | exact Part.refl _ | refine Part.pull (by repeat (first | exact Pull.here | apply Pull.there)) ?_ | refine Part.skip _ ?_ | exact Part.nil _ | exact Part.app _ _)) (by repeat (first | exact Part.refl _ | refine Part.pull (by repeat (first | exact Pull.here | apply Pull.there)) ?_ | refine Part.skip _ ?_ | exact Part.nil _ | exact Part.app _ _))
      · refine HPlan.alloc rfl rfl q_zo_78 (by first | rfl | (simp; done)) (fun i5 => ⟨(keptH_ids (by repeat (first | exact allId_nil | refine allId_cons (by repeat (first | exact List.Mem.head _ | apply List.Mem.tail | assumption)) (by repeat (first | exact List.Mem.head _ | apply List.Mem.tail | assumption)) ?_))), ?_⟩)
        refine HPlan.callPure rfl rfl rfl q_en_38 const_spec (keptH_ids (by repeat (first | exact allId_nil | refine allId_cons (by repeat (first | exact List.Mem.head _ | apply List.Mem.tail | assumption)) (by repeat (first | exact List.Mem.head _ | apply List.Mem.tail | assumption)) ?_))) ?_
        refine HPlan.store rfl rfl rfl rfl q_sz_69 (by first | rfl | (simp; done)) (by rw [agg_cells, words_length, hst]) (by repeat (first | exact List.Mem.head _ | apply List.Mem.tail | assumption)) (splice_all _ _ (by rw [agg_cells, words_length, hst]; rfl)) (by repeat (first | exact Upd.here | apply Upd.there)) (by decide) keptH_nil ?_
        refine HPlan.store rfl rfl rfl rfl q_sz_78 (by first | rfl | (simp; done)) (by rw [agg_cells, words_length]; rfl) (by repeat (first | exact List.Mem.head _ | apply List.Mem.tail | assumption)) (splice_all _ _ (by rw [agg_cells, words_length]; rfl)) (by repeat (first | exact Upd.here | apply Upd.there)) (by decide) keptH_nil ?_
        refine HPlan.fin ?_
        refine onNorm_n ?_
        refine HWp.seq ?_
        refine HWp.seq ?_
        refine HWp.text (.rd 0 (.act 1 [] (.rd 2 .done))) rfl ?_
        refine HPlan.move rfl rfl rfl ?_
        refine HPlan.callPure rfl rfl rfl q_en_39 (spread_spec l _ hl hx) keptH_nil ?_
        refine HPlan.move rfl rfl rfl ?_
        refine HPlan.fin ?_
        refine onNorm_n ?_
        refine HWp.block ?_
        refine HWp.loopF (α := Nat × Nat × List Int) (fun q => 64 - q.1) (fun q => q.1 ≤ 64 ∧ q.2.2 = rounds (spreadF l) st q.1) (fun q => ⟨114, [(0, .ref id 0), (4, .ref i4 0), (5, .ref i5 0), (19, .agg (words (spreadF l))), (20, .int .i64 (q.1 : Int))]⟩) (fun q => (i4, .cells 69 (words q.2.2) q.2.1) :: (i5, .cells 78 (words kList) 1) :: (id, .cells ty (words st ++ rest) ver) :: F) (fun q => T) ?_ ?_
        · refine ⟨(0, 1, st), ⟨by simp only; omega, rfl⟩, (LessE.less (by repeat (first | exact LessE.nil | refine LessE.same rfl ?_ | refine LessE.own rfl ?_ | refine LessE.eq rfl ?_ (by first | rfl | (congr 1; omega) | simp))) rfl), (by repeat (first | exact Part.refl _ | refine Part.pull (by repeat (first | exact Pull.here | apply Pull.there)) ?_ | refine Part.skip _ ?_ | exact Part.nil _ | exact Part.app _ _)), (by repeat (first | exact Part.refl _ | refine Part.pull (by repeat (first | exact Pull.here | apply Pull.there)) ?_ | refine Part.skip _ ?_ | exact Part.nil _ | exact Part.app _ _))⟩
        · rintro q ⟨hk, hw⟩
          obtain ⟨k, ve, s⟩ := q
          simp only at hk hw ⊢
          have hsl : s.length = 8 := by rw [hw]; exact rounds_length _ _ hst _
          have hkl : kList.length = 64 := rfl
          have hwl := spreadF_length l
          refine HWp.seq ?_
          refine HWp.text (.rd 0 .done) rfl ?_
          refine HPlan.intBin rfl rfl rfl rfl rfl rfl ?_
          refine HPlan.fin ?_
          refine onNorm_n ?_
          refine HWp.seq ?_
          refine HWp.cond rfl ?_ ?_
          · intro hc21
            first
            | (exact absurd hc21 Bool.false_ne_true)
            | (exact absurd hc21.symm Bool.false_ne_true)
            | ((try simp only [decide_eq_true_eq, decide_eq_false_iff_not, Bool.not_eq_true', Bool.not_eq_false', Bool.not_true, Bool.not_false, beq_iff_eq, bne_iff_ne, bne_eq_false_iff_eq, ne_eq, beq_eq_false_iff_ne, Int.not_lt, Int.not_le] at hc21); exfalso; omega)
            | (try simp only [decide_eq_true_eq, decide_eq_false_iff_not, Bool.not_eq_true', Bool.not_eq_false', Bool.not_true, Bool.not_false, beq_iff_eq, bne_iff_ne, bne_eq_false_iff_eq, ne_eq, beq_eq_false_iff_ne, Int.not_lt, Int.not_le] at hc21)
              refine HWp.skip ?_
              refine onNorm_n ?_
              refine HWp.seq ?_
              refine HWp.block ?_
              refine HWp.seq ?_
              refine HWp.text (.rd 0 (.rd 1 (.rd 2 (.rd 3 .done)))) rfl ?_
              refine HPlan.move rfl rfl rfl ?_
              refine HPlan.indexAgg rfl rfl rfl rfl q_ar_78 (by decide) (by rw [words_length, hwl]) (by omega) (by omega) (word_part _ _ (by omega)) ?_
              refine HPlan.assign rfl rfl rfl ?_
              refine HPlan.assign rfl rfl rfl ?_
              refine HPlan.fin ?_
              refine onNorm_n ?_
              refine HWp.seq ?_
              refine HWp.draw q_mix (.rd 0 (.rd 1 (.rd 2 (.rd 3 (.rd 4 (.rd 5 .done)))))) (by kernel_rfl) ?_
              refine HPlan.indexArr rfl rfl rfl rfl rfl q_ix_69 (by omega) (by omega) rfl ?_
              refine HPlan.load rfl rfl rfl q_sh_67 (by repeat (first | exact List.Mem.head _ | apply List.Mem.tail | assumption)) (by rw [words_length]; constructor <;> (try simp only [cond_false]) <;> omega) (word_load _ 0 _ (by omega) rfl) ?_
              refine HPlan.indexArr rfl rfl rfl rfl rfl q_ix_69 (by omega) (by omega) rfl ?_
              refine HPlan.load rfl rfl rfl q_sh_67 (by repeat (first | exact List.Mem.head _ | apply List.Mem.tail | assumption)) (by rw [words_length]; constructor <;> (try simp only [cond_false]) <;> omega) (word_load _ 4 _ (by omega) rfl) ?_
              refine HPlan.assign rfl rfl rfl ?_
              refine HPlan.assign rfl rfl rfl ?_
              refine HPlan.fin ?_
              refine onNorm_n ?_
              refine HWp.seq ?_
              refine HWp.draw q_mix (.rd 0 (.rd 1 (.rd 2 (.rd 4 (.rd 7 (.rd 11 (.rd 12 (.rd 13 (.rd 14 (.rd 15 (.rd 16 (.rd 17 (.rd 18 (.rd 19 (.rd 20 (.rd 22 (.rd 23 (.rd 24 (.rd 26 (.act 3 [1, 13, 18, 24] (.act 5 [1, 13, 18, 24] (.rd 6 (.act 8 [1, 13, 18, 24] (.rd 9 (.rd 10 (.rd 21 (.rd 25 (.rd 27 (.rd 28 .done))))))))))))))))))))))))))))) (by kernel_rfl) ?_
              refine HPlan.indexArr rfl rfl rfl rfl rfl q_ix_69 (by omega) (by omega) rfl ?_
              refine HPlan.load rfl rfl rfl q_sh_67 (by repeat (first | exact List.Mem.head _ | apply List.Mem.tail | assumption)) (by rw [words_length]; constructor <;> (try simp only [cond_false]) <;> omega) (word_load _ 7 _ (by omega) rfl) ?_
              refine HPlan.move rfl rfl rfl ?_
              refine HPlan.move rfl rfl rfl ?_
              refine HPlan.move rfl rfl rfl ?_
              refine HPlan.move rfl rfl rfl ?_
              refine HPlan.indexArr rfl rfl rfl rfl rfl q_ix_69 (by omega) (by omega) rfl ?_
              refine HPlan.load rfl rfl rfl q_sh_67 (by repeat (first | exact List.Mem.head _ | apply List.Mem.tail | assumption)) (by rw [words_length]; constructor <;> (try simp only [cond_false]) <;> omega) (word_load _ 5 _ (by omega) rfl) ?_
              refine HPlan.intBin rfl rfl rfl rfl rfl rfl ?_
              refine HPlan.move rfl rfl rfl ?_
              refine HPlan.compl rfl rfl rfl rfl ?_
              refine HPlan.indexArr rfl rfl rfl rfl rfl q_ix_69 (by omega) (by omega) rfl ?_
              refine HPlan.load rfl rfl rfl q_sh_67 (by repeat (first | exact List.Mem.head _ | apply List.Mem.tail | assumption)) (by rw [words_length]; constructor <;> (try simp only [cond_false]) <;> omega) (word_load _ 6 _ (by omega) rfl) ?_
              refine HPlan.intBin rfl rfl rfl rfl rfl rfl ?_
              refine HPlan.intBin rfl rfl rfl rfl rfl rfl ?_
              refine HPlan.move rfl rfl rfl ?_
              refine HPlan.indexArr rfl rfl rfl rfl rfl q_ix_78 (by omega) (by omega) rfl ?_
              refine HPlan.load rfl rfl rfl q_sh_67 (by repeat (first | exact List.Mem.head _ | apply List.Mem.tail | assumption)) (by rw [words_length]; constructor <;> (try simp only [cond_false]) <;> omega) (word_load _ k _ (by omega) (by omega)) ?_
              refine HPlan.move rfl rfl rfl ?_
              refine HPlan.callPure rfl rfl rfl q_en_40 (turn_spec _ _) (keptH_ids (by repeat (first | exact allId_nil | refine allId_cons (by repeat (first | exact List.Mem.head _ | apply List.Mem.tail | assumption)) (by repeat (first | exact List.Mem.head _ | apply List.Mem.tail | assumption)) ?_))) ?_
              refine HPlan.callPure rfl rfl rfl q_en_40 (turn_spec _ _) (keptH_ids (by repeat (first | exact allId_nil | refine allId_cons (by repeat (first | exact List.Mem.head _ | apply List.Mem.tail | assumption)) (by repeat (first | exact List.Mem.head _ | apply List.Mem.tail | assumption)) ?_))) ?_
              refine HPlan.intBin rfl rfl rfl rfl rfl rfl ?_
              refine HPlan.callPure rfl rfl rfl q_en_40 (turn_spec _ _) (keptH_ids (by repeat (first | exact allId_nil | refine allId_cons (by repeat (first | exact List.Mem.head _ | apply List.Mem.tail | assumption)) (by repeat (first | exact List.Mem.head _ | apply List.Mem.tail | assumption)) ?_))) ?_
              refine HPlan.intBin rfl rfl rfl rfl rfl rfl ?_
              refine HPlan.intBin rfl rfl rfl rfl rfl (by first | exact add_i64 (by omega) (by omega) | rfl) ?_
              refine HPlan.intBin rfl rfl rfl rfl rfl (by first | exact add_i64 (by omega) (by omega) | rfl) ?_
              refine HPlan.intBin rfl rfl rfl rfl rfl (by first | exact add_i64 (by omega) (by omega) | rfl) ?_
              refine HPlan.intBin rfl rfl rfl rfl rfl (by first | exact add_i64 (by omega) (by omega) | rfl) ?_
              refine HPlan.assign rfl rfl rfl ?_
              refine HPlan.fin ?_
              refine onNorm_n ?_
              refine HWp.seq ?_
              refine HWp.draw q_mix (.rd 0 (.rd 2 (.rd 5 (.rd 8 (.rd 9 (.rd 10 (.rd 11 (.rd 12 (.rd 13 (.rd 14 (.rd 15 (.rd 16 (.rd 17 (.rd 18 (.rd 19 (.rd 20 (.rd 21 (.rd 22 (.act 1 [10, 14, 18, 20] (.act 3 [10, 14, 18, 20] (.rd 4 (.act 6 [10, 14, 18, 20] (.rd 7 (.rd 23 (.rd 24 .done))))))))))))))))))))))))) (by kernel_rfl) ?_
              refine HPlan.move rfl rfl rfl ?_
              refine HPlan.move rfl rfl rfl ?_
              refine HPlan.move rfl rfl rfl ?_
              refine HPlan.move rfl rfl rfl ?_
              refine HPlan.indexArr rfl rfl rfl rfl rfl q_ix_69 (by omega) (by omega) rfl ?_
              refine HPlan.load rfl rfl rfl q_sh_67 (by repeat (first | exact List.Mem.head _ | apply List.Mem.tail | assumption)) (by rw [words_length]; constructor <;> (try simp only [cond_false]) <;> omega) (word_load _ 1 _ (by omega) rfl) ?_
              refine HPlan.intBin rfl rfl rfl rfl rfl rfl ?_
              refine HPlan.move rfl rfl rfl ?_
              refine HPlan.indexArr rfl rfl rfl rfl rfl q_ix_69 (by omega) (by omega) rfl ?_
              refine HPlan.load rfl rfl rfl q_sh_67 (by repeat (first | exact List.Mem.head _ | apply List.Mem.tail | assumption)) (by rw [words_length]; constructor <;> (try simp only [cond_false]) <;> omega) (word_load _ 2 _ (by omega) rfl) ?_
              refine HPlan.intBin rfl rfl rfl rfl rfl rfl ?_
              refine HPlan.intBin rfl rfl rfl rfl rfl rfl ?_
              refine HPlan.indexArr rfl rfl rfl rfl rfl q_ix_69 (by omega) (by omega) rfl ?_
              refine HPlan.load rfl rfl rfl q_sh_67 (by repeat (first | exact List.Mem.head _ | apply List.Mem.tail | assumption)) (by rw [words_length]; constructor <;> (try simp only [cond_false]) <;> omega) (word_load _ 1 _ (by omega) rfl) ?_
              refine HPlan.indexArr rfl rfl rfl rfl rfl q_ix_69 (by omega) (by omega) rfl ?_
              refine HPlan.load rfl rfl rfl q_sh_67 (by repeat (first | exact List.Mem.head _ | apply List.Mem.tail | assumption)) (by rw [words_length]; constructor <;> (try simp only [cond_false]) <;> omega) (word_load _ 2 _ (by omega) rfl) ?_
              refine HPlan.intBin rfl rfl rfl rfl rfl rfl ?_
              refine HPlan.intBin rfl rfl rfl rfl rfl rfl ?_
              refine HPlan.callPure rfl rfl rfl q_en_40 (turn_spec _ _) (keptH_ids (by repeat (first | exact allId_nil | refine allId_cons (by repeat (first | exact List.Mem.head _ | apply List.Mem.tail | assumption)) (by repeat (first | exact List.Mem.head _ | apply List.Mem.tail | assumption)) ?_))) ?_
              refine HPlan.callPure rfl rfl rfl q_en_40 (turn_spec _ _) (keptH_ids (by repeat (first | exact allId_nil | refine allId_cons (by repeat (first | exact List.Mem.head _ | apply List.Mem.tail | assumption)) (by repeat (first | exact List.Mem.head _ | apply List.Mem.tail | assumption)) ?_))) ?_
              refine HPlan.intBin rfl rfl rfl rfl rfl rfl ?_
              refine HPlan.callPure rfl rfl rfl q_en_40 (turn_spec _ _) (keptH_ids (by repeat (first | exact allId_nil | refine allId_cons (by repeat (first | exact List.Mem.head _ | apply List.Mem.tail | assumption)) (by repeat (first | exact List.Mem.head _ | apply List.Mem.tail | assumption)) ?_))) ?_
              refine HPlan.intBin rfl rfl rfl rfl rfl rfl ?_
              refine HPlan.intBin rfl rfl rfl rfl rfl (by first | exact add_i64 (by omega) (by omega) | rfl) ?_
              refine HPlan.assign rfl rfl rfl ?_
              refine HPlan.fin ?_
              refine onNorm_n ?_
              refine HWp.text (.rd 0 (.rd 1 (.rd 2 (.rd 3 (.rd 4 (.rd 5 (.rd 6 (.rd 7 (.rd 8 (.rd 9 (.rd 10 (.rd 11 (.rd 12 (.rd 13 (.rd 14 (.rd 15 (.rd 16 (.rd 17 (.act 18 [] .done))))))))))))))))))) rfl ?_
              refine HPlan.move rfl rfl rfl ?_
              refine HPlan.move rfl rfl rfl ?_
              refine HPlan.intBin rfl rfl rfl rfl rfl (by first | exact add_i64 (by omega) (by omega) | rfl) ?_
              refine HPlan.move rfl rfl rfl ?_
              refine HPlan.indexArr rfl rfl rfl rfl rfl q_ix_69 (by omega) (by omega) rfl ?_
              refine HPlan.load rfl rfl rfl q_sh_67 (by repeat (first | exact List.Mem.head _ | apply List.Mem.tail | assumption)) (by rw [words_length]; constructor <;> (try simp only [cond_false]) <;> omega) (word_load _ 1 _ (by omega) rfl) ?_
              refine HPlan.indexArr rfl rfl rfl rfl rfl q_ix_69 (by omega) (by omega) rfl ?_
              refine HPlan.load rfl rfl rfl q_sh_67 (by repeat (first | exact List.Mem.head _ | apply List.Mem.tail | assumption)) (by rw [words_length]; constructor <;> (try simp only [cond_false]) <;> omega) (word_load _ 2 _ (by omega) rfl) ?_
              refine HPlan.indexArr rfl rfl rfl rfl rfl q_ix_69 (by omega) (by omega) rfl ?_
              refine HPlan.load rfl rfl rfl q_sh_67 (by repeat (first | exact List.Mem.head _ | apply List.Mem.tail | assumption)) (by rw [words_length]; constructor <;> (try simp only [cond_false]) <;> omega) (word_load _ 3 _ (by omega) rfl) ?_
              refine HPlan.move rfl rfl rfl ?_
              refine HPlan.intBin rfl rfl rfl rfl rfl (by first | exact add_i64 (by omega) (by omega) | rfl) ?_
              refine HPlan.move rfl rfl rfl ?_
              refine HPlan.indexArr rfl rfl rfl rfl rfl q_ix_69 (by omega) (by omega) rfl ?_
              refine HPlan.load rfl rfl rfl q_sh_67 (by repeat (first | exact List.Mem.head _ | apply List.Mem.tail | assumption)) (by rw [words_length]; constructor <;> (try simp only [cond_false]) <;> omega) (word_load _ 5 _ (by omega) rfl) ?_
              refine HPlan.indexArr rfl rfl rfl rfl rfl q_ix_69 (by omega) (by omega) rfl ?_
              refine HPlan.load rfl rfl rfl q_sh_67 (by repeat (first | exact List.Mem.head _ | apply List.Mem.tail | assumption)) (by rw [words_length]; constructor <;> (try simp only [cond_false]) <;> omega) (word_load _ 6 _ (by omega) rfl) ?_
              refine HPlan.build rfl rfl rfl q_zo_69 (by first | rfl | (simp; done)) q_pl_69 (fillOk_cons rfl (by first | rfl | (simp; done)) (by first | rfl | decide | omega | (simp; done) | (simp; omega)) (by first | rfl | decide | omega | (simp; done) | (simp; omega)) (fillOk_cons rfl (by first | rfl | (simp; done)) (by first | rfl | decide | omega | (simp; done) | (simp; omega)) (by first | rfl | decide | omega | (simp; done) | (simp; omega)) (fillOk_cons rfl (by first | rfl | (simp; done)) (by first | rfl | decide | omega | (simp; done) | (simp; omega)) (by first | rfl | decide | omega | (simp; done) | (simp; omega)) (fillOk_cons rfl (by first | rfl | (simp; done)) (by first | rfl | decide | omega | (simp; done) | (simp; omega)) (by first | rfl | decide | omega | (simp; done) | (simp; omega)) (fillOk_cons rfl (by first | rfl | (simp; done)) (by first | rfl | decide | omega | (simp; done) | (simp; omega)) (by first | rfl | decide | omega | (simp; done) | (simp; omega)) (fillOk_cons rfl (by first | rfl | (simp; done)) (by first | rfl | decide | omega | (simp; done) | (simp; omega)) (by first | rfl | decide | omega | (simp; done) | (simp; omega)) (fillOk_cons rfl (by first | rfl | (simp; done)) (by first | rfl | decide | omega | (simp; done) | (simp; omega)) (by first | rfl | decide | omega | (simp; done) | (simp; omega)) (fillOk_cons rfl (by first | rfl | (simp; done)) (by first | rfl | decide | omega | (simp; done) | (simp; omega)) (by first | rfl | decide | omega | (simp; done) | (simp; omega)) fillOk_nil)))))))) (by rfl : _ = LV.agg (words (roundF s (kList.getD k 0) ((spreadF l).getD k 0)))) ?_
              refine HPlan.store rfl rfl rfl rfl q_sz_69 (by first | rfl | (simp; done)) (by rw [agg_cells, words_length]; rfl) (by repeat (first | exact List.Mem.head _ | apply List.Mem.tail | assumption)) (splice_all _ _ (by rw [agg_cells, words_length, words_length, hsl]; rfl)) (by repeat (first | exact Upd.here | apply Upd.there)) (by rw [words_length]; omega) keptH_nil ?_
              refine HPlan.fin ?_
              refine onExitH_n ?_
              refine onNorm_n ?_
              refine HWp.text (.rd 0 (.rd 1 .done)) rfl ?_
              refine HPlan.intBin rfl rfl rfl rfl rfl (by first | exact add_i64 (by omega) (by omega) | rfl) ?_
              refine HPlan.move rfl rfl rfl ?_
              refine HPlan.fin ?_
              refine onNorm_n ?_
              subst hw
              refine ⟨(k + 1, ve + 1, rounds (spreadF l) st (k + 1)), (by simp only; omega), ⟨by simp only; omega, rfl⟩, (LessE.less (by repeat (first | exact LessE.nil | refine LessE.same rfl ?_ | refine LessE.own rfl ?_ | refine LessE.eq rfl ?_ (by first | rfl | (congr 1; omega) | simp))) rfl), (by repeat (first | exact Part.refl _ | refine Part.pull (by repeat (first | exact Pull.here | apply Pull.there)) ?_ | refine Part.skip _ ?_ | exact Part.nil _ | exact Part.app _ _)), (by repeat (first | exact Part.refl _ | refine Part.pull (by repeat (first | exact Pull.here | apply Pull.there)) ?_ | refine Part.skip _ ?_ | exact Part.nil _ | exact Part.app _ _))⟩
          · intro hc21
            first
            | (exact absurd hc21 Bool.false_ne_true)
            | (exact absurd hc21.symm Bool.false_ne_true)
            | ((try simp only [decide_eq_true_eq, decide_eq_false_iff_not, Bool.not_eq_true', Bool.not_eq_false', Bool.not_true, Bool.not_false, beq_iff_eq, bne_iff_ne, bne_eq_false_iff_eq, ne_eq, beq_eq_false_iff_ne, Int.not_lt, Int.not_le] at hc21); exfalso; omega)
            | (try simp only [decide_eq_true_eq, decide_eq_false_iff_not, Bool.not_eq_true', Bool.not_eq_false', Bool.not_true, Bool.not_false, beq_iff_eq, bne_iff_ne, bne_eq_false_iff_eq, ne_eq, beq_eq_false_iff_ne, Int.not_lt, Int.not_le] at hc21)
              refine HWp.exit ?_
              refine onNorm_e ?_
              refine onNorm_e ?_
              obtain rfl : k = 64 := by omega
              refine onExitH_hit ?_
              refine onNorm_n ?_
              refine HWp.seq ?_
              refine HWp.text (.rd 0 (.rd 1 .done)) rfl ?_
              refine HPlan.load rfl rfl rfl q_sh_69 (by repeat (first | exact List.Mem.head _ | apply List.Mem.tail | assumption)) (by rw [words_length]; constructor <;> (try simp only [cond_true]) <;> omega) (by simp only [cond_true, List.drop_zero]; rw [List.take_of_length_le (by rw [words_length]; omega)]) ?_
              refine HPlan.move rfl rfl rfl ?_
              refine HPlan.fin ?_
              refine onNorm_n ?_
              refine HWp.block ?_
              refine HWp.loopF (α := Nat × Nat × List Int) (fun q => 8 - q.1) (fun q => q.1 ≤ 8 ∧ q.2.2 = addN st s q.1) (fun q => ⟨114, [(0, .ref id 0), (99, .agg (words s)), (100, .int .i64 (q.1 : Int))]⟩) (fun q => (id, .cells ty (words q.2.2 ++ rest) q.2.1) :: F) (fun q => T) ?_ ?_
              · refine ⟨(0, ver, st), ⟨by simp only; omega, rfl⟩, (LessE.less (by repeat (first | exact LessE.nil | refine LessE.same rfl ?_ | refine LessE.own rfl ?_ | refine LessE.eq rfl ?_ (by first | rfl | (congr 1; omega) | simp))) rfl), (by repeat (first | exact Part.refl _ | refine Part.pull (by repeat (first | exact Pull.here | apply Pull.there)) ?_ | refine Part.skip _ ?_ | exact Part.nil _ | exact Part.app _ _)), (by repeat (first | exact Part.refl _ | refine Part.pull (by repeat (first | exact Pull.here | apply Pull.there)) ?_ | refine Part.skip _ ?_ | exact Part.nil _ | exact Part.app _ _))⟩
              · rintro q ⟨hk2, hw2⟩
                obtain ⟨k, ve2, s2⟩ := q
                simp only at hk2 hw2 ⊢
                have hsl2 : s2.length = 8 := by rw [hw2, addN_length, hst]
                refine HWp.seq ?_
                refine HWp.text (.rd 0 .done) rfl ?_
                refine HPlan.intBin rfl rfl rfl rfl rfl rfl ?_
                refine HPlan.fin ?_
                refine onNorm_n ?_
                refine HWp.seq ?_
                refine HWp.cond rfl ?_ ?_
                · intro hc101
                  first
                  | (exact absurd hc101 Bool.false_ne_true)
                  | (exact absurd hc101.symm Bool.false_ne_true)
                  | ((try simp only [decide_eq_true_eq, decide_eq_false_iff_not, Bool.not_eq_true', Bool.not_eq_false', Bool.not_true, Bool.not_false, beq_iff_eq, bne_iff_ne, bne_eq_false_iff_eq, ne_eq, beq_eq_false_iff_ne, Int.not_lt, Int.not_le] at hc101); exfalso; omega)
                  | (try simp only [decide_eq_true_eq, decide_eq_false_iff_not, Bool.not_eq_true', Bool.not_eq_false', Bool.not_true, Bool.not_false, beq_iff_eq, bne_iff_ne, bne_eq_false_iff_eq, ne_eq, beq_eq_false_iff_ne, Int.not_lt, Int.not_le] at hc101)
                    refine HWp.skip ?_
                    refine onNorm_n ?_
                    refine HWp.seq ?_
                    refine HWp.block ?_
                    refine HWp.seq ?_
                    refine HWp.text (.rd 0 (.rd 1 (.rd 2 (.rd 3 .done)))) rfl ?_
                    refine HPlan.move rfl rfl rfl ?_
                    refine HPlan.indexAgg rfl rfl rfl rfl q_ar_69 (by decide) (by rw [words_length, hsl]) (by omega) (by omega) (word_part _ _ (by omega)) ?_
                    refine HPlan.assign rfl rfl rfl ?_
                    refine HPlan.assign rfl rfl rfl ?_
                    refine HPlan.fin ?_
                    refine onNorm_n ?_
                    refine HWp.draw q_mix (.rd 0 (.rd 1 (.rd 2 (.rd 3 (.rd 4 (.rd 5 (.rd 6 (.rd 7 (.rd 8 (.act 9 [] .done)))))))))) (by kernel_rfl) ?_
                    refine HPlan.move rfl rfl rfl ?_
                    refine HPlan.move rfl rfl rfl ?_
                    refine HPlan.nilCheck rfl rfl rfl rfl ?_
                    refine HPlan.indexArr rfl rfl rfl rfl rfl q_ix_69 (by omega) (by omega) rfl ?_
                    refine HPlan.load rfl rfl rfl q_sh_67 (by repeat (first | exact List.Mem.head _ | apply List.Mem.tail | assumption)) (by rw [List.length_append, words_length]; constructor <;> (try simp only [cond_false]) <;> omega) (word_loadA _ _ k _ (by omega) (by omega)) ?_
                    refine HPlan.move rfl rfl rfl ?_
                    refine HPlan.intBin rfl rfl rfl rfl rfl (by first | exact add_i64 (by omega) (by omega) | rfl) ?_
                    refine HPlan.nilCheck rfl rfl rfl rfl ?_
                    refine HPlan.indexArr rfl rfl rfl rfl rfl q_ix_69 (by omega) (by omega) rfl ?_
                    refine HPlan.store rfl rfl rfl rfl q_sz_67 (by first | rfl | (simp; done)) (by first | rfl | decide | omega | (simp; done) | (simp; omega)) (by repeat (first | exact List.Mem.head _ | apply List.Mem.tail | assumption)) (word_setA _ _ k _ _ (by omega) (by omega)) (by repeat (first | exact Upd.here | apply Upd.there)) (by rw [List.length_append, words_length]; omega) keptH_nil ?_
                    refine HPlan.fin ?_
                    refine onExitH_n ?_
                    refine onNorm_n ?_
                    refine HWp.text (.rd 0 (.rd 1 .done)) rfl ?_
                    refine HPlan.intBin rfl rfl rfl rfl rfl (by first | exact add_i64 (by omega) (by omega) | rfl) ?_
                    refine HPlan.move rfl rfl rfl ?_
                    refine HPlan.fin ?_
                    refine onNorm_n ?_
                    subst hw2
                    refine ⟨(k + 1, ve2 + 1, addN st s (k + 1)), (by simp only; omega), ⟨by simp only; omega, rfl⟩, (LessE.less (by repeat (first | exact LessE.nil | refine LessE.same rfl ?_ | refine LessE.own rfl ?_ | refine LessE.eq rfl ?_ (by first | rfl | (congr 1; omega) | simp))) rfl), (by repeat (first | exact Part.refl _ | refine Part.pull (by repeat (first | exact Pull.here | apply Pull.there)) ?_ | refine Part.skip _ ?_ | exact Part.nil _ | exact Part.app _ _)), (by repeat (first | exact Part.refl _ | refine Part.pull (by repeat (first | exact Pull.here | apply Pull.there)) ?_ | refine Part.skip _ ?_ | exact Part.nil _ | exact Part.app _ _))⟩
                · intro hc101
                  first
                  | (exact absurd hc101 Bool.false_ne_true)
                  | (exact absurd hc101.symm Bool.false_ne_true)
                  | ((try simp only [decide_eq_true_eq, decide_eq_false_iff_not, Bool.not_eq_true', Bool.not_eq_false', Bool.not_true, Bool.not_false, beq_iff_eq, bne_iff_ne, bne_eq_false_iff_eq, ne_eq, beq_eq_false_iff_ne, Int.not_lt, Int.not_le] at hc101); exfalso; omega)
                  | (try simp only [decide_eq_true_eq, decide_eq_false_iff_not, Bool.not_eq_true', Bool.not_eq_false', Bool.not_true, Bool.not_false, beq_iff_eq, bne_iff_ne, bne_eq_false_iff_eq, ne_eq, beq_eq_false_iff_ne, Int.not_lt, Int.not_le] at hc101)
                    refine HWp.exit ?_
                    refine onNorm_e ?_
                    refine onNorm_e ?_
                    obtain rfl : k = 8 := by omega
                    refine onExitH_hit ?_
                    refine retQ_n .nil ?_
                    have hfin : s2 = takeF st l := by rw [hw2, hw]; rfl
                    rw [← hfin]
                    exact endK_of ⟨rfl, ve2, rfl, rfl⟩ (by repeat (first | exact Part.refl _ | refine Part.pull (by repeat (first | exact Pull.here | apply Pull.there)) ?_ | refine Part.skip _ ?_ | exact Part.nil _ | exact Part.app _ _)) (by repeat (first | exact Part.refl _ | refine Part.pull (by repeat (first | exact Pull.here | apply Pull.there)) ?_ | refine Part.skip _ ?_ | exact Part.nil _ | exact Part.app _ _))
    · refine HPlan.alloc rfl rfl q_zo_78 (by first | rfl | (simp; done)) (fun i5 => ⟨(keptH_ids (by repeat (first | exact allId_nil | refine allId_cons (by repeat (first | exact List.Mem.head _ | apply List.Mem.tail | assumption)) (by repeat (first | exact List.Mem.head _ | apply List.Mem.tail | assumption)) ?_))), ?_⟩)
      refine HPlan.both ?_ ?_
      · refine HPlan.callPure rfl rfl rfl q_en_38 const_spec (keptH_ids (by repeat (first | exact allId_nil | refine allId_cons (by repeat (first | exact List.Mem.head _ | apply List.Mem.tail | assumption)) (by repeat (first | exact List.Mem.head _ | apply List.Mem.tail | assumption)) ?_))) ?_
        refine HPlan.alloc rfl rfl q_zo_69 (by first | rfl | (simp; done)) (fun i4 => ⟨(keptH_ids (by repeat (first | exact allId_nil | refine allId_cons (by repeat (first | exact List.Mem.head _ | apply List.Mem.tail | assumption)) (by repeat (first | exact List.Mem.head _ | apply List.Mem.tail | assumption)) ?_))), ?_⟩)
        refine HPlan.store rfl rfl rfl rfl q_sz_69 (by first | rfl | (simp; done)) (by rw [agg_cells, words_length, hst]) (by repeat (first | exact List.Mem.head _ | apply List.Mem.tail | assumption)) (splice_all _ _ (by rw [agg_cells, words_length, hst]; rfl)) (by repeat (first | exact Upd.here | apply Upd.there)) (by decide) keptH_nil ?_
        refine HPlan.store rfl rfl rfl rfl q_sz_78 (by first | rfl | (simp; done)) (by rw [agg_cells, words_length]; rfl) (by repeat (first | exact List.Mem.head _ | apply List.Mem.tail | assumption)) (splice_all _ _ (by rw [agg_cells, words_length]; rfl)) (by repeat (first | exact Upd.here | apply Upd.there)) (by decide) keptH_nil ?_
        refine HPlan.fin ?_
        refine onNorm_n ?_
        refine HWp.seq ?_
        refine HWp.seq ?_
        refine HWp.text (.rd 0 (.act 1 [] (.rd 2 .done))) rfl ?_
        refine HPlan.move rfl rfl rfl ?_
        refine HPlan.callPure rfl rfl rfl q_en_39 (spread_spec l _ hl hx) keptH_nil ?_
        refine HPlan.move rfl rfl rfl ?_
        refine HPlan.fin ?_
        refine onNorm_n ?_
        refine HWp.block ?_
        refine HWp.loopF (α := Nat × Nat × List Int) (fun q => 64 - q.1) (fun q => q.1 ≤ 64 ∧ q.2.2 = rounds (spreadF l) st q.1) (fun q => ⟨114, [(0, .ref id 0), (4, .ref i4 0), (5, .ref i5 0), (19, .agg (words (spreadF l))), (20, .int .i64 (q.1 : Int))]⟩) (fun q => (i4, .cells 69 (words q.2.2) q.2.1) :: (i5, .cells 78 (words kList) 1) :: (id, .cells ty (words st ++ rest) ver) :: F) (fun q => T) ?_ ?_
        · refine ⟨(0, 1, st), ⟨by simp only; omega, rfl⟩, (LessE.less (by repeat (first | exact LessE.nil | refine LessE.same rfl ?_ | refine LessE.own rfl ?_ | refine LessE.eq rfl ?_ (by first | rfl | (congr 1; omega) | simp))) rfl), (by repeat (first | exact Part.refl _ | refine Part.pull (by repeat (first | exact Pull.here | apply Pull.there)) ?_ | refine Part.skip _ ?_ | exact Part.nil _ | exact Part.app _ _)), (by repeat (first | exact Part.refl _ | refine Part.pull (by repeat (first | exact Pull.here | apply Pull.there)) ?_ | refine Part.skip _ ?_ | exact Part.nil _ | exact Part.app _ _))⟩
        · rintro q ⟨hk, hw⟩
          obtain ⟨k, ve, s⟩ := q
          simp only at hk hw ⊢
          have hsl : s.length = 8 := by rw [hw]; exact rounds_length _ _ hst _
          have hkl : kList.length = 64 := rfl
          have hwl := spreadF_length l
          refine HWp.seq ?_
          refine HWp.text (.rd 0 .done) rfl ?_
          refine HPlan.intBin rfl rfl rfl rfl rfl rfl ?_
          refine HPlan.fin ?_
          refine onNorm_n ?_
          refine HWp.seq ?_
          refine HWp.cond rfl ?_ ?_
          · intro hc21
            first
            | (exact absurd hc21 Bool.false_ne_true)
            | (exact absurd hc21.symm Bool.false_ne_true)
            | ((try simp only [decide_eq_true_eq, decide_eq_false_iff_not, Bool.not_eq_true', Bool.not_eq_false', Bool.not_true, Bool.not_false, beq_iff_eq, bne_iff_ne, bne_eq_false_iff_eq, ne_eq, beq_eq_false_iff_ne, Int.not_lt, Int.not_le] at hc21); exfalso; omega)
            | (try simp only [decide_eq_true_eq, decide_eq_false_iff_not, Bool.not_eq_true', Bool.not_eq_false', Bool.not_true, Bool.not_false, beq_iff_eq, bne_iff_ne, bne_eq_false_iff_eq, ne_eq, beq_eq_false_iff_ne, Int.not_lt, Int.not_le] at hc21)
              refine HWp.skip ?_
              refine onNorm_n ?_
              refine HWp.seq ?_
              refine HWp.block ?_
              refine HWp.seq ?_
              refine HWp.text (.rd 0 (.rd 1 (.rd 2 (.rd 3 .done)))) rfl ?_
              refine HPlan.move rfl rfl rfl ?_
              refine HPlan.indexAgg rfl rfl rfl rfl q_ar_78 (by decide) (by rw [words_length, hwl]) (by omega) (by omega) (word_part _ _ (by omega)) ?_
              refine HPlan.assign rfl rfl rfl ?_
              refine HPlan.assign rfl rfl rfl ?_
              refine HPlan.fin ?_
              refine onNorm_n ?_
              refine HWp.seq ?_
              refine HWp.draw q_mix (.rd 0 (.rd 1 (.rd 2 (.rd 3 (.rd 4 (.rd 5 .done)))))) (by kernel_rfl) ?_
              refine HPlan.indexArr rfl rfl rfl rfl rfl q_ix_69 (by omega) (by omega) rfl ?_
              refine HPlan.load rfl rfl rfl q_sh_67 (by repeat (first | exact List.Mem.head _ | apply List.Mem.tail | assumption)) (by rw [words_length]; constructor <;> (try simp only [cond_false]) <;> omega) (word_load _ 0 _ (by omega) rfl) ?_
              refine HPlan.indexArr rfl rfl rfl rfl rfl q_ix_69 (by omega) (by omega) rfl ?_
              refine HPlan.load rfl rfl rfl q_sh_67 (by repeat (first | exact List.Mem.head _ | apply List.Mem.tail | assumption)) (by rw [words_length]; constructor <;> (try simp only [cond_false]) <;> omega) (word_load _ 4 _ (by omega) rfl) ?_
              refine HPlan.assign rfl rfl rfl ?_
              refine HPlan.assign rfl rfl rfl ?_
              refine HPlan.fin ?_
              refine onNorm_n ?_
              refine HWp.seq ?_
              refine HWp.draw q_mix (.rd 0 (.rd 1 (.rd 2 (.rd 4 (.rd 7 (.rd 11 (.rd 12 (.rd 13 (.rd 14 (.rd 15 (.rd 16 (.rd 17 (.rd 18 (.rd 19 (.rd 20 (.rd 22 (.rd 23 (.rd 24 (.rd 26 (.act 3 [1, 13, 18, 24] (.act 5 [1, 13, 18, 24] (.rd 6 (.act 8 [1, 13, 18, 24] (.rd 9 (.rd 10 (.rd 21 (.rd 25 (.rd 27 (.rd 28 .done))))))))))))))))))))))))))))) (by kernel_rfl) ?_
              refine HPlan.indexArr rfl rfl rfl rfl rfl q_ix_69 (by omega) (by omega) rfl ?_
              refine HPlan.load rfl rfl rfl q_sh_67 (by repeat (first | exact List.Mem.head _ | apply List.Mem.tail | assumption)) (by rw [words_length]; constructor <;> (try simp only [cond_false]) <;> omega) (word_load _ 7 _ (by omega) rfl) ?_
              refine HPlan.move rfl rfl rfl ?_
              refine HPlan.move rfl rfl rfl ?_
              refine HPlan.move rfl rfl rfl ?_
              refine HPlan.move rfl rfl rfl ?_
              refine HPlan.indexArr rfl rfl rfl rfl rfl q_ix_69 (by omega) (by omega) rfl ?_
              refine HPlan.load rfl rfl rfl q_sh_67 (by repeat (first | exact List.Mem.head _ | apply List.Mem.tail | assumption)) (by rw [words_length]; constructor <;> (try simp only [cond_false]) <;> omega) (word_load _ 5 _ (by omega) rfl) ?_
              refine HPlan.intBin rfl rfl rfl rfl rfl rfl ?_
              refine HPlan.move rfl rfl rfl ?_
              refine HPlan.compl rfl rfl rfl rfl ?_
              refine HPlan.indexArr rfl rfl rfl rfl rfl q_ix_69 (by omega) (by omega) rfl ?_
              refine HPlan.load rfl rfl rfl q_sh_67 (by repeat (first | exact List.Mem.head _ | apply List.Mem.tail | assumption)) (by rw [words_length]; constructor <;> (try simp only [cond_false]) <;> omega) (word_load _ 6 _ (by omega) rfl) ?_
              refine HPlan.intBin rfl rfl rfl rfl rfl rfl ?_
              refine HPlan.intBin rfl rfl rfl rfl rfl rfl ?_
              refine HPlan.move rfl rfl rfl ?_
              refine HPlan.indexArr rfl rfl rfl rfl rfl q_ix_78 (by omega) (by omega) rfl ?_
              refine HPlan.load rfl rfl rfl q_sh_67 (by repeat (first | exact List.Mem.head _ | apply List.Mem.tail | assumption)) (by rw [words_length]; constructor <;> (try simp only [cond_false]) <;> omega) (word_load _ k _ (by omega) (by omega)) ?_
              refine HPlan.move rfl rfl rfl ?_
              refine HPlan.callPure rfl rfl rfl q_en_40 (turn_spec _ _) (keptH_ids (by repeat (first | exact allId_nil | refine allId_cons (by repeat (first | exact List.Mem.head _ | apply List.Mem.tail | assumption)) (by repeat (first | exact List.Mem.head _ | apply List.Mem.tail | assumption)) ?_))) ?_
              refine HPlan.callPure rfl rfl rfl q_en_40 (turn_spec _ _) (keptH_ids (by repeat (first | exact allId_nil | refine allId_cons (by repeat (first | exact List.Mem.head _ | apply List.Mem.tail | assumption)) (by repeat (first | exact List.Mem.head _ | apply List.Mem.tail | assumption)) ?_))) ?_
              refine HPlan.intBin rfl rfl rfl rfl rfl rfl ?_
              refine HPlan.callPure rfl rfl rfl q_en_40 (turn_spec _ _) (keptH_ids (by repeat (first | exact allId_nil | refine allId_cons (by repeat (first | exact List.Mem.head _ | apply List.Mem.tail | assumption)) (by repeat (first | exact List.Mem.head _ | apply List.Mem.tail | assumption)) ?_))) ?_
              refine HPlan.intBin rfl rfl rfl rfl rfl rfl ?_
              refine HPlan.intBin rfl rfl rfl rfl rfl (by first | exact add_i64 (by omega) (by omega) | rfl) ?_
              refine HPlan.intBin rfl rfl rfl rfl rfl (by first | exact add_i64 (by omega) (by omega) | rfl) ?_
              refine HPlan.intBin rfl rfl rfl rfl rfl (by first | exact add_i64 (by omega) (by omega) | rfl) ?_
              refine HPlan.intBin rfl rfl rfl rfl rfl (by first | exact add_i64 (by omega) (by omega) | rfl) ?_
              refine HPlan.assign rfl rfl rfl ?_
              refine HPlan.fin ?_
              refine onNorm_n ?_
              refine HWp.seq ?_
              refine HWp.draw q_mix (.rd 0 (.rd 2 (.rd 5 (.rd 8 (.rd 9 (.rd 10 (.rd 11 (.rd 12 (.rd 13 (.rd 14 (.rd 15 (.rd 16 (.rd 17 (.rd 18 (.rd 19 (.rd 20 (.rd 21 (.rd 22 (.act 1 [10, 14, 18, 20] (.act 3 [10, 14, 18, 20] (.rd 4 (.act 6 [10, 14, 18, 20] (.rd 7 (.rd 23 (.rd 24 .done))))))))))))))))))))))))) (by kernel_rfl) ?_
              refine HPlan.move rfl rfl rfl ?_
              refine HPlan.move rfl rfl rfl ?_
              refine HPlan.move rfl rfl rfl ?_
              refine HPlan.move rfl rfl rfl ?_
              refine HPlan.indexArr rfl rfl rfl rfl rfl q_ix_69 (by omega) (by omega) rfl ?_
              refine HPlan.load rfl rfl rfl q_sh_67 (by repeat (first | exact List.Mem.head _ | apply List.Mem.tail | assumption)) (by rw [words_length]; constructor <;> (try simp only [cond_false]) <;> omega) (word_load _ 1 _ (by omega) rfl) ?_
              refine HPlan.intBin rfl rfl rfl rfl rfl rfl ?_
              refine HPlan.move rfl rfl rfl ?_
              refine HPlan.indexArr rfl rfl rfl rfl rfl q_ix_69 (by omega) (by omega) rfl ?_
              refine HPlan.load rfl rfl rfl q_sh_67 (by repeat (first | exact List.Mem.head _ | apply List.Mem.tail | assumption)) (by rw [words_length]; constructor <;> (try simp only [cond_false]) <;> omega) (word_load _ 2 _ (by omega) rfl) ?_
              refine HPlan.intBin rfl rfl rfl rfl rfl rfl ?_
              refine HPlan.intBin rfl rfl rfl rfl rfl rfl ?_
              refine HPlan.indexArr rfl rfl rfl rfl rfl q_ix_69 (by omega) (by omega) rfl ?_
              refine HPlan.load rfl rfl rfl q_sh_67 (by repeat (first | exact List.Mem.head _ | apply List.Mem.tail | assumption)) (by rw [words_length]; constructor <;> (try simp only [cond_false]) <;> omega) (word_load _ 1 _ (by omega) rfl) ?_
              refine HPlan.indexArr rfl rfl rfl rfl rfl q_ix_69 (by omega) (by omega) rfl ?_
              refine HPlan.load rfl rfl rfl q_sh_67 (by repeat (first | exact List.Mem.head _ | apply List.Mem.tail | assumption)) (by rw [words_length]; constructor <;> (try simp only [cond_false]) <;> omega) (word_load _ 2 _ (by omega) rfl) ?_
              refine HPlan.intBin rfl rfl rfl rfl rfl rfl ?_
              refine HPlan.intBin rfl rfl rfl rfl rfl rfl ?_
              refine HPlan.callPure rfl rfl rfl q_en_40 (turn_spec _ _) (keptH_ids (by repeat (first | exact allId_nil | refine allId_cons (by repeat (first | exact List.Mem.head _ | apply List.Mem.tail | assumption)) (by repeat (first | exact List.Mem.head _ | apply List.Mem.tail | assumption)) ?_))) ?_
              refine HPlan.callPure rfl rfl rfl q_en_40 (turn_spec _ _) (keptH_ids (by repeat (first | exact allId_nil | refine allId_cons (by repeat (first | exact List.Mem.head _ | apply List.Mem.tail | assumption)) (by repeat (first | exact List.Mem.head _ | apply List.Mem.tail | assumption)) ?_))) ?_
              refine HPlan.intBin rfl rfl rfl rfl rfl rfl ?_
              refine HPlan.callPure rfl rfl rfl q_en_40 (turn_spec _ _) (keptH_ids (by repeat (first | exact allId_nil | refine allId_cons (by repeat (first | exact List.Mem.head _ | apply List.Mem.tail | assumption)) (by repeat (first | exact List.Mem.head _ | apply List.Mem.tail | assumption)) ?_))) ?_
              refine HPlan.intBin rfl rfl rfl rfl rfl rfl ?_
              refine HPlan.intBin rfl rfl rfl rfl rfl (by first | exact add_i64 (by omega) (by omega) | rfl) ?_
              refine HPlan.assign rfl rfl rfl ?_
              refine HPlan.fin ?_
              refine onNorm_n ?_
              refine HWp.text (.rd 0 (.rd 1 (.rd 2 (.rd 3 (.rd 4 (.rd 5 (.rd 6 (.rd 7 (.rd 8 (.rd 9 (.rd 10 (.rd 11 (.rd 12 (.rd 13 (.rd 14 (.rd 15 (.rd 16 (.rd 17 (.act 18 [] .done))))))))))))))))))) rfl ?_
              refine HPlan.move rfl rfl rfl ?_
              refine HPlan.move rfl rfl rfl ?_
              refine HPlan.intBin rfl rfl rfl rfl rfl (by first | exact add_i64 (by omega) (by omega) | rfl) ?_
              refine HPlan.move rfl rfl rfl ?_
              refine HPlan.indexArr rfl rfl rfl rfl rfl q_ix_69 (by omega) (by omega) rfl ?_
              refine HPlan.load rfl rfl rfl q_sh_67 (by repeat (first | exact List.Mem.head _ | apply List.Mem.tail | assumption)) (by rw [words_length]; constructor <;> (try simp only [cond_false]) <;> omega) (word_load _ 1 _ (by omega) rfl) ?_
              refine HPlan.indexArr rfl rfl rfl rfl rfl q_ix_69 (by omega) (by omega) rfl ?_
              refine HPlan.load rfl rfl rfl q_sh_67 (by repeat (first | exact List.Mem.head _ | apply List.Mem.tail | assumption)) (by rw [words_length]; constructor <;> (try simp only [cond_false]) <;> omega) (word_load _ 2 _ (by omega) rfl) ?_
              refine HPlan.indexArr rfl rfl rfl rfl rfl q_ix_69 (by omega) (by omega) rfl ?_
              refine HPlan.load rfl rfl rfl q_sh_67 (by repeat (first | exact List.Mem.head _ | apply List.Mem.tail | assumption)) (by rw [words_length]; constructor <;> (try simp only [cond_false]) <;> omega) (word_load _ 3 _ (by omega) rfl) ?_
              refine HPlan.move rfl rfl rfl ?_
              refine HPlan.intBin rfl rfl rfl rfl rfl (by first | exact add_i64 (by omega) (by omega) | rfl) ?_
              refine HPlan.move rfl rfl rfl ?_
              refine HPlan.indexArr rfl rfl rfl rfl rfl q_ix_69 (by omega) (by omega) rfl ?_
              refine HPlan.load rfl rfl rfl q_sh_67 (by repeat (first | exact List.Mem.head _ | apply List.Mem.tail | assumption)) (by rw [words_length]; constructor <;> (try simp only [cond_false]) <;> omega) (word_load _ 5 _ (by omega) rfl) ?_
              refine HPlan.indexArr rfl rfl rfl rfl rfl q_ix_69 (by omega) (by omega) rfl ?_
              refine HPlan.load rfl rfl rfl q_sh_67 (by repeat (first | exact List.Mem.head _ | apply List.Mem.tail | assumption)) (by rw [words_length]; constructor <;> (try simp only [cond_false]) <;> omega) (word_load _ 6 _ (by omega) rfl) ?_
              refine HPlan.build rfl rfl rfl q_zo_69 (by first | rfl | (simp; done)) q_pl_69 (fillOk_cons rfl (by first | rfl | (simp; done)) (by first | rfl | decide | omega | (simp; done) | (simp; omega)) (by first | rfl | decide | omega | (simp; done) | (simp; omega)) (fillOk_cons rfl (by first | rfl | (simp; done)) (by first | rfl | decide | omega | (simp; done) | (simp; omega)) (by first | rfl | decide | omega | (simp; done) | (simp; omega)) (fillOk_cons rfl (by first | rfl | (simp; done)) (by first | rfl | decide | omega | (simp; done) | (simp; omega)) (by first | rfl | decide | omega | (simp; done) | (simp; omega)) (fillOk_cons rfl (by first | rfl | (simp; done)) (by first | rfl | decide | omega | (simp; done) | (simp; omega)) (by first | rfl | decide | omega | (simp; done) | (simp; omega)) (fillOk_cons rfl (by first | rfl | (simp; done)) (by first | rfl | decide | omega | (simp; done) | (simp; omega)) (by first | rfl | decide | omega | (simp; done) | (simp; omega)) (fillOk_cons rfl (by first | rfl | (simp; done)) (by first | rfl | decide | omega | (simp; done) | (simp; omega)) (by first | rfl | decide | omega | (simp; done) | (simp; omega)) (fillOk_cons rfl (by first | rfl | (simp; done)) (by first | rfl | decide | omega | (simp; done) | (simp; omega)) (by first | rfl | decide | omega | (simp; done) | (simp; omega)) (fillOk_cons rfl (by first | rfl | (simp; done)) (by first | rfl | decide | omega | (simp; done) | (simp; omega)) (by first | rfl | decide | omega | (simp; done) | (simp; omega)) fillOk_nil)))))))) (by rfl : _ = LV.agg (words (roundF s (kList.getD k 0) ((spreadF l).getD k 0)))) ?_
              refine HPlan.store rfl rfl rfl rfl q_sz_69 (by first | rfl | (simp; done)) (by rw [agg_cells, words_length]; rfl) (by repeat (first | exact List.Mem.head _ | apply List.Mem.tail | assumption)) (splice_all _ _ (by rw [agg_cells, words_length, words_length, hsl]; rfl)) (by repeat (first | exact Upd.here | apply Upd.there)) (by rw [words_length]; omega) keptH_nil ?_
              refine HPlan.fin ?_
              refine onExitH_n ?_
              refine onNorm_n ?_
              refine HWp.text (.rd 0 (.rd 1 .done)) rfl ?_
              refine HPlan.intBin rfl rfl rfl rfl rfl (by first | exact add_i64 (by omega) (by omega) | rfl) ?_
              refine HPlan.move rfl rfl rfl ?_
              refine HPlan.fin ?_
              refine onNorm_n ?_
              subst hw
              refine ⟨(k + 1, ve + 1, rounds (spreadF l) st (k + 1)), (by simp only; omega), ⟨by simp only; omega, rfl⟩, (LessE.less (by repeat (first | exact LessE.nil | refine LessE.same rfl ?_ | refine LessE.own rfl ?_ | refine LessE.eq rfl ?_ (by first | rfl | (congr 1; omega) | simp))) rfl), (by repeat (first | exact Part.refl _ | refine Part.pull (by repeat (first | exact Pull.here | apply Pull.there)) ?_ | refine Part.skip _ ?_ | exact Part.nil _ | exact Part.app _ _)), (by repeat (first | exact Part.refl _ | refine Part.pull (by repeat (first | exact Pull.here | apply Pull.there)) ?_ | refine Part.skip _ ?_ | exact Part.nil _ | exact Part.app _ _))⟩
          · intro hc21
            first
            | (exact absurd hc21 Bool.false_ne_true)
            | (exact absurd hc21.symm Bool.false_ne_true)
            | ((try simp only [decide_eq_true_eq, decide_eq_false_iff_not, Bool.not_eq_true', Bool.not_eq_false', Bool.not_true, Bool.not_false, beq_iff_eq, bne_iff_ne, bne_eq_false_iff_eq, ne_eq, beq_eq_false_iff_ne, Int.not_lt, Int.not_le] at hc21); exfalso; omega)
            | (try simp only [decide_eq_true_eq, decide_eq_false_iff_not, Bool.not_eq_true', Bool.not_eq_false', Bool.not_true, Bool.not_false, beq_iff_eq, bne_iff_ne, bne_eq_false_iff_eq, ne_eq, beq_eq_false_iff_ne, Int.not_lt, Int.not_le] at hc21)
              refine HWp.exit ?_
              refine onNorm_e ?_
              refine onNorm_e ?_
              obtain rfl : k = 64 := by omega
              refine onExitH_hit ?_
              refine onNorm_n ?_
              refine HWp.seq ?_
              refine HWp.text (.rd 0 (.rd 1 .done)) rfl ?_
              refine HPlan.load rfl rfl rfl q_sh_69 (by repeat (first | exact List.Mem.head _ | apply List.Mem.tail | assumption)) (by rw [words_length]; constructor <;> (try simp only [cond_true]) <;> omega) (by simp only [cond_true, List.drop_zero]; rw [List.take_of_length_le (by rw [words_length]; omega)]) ?_
              refine HPlan.move rfl rfl rfl ?_
              refine HPlan.fin ?_
              refine onNorm_n ?_
              refine HWp.block ?_
              refine HWp.loopF (α := Nat × Nat × List Int) (fun q => 8 - q.1) (fun q => q.1 ≤ 8 ∧ q.2.2 = addN st s q.1) (fun q => ⟨114, [(0, .ref id 0), (99, .agg (words s)), (100, .int .i64 (q.1 : Int))]⟩) (fun q => (id, .cells ty (words q.2.2 ++ rest) q.2.1) :: F) (fun q => T) ?_ ?_
              · refine ⟨(0, ver, st), ⟨by simp only; omega, rfl⟩, (LessE.less (by repeat (first | exact LessE.nil | refine LessE.same rfl ?_ | refine LessE.own rfl ?_ | refine LessE.eq rfl ?_ (by first | rfl | (congr 1; omega) | simp))) rfl), (by repeat (first | exact Part.refl _ | refine Part.pull (by repeat (first | exact Pull.here | apply Pull.there)) ?_ | refine Part.skip _ ?_ | exact Part.nil _ | exact Part.app _ _)), (by repeat (first | exact Part.refl _ | refine Part.pull (by repeat (first | exact Pull.here | apply Pull.there)) ?_ | refine Part.skip _ ?_ | exact Part.nil _ | exact Part.app _ _))⟩
              · rintro q ⟨hk2, hw2⟩
                obtain ⟨k, ve2, s2⟩ := q
                simp only at hk2 hw2 ⊢
                have hsl2 : s2.length = 8 := by rw [hw2, addN_length, hst]
                refine HWp.seq ?_
                refine HWp.text (.rd 0 .done) rfl ?_
                refine HPlan.intBin rfl rfl rfl rfl rfl rfl ?_
                refine HPlan.fin ?_
                refine onNorm_n ?_
                refine HWp.seq ?_
                refine HWp.cond rfl ?_ ?_
                · intro hc101
                  first
                  | (exact absurd hc101 Bool.false_ne_true)
                  | (exact absurd hc101.symm Bool.false_ne_true)
                  | ((try simp only [decide_eq_true_eq, decide_eq_false_iff_not, Bool.not_eq_true', Bool.not_eq_false', Bool.not_true, Bool.not_false, beq_iff_eq, bne_iff_ne, bne_eq_false_iff_eq, ne_eq, beq_eq_false_iff_ne, Int.not_lt, Int.not_le] at hc101); exfalso; omega)
                  | (try simp only [decide_eq_true_eq, decide_eq_false_iff_not, Bool.not_eq_true', Bool.not_eq_false', Bool.not_true, Bool.not_false, beq_iff_eq, bne_iff_ne, bne_eq_false_iff_eq, ne_eq, beq_eq_false_iff_ne, Int.not_lt, Int.not_le] at hc101)
                    refine HWp.skip ?_
                    refine onNorm_n ?_
                    refine HWp.seq ?_
                    refine HWp.block ?_
                    refine HWp.seq ?_
                    refine HWp.text (.rd 0 (.rd 1 (.rd 2 (.rd 3 .done)))) rfl ?_
                    refine HPlan.move rfl rfl rfl ?_
                    refine HPlan.indexAgg rfl rfl rfl rfl q_ar_69 (by decide) (by rw [words_length, hsl]) (by omega) (by omega) (word_part _ _ (by omega)) ?_
                    refine HPlan.assign rfl rfl rfl ?_
                    refine HPlan.assign rfl rfl rfl ?_
                    refine HPlan.fin ?_
                    refine onNorm_n ?_
                    refine HWp.draw q_mix (.rd 0 (.rd 1 (.rd 2 (.rd 3 (.rd 4 (.rd 5 (.rd 6 (.rd 7 (.rd 8 (.act 9 [] .done)))))))))) (by kernel_rfl) ?_
                    refine HPlan.move rfl rfl rfl ?_
                    refine HPlan.move rfl rfl rfl ?_
                    refine HPlan.nilCheck rfl rfl rfl rfl ?_
                    refine HPlan.indexArr rfl rfl rfl rfl rfl q_ix_69 (by omega) (by omega) rfl ?_
                    refine HPlan.load rfl rfl rfl q_sh_67 (by repeat (first | exact List.Mem.head _ | apply List.Mem.tail | assumption)) (by rw [List.length_append, words_length]; constructor <;> (try simp only [cond_false]) <;> omega) (word_loadA _ _ k _ (by omega) (by omega)) ?_
                    refine HPlan.move rfl rfl rfl ?_
                    refine HPlan.intBin rfl rfl rfl rfl rfl (by first | exact add_i64 (by omega) (by omega) | rfl) ?_
                    refine HPlan.nilCheck rfl rfl rfl rfl ?_
                    refine HPlan.indexArr rfl rfl rfl rfl rfl q_ix_69 (by omega) (by omega) rfl ?_
                    refine HPlan.store rfl rfl rfl rfl q_sz_67 (by first | rfl | (simp; done)) (by first | rfl | decide | omega | (simp; done) | (simp; omega)) (by repeat (first | exact List.Mem.head _ | apply List.Mem.tail | assumption)) (word_setA _ _ k _ _ (by omega) (by omega)) (by repeat (first | exact Upd.here | apply Upd.there)) (by rw [List.length_append, words_length]; omega) keptH_nil ?_
                    refine HPlan.fin ?_
                    refine onExitH_n ?_
                    refine onNorm_n ?_
                    refine HWp.text (.rd 0 (.rd 1 .done)) rfl ?_
                    refine HPlan.intBin rfl rfl rfl rfl rfl (by first | exact add_i64 (by omega) (by omega) | rfl) ?_
                    refine HPlan.move rfl rfl rfl ?_
                    refine HPlan.fin ?_
                    refine onNorm_n ?_
                    subst hw2
                    refine ⟨(k + 1, ve2 + 1, addN st s (k + 1)), (by simp only; omega), ⟨by simp only; omega, rfl⟩, (LessE.less (by repeat (first | exact LessE.nil | refine LessE.same rfl ?_ | refine LessE.own rfl ?_ | refine LessE.eq rfl ?_ (by first | rfl | (congr 1; omega) | simp))) rfl), (by repeat (first | exact Part.refl _ | refine Part.pull (by repeat (first | exact Pull.here | apply Pull.there)) ?_ | refine Part.skip _ ?_ | exact Part.nil _ | exact Part.app _ _)), (by repeat (first | exact Part.refl _ | refine Part.pull (by repeat (first | exact Pull.here | apply Pull.there)) ?_ | refine Part.skip _ ?_ | exact Part.nil _ | exact Part.app _ _))⟩
                · intro hc101
                  first
                  | (exact absurd hc101 Bool.false_ne_true)
                  | (exact absurd hc101.symm Bool.false_ne_true)
                  | ((try simp only [decide_eq_true_eq, decide_eq_false_iff_not, Bool.not_eq_true', Bool.not_eq_false', Bool.not_true, Bool.not_false, beq_iff_eq, bne_iff_ne, bne_eq_false_iff_eq, ne_eq, beq_eq_false_iff_ne, Int.not_lt, Int.not_le] at hc101); exfalso; omega)
                  | (try simp only [decide_eq_true_eq, decide_eq_false_iff_not, Bool.not_eq_true', Bool.not_eq_false', Bool.not_true, Bool.not_false, beq_iff_eq, bne_iff_ne, bne_eq_false_iff_eq, ne_eq, beq_eq_false_iff_ne, Int.not_lt, Int.not_le] at hc101)
                    refine HWp.exit ?_
                    refine onNorm_e ?_
                    refine onNorm_e ?_
                    obtain rfl : k = 8 := by omega
                    refine onExitH_hit ?_
                    refine retQ_n .nil ?_
                    have hfin : s2 = takeF st l := by rw [hw2, hw]; rfl
                    rw [← hfin]
                    exact endK_of ⟨rfl, ve2, rfl, rfl⟩ (by repeat (first | exact Part.refl _ | refine Part.pull (by repeat (first | exact Pull.here | apply Pull.there)) ?_ | refine Part.skip _ ?_ | exact Part.nil _ | exact Part.app _ _)) (by repeat (first | exact Part.refl _ | refine Part.pull (by repeat (first | exact Pull.here | apply Pull.there)) ?_ | refine Part.skip _ ?_ | exact Part.nil _ | exact Part.app _ _))
      · refine HPlan.alloc rfl rfl q_zo_69 (by first | rfl | (simp; done)) (fun i4 => ⟨(keptH_ids (by repeat (first | exact allId_nil | refine allId_cons (by repeat (first | exact List.Mem.head _ | apply List.Mem.tail | assumption)) (by repeat (first | exact List.Mem.head _ | apply List.Mem.tail | assumption)) ?_))), ?_⟩)
        refine HPlan.callPure rfl rfl rfl q_en_38 const_spec (keptH_ids (by repeat (first | exact allId_nil | refine allId_cons (by repeat (first | exact List.Mem.head _ | apply List.Mem.tail | assumption)) (by repeat (first | exact List.Mem.head _ | apply List.Mem.tail | assumption)) ?_))) ?_
        refine HPlan.store rfl rfl rfl rfl q_sz_69 (by first | rfl | (simp; done)) (by rw [agg_cells, words_length, hst]) (by repeat (first | exact List.Mem.head _ | apply List.Mem.tail | assumption)) (splice_all _ _ (by rw [agg_cells, words_length, hst]; rfl)) (by repeat (first | exact Upd.here | apply Upd.there)) (by decide) keptH_nil ?_
        refine HPlan.store rfl rfl rfl rfl q_sz_78 (by first | rfl | (simp; done)) (by rw [agg_cells, words_length]; rfl) (by repeat (first | exact List.Mem.head _ | apply List.Mem.tail | assumption)) (splice_all _ _ (by rw [agg_cells, words_length]; rfl)) (by repeat (first | exact Upd.here | apply Upd.there)) (by decide) keptH_nil ?_
        refine HPlan.fin ?_
        refine onNorm_n ?_
        refine HWp.seq ?_
        refine HWp.seq ?_
        refine HWp.text (.rd 0 (.act 1 [] (.rd 2 .done))) rfl ?_
        refine HPlan.move rfl rfl rfl ?_
        refine HPlan.callPure rfl rfl rfl q_en_39 (spread_spec l _ hl hx) keptH_nil ?_
        refine HPlan.move rfl rfl rfl ?_
        refine HPlan.fin ?_
        refine onNorm_n ?_
        refine HWp.block ?_
        refine HWp.loopF (α := Nat × Nat × List Int) (fun q => 64 - q.1) (fun q => q.1 ≤ 64 ∧ q.2.2 = rounds (spreadF l) st q.1) (fun q => ⟨114, [(0, .ref id 0), (4, .ref i4 0), (5, .ref i5 0), (19, .agg (words (spreadF l))), (20, .int .i64 (q.1 : Int))]⟩) (fun q => (i4, .cells 69 (words q.2.2) q.2.1) :: (i5, .cells 78 (words kList) 1) :: (id, .cells ty (words st ++ rest) ver) :: F) (fun q => T) ?_ ?_
        · refine ⟨(0, 1, st), ⟨by simp only; omega, rfl⟩, (LessE.less (by repeat (first | exact LessE.nil | refine LessE.same rfl ?_ | refine LessE.own rfl ?_ | refine LessE.eq rfl ?_ (by first | rfl | (congr 1; omega) | simp))) rfl), (by repeat (first | exact Part.refl _ | refine Part.pull (by repeat (first | exact Pull.here | apply Pull.there)) ?_ | refine Part.skip _ ?_ | exact Part.nil _ | exact Part.app _ _)), (by repeat (first | exact Part.refl _ | refine Part.pull (by repeat (first | exact Pull.here | apply Pull.there)) ?_ | refine Part.skip _ ?_ | exact Part.nil _ | exact Part.app _ _))⟩
        · rintro q ⟨hk, hw⟩
          obtain ⟨k, ve, s⟩ := q
          simp only at hk hw ⊢
          have hsl : s.length = 8 := by rw [hw]; exact rounds_length _ _ hst _
          have hkl : kList.length = 64 := rfl
          have hwl := spreadF_length l
          refine HWp.seq ?_
          refine HWp.text (.rd 0 .done) rfl ?_
          refine HPlan.intBin rfl rfl rfl rfl rfl rfl ?_
          refine HPlan.fin ?_
          refine onNorm_n ?_
          refine HWp.seq ?_
          refine HWp.cond rfl ?_ ?_
          · intro hc21
            first
            | (exact absurd hc21 Bool.false_ne_true)
            | (exact absurd hc21.symm Bool.false_ne_true)
            | ((try simp only [decide_eq_true_eq, decide_eq_false_iff_not, Bool.not_eq_true', Bool.not_eq_false', Bool.not_true, Bool.not_false, beq_iff_eq, bne_iff_ne, bne_eq_false_iff_eq, ne_eq, beq_eq_false_iff_ne, Int.not_lt, Int.not_le] at hc21); exfalso; omega)
            | (try simp only [decide_eq_true_eq, decide_eq_false_iff_not, Bool.not_eq_true', Bool.not_eq_false', Bool.not_true, Bool.not_false, beq_iff_eq, bne_iff_ne, bne_eq_false_iff_eq, ne_eq, beq_eq_false_iff_ne, Int.not_lt, Int.not_le] at hc21)
              refine HWp.skip ?_
              refine onNorm_n ?_
              refine HWp.seq ?_
              refine HWp.block ?_
              refine HWp.seq ?_
              refine HWp.text (.rd 0 (.rd 1 (.rd 2 (.rd 3 .done)))) rfl ?_
              refine HPlan.move rfl rfl rfl ?_
              refine HPlan.indexAgg rfl rfl rfl rfl q_ar_78 (by decide) (by rw [words_length, hwl]) (by omega) (by omega) (word_part _ _ (by omega)) ?_
              refine HPlan.assign rfl rfl rfl ?_
              refine HPlan.assign rfl rfl rfl ?_
              refine HPlan.fin ?_
              refine onNorm_n ?_
              refine HWp.seq ?_
              refine HWp.draw q_mix (.rd 0 (.rd 1 (.rd 2 (.rd 3 (.rd 4 (.rd 5 .done)))))) (by kernel_rfl) ?_
              refine HPlan.indexArr rfl rfl rfl rfl rfl q_ix_69 (by omega) (by omega) rfl ?_
              refine HPlan.load rfl rfl rfl q_sh_67 (by repeat (first | exact List.Mem.head _ | apply List.Mem.tail | assumption)) (by rw [words_length]; constructor <;> (try simp only [cond_false]) <;> omega) (word_load _ 0 _ (by omega) rfl) ?_
              refine HPlan.indexArr rfl rfl rfl rfl rfl q_ix_69 (by omega) (by omega) rfl ?_
              refine HPlan.load rfl rfl rfl q_sh_67 (by repeat (first | exact List.Mem.head _ | apply List.Mem.tail | assumption)) (by rw [words_length]; constructor <;> (try simp only [cond_false]) <;> omega) (word_load _ 4 _ (by omega) rfl) ?_
              refine HPlan.assign rfl rfl rfl ?_
              refine HPlan.assign rfl rfl rfl ?_
              refine HPlan.fin ?_
              refine onNorm_n ?_
              refine HWp.seq ?_
              refine HWp.draw q_mix (.rd 0 (.rd 1 (.rd 2 (.rd 4 (.rd 7 (.rd 11 (.rd 12 (.rd 13 (.rd 14 (.rd 15 (.rd 16 (.rd 17 (.rd 18 (.rd 19 (.rd 20 (.rd 22 (.rd 23 (.rd 24 (.rd 26 (.act 3 [1, 13, 18, 24] (.act 5 [1, 13, 18, 24] (.rd 6 (.act 8 [1, 13, 18, 24] (.rd 9 (.rd 10 (.rd 21 (.rd 25 (.rd 27 (.rd 28 .done))))))))))))))))))))))))))))) (by kernel_rfl) ?_
              refine HPlan.indexArr rfl rfl rfl rfl rfl q_ix_69 (by omega) (by omega) rfl ?_
              refine HPlan.load rfl rfl rfl q_sh_67 (by repeat (first | exact List.Mem.head _ | apply List.Mem.tail | assumption)) (by rw [words_length]; constructor <;> (try simp only [cond_false]) <;> omega) (word_load _ 7 _ (by omega) rfl) ?_
              refine HPlan.move rfl rfl rfl ?_
              refine HPlan.move rfl rfl rfl ?_
              refine HPlan.move rfl rfl rfl ?_
              refine HPlan.move rfl rfl rfl ?_
              refine HPlan.indexArr rfl rfl rfl rfl rfl q_ix_69 (by omega) (by omega) rfl ?_
              refine HPlan.load rfl rfl rfl q_sh_67 (by repeat (first | exact List.Mem.head _ | apply List.Mem.tail | assumption)) (by rw [words_length]; constructor <;> (try simp only [cond_false]) <;> omega) (word_load _ 5 _ (by omega) rfl) ?_
              refine HPlan.intBin rfl rfl rfl rfl rfl rfl ?_
              refine HPlan.move rfl rfl rfl ?_
              refine HPlan.compl rfl rfl rfl rfl ?_
              refine HPlan.indexArr rfl rfl rfl rfl rfl q_ix_69 (by omega) (by omega) rfl ?_
              refine HPlan.load rfl rfl rfl q_sh_67 (by repeat (first | exact List.Mem.head _ | apply List.Mem.tail | assumption)) (by rw [words_length]; constructor <;> (try simp only [cond_false]) <;> omega) (word_load _ 6 _ (by omega) rfl) ?_
              refine HPlan.intBin rfl rfl rfl rfl rfl rfl ?_
              refine HPlan.intBin rfl rfl rfl rfl rfl rfl ?_
              refine HPlan.move rfl rfl rfl ?_
              refine HPlan.indexArr rfl rfl rfl rfl rfl q_ix_78 (by omega) (by omega) rfl ?_
              refine HPlan.load rfl rfl rfl q_sh_67 (by repeat (first | exact List.Mem.head _ | apply List.Mem.tail | assumption)) (by rw [words_length]; constructor <;> (try simp only [cond_false]) <;> omega) (word_load _ k _ (by omega) (by omega)) ?_
              refine HPlan.move rfl rfl rfl ?_
              refine HPlan.callPure rfl rfl rfl q_en_40 (turn_spec _ _) (keptH_ids (by repeat (first | exact allId_nil | refine allId_cons (by repeat (first | exact List.Mem.head _ | apply List.Mem.tail | assumption)) (by repeat (first | exact List.Mem.head _ | apply List.Mem.tail | assumption)) ?_))) ?_
              refine HPlan.callPure rfl rfl rfl q_en_40 (turn_spec _ _) (keptH_ids (by repeat (first | exact allId_nil | refine allId_cons (by repeat (first | exact List.Mem.head _ | apply List.Mem.tail | assumption)) (by repeat (first | exact List.Mem.head _ | apply List.Mem.tail | assumption)) ?_))) ?_
              refine HPlan.intBin rfl rfl rfl rfl rfl rfl ?_
              refine HPlan.callPure rfl rfl rfl q_en_40 (turn_spec _ _) (keptH_ids (by repeat (first | exact allId_nil | refine allId_cons (by repeat (first | exact List.Mem.head _ | apply List.Mem.tail | assumption)) (by repeat (first | exact List.Mem.head _ | apply List.Mem.tail | assumption)) ?_))) ?_
              refine HPlan.intBin rfl rfl rfl rfl rfl rfl ?_
              refine HPlan.intBin rfl rfl rfl rfl rfl (by first | exact add_i64 (by omega) (by omega) | rfl) ?_
              refine HPlan.intBin rfl rfl rfl rfl rfl (by first | exact add_i64 (by omega) (by omega) | rfl) ?_
              refine HPlan.intBin rfl rfl rfl rfl rfl (by first | exact add_i64 (by omega) (by omega) | rfl) ?_
              refine HPlan.intBin rfl rfl rfl rfl rfl (by first | exact add_i64 (by omega) (by omega) | rfl) ?_
              refine HPlan.assign rfl rfl rfl ?_
              refine HPlan.fin ?_
              refine onNorm_n ?_
              refine HWp.seq ?_
              refine HWp.draw q_mix (.rd 0 (.rd 2 (.rd 5 (.rd 8 (.rd 9 (.rd 10 (.rd 11 (.rd 12 (.rd 13 (.rd 14 (.rd 15 (.rd 16 (.rd 17 (.rd 18 (.rd 19 (.rd 20 (.rd 21 (.rd 22 (.act 1 [10, 14, 18, 20] (.act 3 [10, 14, 18, 20] (.rd 4 (.act 6 [10, 14, 18, 20] (.rd 7 (.rd 23 (.rd 24 .done))))))))))))))))))))))))) (by kernel_rfl) ?_
              refine HPlan.move rfl rfl rfl ?_
              refine HPlan.move rfl rfl rfl ?_
              refine HPlan.move rfl rfl rfl ?_
              refine HPlan.move rfl rfl rfl ?_
              refine HPlan.indexArr rfl rfl rfl rfl rfl q_ix_69 (by omega) (by omega) rfl ?_
              refine HPlan.load rfl rfl rfl q_sh_67 (by repeat (first | exact List.Mem.head _ | apply List.Mem.tail | assumption)) (by rw [words_length]; constructor <;> (try simp only [cond_false]) <;> omega) (word_load _ 1 _ (by omega) rfl) ?_
              refine HPlan.intBin rfl rfl rfl rfl rfl rfl ?_
              refine HPlan.move rfl rfl rfl ?_
              refine HPlan.indexArr rfl rfl rfl rfl rfl q_ix_69 (by omega) (by omega) rfl ?_
              refine HPlan.load rfl rfl rfl q_sh_67 (by repeat (first | exact List.Mem.head _ | apply List.Mem.tail | assumption)) (by rw [words_length]; constructor <;> (try simp only [cond_false]) <;> omega) (word_load _ 2 _ (by omega) rfl) ?_
              refine HPlan.intBin rfl rfl rfl rfl rfl rfl ?_
              refine HPlan.intBin rfl rfl rfl rfl rfl rfl ?_
              refine HPlan.indexArr rfl rfl rfl rfl rfl q_ix_69 (by omega) (by omega) rfl ?_
              refine HPlan.load rfl rfl rfl q_sh_67 (by repeat (first | exact List.Mem.head _ | apply List.Mem.tail | assumption)) (by rw [words_length]; constructor <;> (try simp only [cond_false]) <;> omega) (word_load _ 1 _ (by omega) rfl) ?_
              refine HPlan.indexArr rfl rfl rfl rfl rfl q_ix_69 (by omega) (by omega) rfl ?_
              refine HPlan.load rfl rfl rfl q_sh_67 (by repeat (first | exact List.Mem.head _ | apply List.Mem.tail | assumption)) (by rw [words_length]; constructor <;> (try simp only [cond_false]) <;> omega) (word_load _ 2 _ (by omega) rfl) ?_
              refine HPlan.intBin rfl rfl rfl rfl rfl rfl ?_
              refine HPlan.intBin rfl rfl rfl rfl rfl rfl ?_
              refine HPlan.callPure rfl rfl rfl q_en_40 (turn_spec _ _) (keptH_ids (by repeat (first | exact allId_nil | refine allId_cons (by repeat (first | exact List.Mem.head _ | apply List.Mem.tail | assumption)) (by repeat (first | exact List.Mem.head _ | apply List.Mem.tail | assumption)) ?_))) ?_
              refine HPlan.callPure rfl rfl rfl q_en_40 (turn_spec _ _) (keptH_ids (by repeat (first | exact allId_nil | refine allId_cons (by repeat (first | exact List.Mem.head _ | apply List.Mem.tail | assumption)) (by repeat (first | exact List.Mem.head _ | apply List.Mem.tail | assumption)) ?_))) ?_
              refine HPlan.intBin rfl rfl rfl rfl rfl rfl ?_
              refine HPlan.callPure rfl rfl rfl q_en_40 (turn_spec _ _) (keptH_ids (by repeat (first | exact allId_nil | refine allId_cons (by repeat (first | exact List.Mem.head _ | apply List.Mem.tail | assumption)) (by repeat (first | exact List.Mem.head _ | apply List.Mem.tail | assumption)) ?_))) ?_
              refine HPlan.intBin rfl rfl rfl rfl rfl rfl ?_
              refine HPlan.intBin rfl rfl rfl rfl rfl (by first | exact add_i64 (by omega) (by omega) | rfl) ?_
              refine HPlan.assign rfl rfl rfl ?_
              refine HPlan.fin ?_
              refine onNorm_n ?_
              refine HWp.text (.rd 0 (.rd 1 (.rd 2 (.rd 3 (.rd 4 (.rd 5 (.rd 6 (.rd 7 (.rd 8 (.rd 9 (.rd 10 (.rd 11 (.rd 12 (.rd 13 (.rd 14 (.rd 15 (.rd 16 (.rd 17 (.act 18 [] .done))))))))))))))))))) rfl ?_
              refine HPlan.move rfl rfl rfl ?_
              refine HPlan.move rfl rfl rfl ?_
              refine HPlan.intBin rfl rfl rfl rfl rfl (by first | exact add_i64 (by omega) (by omega) | rfl) ?_
              refine HPlan.move rfl rfl rfl ?_
              refine HPlan.indexArr rfl rfl rfl rfl rfl q_ix_69 (by omega) (by omega) rfl ?_
              refine HPlan.load rfl rfl rfl q_sh_67 (by repeat (first | exact List.Mem.head _ | apply List.Mem.tail | assumption)) (by rw [words_length]; constructor <;> (try simp only [cond_false]) <;> omega) (word_load _ 1 _ (by omega) rfl) ?_
              refine HPlan.indexArr rfl rfl rfl rfl rfl q_ix_69 (by omega) (by omega) rfl ?_
              refine HPlan.load rfl rfl rfl q_sh_67 (by repeat (first | exact List.Mem.head _ | apply List.Mem.tail | assumption)) (by rw [words_length]; constructor <;> (try simp only [cond_false]) <;> omega) (word_load _ 2 _ (by omega) rfl) ?_
              refine HPlan.indexArr rfl rfl rfl rfl rfl q_ix_69 (by omega) (by omega) rfl ?_
              refine HPlan.load rfl rfl rfl q_sh_67 (by repeat (first | exact List.Mem.head _ | apply List.Mem.tail | assumption)) (by rw [words_length]; constructor <;> (try simp only [cond_false]) <;> omega) (word_load _ 3 _ (by omega) rfl) ?_
              refine HPlan.move rfl rfl rfl ?_
              refine HPlan.intBin rfl rfl rfl rfl rfl (by first | exact add_i64 (by omega) (by omega) | rfl) ?_
              refine HPlan.move rfl rfl rfl ?_
              refine HPlan.indexArr rfl rfl rfl rfl rfl q_ix_69 (by omega) (by omega) rfl ?_
              refine HPlan.load rfl rfl rfl q_sh_67 (by repeat (first | exact List.Mem.head _ | apply List.Mem.tail | assumption)) (by rw [words_length]; constructor <;> (try simp only [cond_false]) <;> omega) (word_load _ 5 _ (by omega) rfl) ?_
              refine HPlan.indexArr rfl rfl rfl rfl rfl q_ix_69 (by omega) (by omega) rfl ?_
              refine HPlan.load rfl rfl rfl q_sh_67 (by repeat (first | exact List.Mem.head _ | apply List.Mem.tail | assumption)) (by rw [words_length]; constructor <;> (try simp only [cond_false]) <;> omega) (word_load _ 6 _ (by omega) rfl) ?_
              refine HPlan.build rfl rfl rfl q_zo_69 (by first | rfl | (simp; done)) q_pl_69 (fillOk_cons rfl (by first | rfl | (simp; done)) (by first | rfl | decide | omega | (simp; done) | (simp; omega)) (by first | rfl | decide | omega | (simp; done) | (simp; omega)) (fillOk_cons rfl (by first | rfl | (simp; done)) (by first | rfl | decide | omega | (simp; done) | (simp; omega)) (by first | rfl | decide | omega | (simp; done) | (simp; omega)) (fillOk_cons rfl (by first | rfl | (simp; done)) (by first | rfl | decide | omega | (simp; done) | (simp; omega)) (by first | rfl | decide | omega | (simp; done) | (simp; omega)) (fillOk_cons rfl (by first | rfl | (simp; done)) (by first | rfl | decide | omega | (simp; done) | (simp; omega)) (by first | rfl | decide | omega | (simp; done) | (simp; omega)) (fillOk_cons rfl (by first | rfl | (simp; done)) (by first | rfl | decide | omega | (simp; done) | (simp; omega)) (by first | rfl | decide | omega | (simp; done) | (simp; omega)) (fillOk_cons rfl (by first | rfl | (simp; done)) (by first | rfl | decide | omega | (simp; done) | (simp; omega)) (by first | rfl | decide | omega | (simp; done) | (simp; omega)) (fillOk_cons rfl (by first | rfl | (simp; done)) (by first | rfl | decide | omega | (simp; done) | (simp; omega)) (by first | rfl | decide | omega | (simp; done) | (simp; omega)) (fillOk_cons rfl (by first | rfl | (simp; done)) (by first | rfl | decide | omega | (simp; done) | (simp; omega)) (by first | rfl | decide | omega | (simp; done) | (simp; omega)) fillOk_nil)))))))) (by rfl : _ = LV.agg (words (roundF s (kList.getD k 0) ((spreadF l).getD k 0)))) ?_
              refine HPlan.store rfl rfl rfl rfl q_sz_69 (by first | rfl | (simp; done)) (by rw [agg_cells, words_length]; rfl) (by repeat (first | exact List.Mem.head _ | apply List.Mem.tail | assumption)) (splice_all _ _ (by rw [agg_cells, words_length, words_length, hsl]; rfl)) (by repeat (first | exact Upd.here | apply Upd.there)) (by rw [words_length]; omega) keptH_nil ?_
              refine HPlan.fin ?_
              refine onExitH_n ?_
              refine onNorm_n ?_
              refine HWp.text (.rd 0 (.rd 1 .done)) rfl ?_
              refine HPlan.intBin rfl rfl rfl rfl rfl (by first | exact add_i64 (by omega) (by omega) | rfl) ?_
              refine HPlan.move rfl rfl rfl ?_
              refine HPlan.fin ?_
              refine onNorm_n ?_
              subst hw
              refine ⟨(k + 1, ve + 1, rounds (spreadF l) st (k + 1)), (by simp only; omega), ⟨by simp only; omega, rfl⟩, (LessE.less (by repeat (first | exact LessE.nil | refine LessE.same rfl ?_ | refine LessE.own rfl ?_ | refine LessE.eq rfl ?_ (by first | rfl | (congr 1; omega) | simp))) rfl), (by repeat (first | exact Part.refl _ | refine Part.pull (by repeat (first | exact Pull.here | apply Pull.there)) ?_ | refine Part.skip _ ?_ | exact Part.nil _ | exact Part.app _ _)), (by repeat (first | exact Part.refl _ | refine Part.pull (by repeat (first | exact Pull.here | apply Pull.there)) ?_ | refine Part.skip _ ?_ | exact Part.nil _ | exact Part.app _ _))⟩
          · intro hc21
            first
            | (exact absurd hc21 Bool.false_ne_true)
            | (exact absurd hc21.symm Bool.false_ne_true)
            | ((try simp only [decide_eq_true_eq, decide_eq_false_iff_not, Bool.not_eq_true', Bool.not_eq_false', Bool.not_true, Bool.not_false, beq_iff_eq, bne_iff_ne, bne_eq_false_iff_eq, ne_eq, beq_eq_false_iff_ne, Int.not_lt, Int.not_le] at hc21); exfalso; omega)
            | (try simp only [decide_eq_true_eq, decide_eq_false_iff_not, Bool.not_eq_true', Bool.not_eq_false', Bool.not_true, Bool.not_false, beq_iff_eq, bne_iff_ne, bne_eq_false_iff_eq, ne_eq, beq_eq_false_iff_ne, Int.not_lt, Int.not_le] at hc21)
              refine HWp.exit ?_
              refine onNorm_e ?_
              refine onNorm_e ?_
              obtain rfl : k = 64 := by omega
              refine onExitH_hit ?_
              refine onNorm_n ?_
              refine HWp.seq ?_
              refine HWp.text (.rd 0 (.rd 1 .done)) rfl ?_
              refine HPlan.load rfl rfl rfl q_sh_69 (by repeat (first | exact List.Mem.head _ | apply List.Mem.tail | assumption)) (by rw [words_length]; constructor <;> (try simp only [cond_true]) <;> omega) (by simp only [cond_true, List.drop_zero]; rw [List.take_of_length_le (by rw [words_length]; omega)]) ?_
              refine HPlan.move rfl rfl rfl ?_
              refine HPlan.fin ?_
              refine onNorm_n ?_
              refine HWp.block ?_
              refine HWp.loopF (α := Nat × Nat × List Int) (fun q => 8 - q.1) (fun q => q.1 ≤ 8 ∧ q.2.2 = addN st s q.1) (fun q => ⟨114, [(0, .ref id 0), (99, .agg (words s)), (100, .int .i64 (q.1 : Int))]⟩) (fun q => (id, .cells ty (words q.2.2 ++ rest) q.2.1) :: F) (fun q => T) ?_ ?_
              · refine ⟨(0, ver, st), ⟨by simp only; omega, rfl⟩, (LessE.less (by repeat (first | exact LessE.nil | refine LessE.same rfl ?_ | refine LessE.own rfl ?_ | refine LessE.eq rfl ?_ (by first | rfl | (congr 1; omega) | simp))) rfl), (by repeat (first | exact Part.refl _ | refine Part.pull (by repeat (first | exact Pull.here | apply Pull.there)) ?_ | refine Part.skip _ ?_ | exact Part.nil _ | exact Part.app _ _)), (by repeat (first | exact Part.refl _ | refine Part.pull (by repeat (first | exact Pull.here | apply Pull.there)) ?_ | refine Part.skip _ ?_ | exact Part.nil _ | exact Part.app _ _))⟩
              · rintro q ⟨hk2, hw2⟩
                obtain ⟨k, ve2, s2⟩ := q
                simp only at hk2 hw2 ⊢
                have hsl2 : s2.length = 8 := by rw [hw2, addN_length, hst]
                refine HWp.seq ?_
                refine HWp.text (.rd 0 .done) rfl ?_
                refine HPlan.intBin rfl rfl rfl rfl rfl rfl ?_
                refine HPlan.fin ?_
                refine onNorm_n ?_
                refine HWp.seq ?_
                refine HWp.cond rfl ?_ ?_
                · intro hc101
                  first
                  | (exact absurd hc101 Bool.false_ne_true)
                  | (exact absurd hc101.symm Bool.false_ne_true)
                  | ((try simp only [decide_eq_true_eq, decide_eq_false_iff_not, Bool.not_eq_true', Bool.not_eq_false', Bool.not_true, Bool.not_false, beq_iff_eq, bne_iff_ne, bne_eq_false_iff_eq, ne_eq, beq_eq_false_iff_ne, Int.not_lt, Int.not_le] at hc101); exfalso; omega)
                  | (try simp only [decide_eq_true_eq, decide_eq_false_iff_not, Bool.not_eq_true', Bool.not_eq_false', Bool.not_true, Bool.not_false, beq_iff_eq, bne_iff_ne, bne_eq_false_iff_eq, ne_eq, beq_eq_false_iff_ne, Int.not_lt, Int.not_le] at hc101)
                    refine HWp.skip ?_
                    refine onNorm_n ?_
                    refine HWp.seq ?_
                    refine HWp.block ?_
                    refine HWp.seq ?_
                    refine HWp.text (.rd 0 (.rd 1 (.rd 2 (.rd 3 .done)))) rfl ?_
                    refine HPlan.move rfl rfl rfl ?_
                    refine HPlan.indexAgg rfl rfl rfl rfl q_ar_69 (by decide) (by rw [words_length, hsl]) (by omega) (by omega) (word_part _ _ (by omega)) ?_
                    refine HPlan.assign rfl rfl rfl ?_
                    refine HPlan.assign rfl rfl rfl ?_
                    refine HPlan.fin ?_
                    refine onNorm_n ?_
                    refine HWp.draw q_mix (.rd 0 (.rd 1 (.rd 2 (.rd 3 (.rd 4 (.rd 5 (.rd 6 (.rd 7 (.rd 8 (.act 9 [] .done)))))))))) (by kernel_rfl) ?_
                    refine HPlan.move rfl rfl rfl ?_
                    refine HPlan.move rfl rfl rfl ?_
                    refine HPlan.nilCheck rfl rfl rfl rfl ?_
                    refine HPlan.indexArr rfl rfl rfl rfl rfl q_ix_69 (by omega) (by omega) rfl ?_
                    refine HPlan.load rfl rfl rfl q_sh_67 (by repeat (first | exact List.Mem.head _ | apply List.Mem.tail | assumption)) (by rw [List.length_append, words_length]; constructor <;> (try simp only [cond_false]) <;> omega) (word_loadA _ _ k _ (by omega) (by omega)) ?_
                    refine HPlan.move rfl rfl rfl ?_
                    refine HPlan.intBin rfl rfl rfl rfl rfl (by first | exact add_i64 (by omega) (by omega) | rfl) ?_
                    refine HPlan.nilCheck rfl rfl rfl rfl ?_
                    refine HPlan.indexArr rfl rfl rfl rfl rfl q_ix_69 (by omega) (by omega) rfl ?_
                    refine HPlan.store rfl rfl rfl rfl q_sz_67 (by first | rfl | (simp; done)) (by first | rfl | decide | omega | (simp; done) | (simp; omega)) (by repeat (first | exact List.Mem.head _ | apply List.Mem.tail | assumption)) (word_setA _ _ k _ _ (by omega) (by omega)) (by repeat (first | exact Upd.here | apply Upd.there)) (by rw [List.length_append, words_length]; omega) keptH_nil ?_
                    refine HPlan.fin ?_
                    refine onExitH_n ?_
                    refine onNorm_n ?_
                    refine HWp.text (.rd 0 (.rd 1 .done)) rfl ?_
                    refine HPlan.intBin rfl rfl rfl rfl rfl (by first | exact add_i64 (by omega) (by omega) | rfl) ?_
                    refine HPlan.move rfl rfl rfl ?_
                    refine HPlan.fin ?_
                    refine onNorm_n ?_
                    subst hw2
                    refine ⟨(k + 1, ve2 + 1, addN st s (k + 1)), (by simp only; omega), ⟨by simp only; omega, rfl⟩, (LessE.less (by repeat (first | exact LessE.nil | refine LessE.same rfl ?_ | refine LessE.own rfl ?_ | refine LessE.eq rfl ?_ (by first | rfl | (congr 1; omega) | simp))) rfl), (by repeat (first | exact Part.refl _ | refine Part.pull (by repeat (first | exact Pull.here | apply Pull.there)) ?_ | refine Part.skip _ ?_ | exact Part.nil _ | exact Part.app _ _)), (by repeat (first | exact Part.refl _ | refine Part.pull (by repeat (first | exact Pull.here | apply Pull.there)) ?_ | refine Part.skip _ ?_ | exact Part.nil _ | exact Part.app _ _))⟩
                · intro hc101
                  first
                  | (exact absurd hc101 Bool.false_ne_true)
                  | (exact absurd hc101.symm Bool.false_ne_true)
                  | ((try simp only [decide_eq_true_eq, decide_eq_false_iff_not, Bool.not_eq_true', Bool.not_eq_false', Bool.not_true, Bool.not_false, beq_iff_eq, bne_iff_ne, bne_eq_false_iff_eq, ne_eq, beq_eq_false_iff_ne, Int.not_lt, Int.not_le] at hc101); exfalso; omega)
                  | (try simp only [decide_eq_true_eq, decide_eq_false_iff_not, Bool.not_eq_true', Bool.not_eq_false', Bool.not_true, Bool.not_false, beq_iff_eq, bne_iff_ne, bne_eq_false_iff_eq, ne_eq, beq_eq_false_iff_ne, Int.not_lt, Int.not_le] at hc101)
                    refine HWp.exit ?_
                    refine onNorm_e ?_
                    refine onNorm_e ?_
                    obtain rfl : k = 8 := by omega
                    refine onExitH_hit ?_
                    refine retQ_n .nil ?_
                    have hfin : s2 = takeF st l := by rw [hw2, hw]; rfl
                    rw [← hfin]
                    exact endK_of ⟨rfl, ve2, rfl, rfl⟩ (by repeat (first | exact Part.refl _ | refine Part.pull (by repeat (first | exact Pull.here | apply Pull.there)) ?_ | refine Part.skip _ ?_ | exact Part.nil _ | exact Part.app _ _)) (by repeat (first | exact Part.refl _ | refine Part.pull (by repeat (first | exact Pull.here | apply Pull.there)) ?_ | refine Part.skip _ ?_ | exact Part.nil _ | exact Part.app _ _))
end Go.Proofs.Ythfoobfgdakbmaa

set_option linter.unusedVariables false
set_option linter.unusedSimpArgs false
set_option maxRecDepth 100000
namespace Go.Proofs.Ythfoobfgdakbmaa
open Go Go.RowKit Go.L
theorem q_en_32 : enterable Try.prog 32 = true := by kernel_rfl
theorem q_zo_73 : zeroOf Try.prog 73 = some (LV.agg [(LV.int .u32 0), (LV.int .u32 0), (LV.int .u32 0), (LV.int .u32 0), (LV.int .u32 0), (LV.int .u32 0), (LV.int .u32 0), (LV.int .u32 0), LV.nils, (LV.int .u64 0)]) := by kernel_rfl
theorem q_pl_73 : placesOf Try.prog 73 = some (fun i => ([(0, 8), (8, 1), (9, 1)] : List (Nat × Nat))[i]?) := by kernel_rfl
theorem q_f_24 : Try.prog.funcs[24]? = some Try.f24 := by kernel_rfl
theorem q_tk_56 : tyKind Try.prog 56 = .ptr := by kernel_rfl
theorem q_fo_73_2 : fieldOff Try.prog 73 2 = some 9 := by kernel_rfl
theorem q_sh_71 : shapeOf Try.prog 71 = some (false, 1) := by kernel_rfl
theorem q_tk_9 : tyKind Try.prog 9 = .str := by kernel_rfl
theorem q_it_71 : intTy Try.prog 71 = some .u64 := by kernel_rfl
theorem q_sz_71 : sizeOfT Try.prog 71 = some 1 := by kernel_rfl
theorem q_fo_73_1 : fieldOff Try.prog 73 1 = some 8 := by kernel_rfl
theorem q_sh_45 : shapeOf Try.prog 45 = some (false, 1) := by kernel_rfl
theorem q_el_45 : elemIn Try.prog 45 = some (5, 1, 1) := by kernel_rfl
theorem q_st_9 : isStrTy Try.prog 9 = true := by kernel_rfl
theorem q_sz_45 : sizeOfT Try.prog 45 = some 1 := by kernel_rfl
theorem q_fo_73_0 : fieldOff Try.prog 73 0 = some 0 := by kernel_rfl
theorem q_sv_45 : sliceTy Try.prog 45 = some 1 := by kernel_rfl
theorem q_en_33 : enterable Try.prog 33 = true := by kernel_rfl
theorem q_f_25 : Try.prog.funcs[25]? = some Try.f25 := by kernel_rfl

theorem hash_8 (st : List Int) (a b : LV) (h : st.length = 8) : (bif false then LV.agg (((words st ++ [a, b]).drop (0 + 8)).take 1) else ((words st ++ [a, b]).drop (0 + 8)).headD .und) = a := by
  simp [List.headD_eq_head?_getD, List.head?_drop, List.getElem?_append, h]
theorem hash_9 (st : List Int) (a b : LV) (h : st.length = 8) : (bif false then LV.agg (((words st ++ [a, b]).drop (0 + 9)).take 1) else ((words st ++ [a, b]).drop (0 + 9)).headD .und) = b := by
  simp [List.headD_eq_head?_getD, List.head?_drop, List.getElem?_append, h]
theorem hash_set8 (st : List Int) (a b x : LV) (h : st.length = 8) (hx : x.cells = [x]) : splice (words st ++ [a, b]) (0 + 8) x.cells = words st ++ [x, b] := by
  rw [hx]
  have e : (words st).length = 8 := by rw [words_length, h]
  simp only [splice, Nat.zero_add, List.length_singleton]
  rw [← e, List.take_left, List.drop_append]
  simp
theorem hash_set9 (st : List Int) (a b x : LV) (h : st.length = 8) (hx : x.cells = [x]) : splice (words st ++ [a, b]) (0 + 9) x.cells = words st ++ [a, x] := by
  rw [hx]
  have e : (words st).length = 8 := by rw [words_length, h]
  simp only [splice, Nat.zero_add, List.length_singleton]
  rw [List.take_append, List.drop_append, e, List.take_of_length_le (by omega), List.drop_of_length_le (by omega)]
  simp
theorem growV_cells (o : Option (Nat × Nat)) (k : Nat) (es : List LV) : (growV o k es).cells = [growV o k es] := by cases o <;> rfl
theorem growV_solid (o : Option (Nat × Nat)) (k : Nat) (es : List LV) : (growV o k es).solid = true := by cases o <;> rfl
def hashV (st : List Int) (o : Option (Nat × Nat)) (tl : List UInt8) (n : Int) : List LV := words st ++ [growV o 1 (bytesLV tl), .int .u64 n]

theorem new_spec (F : Hp) (T : Tk) : HCalls Try.prog 24 [] F T (fun r L' T' => ∃ id, r = .ref id 0 ∧ L' = (id, .cells 73 (words h0List ++ [growV none 1 (bytesLV []), .int .u64 0]) 0) :: F ∧ T' = T) := by
  refine HCalls.enterG q_f_24 rfl ?_
  refine HWp.frame (r' := ⟨4, []⟩) rfl ?_
  refine HWp.seq ?_
  refine HWp.text (.rd 0 .done) rfl ?_
  refine HPlan.assign rfl rfl rfl ?_
  refine HPlan.fin ?_
  refine onNorm_n ?_
  refine HWp.seq ?_
  refine HWp.text (.act 0 [] (.rd 1 (.act 2 [] (.rd 3 .done)))) rfl ?_
  refine HPlan.callPure rfl rfl rfl q_en_32 begin_spec keptH_nil ?_
  refine HPlan.build rfl rfl rfl q_zo_73 (by first | rfl | (simp; done)) q_pl_73 (fillOk_cons rfl (words_solid _) (by rw [agg_cells, words_length]; rfl) (by decide) fillOk_nil) (by rfl : _ = LV.agg (words h0List ++ [growV none 1 (bytesLV []), .int .u64 0])) ?_
  refine HPlan.box rfl rfl rfl (by rfl) (fun i3 => ⟨keptH_nil, ?_⟩)
  refine HPlan.assign rfl rfl rfl ?_
  refine HPlan.fin ?_
  refine onNorm_n ?_
  refine HWp.ret ?_
  refine retQ_r (.tmp rfl .nil) ?_
  exact endK_of ⟨_, rfl, rfl, rfl⟩ (by repeat (first | exact Part.refl _ | refine Part.pull (by repeat (first | exact Pull.here | apply Pull.there)) ?_ | refine Part.skip _ ?_ | exact Part.nil _ | exact Part.app _ _)) (by repeat (first | exact Part.refl _ | refine Part.pull (by repeat (first | exact Pull.here | apply Pull.there)) ?_ | refine Part.skip _ ?_ | exact Part.nil _ | exact Part.app _ _))

def absorb (st : List Int) (all : List UInt8) : Nat → List Int
  | 0 => st
  | k + 1 => takeF (absorb st all k) ((all.drop (64 * k)).take 64)
theorem absorb_length {st : List Int} (h : st.length = 8) (all : List UInt8) : ∀ k, (absorb st all k).length = 8
  | 0 => h
  | k + 1 => takeF_length (absorb_length h all k) _
theorem bytesLV_drop (l : List UInt8) (n : Nat) : (bytesLV l).drop n = bytesLV (l.drop n) := by simp [bytesLV]
theorem bytesLV_take (l : List UInt8) (n : Nat) : (bytesLV l).take n = bytesLV (l.take n) := by simp [bytesLV]

theorem add_spec (st : List Int) (hst : st.length = 8) (o : Option (Nat × Nat)) (tl : List UInt8) (htl : tl.length < 64) (hgo : growOk o (bytesLV tl)) (n : Int) (s : ByteArray) (hs : s.size < 70368744177664) (id ver : Nat) (F : Hp) (T : Tk) : HCalls Try.prog 25 [.ref id 0, .str s] ((id, .cells 73 (words st ++ [growV o 1 (bytesLV tl), .int .u64 n]) ver) :: F) (growT o ++ T) (fun r L' T' => r = .tup [] ∧ ∃ o' ver', growOk o' (bytesLV ((tl ++ s.toList).drop (64 * ((tl ++ s.toList).length / 64)))) ∧ L' = (id, .cells 73 (words (absorb st (tl ++ s.toList) ((tl ++ s.toList).length / 64)) ++ [growV o' 1 (bytesLV ((tl ++ s.toList).drop (64 * ((tl ++ s.toList).length / 64)))), .int .u64 (IntKind.u64.wrap (n + IntKind.u64.wrap s.size))]) ver') :: F ∧ T' = growT o' ++ T) := by
  refine HCalls.enterG q_f_25 rfl ?_
  refine HWp.frame (r' := ⟨48, [(0, .ref id 0), (1, .str s)]⟩) rfl ?_
  refine HWp.seq ?_
  refine HWp.seq ?_
  refine HWp.text (.rd 0 (.rd 1 .done)) rfl ?_
  refine HPlan.move rfl rfl rfl ?_
  refine HPlan.nilEqK rfl rfl rfl rfl q_tk_56 rfl rfl rfl rfl ?_
  refine HPlan.fin ?_
  refine onNorm_n ?_
  refine HWp.cond rfl ?_ ?_
  · intro hc5
    first
    | (exact absurd hc5 Bool.false_ne_true)
    | (exact absurd hc5.symm Bool.false_ne_true)
    | ((try simp only [decide_eq_true_eq, decide_eq_false_iff_not, Bool.not_eq_true', Bool.not_eq_false', Bool.not_true, Bool.not_false, beq_iff_eq, bne_iff_ne, bne_eq_false_iff_eq, ne_eq, beq_eq_false_iff_ne, Int.not_lt, Int.not_le] at hc5); exfalso; omega)
    | (try simp only [decide_eq_true_eq, decide_eq_false_iff_not, Bool.not_eq_true', Bool.not_eq_false', Bool.not_true, Bool.not_false, beq_iff_eq, bne_iff_ne, bne_eq_false_iff_eq, ne_eq, beq_eq_false_iff_ne, Int.not_lt, Int.not_le] at hc5)
      refine HWp.ret ?_
      refine onNorm_r ?_
      refine retQ_r .nil ?_
      rw [hkk]
      subst hw ht
      exact endK_of ⟨rfl, o1, ve, hg, rfl, rfl⟩ (by repeat (first | exact Part.refl _ | refine Part.pull (by repeat (first | exact Pull.here | apply Pull.there)) ?_ | refine Part.skip _ ?_ | exact Part.nil _ | exact Part.app _ _)) (by repeat (first | exact Part.refl _ | refine Part.pull (by repeat (first | exact Pull.here | apply Pull.there)) ?_ | refine Part.skip _ ?_ | exact Part.nil _ | exact Part.app _ _))
  · intro hc5
    first
    | (exact absurd hc5 Bool.false_ne_true)
    | (exact absurd hc5.symm Bool.false_ne_true)
    | ((try simp only [decide_eq_true_eq, decide_eq_false_iff_not, Bool.not_eq_true', Bool.not_eq_false', Bool.not_true, Bool.not_false, beq_iff_eq, bne_iff_ne, bne_eq_false_iff_eq, ne_eq, beq_eq_false_iff_ne, Int.not_lt, Int.not_le] at hc5); exfalso; omega)
    | (try simp only [decide_eq_true_eq, decide_eq_false_iff_not, Bool.not_eq_true', Bool.not_eq_false', Bool.not_true, Bool.not_false, beq_iff_eq, bne_iff_ne, bne_eq_false_iff_eq, ne_eq, beq_eq_false_iff_ne, Int.not_lt, Int.not_le] at hc5)
      refine HWp.skip ?_
      refine onNorm_n ?_
      refine HWp.seq ?_
      refine HWp.text (.rd 0 (.rd 1 (.rd 2 (.rd 3 (.rd 4 (.rd 5 (.rd 6 (.rd 7 (.rd 8 (.rd 9 (.act 10 [] .done))))))))))) rfl ?_
      refine HPlan.move rfl rfl rfl ?_
      refine HPlan.nilCheck rfl rfl rfl rfl ?_
      refine HPlan.fieldAddr rfl rfl rfl rfl q_fo_73_2 rfl ?_
      refine HPlan.load rfl rfl rfl q_sh_71 (by repeat (first | exact List.Mem.head _ | apply List.Mem.tail | assumption)) (by rw [List.length_append, words_length]; constructor <;> simp [hst]) (hash_9 _ _ _ hst) ?_
      refine HPlan.move rfl rfl rfl ?_
      refine HPlan.lenStr rfl rfl rfl q_tk_9 rfl ?_
      refine HPlan.intConv rfl rfl rfl q_us_3 q_it_71 rfl ?_
      refine HPlan.intBin rfl rfl rfl rfl rfl (by first | exact add_i64 (by omega) (by omega) | rfl) ?_
      refine HPlan.nilCheck rfl rfl rfl rfl ?_
      refine HPlan.fieldAddr rfl rfl rfl rfl q_fo_73_2 rfl ?_
      refine HPlan.store rfl rfl rfl rfl q_sz_71 (by first | rfl | (simp; done)) (by first | rfl | decide | omega | (simp; done) | (simp; omega)) (by repeat (first | exact List.Mem.head _ | apply List.Mem.tail | assumption)) (hash_set9 _ _ _ _ hst rfl) (by repeat (first | exact Upd.here | apply Upd.there)) (by rw [List.length_append, words_length, hst]; simp) keptH_nil ?_
      refine HPlan.fin ?_
      refine onNorm_n ?_
      refine HWp.seq ?_
      refine HWp.text (.rd 0 (.rd 1 (.rd 2 (.rd 3 (.rd 4 (.rd 5 (.act 6 [] (.rd 7 (.rd 8 (.act 9 [] .done)))))))))) rfl ?_
      refine HPlan.move rfl rfl rfl ?_
      refine HPlan.move rfl rfl rfl ?_
      refine HPlan.nilCheck rfl rfl rfl rfl ?_
      refine HPlan.fieldAddr rfl rfl rfl rfl q_fo_73_1 rfl ?_
      refine HPlan.load rfl rfl rfl q_sh_45 (by repeat (first | exact List.Mem.head _ | apply List.Mem.tail | assumption)) (by rw [List.length_append, words_length]; constructor <;> simp [hst]) (hash_8 _ _ _ hst) ?_
      refine HPlan.move rfl rfl rfl ?_
      refine HPlan.appendStrG rfl rfl rfl rfl q_el_45 q_st_9 (List.Perm.refl _) hgo (by rw [bytesLV_length]; omega) (by rw [bytesLV_length]; omega) keptH_nil (fun o2 hg_o2 => ?_)
      rw [← bytesLV_append] at hg_o2 ⊢
      refine HPlan.nilCheck rfl rfl rfl rfl ?_
      refine HPlan.fieldAddr rfl rfl rfl rfl q_fo_73_1 rfl ?_
      refine HPlan.store rfl rfl rfl rfl q_sz_45 (growV_solid _ _ _) (by rw [growV_cells]; rfl) (by repeat (first | exact List.Mem.head _ | apply List.Mem.tail | assumption)) (hash_set8 _ _ _ _ hst (growV_cells _ _ _)) (by repeat (first | exact Upd.here | apply Upd.there)) (by rw [List.length_append, words_length, hst]; simp) keptH_nil ?_
      refine HPlan.fin ?_
      refine onNorm_n ?_
      refine HWp.block ?_
      refine HWp.loopF (α := Nat × Nat × List Int × List UInt8 × Option (Nat × Nat)) (fun q => (tl ++ s.toList).length - 64 * q.1) (fun q => 64 * q.1 ≤ (tl ++ s.toList).length ∧ q.2.2.1 = absorb st (tl ++ s.toList) q.1 ∧ q.2.2.2.1 = (tl ++ s.toList).drop (64 * q.1) ∧ growOk q.2.2.2.2 (bytesLV q.2.2.2.1)) (fun q => ⟨48, [(0, .ref id 0)]⟩) (fun q => (id, .cells 73 (words q.2.2.1 ++ [growV q.2.2.2.2 1 (bytesLV q.2.2.2.1), .int .u64 (IntKind.u64.wrap (n + IntKind.u64.wrap s.size))]) q.2.1) :: F) (fun q => growT q.2.2.2.2 ++ T) ?_ ?_
      · refine ⟨(0, _, st, tl ++ s.toList, o2), ⟨by simp only; omega, rfl, rfl, hg_o2⟩, (LessE.less (by repeat (first | exact LessE.nil | refine LessE.same rfl ?_ | refine LessE.own rfl ?_ | refine LessE.eq rfl ?_ (by first | rfl | (congr 1; omega) | simp))) rfl), (by repeat (first | exact Part.refl _ | refine Part.pull (by repeat (first | exact Pull.here | apply Pull.there)) ?_ | refine Part.skip _ ?_ | exact Part.nil _ | exact Part.app _ _)), (by repeat (first | exact Part.refl _ | refine Part.pull (by repeat (first | exact Pull.here | apply Pull.there)) ?_ | refine Part.skip _ ?_ | exact Part.nil _ | exact Part.app _ _))⟩
      · rintro q ⟨hk, hw, ht, hg⟩
        obtain ⟨k, ve, s1, t1, o1⟩ := q
        simp only at hk hw ht hg ⊢
        have hst1 : s1.length = 8 := by rw [hw]; exact absorb_length hst _ _
        have hlt : t1.length = (tl ++ s.toList).length - 64 * k := by rw [ht, List.length_drop]
        refine HWp.seq ?_
        refine HWp.seq ?_
        refine HWp.text (.rd 0 (.rd 1 (.rd 2 (.rd 3 (.rd 4 (.rd 5 .done)))))) rfl ?_
        refine HPlan.move rfl rfl rfl ?_
        refine HPlan.nilCheck rfl rfl rfl rfl ?_
        refine HPlan.fieldAddr rfl rfl rfl rfl q_fo_73_1 rfl ?_
        refine HPlan.load rfl rfl rfl q_sh_45 (by repeat (first | exact List.Mem.head _ | apply List.Mem.tail | assumption)) (by rw [List.length_append, words_length]; constructor <;> simp [hst1]) (hash_8 _ _ _ hst1) ?_
        refine HPlan.lenS rfl rfl rfl q_tk_45 (growV_isSl hg) (by rw [bytesLV_length]) ?_
        refine HPlan.intBin rfl rfl rfl rfl rfl rfl ?_
        refine HPlan.fin ?_
        refine onNorm_n ?_
        refine HWp.cond rfl ?_ ?_
        · intro hc30
          first
          | (exact absurd hc30 Bool.false_ne_true)
          | (exact absurd hc30.symm Bool.false_ne_true)
          | ((try simp only [decide_eq_true_eq, decide_eq_false_iff_not, Bool.not_eq_true', Bool.not_eq_false', Bool.not_true, Bool.not_false, beq_iff_eq, bne_iff_ne, bne_eq_false_iff_eq, ne_eq, beq_eq_false_iff_ne, Int.not_lt, Int.not_le] at hc30); exfalso; omega)
          | (try simp only [decide_eq_true_eq, decide_eq_false_iff_not, Bool.not_eq_true', Bool.not_eq_false', Bool.not_true, Bool.not_false, beq_iff_eq, bne_iff_ne, bne_eq_false_iff_eq, ne_eq, beq_eq_false_iff_ne, Int.not_lt, Int.not_le] at hc30)
            refine HWp.skip ?_
            refine onNorm_n ?_
            refine HWp.block ?_
            refine HWp.seq ?_
            refine HWp.draw q_mix (.rd 0 (.rd 1 (.rd 2 (.rd 3 (.rd 4 (.rd 5 (.rd 6 (.rd 7 (.act 8 [] .done))))))))) (by kernel_rfl) ?_
            refine HPlan.move rfl rfl rfl ?_
            refine HPlan.nilCheck rfl rfl rfl rfl ?_
            refine HPlan.fieldAddr rfl rfl rfl rfl q_fo_73_0 rfl ?_
            refine HPlan.move rfl rfl rfl ?_
            refine HPlan.nilCheck rfl rfl rfl rfl ?_
            refine HPlan.fieldAddr rfl rfl rfl rfl q_fo_73_1 rfl ?_
            refine HPlan.load rfl rfl rfl q_sh_45 (by repeat (first | exact List.Mem.head _ | apply List.Mem.tail | assumption)) (by rw [List.length_append, words_length]; constructor <;> simp [hst1]) (hash_8 _ _ _ hst1) ?_
            refine HPlan.takeG rfl rfl rfl rfl q_sv_45 (growOk_pos hg (by rw [bytesLV_length]; omega)) (by decide) (by rw [bytesLV_length]; omega) (bytesLV_take _ _) ?_
            refine HPlan.callS rfl rfl rfl q_en_33 (take_spec (t1.take 64) _ (by rw [List.length_take]; omega) .sl s1 hst1 _ id 73 ve F (growT o1 ++ T)) (List.Perm.refl _) (List.Perm.refl _) ?_
            rintro r_R4_8 L_R4_8 T_R4_8 ⟨rfl, ve2, rfl, rfl⟩
            refine ⟨keptH_nil, ?_⟩
            refine HPlan.fin ?_
            refine onNorm_n ?_
            refine HWp.text (.rd 0 (.rd 1 (.rd 2 (.rd 3 (.rd 4 (.rd 5 (.rd 6 (.rd 7 (.act 8 [] .done))))))))) rfl ?_
            refine HPlan.move rfl rfl rfl ?_
            refine HPlan.move rfl rfl rfl ?_
            refine HPlan.nilCheck rfl rfl rfl rfl ?_
            refine HPlan.fieldAddr rfl rfl rfl rfl q_fo_73_1 rfl ?_
            refine HPlan.load rfl rfl rfl q_sh_45 (by repeat (first | exact List.Mem.head _ | apply List.Mem.tail | assumption)) (by rw [List.length_append, words_length]; constructor <;> simp [(takeF_length hst1 _)]) (hash_8 _ _ _ (takeF_length hst1 _)) ?_
            refine HPlan.dropG rfl rfl rfl rfl q_sv_45 (growOk_pos hg (by rw [bytesLV_length]; omega)) (by decide) (by rw [bytesLV_length]; omega) (bytesLV_drop _ _) ?_
            refine HPlan.nilCheck rfl rfl rfl rfl ?_
            refine HPlan.fieldAddr rfl rfl rfl rfl q_fo_73_1 rfl ?_
            refine HPlan.store rfl rfl rfl rfl q_sz_45 (growV_solid _ _ _) (by rw [growV_cells]; rfl) (by repeat (first | exact List.Mem.head _ | apply List.Mem.tail | assumption)) (hash_set8 _ _ _ _ (takeF_length hst1 _) (growV_cells _ _ _)) (by repeat (first | exact Upd.here | apply Upd.there)) (by rw [List.length_append, words_length, takeF_length hst1]; simp) keptH_nil ?_
            refine HPlan.fin ?_
            refine onExitH_n ?_
            refine onNorm_n ?_
            refine ⟨(k + 1, _, takeF s1 (t1.take 64), t1.drop 64, o1), (by simp only; omega), ⟨by simp only; omega, by rw [hw, ht]; rfl, by rw [ht, List.drop_drop]; rfl, growOk_isSome (growOk_pos hg (by rw [bytesLV_length]; omega))⟩, (LessE.less (by repeat (first | exact LessE.nil | refine LessE.same rfl ?_ | refine LessE.own rfl ?_ | refine LessE.eq rfl ?_ (by first | rfl | (congr 1; omega) | simp))) rfl), (by repeat (first | exact Part.refl _ | refine Part.pull (by repeat (first | exact Pull.here | apply Pull.there)) ?_ | refine Part.skip _ ?_ | exact Part.nil _ | exact Part.app _ _)), (by repeat (first | exact Part.refl _ | refine Part.pull (by repeat (first | exact Pull.here | apply Pull.there)) ?_ | refine Part.skip _ ?_ | exact Part.nil _ | exact Part.app _ _))⟩
        · intro hc30
          first
          | (exact absurd hc30 Bool.false_ne_true)
          | (exact absurd hc30.symm Bool.false_ne_true)
          | ((try simp only [decide_eq_true_eq, decide_eq_false_iff_not, Bool.not_eq_true', Bool.not_eq_false', Bool.not_true, Bool.not_false, beq_iff_eq, bne_iff_ne, bne_eq_false_iff_eq, ne_eq, beq_eq_false_iff_ne, Int.not_lt, Int.not_le] at hc30); exfalso; omega)
          | (try simp only [decide_eq_true_eq, decide_eq_false_iff_not, Bool.not_eq_true', Bool.not_eq_false', Bool.not_true, Bool.not_false, beq_iff_eq, bne_iff_ne, bne_eq_false_iff_eq, ne_eq, beq_eq_false_iff_ne, Int.not_lt, Int.not_le] at hc30)
            refine HWp.exit ?_
            refine onNorm_e ?_
            refine onNorm_e ?_
            have hkk : (tl ++ s.toList).length / 64 = k := by omega
            refine onExitH_hit ?_
            refine retQ_n .nil ?_
            rw [hkk]
            subst hw ht
            exact endK_of ⟨rfl, o1, ve, hg, rfl, rfl⟩ (by repeat (first | exact Part.refl _ | refine Part.pull (by repeat (first | exact Pull.here | apply Pull.there)) ?_ | refine Part.skip _ ?_ | exact Part.nil _ | exact Part.app _ _)) (by repeat (first | exact Part.refl _ | refine Part.pull (by repeat (first | exact Pull.here | apply Pull.there)) ?_ | refine Part.skip _ ?_ | exact Part.nil _ | exact Part.app _ _))
end Go.Proofs.Ythfoobfgdakbmaa
