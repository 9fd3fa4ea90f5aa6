/- WHAT THE WALKS STAND ON, part of a proof: L28 L33 L34 L35 L36 L37 L38 L39. No condition beyond what each theorem states. -/
import Derived.Lib.Bytealg
import Derived.Laws.Externs
import Derived.KernelRfl
import Derived.Laws.RangeString
import Derived.Laws.RangeAny
import Derived.Laws.Append
import Derived.Lib.Overlaps
import Derived.Lib.AppendZerosOnto
import GoSem.ClaimJoined
import Derived.Test.YthfoobfgdakbmaaDoorLib1
import Derived.Test.YthfoobfgdakbmaaDoorLib2
set_option linter.unusedVariables false
set_option linter.unusedSimpArgs false
namespace Go.L
open Go Go.RowKit

section
variable {P : Program} {regs : Fr} {L : Hp} {T : Tk} {Q : HQ} {ops : Array Oper} {p : Plan} {pend : Pends} {i : Nat} {U : List Nat} {d : Option Tmp} {ty : TypeId} {pos : String} {af : Array Edge} {g : Option (Nat × Bool)}

/-! ### Parts of arrays and of slices that may be written -/
def arrTy (P : Program) (t : Nat) : Option (Nat × Nat) :=
  match P.underlying t with
  | some (.array n e) => (match P.info? e with | some i => some (n, i.size) | none => none)
  | _ => none
theorem reads_sliceArr {st : St} {o : Oper} {t n k id off : Nat} {x : Operand} {lo hi : Option Operand} (h : o.op = .slice t x lo hi none) (ht : arrTy P t = some (n, k)) (hx : opdV regs x = .ref id off)
    (h1 : optOk regs lo = true) (h2 : optOk regs hi = true) (hl : 0 ≤ optI regs 0 lo) (hlh : optI regs 0 lo ≤ optI regs n hi) (hh : optI regs n hi ≤ n) :
    Reads P st regs o (.hs id (if n = (optI regs 0 lo).toNat then off else off + (optI regs 0 lo).toNat * k) ((optI regs n hi).toNat - (optI regs 0 lo).toNat) (n - (optI regs 0 lo).toNat)) [] := reads_pure fun G A hr => by
  have rx := rep_opd hr x
  obtain ⟨v, hv⟩ : ∃ v, A.eval x = v := ⟨_, rfl⟩
  rw [hv, hx] at rx
  cases rx with | @ref _ _ b hb =>
  have hb' := fun w' => run_bounds (P := P) hr (isS := false) (c := n) h1 h2 hl hlh hh w'
  generalize (optI regs n hi) = H at *
  generalize (optI regs 0 lo) = M at *
  unfold arrTy at ht
  split at ht
  · rename_i m el hu
    cases hq : P.info? el with
    | none => simp [hq] at ht
    | some inf =>
      simp only [hq, Option.some.injEq, Prod.mk.injEq] at ht
      obtain ⟨rfl, rfl⟩ := ht
      refine ⟨_, Rep.hs hb, fun w' => ?_⟩
      have hrun : (Instr.sliceAt t (.pointer (some ⟨b, off, none⟩)) (lo.map A.eval) (hi.map A.eval) none).run P w' = .ok (.slice (some (if m = M.toNat then ⟨b, off, none⟩ else ⟨b, off + M.toNat * inf.size, none⟩)) (H.toNat - M.toNat) (m - M.toNat)) w' := by
        simp only [Instr.sliceAt, Instr.sureAddr, Sem.run_bind, run_underlying hu w', Result.andThen_ok, Sem.run_pure, hb' w', sizeOf, typeInfo, run_program, hq, addr_add]
      have e : (if m = M.toNat then (⟨b, off, none⟩ : Addr) else ⟨b, off + M.toNat * inf.size, none⟩) = ⟨b, if m = M.toNat then off else off + M.toNat * inf.size, none⟩ := by split <;> rfl
      rw [e] at hrun
      simp [execOp, h, hv, hrun]
  · cases ht
theorem HPlan.sliceArr {t n k id off : Nat} {x : Operand} {lo hi : Option Operand} {a b : Int} {v : LV} (ho : ops[i]? = some ⟨d, .slice t x lo hi none, ty, pos, af, g⟩) (ht : takenB ops g regs = true) (hx : opdO regs x = some (.ref id off))
    (ha : optO regs 0 lo = some a) (hb : optO regs n hi = some b) (hs : arrTy P t = some (n, k)) (hl : 0 ≤ a) (hlh : a ≤ b) (hh : b ≤ n) (hv : .hs id (if n = a.toNat then off else off + a.toNat * k) (b.toNat - a.toNat) (n - a.toNat) = v)
    (kk : HPlan P ops Q p pend (setR d v regs) L T) : HPlan P ops Q (.rd i p) pend regs L T := by
  subst hv
  obtain ⟨o1, o2⟩ := optO_spec ha
  obtain ⟨o3, o4⟩ := optO_spec hb
  refine .rd0 ho ht rfl (fun st => ?_) kk
  have := reads_sliceArr (st := st) (o := ⟨d, .slice t x lo hi none, ty, pos, af, g⟩) rfl hs (opdV_of hx) o1 o3 (by rw [o2]; exact hl) (by rw [o2, o4]; exact hlh) (by rw [o4]; exact hh)
  rw [o2, o4] at this
  exact this

theorem reads_sliceH {st : St} {o : Oper} {t k id off len cap : Nat} {x : Operand} {lo hi : Option Operand} (h : o.op = .slice t x lo hi none) (ht : sliceTy P t = some k) (hx : opdV regs x = .hs id off len cap)
    (h1 : optOk regs lo = true) (h2 : optOk regs hi = true) (hl : 0 ≤ optI regs 0 lo) (hlh : optI regs 0 lo ≤ optI regs len hi) (hh : optI regs len hi ≤ cap) :
    Reads P st regs o (.hs id (if cap = (optI regs 0 lo).toNat then off else off + (optI regs 0 lo).toNat * k) ((optI regs len hi).toNat - (optI regs 0 lo).toNat) (cap - (optI regs 0 lo).toNat)) [] := reads_pure fun G A hr => by
  have rx := rep_opd hr x
  obtain ⟨v, hv⟩ : ∃ v, A.eval x = v := ⟨_, rfl⟩
  rw [hv, hx] at rx
  cases rx with | @hs _ _ _ _ b hb =>
  have hb' := fun w' => run_bounds (P := P) hr (isS := true) (c := cap) h1 h2 hl hlh hh w'
  generalize (optI regs len hi) = H at *
  generalize (optI regs 0 lo) = M at *
  unfold sliceTy at ht
  split at ht
  · rename_i el hu
    cases hq : P.info? el with
    | none => simp [hq] at ht
    | some inf =>
      simp only [hq, Option.some.injEq] at ht
      subst ht
      refine ⟨_, Rep.hs hb, fun w' => ?_⟩
      have hrun : (Instr.sliceAt t (.slice (some ⟨b, off, none⟩) len cap) (lo.map A.eval) (hi.map A.eval) none).run P w' = .ok (.slice (some (if cap = M.toNat then ⟨b, off, none⟩ else ⟨b, off + M.toNat * inf.size, none⟩)) (H.toNat - M.toNat) (cap - M.toNat)) w' := by
        simp only [Instr.sliceAt, Instr.slice, Sem.run_bind, run_underlying hu w', Result.andThen_ok, Sem.run_pure, hb' w', sizeOf, typeInfo, run_program, hq, addr_add, Option.map_some]
        split <;> rfl
      have e : (if cap = M.toNat then (⟨b, off, none⟩ : Addr) else ⟨b, off + M.toNat * inf.size, none⟩) = ⟨b, if cap = M.toNat then off else off + M.toNat * inf.size, none⟩ := by split <;> rfl
      rw [e] at hrun
      simp [execOp, h, hv, hrun]
  · cases ht
theorem HPlan.sliceH {t k id off len cap : Nat} {x : Operand} {lo hi : Option Operand} {a b : Int} {v : LV} (ho : ops[i]? = some ⟨d, .slice t x lo hi none, ty, pos, af, g⟩) (ht : takenB ops g regs = true) (hx : opdO regs x = some (.hs id off len cap))
    (ha : optO regs 0 lo = some a) (hb : optO regs len hi = some b) (hs : sliceTy P t = some k) (hl : 0 ≤ a) (hlh : a ≤ b) (hh : b ≤ cap) (hv : .hs id (if cap = a.toNat then off else off + a.toNat * k) (b.toNat - a.toNat) (cap - a.toNat) = v)
    (kk : HPlan P ops Q p pend (setR d v regs) L T) : HPlan P ops Q (.rd i p) pend regs L T := by
  subst hv
  obtain ⟨o1, o2⟩ := optO_spec ha
  obtain ⟨o3, o4⟩ := optO_spec hb
  refine .rd0 ho ht rfl (fun st => ?_) kk
  have := reads_sliceH (st := st) (o := ⟨d, .slice t x lo hi none, ty, pos, af, g⟩) rfl hs (opdV_of hx) o1 o3 (by rw [o2]; exact hl) (by rw [o2, o4]; exact hlh) (by rw [o4]; exact hh)
  rw [o2, o4] at this
  exact this

/-! ### Bytes that a function of the library looks at -/
inductive IsBytes (L : Hp) : LV → List UInt8 → Prop
  | nils : IsBytes L .nils []
  | sl {o : Own} {l : List UInt8} : IsBytes L (.sl o 1 (bytesLV l)) l
  | hs {id ty ver off n c : Nat} {cs : List LV} {l : List UInt8} (h : (id, .cells ty cs ver) ∈ L) (hn : l.length = n) (hc : ∀ j b, l[j]? = some b → cs[off + j]? = some (.int .u8 b.toNat)) : IsBytes L (.hs id off n c) l
  | str {s : ByteArray} : IsBytes L (.str s) s.toList

theorem run_loadBytes {w : World} : ∀ (l : List UInt8) (b off : Nat) (acc : ByteArray), (∀ j x, l[j]? = some x → w.cell? ⟨b, off + j, none⟩ = some (.int .u8 x.toNat)) →
    (Extern.Bytes.loadBytes ⟨b, off, none⟩ l.length acc).run P w = .ok ⟨acc.data ++ l.toArray⟩ w
  | [], b, off, acc, _ => by simp [Extern.Bytes.loadBytes]
  | x :: l, b, off, acc, h => by
    have h0 := h 0 x rfl
    have hl : (load ⟨b, off, none⟩).run P w = .ok (.int .u8 x.toNat) w := by
      simp only [Nat.add_zero] at h0
      simp [h0]
    have ih := run_loadBytes l b (off + 1) (acc.push ((x.toNat : Int).toNat.toUInt8)) (fun j y hj => by
      have := h (j + 1) y (by simpa using hj)
      rw [show off + 1 + j = off + (j + 1) by omega]; exact this)
    simp only [List.length_cons, Extern.Bytes.loadBytes, Sem.run_bind, hl, Result.andThen_ok, addr_add]
    rw [ih]
    simp
theorem run_bytesOf {st : St} {G : Ghost} {w : World} (hR : Rel G st w) (hst : Has st L T) {v : Value} {a : LV} {l : List UInt8} (hv : Rep G v a) (h : IsBytes L a l) : (Extern.Bytes.bytesOf v).run P w = .ok (ofBytes l) w := by
  cases h with
  | nils => cases hv; rfl
  | str => cases hv; simp [Extern.Bytes.bytesOf, ofBytes, ba_toList]
  | sl =>
    obtain ⟨es, hes⟩ : ∃ es, es = bytesLV l := ⟨_, rfl⟩
    rw [← hes] at hv
    cases hv with
    | @sl0 a0 _ =>
      have hl : l = [] := List.eq_nil_of_length_eq_zero (by rw [← bytesLV_length, ← hes]; rfl)
      subst hl
      simp [Extern.Bytes.bytesOf, Extern.Bytes.loadBytes, ofBytes]
      rfl
    | @sl b off cap _ _ _ f hk hf hr hc ho =>
    subst hes
    have := run_loadBytes (P := P) (w := w) l b off .empty (fun j x hj => by
      have hlt := (List.getElem?_eq_some_iff.1 hj).1
      have h1 := hf j 0 (by simpa using hlt) (by omega)
      have h2 := hr j (.int .u8 x.toNat) 0 (.int .u8 x.toNat) (by rw [bytesLV_get, hj]; rfl) rfl
      simp only [Nat.mul_one, Nat.add_zero] at h1 h2
      rw [hR.imm _ _ _ h1]
      generalize f j = y at h2
      cases h2; rfl)
    simp only [Extern.Bytes.bytesOf, bytesLV_length]
    rw [this]; simp [ofBytes]
  | @hs id ty ver off n c cs l h hn hcs =>
    subst hn
    obtain ⟨b, ob, e1, e2, e3, arr, rfl, e5⟩ := hR.objs id _ (hst.obj _ h)
    cases hv with | @hs _ _ _ _ b' hb' =>
    rw [e1] at hb'; injection hb' with hb'; subst hb'
    have := run_loadBytes (P := P) (w := w) l b off .empty (fun j x hj => by
      have h1 := hcs j x hj
      have hlt : off + j < arr.toList.length := by rw [e5.1]; exact (List.getElem?_eq_some_iff.1 h1).1
      have h2 := e5.2 (off + j) arr.toList[off + j] _ (List.getElem?_eq_getElem hlt) h1
      have h3 : arr[off + j]? = some arr.toList[off + j] := by rw [← Array.getElem?_toList]; exact List.getElem?_eq_getElem hlt
      simp only [World.cell?, e3, h3]
      cases hq : arr.toList[off + j] <;> rw [hq] at h2 <;> cases h2
      rfl)
    simp only [Extern.Bytes.bytesOf]
    rw [this]; simp [ofBytes]

/-- bytes.Compare's inner function. -/
theorem HPlan.compareX {x y : Operand} {ts : Array Nat} {f : FuncId} {fn : Func} {a b : LV} {l m : List UInt8} {v : LV} (ho : ops[i]? = some ⟨d, .call { callee := .value (.func f), args := #[x, y], argTypes := ts }, ty, pos, af, g⟩) (ht : takenB ops g regs = true)
    (hx : opdO regs x = some a) (hy : opdO regs y = some b) (hf : P.funcs[f]? = some fn) (hname : (fn.name == "runtime.NumGoroutine") = false) (hb : fn.body.isNone = true) (hn : Extern.findNext fn = none) (he : Extern.find fn = some Extern.BytealgCompare.compare)
    (ha : IsBytes L a l) (hm : IsBytes L b m) (hv : .int .i64 (Lib.compareBytes l m) = v) (hk : keptH U pend L L) (k : HPlan P ops Q p pend (setR d v regs) L T) : HPlan P ops Q (.act i U p) pend regs L T := by
  subst hv
  refine .actd ho ht fun st hst => does_run fun G A w hR hr => ?_
  have rx := rep_opd hr x
  have ry := rep_opd hr y
  rw [opdV_of hx] at rx
  rw [opdV_of hy] at ry
  refine ⟨.int .i64 (Lib.compareBytes l m), _, st, w, G, ?_, .refl hR, .int _ _, L, T, hst, hk, k⟩
  have e1 := run_bytesOf (P := P) hR hst rx ha
  have e2 := run_bytesOf (P := P) hR hst ry hm
  have hx : (Extern.BytealgCompare.compare #[A.eval x, A.eval y]).run P w = .ok (.int .i64 (Lib.compareBytes l m)) w := by
    change Sem.run P (do pure (goInt (Extern.BytealgCompare.cmp (← Extern.Bytes.bytesOf (A.eval x)) (← Extern.Bytes.bytesOf (A.eval y))))) w = _
    simp only [Sem.run_bind, e1, e2, Result.andThen_ok, Sem.run_pure]
    rw [Lib.cmp_eq]; simp [ofBytes, goInt]
  have hfv : A.eval (.func f) = .func (.func f) #[] #[] := rfl
  simp [execOp, resolve, Deferred.ofValue, invoke, hfv, run_callFunc_extern hf hname hb hn he, hx]
end
end Go.L

set_option linter.unusedVariables false
set_option linter.unusedSimpArgs false
namespace Go.L
open Go Go.RowKit

section
variable {P : Program} {regs : Fr} {L : Hp} {T : Tk} {Q : HQ} {ops : Array Oper} {p : Plan} {pend : Pends} {i : Nat} {U : List Nat} {d : Option Tmp} {ty : TypeId} {pos : String} {af : Array Edge} {g : Option (Nat × Bool)}
/-- strings.IndexByte's inner function. -/
theorem HPlan.idxByteX {x y : Operand} {ts : Array Nat} {f : FuncId} {fn : Func} {s : ByteArray} {c : Int} {v : LV} (ho : ops[i]? = some ⟨d, .call { callee := .value (.func f), args := #[x, y], argTypes := ts }, ty, pos, af, g⟩) (ht : takenB ops g regs = true)
    (hx : opdO regs x = some (.str s)) (hy : opdO regs y = some (.int .u8 c)) (hf : P.funcs[f]? = some fn) (hname : (fn.name == "runtime.NumGoroutine") = false) (hb : fn.body.isNone = true) (hn : Extern.findNext fn = none) (he : Extern.find fn = some Extern.BytealgIndexByte.indexByte)
    (hv : .int .i64 (Lib.indexByte s.data.toList c.toNat.toUInt8) = v) (hk : keptH U pend L L) (k : HPlan P ops Q p pend (setR d v regs) L T) : HPlan P ops Q (.act i U p) pend regs L T := by
  subst hv
  refine .actd ho ht fun st hst => does_run fun G A w hR hr => ?_
  have rx := rep_opd hr x
  have ry := rep_opd hr y
  rw [opdV_of hx] at rx
  rw [opdV_of hy] at ry
  obtain ⟨vx, ex⟩ : ∃ vx, A.eval x = vx := ⟨_, rfl⟩
  obtain ⟨vy, ey⟩ : ∃ vy, A.eval y = vy := ⟨_, rfl⟩
  rw [ex] at rx
  rw [ey] at ry
  cases rx
  cases ry
  refine ⟨.int .i64 (Lib.indexByte s.data.toList c.toNat.toUInt8), _, st, w, G, ?_, .refl hR, .int _ _, L, T, hst, hk, k⟩
  have hx := Lib.run_indexByteString (P := P) s c w
  have hfv : A.eval (.func f) = .func (.func f) #[] #[] := rfl
  simp [execOp, resolve, Deferred.ofValue, invoke, hfv, ex, ey, run_callFunc_extern hf hname hb hn he, hx]
theorem HPlan.callPureV {x : Operand} {xs : Array Operand} {ts : Array Nat} {f : FuncId} {first cap bs_ bs_' : List LV} {r : LV} (ho : ops[i]? = some ⟨d, .call { callee := .value x, args := xs, argTypes := ts }, ty, pos, af, g⟩) (ht : takenB ops g regs = true)
    (hx : opdO regs x = some (.fn (.func f) first cap)) (ha : argsO regs xs.toList = some bs_) (he : enterable P f = true) (has : first ++ bs_ ++ cap = bs_') (h : HPure P f bs_' r) (hk : keptH U pend L L)
    (k : HPlan P ops Q p pend (setR d r regs) L T) : HPlan P ops Q (.act i U p) pend regs L T :=
  .callV ho ht hx ha he has (h L T) (.refl _) (.refl _) fun r' L' T' ⟨e1, e2, e3⟩ => by
    subst e1; subst e2; subst e3; exact ⟨hk, k⟩
end
section
variable {P : Program} {regs : Fr} {L : Hp} {T : Tk} {Q : HQ}
/-- Whichever way it came: from here on it is one. -/
theorem HWp.join {x y : Code} {α : Type} (C : α → Prop) (R : α → Fr) (H : α → Hp) (Tk' : α → Tk)
    (h : HWp P x regs L T (onNorm (fun r' L' T' => ∃ z, C z ∧ Less r' (R z) ∧ Part (H z) L' ∧ Part (Tk' z) T') Q))
    (k : ∀ z, C z → HWp P y (R z) (H z) (Tk' z) Q) : HWp P (.seq x y) regs L T Q := by
  refine HWp.seq (h.mono fun e r L T q => ?_)
  cases e with
  | normal => obtain ⟨z, h1, h2, h3, h4⟩ := q; exact HWp.less h2 (HWp.sub h3 h4 (k z h1))
  | exit id => exact q
  | goto l => exact q
  | ret => exact q
  | panic c => exact q
  | outgrown => exact q
end
/-! ### Texts sign by sign -/
theorem byte_lv {s : ByteArray} {k : Nat} (h : k < s.size) : LV.int .u8 (byteAt s (k : Int)) = LV.int .u8 ((s[k]'h).toNat : Int) := by
  simp [byteAt, h]
theorem decode_at_ascii (s : ByteArray) (q : Nat) (h : q < s.size) (ha : (s[q]'h).toNat < 128) : Utf8.decode s q = ((s[q]'h).toNat, 1) := Go.decode_ascii s q h ha
end Go.L

set_option linter.unusedVariables false
set_option linter.unusedSimpArgs false
namespace Go.L
open Go Go.RowKit

/-! ### Rows of one's own: built, read, written -/
section
variable {P : Program} {st : St} {regs : Fr} {o : Oper} {K : LV → St → Prop}
theorem does_buildSliceH {t e n k : Nat} {ps : Array (Nat × Operand)} (h : o.op = .buildSlice t n ps) (ht : sliceElem P t = some (e, k)) (hz : (zeroOf P e).isSome = true) (hn : ps.size = n) (h24 : n * k ≤ 16777216)
    (hord : inOrder 0 (ps.toList.map (·.1)) = true) (hall : allCells k ((evalParts regs ps).map (·.2)))
    (hk : K (.hs st.heap.length 0 n n) (st.push (.cells e (flat ((evalParts regs ps).map (·.2))) 0))) : Does P st regs o K :=
  does_run fun G a w hR hr => by
    obtain ⟨z, hz⟩ := Option.isSome_iff_exists.1 hz
    obtain ⟨zv, _, hzr⟩ := run_zeroOf hz G
    have hl1 : (evalParts regs ps).length = n := by simp [evalParts, hn]
    have hord' : inOrder 0 ((evalParts regs ps).map (·.1)) = true := by
      have : (evalParts regs ps).map (·.1) = ps.toList.map (·.1) := by simp [evalParts, List.map_map]
      rw [this]; exact hord
    obtain ⟨zs, hzs⟩ : ∃ zs : Array Value, zs = if n * k = 0 then #[] else zv.cells := ⟨_, rfl⟩
    obtain ⟨ws, w1, w2, w3⟩ := run_fill (G := G) (fun i => some (i * k, k)) (ps.toList.map fun (i, x) => (i, a.eval x)) (evalParts regs ps) ((Array.range (n * k)).map (zs[· % zs.size]!)) (List.replicate (n * k) .und)
      (by simp [evalParts]) (fun i p l hp hl => by
        simp only [evalParts, List.getElem?_map, Option.map_eq_some_iff] at hp hl
        obtain ⟨x, hx, rfl⟩ := hp
        obtain ⟨y, hy, rfl⟩ := hl
        rw [hx] at hy; injection hy with hy; subst hy
        exact ⟨rfl, rep_opd hr _⟩)
      ⟨by simp, fun i v l _ hl => by
        rw [List.getElem?_replicate] at hl
        split at hl
        · injection hl with hl; subst hl; exact .und _
        · cases hl⟩
      (by have := fillOk_inOrder k (evalParts regs ps) 0 hord' hall; rw [List.length_replicate]; simpa [hl1] using this)
    have hfl : fillL (fun i => some (i * k, k)) (List.replicate (n * k) .und) (evalParts regs ps) = flat ((evalParts regs ps).map (·.2)) := by
      rw [fillL_tiled (n := n * k) _ 0 _ (by simp) (by have := tiled_inOrder k _ 0 hord'; simpa [hl1] using this) (by have := fillOk_inOrder k (evalParts regs ps) 0 hord' hall; simpa [hl1] using this)]
      simp [flat, List.flatMap_map]
    rw [hfl] at w2
    have hkk : ∀ e ∈ (evalParts regs ps).map (·.2), e.cells.length = k := fun e he => (hall e he).2
    have hlen : ((evalParts regs ps).map (·.2)).length = n := by simp [hl1]
    have hws : ws.size = n * k := by have := w2.1; rw [Array.length_toList, flat_len hkk, hlen] at this; exact this
    have k2 := step_new hR (o := .cells ws e) (l := .cells e (flat ((evalParts regs ps).map (·.2))) 0) ⟨ws, rfl, w2⟩
    refine ⟨.slice (some ⟨w.heap.size, 0, none⟩) n n, .hs st.heap.length 0 n n, _, _, _, ?_, k2, .hs (by simp [Ghost.addBlk]), hk⟩
    unfold sliceElem at ht
    split at ht
    · rename_i e' hu
      cases hq : P.info? e' with
      | none => simp [hq] at ht
      | some inf =>
        simp only [hq, Option.some.injEq, Prod.mk.injEq] at ht
        obtain ⟨rfl, rfl⟩ := ht
        have hsz : (sizeOf e').run P w = .ok inf.size w := by simp [sizeOf, typeInfo, hq]
        have h24' : ¬ (n * inf.size > 2 ^ 24) := by omega
        have hpe : (ps.map fun (i, x) => (i, a.eval x)).toList = ps.toList.map fun (i, x) => (i, a.eval x) := by simp
        by_cases h0 : n * inf.size = 0
        · rw [if_pos h0] at hzs; subst hzs
          simp only [execOp, h, Instr.buildSlice, Sem.run_bind, run_underlying hu w, Result.andThen_ok, hsz, if_neg h24', if_pos h0, Sem.run_pure, hpe, w1, newRow, run_newObj]
          rfl
        · rw [if_neg h0] at hzs; subst hzs
          simp only [execOp, h, Instr.buildSlice, Sem.run_bind, run_underlying hu w, Result.andThen_ok, hsz, if_neg h24', if_neg h0, Sem.run_pure, hzr w, hpe, w1, newRow, run_newObj]
          rfl
    · cases ht

/-! ### append -/
end
section
variable {P : Program} {regs : Fr} {L : Hp} {T : Tk} {Q : HQ} {ops : Array Oper} {p : Plan} {pend : Pends} {i : Nat} {U : List Nat} {d : Option Tmp} {ty : TypeId} {pos : String} {af : Array Edge} {g : Option (Nat × Bool)}
theorem HPlan.buildSliceH {t e n k : Nat} {ps : Array (Nat × Operand)} {pes : List (Nat × LV)} {es : List LV} (ho : ops[i]? = some ⟨d, .buildSlice t n ps, ty, pos, af, g⟩) (ht : takenB ops g regs = true) (hs : sliceElem P t = some (e, k)) (hz : (zeroOf P e).isSome = true) (hn : ps.size = n) (h24 : n * k ≤ 16777216)
    (hord : inOrder 0 (ps.toList.map (·.1)) = true) (hps : partsO regs ps.toList = some pes) (hv : pes.map (·.2) = es) (hall : allCells k es)
    (kk : ∀ id, keptH U pend L ((id, .cells e (flat es) 0) :: L) ∧ HPlan P ops Q p pend (setR d (.hs id 0 n n) regs) ((id, .cells e (flat es) 0) :: L) T) : HPlan P ops Q (.act i U p) pend regs L T := by
  have e : evalParts regs ps = pes := partsO_spec hps
  subst e; subst hv
  exact .actd ho ht fun st hst => does_buildSliceH rfl hs hz hn h24 hord hall ⟨_, T, has_new hst _, kk _⟩
/-- As 'appendH'; the row comes first. -/
theorem HPlan.appendR {t tx e k bytes : Nat} {s x : Operand} {v a : LV} {es xs : List LV} {Lv F : Hp} (ho : ops[i]? = some ⟨d, .call { callee := .builtin .append, args := #[s, x], argTypes := #[t, tx] }, ty, pos, af, g⟩) (ht : takenB ops g regs = true)
    (hs : opdO regs s = some v) (hx : opdO regs x = some a) (hel : elemIn P t = some (e, k, bytes)) (htx : srcTy P tx = true) (hv : OwnSl k es v Lv) (ha : IsSl k xs a) (hxk : ∀ e ∈ xs, e.cells.length = k) (hL : L.Perm (Lv ++ F)) (hsol : ∀ e ∈ xs, e.solid = true)
    (hb : (es.length + xs.length) * bytes ≤ 140737488355328) (h63 : es.length + xs.length ≤ 140737488355328)
    (kk : ∀ v' Lv', OwnSl k (es ++ xs) v' Lv' → keptH U pend L (Lv' ++ F) ∧ HPlan P ops Q p pend (setR d v' regs) (Lv' ++ F) T) : HPlan P ops Q (.act i U p) pend regs L T := by
  refine .actd ho ht fun st hst => does_run fun G A w hR hr => ?_
  have hst := hst.sub (.of_perm hL) (.refl T)
  obtain ⟨inf, z, hu, hi, hz, rfl, rfl, hzc⟩ := elemIn_spec hel
  have htx' : ∃ d, P.underlying tx = some (.slice d) := by
    unfold srcTy at htx; split at htx
    · exact ⟨_, ‹_›⟩
    · cases htx
  have rs := rep_opd hr s
  have rx := rep_opd hr x
  rw [opdV_of hs] at rs
  rw [opdV_of hx] at rx
  have hexec : ∀ w', (execOp A.eval ⟨d, .call { callee := .builtin .append, args := #[s, x], argTypes := #[t, tx] }, ty, pos, af, g⟩).run P w' = ((Builtin.append_ #[t, tx] ty #[A.eval s, A.eval x]).run P w').andThen fun v w'' => .ok (.value v) w'' := fun w' => by
    simp [execOp, resolve, invoke, builtin]
  simp only [hexec]
  obtain ⟨vs, hvs⟩ : ∃ v, A.eval s = v := ⟨_, rfl⟩
  obtain ⟨vx, hvx⟩ : ∃ v, A.eval x = v := ⟨_, rfl⟩
  rw [hvs] at rs ⊢; rw [hvx] at rx ⊢
  by_cases hemp : xs = []
  · subst hemp
    rw [List.append_nil] at kk
    refine ⟨vs, v, st, w, G, ?_, .refl hR, rs, _, T, hst, kk v Lv hv⟩
    obtain ⟨d, htx'⟩ := htx'
    have hf0 : ∃ bx cx, vx = .slice bx 0 cx := by
      cases ha with
      | nils => cases rx; exact ⟨_, _, rfl⟩
      | sl => cases rx <;> exact ⟨_, _, rfl⟩
    obtain ⟨bx, cx, rfl⟩ := hf0
    have hfc : (Builtin.firstCells inf.size 0 (.slice bx 0 cx)).run P w = .ok #[] w := by
      cases bx <;> simp [Builtin.firstCells, loadCells, loadCellsFrom]
    cases hv with
    | nil h => cases rs; simp [Builtin.append_, run_underlying hu, run_underlying htx', sizeOf, typeInfo, hi, Builtin.lenOf, hfc]
    | obj hl hc hk => cases rs; simp [Builtin.append_, run_underlying hu, run_underlying htx', sizeOf, typeInfo, hi, Builtin.lenOf, hfc, hc, storeCells]
  · cases ha with
    | nils => exact (hemp rfl).elim
    | sl =>
    cases rx with
    | sl0 => exact (hemp rfl).elim
    | @sl b2 off2 cap2 _ ow2 _ f2 hk2 hf2 hr2 hc2 ho2 =>
    obtain ⟨news, n1, n2, n3⟩ := sl_flat f2 hk2 hf2 hr2
    have hnews : ∀ w' : World, (∀ (b i : Nat) (x : Value), G.imm b i = some x → w'.cell? ⟨b, i, none⟩ = some x) → ∀ (j : Nat) (u : Value), news[j]? = some u → w'.cell? ((⟨b2, off2, none⟩ : Addr).add j) = some u := fun w' hw j u hj => by
      rw [addr_add]
      have hlt := (List.getElem?_eq_some_iff.1 hj).1
      exact hw _ _ _ ((n2 j (by omega)).trans hj)
    have hone := repAll_one n3 hsol
    have hpos : 0 < xs.length := List.length_pos_iff.2 hemp
    have hd := step_drew hR
    -- a new row
    have fresh : ∀ (olds : List Value) (need cap' : Nat), RepAll G olds (flat es) → es.length + xs.length ≤ cap' →
        ∃ G', Step G st w G' (st.push (.cells e (flat (es ++ xs) ++ List.replicate ((cap' - (es.length + xs.length)) * inf.size) .und) 0)) (w.drew.alloc (.cells (olds.toArray ++ news.toArray ++ Builtin.zeroCells z.cells (cap' - (es.length + xs.length))) e)) ∧
          Rep G' (.slice (some ⟨w.heap.size, 0, none⟩) (es.length + xs.length) cap') (.hs st.heap.length 0 (es.length + xs.length) cap') ∧
          ∃ Lv', OwnSl inf.size (es ++ xs) (.hs st.heap.length 0 (es.length + xs.length) cap') Lv' ∧ Has (st.push (.cells e (flat (es ++ xs) ++ List.replicate ((cap' - (es.length + xs.length)) * inf.size) .und) 0)) (Lv' ++ F) T := fun olds need cap' ho hcap => by
      have k2 := step_new hd.rel (o := .cells (olds.toArray ++ news.toArray ++ Builtin.zeroCells z.cells (cap' - (es.length + xs.length))) e) (l := .cells e (flat (es ++ xs) ++ List.replicate ((cap' - (es.length + xs.length)) * inf.size) .und) 0) ⟨_, rfl, by
        have e1 : (olds.toArray ++ news.toArray ++ Builtin.zeroCells z.cells (cap' - (es.length + xs.length))).toList = (olds ++ news) ++ (Builtin.zeroCells z.cells (cap' - (es.length + xs.length))).toList := by simp
        rw [e1, flat_append]
        refine (ho.append n3).append ?_
        have := repAll_und (G := G) (Builtin.zeroCells z.cells (cap' - (es.length + xs.length))).toList
        have hz3 : (Builtin.zeroCells z.cells (cap' - (es.length + xs.length))).toList.length = (cap' - (es.length + xs.length)) * inf.size := by rw [Array.length_toList, size_zeroCells, hzc]
        rwa [hz3] at this⟩
      refine ⟨_, hd.trans hR k2, .hs (by simp [Ghost.addBlk]), [(st.heap.length, .cells e (flat (es ++ xs) ++ List.replicate ((cap' - (es.length + xs.length)) * inf.size) .und) 0)], ?_, ?_⟩
      · have := OwnSl.obj (k := inf.size) (es := es ++ xs) (id := st.heap.length) (ty := e) (ver := 0) (cap := cap') (rest := List.replicate ((cap' - (es.length + xs.length)) * inf.size) .und) (by
          rw [List.length_replicate, List.length_append, ← Nat.add_mul]; congr 1; omega) (by rw [List.length_append]; exact hcap) (fun y hy => (List.mem_append.1 hy).elim (hv.kcells y) (hxk y))
        rw [List.length_append] at this
        exact this
      · exact (has_new (hst.sub ⟨Lv, List.perm_append_comm⟩ (.refl T)) _)
    cases hv with
    | nil h =>
      subst h
      cases rs
      have hrun := run_append_new (P := P) (w := w) (t := t) (tx := tx) (ty := ty) hu htx' hi hz (s := .slice none 0 0) (sLen := 0) (sCap := 0) (m := xs.length) (c := cap2) (b := ⟨b2, off2, none⟩) (olds := []) (news := news)
        (.inl ⟨rfl, rfl, rfl, rfl⟩) (by simp) n1 (hnews w hR.imm) (by omega) (by simp only [List.length_nil] at h63; omega) (by rw [Nat.zero_add, nextslicecap_zero hpos]; simp only [List.length_nil, Nat.zero_add] at hb; omega)
      obtain ⟨G', hs', hrep, Lv', hv', hh⟩ := fresh [] 0 (grownCap w (0 + xs.length) 0 e) ⟨rfl, fun i v l h => by simp at h⟩ (by simp only [List.length_nil]; exact grownCap_ge w _ _ _)
      refine ⟨_, _, _, _, G', ?_, hs', hrep, _, T, hh, kk _ _ hv'⟩
      rw [hrun]; simp
    | @obj id ty' ver cap rest hl hc hk =>
      have hid := hst.obj (id, .cells ty' (flat es ++ rest) ver) (by simp)
      obtain ⟨b, ob, e1, e2, e3, arr, rfl, e5⟩ := hR.objs id _ hid
      cases rs with | @hs _ _ _ _ b' hb' =>
      have hbb := hb'
      rw [e1] at hb'; injection hb' with hb'; subst hb'
      have hfl := flat_len hk
      have ftake : (flat es ++ rest).take (es.length * inf.size) = flat es := by rw [← hfl]; simp
      have fdrop : (flat es ++ rest).drop (es.length * inf.size + news.length) = rest.drop news.length := by rw [← hfl, List.drop_append, List.drop_of_length_le (by omega), List.nil_append]; congr 1; omega
      have harl : arr.toList.length = es.length * inf.size + rest.length := by rw [e5.1, List.length_append, hfl]
      have harl' : arr.size = cap * inf.size := by rw [← Array.length_toList, harl]; exact hl
      have holds : ∀ j u, (arr.toList.take (es.length * inf.size))[j]? = some u → w.cell? ((⟨b, 0, none⟩ : Addr).add j) = some u := fun j u hj => by
        rw [addr_add]
        rw [List.getElem?_take] at hj
        split at hj
        · simp only [World.cell?, e3, Nat.zero_add]
          rw [Array.getElem?_toList] at hj; exact hj
        · cases hj
      by_cases hroom : es.length + xs.length ≤ cap
      · have hxk' : xs.length * inf.size ≤ (cap - es.length) * inf.size := Nat.mul_le_mul_right _ (by omega)
        have hck : es.length * inf.size + (cap - es.length) * inf.size = cap * inf.size := by rw [← Nat.add_mul]; congr 1; omega
        have hrun := run_append_in (P := P) (w := w) (t := t) (tx := tx) (ty := ty) (m := xs.length) (c := cap2) (b := ⟨b2, off2, none⟩) (news := news) hu htx' hi (g := b) (off := 0) (sLen := es.length) (sCap := cap) e3 (.inl rfl) n1 (hnews w hR.imm) hone hroom (by rw [n1]; omega)
        obtain ⟨X, hX⟩ : ∃ X, X = arr.toList.take (0 + es.length * inf.size) ++ news ++ arr.toList.drop (0 + es.length * inf.size + news.length) := ⟨_, rfl⟩
        rw [← hX] at hrun
        have hrepX : RepAll G X (flat (es ++ xs) ++ rest.drop (xs.length * inf.size)) := by
          rw [hX, flat_append]
          have t1 := e5.take (es.length * inf.size)
          have t2 := e5.drop (es.length * inf.size + news.length)
          rw [ftake] at t1
          rw [fdrop, n1] at t2
          rw [Nat.zero_add, n1]
          exact (t1.append n3).append t2
        have k2 := step_set (l := .cells ty' (flat (es ++ xs) ++ rest.drop (xs.length * inf.size)) (ver + 1)) (w' := w.setRow b X.toArray) (o := .cells X.toArray ty' (0, 0)) hR hid hbb rfl (by simp [LObj.ver]) (by simp [World.setRow]) (fun k hk => setRow_other w b k _ hk) (setRow_heap w b arr _ ty' _ e3) ⟨_, rfl, by simpa using hrepX⟩ rfl rfl rfl
        have hv' := OwnSl.obj (k := inf.size) (es := es ++ xs) (id := id) (ty := ty') (ver := ver + 1) (cap := cap) (rest := rest.drop (xs.length * inf.size)) (by
          rw [List.length_append, Nat.add_mul, List.length_drop]
          omega) (by rw [List.length_append]; exact hroom) (fun y hy => (List.mem_append.1 hy).elim (hk y) (hxk y))
        rw [List.length_append] at hv'
        refine ⟨_, _, _, _, G, by rw [hrun]; rfl, k2, .hs hbb, _, T, ?_, kk _ _ hv'⟩
        exact hst.upd .here
      · have hrun := run_append_new (P := P) (w := w) (t := t) (tx := tx) (ty := ty) hu htx' hi hz (s := .slice (some ⟨b, 0, none⟩) es.length cap) (sLen := es.length) (sCap := cap) (m := xs.length) (c := cap2) (b := ⟨b2, off2, none⟩) (olds := arr.toList.take (es.length * inf.size)) (news := news)
          (.inr ⟨⟨b, 0, none⟩, rfl, holds⟩) (by rw [List.length_take, harl]; omega) n1 (hnews w hR.imm) (by omega) (by omega) (growslice_fits (by omega) hb)
        have t1 := e5.take (es.length * inf.size)
        rw [ftake] at t1
        obtain ⟨G', hs', hrep, Lv', hv', hh⟩ := fresh _ 0 (grownCap w (es.length + xs.length) cap e) t1 (grownCap_ge w _ _ _)
        refine ⟨_, _, _, _, G', ?_, hs', hrep, _, T, hh, kk _ _ hv'⟩
        rw [hrun]; simp
end
/-- A row of one's own. -/
structure Row where
  id : Nat
  ty : Nat
  ver : Nat
  cap : Nat
  rest : List LV
def Row.v (r : Row) (es : List LV) : LV := .hs r.id 0 es.length r.cap
def Row.o (r : Row) (es : List LV) : Nat × LObj := (r.id, .cells r.ty (flat es ++ r.rest) r.ver)
structure Row.ok (r : Row) (k : Nat) (es : List LV) : Prop where
  len : es.length * k + r.rest.length = r.cap * k
  cap : es.length ≤ r.cap
  cells : ∀ e ∈ es, e.cells.length = k
theorem Row.ok.own {r : Row} {k : Nat} {es : List LV} (h : r.ok k es) : OwnSl k es (r.v es) [r.o es] := .obj h.len h.cap h.cells
theorem OwnSl.row {k : Nat} {es : List LV} {v : LV} {Lv : Hp} (h : OwnSl k es v Lv) (hn : es ≠ []) : ∃ r : Row, r.ok k es ∧ v = r.v es ∧ Lv = [r.o es] := by
  cases h with
  | nil e => exact (hn e).elim
  | @obj id ty ver cap rest h1 h2 h3 => exact ⟨⟨id, ty, ver, cap, rest⟩, ⟨h1, h2, h3⟩, rfl, rfl⟩
theorem Row.ok.new {id e n k : Nat} {es : List LV} (hn : n = es.length) (hk : ∀ e ∈ es, e.cells.length = k) : (Row.mk id e 0 n []).ok k es := ⟨by simp [hn], by simp [hn], hk⟩
theorem flat_drop {k : Nat} : ∀ {es : List LV} {i : Nat}, (∀ e ∈ es, e.cells.length = k) → (flat es).drop (i * k) = flat (es.drop i)
  | _, 0, _ => by simp
  | [], i + 1, _ => by simp [flat]
  | e :: es, i + 1, h => by
    have he := h e List.mem_cons_self
    have : (flat (e :: es)).drop ((i + 1) * k) = (flat es).drop (i * k) := by
      rw [show flat (e :: es) = e.cells ++ flat es from rfl, Nat.succ_mul, Nat.add_comm, ← List.drop_drop, ← he, List.drop_left]
    rw [this, flat_drop (fun x hx => h x (List.mem_cons_of_mem _ hx)), List.drop_succ_cons]
theorem flat_take {k : Nat} : ∀ {es : List LV} {i : Nat}, (∀ e ∈ es, e.cells.length = k) → (flat es).take (i * k) = flat (es.take i)
  | _, 0, _ => by simp [flat]
  | [], i + 1, _ => by simp [flat]
  | e :: es, i + 1, h => by
    have he := h e List.mem_cons_self
    rw [show flat (e :: es) = e.cells ++ flat es from rfl, Nat.succ_mul, List.take_append, he, List.take_of_length_le (by omega), Nat.add_sub_cancel,
      flat_take (fun x hx => h x (List.mem_cons_of_mem _ hx)), List.take_succ_cons]
    rfl
/-- An element of a row, read. -/
theorem load_flat {k i : Nat} {es rest : List LV} {ag : Bool} (hk : ∀ e ∈ es, e.cells.length = k) (hi : i < es.length) (hag : ∀ e ∈ es, (bif ag then LV.agg e.cells else e.cells.headD .und) = e) (h1 : ag = false → k = 1) :
    (bif ag then LV.agg (((flat es ++ rest).drop (0 + i * k)).take k) else ((flat es ++ rest).drop (0 + i * k)).headD .und) = es[i] := by
  have hfl := flat_len hk
  have hik : (i + 1) * k ≤ es.length * k := Nat.mul_le_mul_right _ (by omega)
  rw [Nat.succ_mul] at hik
  have hmem := List.getElem_mem hi
  have hlen := hk _ hmem
  have hd : (flat es ++ rest).drop (0 + i * k) = es[i].cells ++ (flat (es.drop (i + 1)) ++ rest) := by
    rw [Nat.zero_add, List.drop_append_of_le_length (by omega), flat_drop hk, List.drop_eq_getElem_cons hi, ← List.append_assoc]
    rfl
  rw [hd]
  have ha := hag _ hmem
  cases ag with
  | true =>
    rw [cond_true, List.take_append_of_le_length (by omega), List.take_of_length_le (by omega)]
    exact ha
  | false =>
    have := h1 rfl
    subst this
    obtain ⟨c, hc⟩ := List.length_eq_one_iff.1 hlen
    rw [cond_false] at ha ⊢
    rw [hc] at ha ⊢
    exact ha
/-- An element of a row, written. -/
theorem store_flat {k i : Nat} {es rest : List LV} {e : LV} (hk : ∀ e ∈ es, e.cells.length = k) (hi : i < es.length) (he : e.cells.length = k) :
    splice (flat es ++ rest) (0 + i * k) e.cells = flat (es.set i e) ++ rest := by
  have hfl := flat_len hk
  have hik : (i + 1) * k ≤ es.length * k := Nat.mul_le_mul_right _ (by omega)
  rw [Nat.succ_mul] at hik
  unfold splice
  rw [Nat.zero_add, he, List.take_append_of_le_length (by omega), List.drop_append_of_le_length (by omega), flat_take hk, show i * k + k = (i + 1) * k by rw [Nat.succ_mul], flat_drop hk, List.set_eq_take_append_cons_drop, if_pos hi]
  simp [flat]
end Go.L

set_option linter.unusedVariables false
set_option linter.unusedSimpArgs false
namespace Go.L
open Go Go.RowKit

/-- A function that hands over one row of values after the other; Lp are objects of its own. -/
def IterP (P : Program) (f : FuncId) (first cap : List LV) (np : Nat) (Lp L0 : Hp) (T0 : Tk) (Ok : List (List LV) → List LV → Prop) (S : List (List LV) → Prop) : Prop :=
  (∀ pre x, Ok pre x → x.length = np) ∧ ∀ (l : Nat) (J : List (List LV) → Hp → Tk → Prop) (E : Hp → Tk → Prop),
    (∀ pre x L T F FT, Ok pre x → J pre L T → HYield P l x (F ++ (L0 ++ L)) (FT ++ (T0 ++ T)) (YieldQ (F ++ L0) (FT ++ T0) (J (pre ++ [x])) E)) →
    ∀ L T, J [] L T → HCalls P f (first ++ [.fn (.yield l) [] []] ++ cap) (Lp ++ (L0 ++ L)) (T0 ++ T)
      (fun r L' T' => ∃ L1 T1, Part (L0 ++ L1) L' ∧ Part (T0 ++ T1) T' ∧ ((∃ xs, S xs ∧ J xs L1 T1) ∨ E L1 T1))
section
variable {P : Program} {regs : Fr} {L : Hp} {T : Tk} {Q : HQ}
theorem HWp.rangeFuncP {g : Operand} {ps : Array Tmp} {assign body : Code} {f : FuncId} {first cap : List LV} {Lp L0 L1 : Hp} {T0 T1 : Tk} {Ok : List (List LV) → List LV → Prop} {S : List (List LV) → Prop}
    (J : List (List LV) → Hp → Tk → Prop) (E : Exit → Hp → Tk → Prop) (A : List (List LV) → List LV → Fr → Hp → Tk → Prop)
    (hg : opdO regs g = some (.fn (.func f) first cap)) (hen : enterable P f = true) (ha : noRange assign = true) (hb : noRange body = true) (it : IterP P f first cap ps.size Lp L0 T0 Ok S)
    (hL : Part (Lp ++ (L0 ++ L1)) L) (hT : Part (T0 ++ T1) T) (h0 : J [] L1 T1)
    (hassign : ∀ pre x L T F FT, Ok pre x → J pre L T → HWp P assign (setPs ps.toList x regs) (F ++ (L0 ++ L)) (FT ++ (T0 ++ T)) (asgQ (F ++ L0) (FT ++ T0) (A pre x)))
    (hbody : ∀ pre x r La Ta F FT, Ok pre x → A pre x r La Ta → HWp P body r (F ++ (L0 ++ La)) (FT ++ (T0 ++ Ta)) (leaveQ E (F ++ L0) (FT ++ T0) (J (pre ++ [x]))))
    (done : ∀ xs L T, S xs → J xs L T → Q .normal regs (L0 ++ L) (T0 ++ T))
    (left : ∀ e c L T, jumpOf e = some c → E e L T → Q e regs (L0 ++ L) (T0 ++ T)) : HWp P (.rangeFunc g ps assign body) regs L T Q := by
  intro st hst G a w ro n hR hr hd hn hx
  have hro : ro = none := hx.resolve_right (by simp [noRange])
  subst hro
  have hst := hst.sub hL hT
  refine wpIn_rangeFunc fun fn _ => ?_
  have k1 := step_new hR (o := .deferred (some [])) (l := .gone 0) trivial
  have k2 := step_new k1.rel (o := .loop { state := .ready, pending := none, fn := fn, tmps := a.tmps, params := ps, assign := assign, body := body, defers := w.heap.size }) (l := .loop (w.heap.size + 1) regs ps assign body .ready none 0)
    ⟨_, rfl, hr.mono k1.le, rfl, rfl, rfl, rfl, rfl⟩ (by rw [World.size_alloc]; exact rfl)
  have rg := rep_opd hr g
  rw [opdV_of hg] at rg
  obtain ⟨v, hv⟩ : ∃ v, a.eval g = v := ⟨_, rfl⟩
  rw [hv] at rg
  cases rg with | @fn _ vs ws _ _ hl hm h1 h2 =>
  refine ⟨w.heap.size + 1, _, ((w.alloc (.deferred (some []))).alloc (.loop { state := .ready, pending := none, fn := fn, tmps := a.tmps, params := ps, assign := assign, body := body, defers := w.heap.size })), { target := .fn (.func f) ws, args := vs ++ #[.func (.yield (w.heap.size + 1)) #[] #[]] }, ((w.alloc (.deferred (some []))).alloc (.loop { state := .ready, pending := none, fn := fn, tmps := a.tmps, params := ps, assign := assign, body := body, defers := w.heap.size })), f, vs ++ #[.func (.yield (w.heap.size + 1)) #[] #[]] ++ ws, ((w.alloc (.deferred (some []))).alloc (.loop { state := .ready, pending := none, fn := fn, tmps := a.tmps, params := ps, assign := assign, body := body, defers := w.heap.size })), run_enterLoop_outer fn a.tmps ps assign body, ?_, fun _ _ => trivial, ?_, (fun e => nomatch e), ?_⟩
  · have e2 : a.eval (.const (.func (.yield (w.heap.size + 1)) #[] #[])) = .func (.yield (w.heap.size + 1)) #[] #[] := rfl
    simp [rangeCall, resolve, hv, e2, Deferred.ofValue]
  · simp [invoke, run_callFunc hen]
  generalize ((w.alloc (.deferred (some []))).alloc (.loop { state := .ready, pending := none, fn := fn, tmps := a.tmps, params := ps, assign := assign, body := body, defers := w.heap.size })) = W at k2 ⊢
  have hargs : RepAll ((G.addBlk st.heap.length w.heap.size).addBlk (st.push (.gone 0)).heap.length (w.alloc (.deferred (some []))).heap.size) (vs.toList ++ [.func (.yield (w.heap.size + 1)) #[] #[]] ++ ws.toList) (first ++ [.fn (.yield (w.heap.size + 1)) [] []] ++ cap) := by
    have kk := k1.trans hR k2
    refine (RepAll.append (RepAll.append ((repAll_fn hl h1).mono kk.le) ⟨rfl, fun i v l hv hl => ?_⟩) ((repAll_fn hm h2).mono kk.le))
    cases i with
    | zero => simp at hv hl; subst hv; subst hl; exact .fn rfl rfl (fun i v l hv => by simp at hv) (fun i v l hv => by simp at hv)
    | succ i => simp at hv
  have hq : st.heap.length + 1 = (st.push (.gone 0)).heap.length := by simp [St.push]
  have hst2 : Has ((st.push (.gone 0)).push (.loop (w.heap.size + 1) regs ps assign body .ready none 0)) ((st.heap.length + 1, .loop (w.heap.size + 1) regs ps assign body .ready none 0) :: (Lp ++ (L0 ++ L1))) (T0 ++ T1) := by
    refine ⟨fun p hp => ?_, hst.tok, ?_, hst.nt⟩
    · rcases List.mem_cons.1 hp with rfl | hp
      · simp [St.push]
      · have := hst.obj p hp
        have hlt := (List.getElem?_eq_some_iff.1 this).1
        simp only [St.push]
        rw [List.getElem?_append_left (by simp; omega), List.getElem?_append_left hlt]; exact this
    · rw [List.map_cons, List.nodup_cons]
      refine ⟨fun hm => ?_, hst.nd⟩
      obtain ⟨q, hq, e⟩ := List.mem_map.1 hm
      have := (List.getElem?_eq_some_iff.1 (hst.obj q hq)).1
      simp only at e; omega
  have hst3 := hst2.sub (L' := Lp ++ (L0 ++ ((st.heap.length + 1, .loop (w.heap.size + 1) regs ps assign body .ready none 0) :: L1))) (T' := T0 ++ T1) (.of_perm (by have := (perm_mid [] (Lp ++ L0) (st.heap.length + 1, LObj.loop (w.heap.size + 1) regs ps assign body .ready none 0) L1).symm; simpa using this)) (.refl _)
  have H := it.2 (w.heap.size + 1) (fun pre => RecJ (st.heap.length + 1) (w.heap.size + 1) regs ps assign body (J pre)) (RecE (st.heap.length + 1) (w.heap.size + 1) regs ps assign body E)
    (fun pre x L T F FT hok hJ => yield_round ha hb it.1 hassign hbody pre x L T F FT hok hJ) _ T1 ⟨0, L1, rfl, h0⟩ _ hst3 _ _ W k2.rel hargs
  have e : (vs.toList ++ [Value.func (.yield (w.heap.size + 1)) #[] #[]] ++ ws.toList).toArray = vs ++ #[.func (.yield (w.heap.size + 1)) #[] #[]] ++ ws := by
    apply Array.ext'; simp
  rw [callsIn_fw, ← e]
  refine H.mono ?_
  rintro e w3 ⟨v, r, st3, G3, rfl, k3, _, L', T', hh, L1', T1', p1, p2, hend⟩
  have kk := (k1.trans hR k2).trans hR k3
  have hdm := ((hd.mark hn k1 (by simp [Ghost.addBlk])).step k2).step k3
  have hh1 := hh.sub p1 p2
  have fin : ∀ (state : LoopState) (pend : Option Code) (ver : Nat) (Lu : Hp), state ≠ .busy → L1' = (st.heap.length + 1, .loop (w.heap.size + 1) regs ps assign body state pend ver) :: Lu →
      ∃ w4 st4, (Instr.endLoop (w.heap.size + 1)).run P w3 = .ok pend w4 ∧ Step G st w G3 st4 w4 ∧ RepF G3 a.tmps.toList regs ∧ DefOk G3 st4 w4 n ([{ target := .collected w.heap.size, args := #[] }] ++ a.defers) ∧ Has st4 (L0 ++ Lu) (T0 ++ T1') := fun state pend ver Lu hs e => by
    subst e
    have hq3 := hh1.obj _ (List.mem_append_right _ List.mem_cons_self)
    obtain ⟨x3, hb3, hw3, hf3, hp3, ha3, hbo3, hs3, hpe3⟩ := k3.rel.loop hq3
    have hrun := run_endLoop (P := P) hw3 (by rw [hs3]; exact hs)
    rw [hpe3] at hrun
    have k4 := step_loop (state' := .exhausted) (pending' := pend) (r' := { x3 with state := .exhausted, pending := pend }) k3.rel hq3 hb3 ⟨hf3, hp3, ha3, hbo3, rfl, rfl⟩
    exact ⟨_, _, hrun, kk.trans hR k4, hr.mono kk.le, hdm.step k4, (has_loop hh1).sub (by
      have := perm_mid [] L0 (st.heap.length + 1, .loop (w.heap.size + 1) regs ps assign body .exhausted pend (ver + 1)) Lu
      exact (Part.tail _ _).trans (.of_perm this)) (.refl _)⟩
  rcases hend with ⟨xs, hS, ver, Lu, e, hJ⟩ | ⟨ver, e, c, Lu, he, e', hE⟩
  · obtain ⟨w4, st4, hrun, k4, hr4, hd4, hh4⟩ := fin .ready none ver Lu (by simp) e
    exact ⟨none, w4, hrun, regs, st4, G3, k4, hr4, hd4, trivial, _, _, hh4, done xs _ _ hS hJ⟩
  · obtain ⟨w4, st4, hrun, k4, hr4, hd4, hh4⟩ := fin .done (some c) ver Lu (by simp) e'
    refine ⟨some c, w4, hrun, ?_⟩
    have hq := left e c Lu T1' he hE
    cases e with
    | ret => injection he with he; subst he; exact wpIn_ret ⟨regs, st4, G3, k4, hr4, hd4, trivial, _, _, hh4, hq⟩
    | exit id => injection he with he; subst he; exact wpIn_exit ⟨regs, st4, G3, k4, hr4, hd4, trivial, _, _, hh4, hq⟩
    | normal => cases he
    | goto l => cases he
    | panic c => cases he
    | outgrown => cases he

end
end Go.L

set_option linter.unusedVariables false
set_option linter.unusedSimpArgs false
namespace Go.L
open Go Go.RowKit

section
variable {P : Program} {regs : Fr} {L : Hp} {T : Tk} {Q : HQ} {ops : Array Oper} {p : Plan} {pend : Pends} {i : Nat} {U : List Nat} {d : Option Tmp} {ty : TypeId} {pos : String} {af : Array Edge} {g : Option (Nat × Bool)}

/-- Cells that lie in an object of one's own, as values. -/
theorem own_cells_at {G : Ghost} {st : St} {w : World} (hR : Rel G st w) {id b oty ver off n : Nat} {cs : List LV} (hid : st.heap[id]? = some (.cells oty cs ver)) (hb : G.blk id = some b) (h : off + n ≤ cs.length) :
    ∃ arr : Array Value, w.heap[b]? = some (.cells arr oty (0, 0)) ∧ RepAll G arr.toList cs ∧ RepAll G ((arr.toList.drop off).take n) ((cs.drop off).take n) ∧ ((arr.toList.drop off).take n).length = n ∧
      ∀ j v, ((arr.toList.drop off).take n)[j]? = some v → w.cell? ((⟨b, off, none⟩ : Addr).add j) = some v := by
  obtain ⟨b', ob, e1, e2, e3, arr, rfl, e5⟩ := hR.objs id _ hid
  rw [hb] at e1; injection e1 with e1; subst e1
  refine ⟨arr, e3, e5, (e5.drop off).take n, by rw [List.length_take, List.length_drop, e5.1]; omega, fun j v hj => ?_⟩
  rw [addr_add]
  rw [List.getElem?_take] at hj
  split at hj
  · rw [List.getElem?_drop, Array.getElem?_toList] at hj
    simp only [World.cell?, e3]
    exact hj
  · cases hj
theorem repAll_ones {G : Ghost} {vs : List Value} {cs : List LV} (h : RepAll G vs cs) (hs : ∀ c ∈ cs, c.one = true) : ∀ u ∈ vs, u.oneCell' = true := fun u hu => by
  obtain ⟨i, hi, rfl⟩ := List.mem_iff_getElem.1 hu
  have hi' : i < cs.length := by rw [← h.1]; exact hi
  exact rep_one (h.2 i _ _ (List.getElem?_eq_getElem hi) (List.getElem?_eq_getElem hi')) (hs _ (List.getElem_mem hi'))

/-- copy, from a row of one's own to a row of one's own. -/
theorem HPlan.copyH {t e k bytes tx id1 off1 n1 c1 id2 off2 n2 c2 oty1 oty2 ver1 ver2 n : Nat} {x y : Operand} {cs1 cs2 cs' : List LV} {v : LV} {L' : Hp} (ho : ops[i]? = some ⟨d, .call { callee := .builtin .copy, args := #[x, y], argTypes := #[t, tx] }, ty, pos, af, g⟩) (ht : takenB ops g regs = true)
    (hx : opdO regs x = some (.hs id1 off1 n1 c1)) (hy : opdO regs y = some (.hs id2 off2 n2 c2)) (hel : elemIn P t = some (e, k, bytes)) (hn : Nat.min n2 n1 = n) (h1 : (id1, .cells oty1 cs1 ver1) ∈ L) (h2 : (id2, .cells oty2 cs2 ver2) ∈ L)
    (hb1 : off1 + n * k ≤ cs1.length) (hb2 : off2 + n * k ≤ cs2.length) (hone : ∀ c ∈ (cs2.drop off2).take (n * k), c.one = true) (hv : splice cs1 off1 ((cs2.drop off2).take (n * k)) = cs')
    (hu : Upd id1 (.cells oty1 cs1 ver1) (.cells oty1 cs' (ver1 + 1)) L L') (hk : keptH U pend L L') (hr : LV.int .i64 (n : Int) = v) (kk : HPlan P ops Q p pend (setR d v regs) L' T) : HPlan P ops Q (.act i U p) pend regs L T := by
  subst hv; subst hr
  refine .actd ho ht fun st hst => does_run fun G A w hR hrr => ?_
  obtain ⟨inf, z, hul, hi, hz, rfl, rfl, hzc⟩ := elemIn_spec hel
  have rx := rep_opd hrr x
  have ry := rep_opd hrr y
  rw [opdV_of hx] at rx
  rw [opdV_of hy] at ry
  obtain ⟨vx, ex⟩ : ∃ vx, A.eval x = vx := ⟨_, rfl⟩
  obtain ⟨vy, ey⟩ : ∃ vy, A.eval y = vy := ⟨_, rfl⟩
  rw [ex] at rx
  rw [ey] at ry
  cases rx with | @hs _ _ _ _ b1 hb1' =>
  cases ry with | @hs _ _ _ _ b2 hb2' =>
  have hid1 := hst.obj _ h1
  have hid2 := hst.obj _ h2
  obtain ⟨arr1, w1, r1, -, -, -⟩ := own_cells_at hR hid1 hb1' hb1
  obtain ⟨arr2, w2, -, s2, l2, c2'⟩ := own_cells_at hR hid2 hb2' hb2
  obtain ⟨vs, hvs⟩ : ∃ vs, vs = (arr2.toList.drop off2).take (n * inf.size) := ⟨_, rfl⟩
  rw [← hvs] at s2 l2 c2'
  have h1s : arr1.size = cs1.length := by rw [← r1.1, Array.length_toList]
  have hfc := run_firstCells_some (P := P) (w := w) inf.size n ⟨b2, off2, none⟩ n2 c2 vs l2 c2'
  have hst1 := run_storeCells_fr (P := P) b1 off1 oty1 (0, 0) vs 0 arr1 w w1 (.inl rfl) (by rw [l2, h1s]; omega) (repAll_ones s2 hone)
  obtain ⟨X, hX⟩ : ∃ X, X = arr1.toList.take (off1 + 0) ++ vs ++ arr1.toList.drop (off1 + 0 + vs.length) := ⟨_, rfl⟩
  rw [← hX] at hst1
  have hrep : RepAll G X (splice cs1 off1 ((cs2.drop off2).take (n * inf.size))) := by
    rw [hX]
    exact repAll_splice r1 s2 (by rw [← s2.1, l2]; exact hb1)
  have k2 := step_set (l := .cells oty1 (splice cs1 off1 ((cs2.drop off2).take (n * inf.size))) (ver1 + 1)) (w' := w.setRow b1 X.toArray) (o := .cells X.toArray oty1 (0, 0)) hR hid1 hb1' rfl (by simp [LObj.ver]) (by simp [World.setRow]) (fun k hk => setRow_other w b1 k _ hk) (setRow_heap w b1 arr1 _ oty1 _ w1) ⟨_, rfl, by simpa using hrep⟩ rfl rfl rfl
  refine ⟨.int .i64 (n : Int), _, _, _, G, ?_, k2, .int _ _, L', T, hst.upd hu, hk, kk⟩
  simp [execOp, resolve, invoke, builtin, ex, ey, Builtin.copy_, run_underlying hul, Builtin.lenOf, sizeOf, typeInfo, hi, hn, hfc, hst1, goInt]
/-- How many a row of one's own could hold. -/
theorem reads_capH {st : St} {o : Oper} {x : Operand} {t id off n c kk0 : Nat} (h : o.op = .call { callee := .builtin .cap, args := #[x], argTypes := #[t] }) (hx : opdV regs x = .hs id off n c) (hk : sliceTy P t = some kk0) : Reads P st regs o (.int .i64 (c : Int)) [] := reads_pure fun G A hr => by
  have rx := rep_opd hr x
  rw [hx] at rx
  obtain ⟨vx, ex⟩ : ∃ vx, A.eval x = vx := ⟨_, rfl⟩
  rw [ex] at rx
  cases rx with | @hs _ _ _ _ b1 hb1' =>
  refine ⟨.int .i64 (c : Int), .int _ _, fun w' => ?_⟩
  unfold sliceTy at hk
  split at hk
  · rename_i el hul
    simp [execOp, h, resolve, invoke, builtin, ex, Builtin.cap_, run_underlying hul, goInt]
  · cases hk
theorem HPlan.capH {x : Operand} {t id off n c kk0 : Nat} {v : LV} (ho : ops[i]? = some ⟨d, .call { callee := .builtin .cap, args := #[x], argTypes := #[t] }, ty, pos, af, g⟩) (ht : takenB ops g regs = true) (hx : opdO regs x = some (.hs id off n c)) (hk : sliceTy P t = some kk0) (hv : .int .i64 (c : Int) = v)
    (kk : HPlan P ops Q p ((i, []) :: pend) (setR d v regs) L T) : HPlan P ops Q (.rd i p) pend regs L T := by
  subst hv
  exact .rdd ho ht rfl (fun st _ => reads_capH rfl (opdV_of hx) hk) kk
/-- clear, of a row of one's own. -/
theorem HPlan.clearH {t e k bytes id off n c oty ver : Nat} {x : Operand} {cs cs' : List LV} {z : LV} {L' : Hp} (ho : ops[i]? = some ⟨d, .call { callee := .builtin .clear, args := #[x], argTypes := #[t] }, ty, pos, af, g⟩) (ht : takenB ops g regs = true)
    (hx : opdO regs x = some (.hs id off n c)) (hel : elemIn P t = some (e, k, bytes)) (hz : zeroOf P e = some z) (hzs : z.solid = true) (hm : (id, .cells oty cs ver) ∈ L) (hb : off + n * k ≤ cs.length)
    (hv : splice cs off (List.replicate (n * k) .und) = cs') (hu : Upd id (.cells oty cs ver) (.cells oty cs' (ver + 1)) L L') (hk : keptH U pend L L') (kk : HPlan P ops Q p pend (setR d (.tup []) regs) L' T) : HPlan P ops Q (.act i U p) pend regs L T := by
  subst hv
  refine .actd ho ht fun st hst => does_run fun G A w hR hrr => ?_
  obtain ⟨inf, zv, hul, hi, hzi, rfl, rfl, hzc⟩ := elemIn_spec hel
  have rx := rep_opd hrr x
  rw [opdV_of hx] at rx
  obtain ⟨vx, ex⟩ : ∃ vx, A.eval x = vx := ⟨_, rfl⟩
  rw [ex] at rx
  cases rx with | @hs _ _ _ _ b1 hb1' =>
  have hid := hst.obj _ hm
  obtain ⟨arr, w1, r1, -, -, -⟩ := own_cells_at hR hid hb1' hb
  obtain ⟨z', hzrep, hzrun⟩ := run_zeroOf (P := P) hz G
  have hzz : z' = zv := by
    have := hzrun w
    simp [zeroValue, typeInfo, hi, hzi] at this
    exact this.symm
  subst hzz
  have hzo := (rep_cells hzrep hzs).2
  obtain ⟨vs, hvs⟩ : ∃ vs, vs = (Builtin.zeroCells z'.cells n).toList := ⟨_, rfl⟩
  have lvs : vs.length = n * inf.size := by rw [hvs, Array.length_toList, size_zeroCells, hzc]
  have hone : ∀ u ∈ vs, u.oneCell' = true := fun u hu => by
    rw [hvs] at hu
    simp only [Builtin.zeroCells, Array.toList_map, List.mem_map] at hu
    obtain ⟨q, hq, rfl⟩ := hu
    by_cases h0 : z'.cells.size = 0
    · simp [h0] at hq
    · have hlt : q % z'.cells.size < z'.cells.size := Nat.mod_lt _ (by omega)
      rw [getElem!_pos z'.cells _ hlt]
      exact hzo _ (by simp)
  have h1s : arr.size = cs.length := by rw [← r1.1, Array.length_toList]
  have hst1 := run_storeCells_fr (P := P) b1 off oty (0, 0) vs 0 arr w w1 (.inl rfl) (by rw [lvs, h1s]; omega) hone
  obtain ⟨X, hX⟩ : ∃ X, X = arr.toList.take (off + 0) ++ vs ++ arr.toList.drop (off + 0 + vs.length) := ⟨_, rfl⟩
  rw [← hX] at hst1
  have hrep : RepAll G X (splice cs off (List.replicate (n * inf.size) .und)) := by
    rw [hX]
    have := repAll_und (G := G) vs
    rw [lvs] at this
    exact repAll_splice r1 this (by rw [List.length_replicate]; exact hb)
  have k2 := step_set (l := .cells oty (splice cs off (List.replicate (n * inf.size) .und)) (ver + 1)) (w' := w.setRow b1 X.toArray) (o := .cells X.toArray oty (0, 0)) hR hid hb1' rfl (by simp [LObj.ver]) (by simp [World.setRow]) (fun k hk => setRow_other w b1 k _ hk) (setRow_heap w b1 arr _ oty _ w1) ⟨_, rfl, by simpa using hrep⟩ rfl rfl rfl
  by_cases hn0 : n = 0
  · subst hn0
    have hvs0 : vs = [] := List.eq_nil_of_length_eq_zero (by rw [lvs]; simp)
    have hw : w.setRow b1 X.toArray = w := by
      have e : (storeCells ⟨b1, off, none⟩ vs 0).run P w = .ok () w := by rw [hvs0]; simp [storeCells]
      rw [hst1] at e
      injection e
    rw [hw] at k2
    refine ⟨.tuple #[], _, _, _, G, ?_, k2, .tup rfl (fun i v l h => by simp at h), L', T, hst.upd hu, hk, kk⟩
    simp [execOp, resolve, invoke, builtin, ex, Builtin.clear_, run_underlying hul]
  · refine ⟨.tuple #[], _, _, _, G, ?_, k2, .tup rfl (fun i v l h => by simp at h), L', T, hst.upd hu, hk, kk⟩
    rw [hvs] at hst1
    obtain ⟨n', rfl⟩ : ∃ n', n = n' + 1 := ⟨n - 1, by omega⟩
    simp [execOp, resolve, invoke, builtin, ex, Builtin.clear_, run_underlying hul, hzrun, hst1]
/-- append, from a row of one's own. -/
theorem HPlan.appendRS {t tx e k bytes id2 off2 cap2 oty2 ver2 : Nat} {cs2 : List LV} {s x : Operand} {v a : LV} {es xs : List LV} {Lv F : Hp} (ho : ops[i]? = some ⟨d, .call { callee := .builtin .append, args := #[s, x], argTypes := #[t, tx] }, ty, pos, af, g⟩) (ht : takenB ops g regs = true)
    (hs : opdO regs s = some v) (hx : opdO regs x = some a) (hel : elemIn P t = some (e, k, bytes)) (htx : srcTy P tx = true) (hv : OwnSl k es v Lv) (ha : a = .hs id2 off2 xs.length cap2) (hm2 : (id2, .cells oty2 cs2 ver2) ∈ Lv ++ F) (hb2 : off2 + xs.length * k ≤ cs2.length) (hfl2 : (cs2.drop off2).take (xs.length * k) = flat xs) (hxk : ∀ e ∈ xs, e.cells.length = k) (hL : L.Perm (Lv ++ F)) (hsol : ∀ e ∈ xs, e.solid = true)
    (hb : (es.length + xs.length) * bytes ≤ 140737488355328) (h63 : es.length + xs.length ≤ 140737488355328)
    (kk : ∀ v' Lv', OwnSl k (es ++ xs) v' Lv' → keptH U pend L (Lv' ++ F) ∧ HPlan P ops Q p pend (setR d v' regs) (Lv' ++ F) T) : HPlan P ops Q (.act i U p) pend regs L T := by
  refine .actd ho ht fun st hst => does_run fun G A w hR hr => ?_
  have hst := hst.sub (.of_perm hL) (.refl T)
  obtain ⟨inf, z, hu, hi, hz, rfl, rfl, hzc⟩ := elemIn_spec hel
  have htx' : ∃ d, P.underlying tx = some (.slice d) := by
    unfold srcTy at htx; split at htx
    · exact ⟨_, ‹_›⟩
    · cases htx
  have rs := rep_opd hr s
  have rx := rep_opd hr x
  rw [opdV_of hs] at rs
  rw [opdV_of hx] at rx
  have hexec : ∀ w', (execOp A.eval ⟨d, .call { callee := .builtin .append, args := #[s, x], argTypes := #[t, tx] }, ty, pos, af, g⟩).run P w' = ((Builtin.append_ #[t, tx] ty #[A.eval s, A.eval x]).run P w').andThen fun v w'' => .ok (.value v) w'' := fun w' => by
    simp [execOp, resolve, invoke, builtin]
  simp only [hexec]
  obtain ⟨vs, hvs⟩ : ∃ v, A.eval s = v := ⟨_, rfl⟩
  obtain ⟨vx, hvx⟩ : ∃ v, A.eval x = v := ⟨_, rfl⟩
  rw [hvs] at rs ⊢; rw [hvx] at rx ⊢
  subst ha
  cases rx with | @hs _ _ _ _ b2 hb2' =>
  by_cases hemp : xs = []
  · subst hemp
    rw [List.append_nil] at kk
    refine ⟨vs, v, st, w, G, ?_, .refl hR, rs, _, T, hst, kk v Lv hv⟩
    obtain ⟨d, htx'⟩ := htx'
    have hfc : (Builtin.firstCells inf.size 0 (.slice (some ⟨b2, off2, none⟩) 0 cap2)).run P w = .ok #[] w := by
      simp [Builtin.firstCells, loadCells, loadCellsFrom]
    cases hv with
    | nil h => cases rs; simp [Builtin.append_, run_underlying hu, run_underlying htx', sizeOf, typeInfo, hi, Builtin.lenOf, hfc]
    | obj hl hc hk => cases rs; simp [Builtin.append_, run_underlying hu, run_underlying htx', sizeOf, typeInfo, hi, Builtin.lenOf, hfc, hc, storeCells]
  · have hid2 := hst.obj _ hm2
    obtain ⟨arr2, -, -, n3, n1, hnw⟩ := own_cells_at hR hid2 hb2' hb2
    obtain ⟨news, hnn⟩ : ∃ news, news = (arr2.toList.drop off2).take (xs.length * inf.size) := ⟨_, rfl⟩
    rw [← hnn] at n3 n1 hnw
    rw [hfl2] at n3
    have hnews : ∀ w' : World, w' = w → ∀ (j : Nat) (u : Value), news[j]? = some u → w'.cell? ((⟨b2, off2, none⟩ : Addr).add j) = some u := fun w' e j u hj => by subst e; exact hnw j u hj
    have hone := repAll_one n3 hsol
    have hpos : 0 < xs.length := List.length_pos_iff.2 hemp
    have hd := step_drew hR
    -- a new row
    have fresh : ∀ (olds : List Value) (need cap' : Nat), RepAll G olds (flat es) → es.length + xs.length ≤ cap' →
        ∃ G', Step G st w G' (st.push (.cells e (flat (es ++ xs) ++ List.replicate ((cap' - (es.length + xs.length)) * inf.size) .und) 0)) (w.drew.alloc (.cells (olds.toArray ++ news.toArray ++ Builtin.zeroCells z.cells (cap' - (es.length + xs.length))) e)) ∧
          Rep G' (.slice (some ⟨w.heap.size, 0, none⟩) (es.length + xs.length) cap') (.hs st.heap.length 0 (es.length + xs.length) cap') ∧
          ∃ Lv', OwnSl inf.size (es ++ xs) (.hs st.heap.length 0 (es.length + xs.length) cap') Lv' ∧ Has (st.push (.cells e (flat (es ++ xs) ++ List.replicate ((cap' - (es.length + xs.length)) * inf.size) .und) 0)) (Lv' ++ F) T := fun olds need cap' ho hcap => by
      have k2 := step_new hd.rel (o := .cells (olds.toArray ++ news.toArray ++ Builtin.zeroCells z.cells (cap' - (es.length + xs.length))) e) (l := .cells e (flat (es ++ xs) ++ List.replicate ((cap' - (es.length + xs.length)) * inf.size) .und) 0) ⟨_, rfl, by
        have e1 : (olds.toArray ++ news.toArray ++ Builtin.zeroCells z.cells (cap' - (es.length + xs.length))).toList = (olds ++ news) ++ (Builtin.zeroCells z.cells (cap' - (es.length + xs.length))).toList := by simp
        rw [e1, flat_append]
        refine (ho.append n3).append ?_
        have := repAll_und (G := G) (Builtin.zeroCells z.cells (cap' - (es.length + xs.length))).toList
        have hz3 : (Builtin.zeroCells z.cells (cap' - (es.length + xs.length))).toList.length = (cap' - (es.length + xs.length)) * inf.size := by rw [Array.length_toList, size_zeroCells, hzc]
        rwa [hz3] at this⟩
      refine ⟨_, hd.trans hR k2, .hs (by simp [Ghost.addBlk]), [(st.heap.length, .cells e (flat (es ++ xs) ++ List.replicate ((cap' - (es.length + xs.length)) * inf.size) .und) 0)], ?_, ?_⟩
      · have := OwnSl.obj (k := inf.size) (es := es ++ xs) (id := st.heap.length) (ty := e) (ver := 0) (cap := cap') (rest := List.replicate ((cap' - (es.length + xs.length)) * inf.size) .und) (by
          rw [List.length_replicate, List.length_append, ← Nat.add_mul]; congr 1; omega) (by rw [List.length_append]; exact hcap) (fun y hy => (List.mem_append.1 hy).elim (hv.kcells y) (hxk y))
        rw [List.length_append] at this
        exact this
      · exact (has_new (hst.sub ⟨Lv, List.perm_append_comm⟩ (.refl T)) _)
    cases hv with
    | nil h =>
      subst h
      cases rs
      have hrun := run_append_new (P := P) (w := w) (t := t) (tx := tx) (ty := ty) hu htx' hi hz (s := .slice none 0 0) (sLen := 0) (sCap := 0) (m := xs.length) (c := cap2) (b := ⟨b2, off2, none⟩) (olds := []) (news := news)
        (.inl ⟨rfl, rfl, rfl, rfl⟩) (by simp) n1 (hnews w rfl) (by omega) (by simp only [List.length_nil] at h63; omega) (by rw [Nat.zero_add, nextslicecap_zero hpos]; simp only [List.length_nil, Nat.zero_add] at hb; omega)
      obtain ⟨G', hs', hrep, Lv', hv', hh⟩ := fresh [] 0 (grownCap w (0 + xs.length) 0 e) ⟨rfl, fun i v l h => by simp at h⟩ (by simp only [List.length_nil]; exact grownCap_ge w _ _ _)
      refine ⟨_, _, _, _, G', ?_, hs', hrep, _, T, hh, kk _ _ hv'⟩
      rw [hrun]; simp
    | @obj id ty' ver cap rest hl hc hk =>
      have hid := hst.obj (id, .cells ty' (flat es ++ rest) ver) (by simp)
      obtain ⟨b, ob, e1, e2, e3, arr, rfl, e5⟩ := hR.objs id _ hid
      cases rs with | @hs _ _ _ _ b' hb' =>
      have hbb := hb'
      rw [e1] at hb'; injection hb' with hb'; subst hb'
      have hfl := flat_len hk
      have ftake : (flat es ++ rest).take (es.length * inf.size) = flat es := by rw [← hfl]; simp
      have fdrop : (flat es ++ rest).drop (es.length * inf.size + news.length) = rest.drop news.length := by rw [← hfl, List.drop_append, List.drop_of_length_le (by omega), List.nil_append]; congr 1; omega
      have harl : arr.toList.length = es.length * inf.size + rest.length := by rw [e5.1, List.length_append, hfl]
      have harl' : arr.size = cap * inf.size := by rw [← Array.length_toList, harl]; exact hl
      have holds : ∀ j u, (arr.toList.take (es.length * inf.size))[j]? = some u → w.cell? ((⟨b, 0, none⟩ : Addr).add j) = some u := fun j u hj => by
        rw [addr_add]
        rw [List.getElem?_take] at hj
        split at hj
        · simp only [World.cell?, e3, Nat.zero_add]
          rw [Array.getElem?_toList] at hj; exact hj
        · cases hj
      by_cases hroom : es.length + xs.length ≤ cap
      · have hxk' : xs.length * inf.size ≤ (cap - es.length) * inf.size := Nat.mul_le_mul_right _ (by omega)
        have hck : es.length * inf.size + (cap - es.length) * inf.size = cap * inf.size := by rw [← Nat.add_mul]; congr 1; omega
        have hrun := run_append_in (P := P) (w := w) (t := t) (tx := tx) (ty := ty) (m := xs.length) (c := cap2) (b := ⟨b2, off2, none⟩) (news := news) hu htx' hi (g := b) (off := 0) (sLen := es.length) (sCap := cap) e3 (.inl rfl) n1 (hnews w rfl) hone hroom (by rw [n1]; omega)
        obtain ⟨X, hX⟩ : ∃ X, X = arr.toList.take (0 + es.length * inf.size) ++ news ++ arr.toList.drop (0 + es.length * inf.size + news.length) := ⟨_, rfl⟩
        rw [← hX] at hrun
        have hrepX : RepAll G X (flat (es ++ xs) ++ rest.drop (xs.length * inf.size)) := by
          rw [hX, flat_append]
          have t1 := e5.take (es.length * inf.size)
          have t2 := e5.drop (es.length * inf.size + news.length)
          rw [ftake] at t1
          rw [fdrop, n1] at t2
          rw [Nat.zero_add, n1]
          exact (t1.append n3).append t2
        have k2 := step_set (l := .cells ty' (flat (es ++ xs) ++ rest.drop (xs.length * inf.size)) (ver + 1)) (w' := w.setRow b X.toArray) (o := .cells X.toArray ty' (0, 0)) hR hid hbb rfl (by simp [LObj.ver]) (by simp [World.setRow]) (fun k hk => setRow_other w b k _ hk) (setRow_heap w b arr _ ty' _ e3) ⟨_, rfl, by simpa using hrepX⟩ rfl rfl rfl
        have hv' := OwnSl.obj (k := inf.size) (es := es ++ xs) (id := id) (ty := ty') (ver := ver + 1) (cap := cap) (rest := rest.drop (xs.length * inf.size)) (by
          rw [List.length_append, Nat.add_mul, List.length_drop]
          omega) (by rw [List.length_append]; exact hroom) (fun y hy => (List.mem_append.1 hy).elim (hk y) (hxk y))
        rw [List.length_append] at hv'
        refine ⟨_, _, _, _, G, by rw [hrun]; rfl, k2, .hs hbb, _, T, ?_, kk _ _ hv'⟩
        exact hst.upd .here
      · have hrun := run_append_new (P := P) (w := w) (t := t) (tx := tx) (ty := ty) hu htx' hi hz (s := .slice (some ⟨b, 0, none⟩) es.length cap) (sLen := es.length) (sCap := cap) (m := xs.length) (c := cap2) (b := ⟨b2, off2, none⟩) (olds := arr.toList.take (es.length * inf.size)) (news := news)
          (.inr ⟨⟨b, 0, none⟩, rfl, holds⟩) (by rw [List.length_take, harl]; omega) n1 (hnews w rfl) (by omega) (by omega) (growslice_fits (by omega) hb)
        have t1 := e5.take (es.length * inf.size)
        rw [ftake] at t1
        obtain ⟨G', hs', hrep, Lv', hv', hh⟩ := fresh _ 0 (grownCap w (es.length + xs.length) cap e) t1 (grownCap_ge w _ _ _)
        refine ⟨_, _, _, _, G', ?_, hs', hrep, _, T, hh, kk _ _ hv'⟩
        rw [hrun]; simp
end
end Go.L

set_option linter.unusedVariables false
set_option linter.unusedSimpArgs false
namespace Go.L
open Go Go.RowKit

section
variable {P : Program} {regs : Fr} {L : Hp} {T : Tk} {Q : HQ} {ops : Array Oper} {p : Plan} {pend : Pends} {i : Nat} {U : List Nat} {d : Option Tmp} {ty : TypeId} {pos : String} {af : Array Edge} {g : Option (Nat × Bool)}
/-- slices.overlaps, of two rows of one's own. -/
theorem HPlan.overlapsX {x y : Operand} {ts : Array Nat} {f : FuncId} {fn : Func} {t tR k id1 off1 n1 c1 id2 off2 n2 c2 oty1 oty2 ver1 ver2 : Nat} {cs1 cs2 : List LV} (ho : ops[i]? = some ⟨d, .call { callee := .value (.func f), args := #[x, y], argTypes := ts }, ty, pos, af, g⟩) (ht : takenB ops g regs = true)
    (hx : opdO regs x = some (.hs id1 off1 n1 c1)) (hy : opdO regs y = some (.hs id2 off2 n2 c2)) (hf : P.funcs[f]? = some fn) (hname : (fn.name == "runtime.NumGoroutine") = false) (hb : fn.body.isNone = true) (hn : Extern.findNext fn = none) (he : Extern.find fn = some (Extern.SlicesOverlaps.overlaps #[t, t] #[tR]))
    (hs : sliceTy P t = some k) (h1 : (id1, .cells oty1 cs1 ver1) ∈ L) (h2 : (id2, .cells oty2 cs2 ver2) ∈ L) (hne : id1 ≠ id2) (hpos : cs2 ≠ []) (hk : keptH U pend L L) (kk : HPlan P ops Q p pend (setR d (.bool false) regs) L T) : HPlan P ops Q (.act i U p) pend regs L T := by
  refine .actd ho ht fun st hst => does_run fun G A w hR hrr => ?_
  have rx := rep_opd hrr x
  have ry := rep_opd hrr y
  rw [opdV_of hx] at rx
  rw [opdV_of hy] at ry
  obtain ⟨vx, ex⟩ : ∃ vx, A.eval x = vx := ⟨_, rfl⟩
  obtain ⟨vy, ey⟩ : ∃ vy, A.eval y = vy := ⟨_, rfl⟩
  rw [ex] at rx
  rw [ey] at ry
  cases rx with | @hs _ _ _ _ b1 hb1' =>
  cases ry with | @hs _ _ _ _ b2 hb2' =>
  have hid1 := hst.obj _ h1
  have hid2 := hst.obj _ h2
  obtain ⟨arr1, w1, r1, -, -, -⟩ := own_cells_at (off := 0) (n := 0) hR hid1 hb1' (Nat.zero_le _)
  obtain ⟨arr2, w2, r2, -, -, -⟩ := own_cells_at (off := 0) (n := 0) hR hid2 hb2' (Nat.zero_le _)
  have hbb : b1 ≠ b2 := fun e => by subst e; exact hne (hR.inj _ _ _ hb1' hb2')
  have hs2 : arr2.size ≠ 0 := by
    rw [← Array.length_toList, r2.1]
    exact fun e => hpos (List.eq_nil_of_length_eq_zero e)
  unfold sliceTy at hs
  split at hs
  · rename_i el hul
    cases hq : P.info? el with
    | none => simp [hq] at hs
    | some inf =>
      have hov := Lib.run_overlaps_apart (P := P) w t tR el hul inf.size (fun w => by simp [sizeOf, typeInfo, hq]) ⟨b1, off1, none⟩ ⟨b2, off2, none⟩ n1 c1 n2 c2 hbb oty1 oty2 arr1.size arr2.size
        (by simp [World.shape?, w1]) (by simp [World.shape?, w2]) hs2 (by simp [World.frozen?, w1]) (by simp [World.frozen?, w1])
      refine ⟨.bool false, _, st, w, G, ?_, .refl hR, .bool _, L, T, hst, hk, kk⟩
      have hfv : A.eval (.func f) = .func (.func f) #[] #[] := rfl
      simp [execOp, resolve, Deferred.ofValue, invoke, hfv, ex, ey, run_callFunc_extern hf hname hb hn he, hov]
  · cases hs
/-- append of a made row of zeros, where there is no room. -/
theorem HPlan.appZerosH {t tn e k bytes id off c n oty ver : Nat} {x y : Operand} {kq kn : IntKind} {cs : List LV} (ho : ops[i]? = some ⟨d, .call { callee := .builtin .append, args := #[x, y], argTypes := #[t, tn] }, ty, pos, af, g⟩) (ht : takenB ops g regs = true)
    (hx : opdO regs x = some (.hs id off 0 c)) (hy : opdO regs y = some (.int kq (n : Int))) (hel : elemIn P t = some (e, k, bytes)) (htn : P.underlying tn = some (.int kn)) (hm : (id, .cells oty cs ver) ∈ L) (h0 : 0 < n) (hk0 : 0 < k) (hg : c < n)
    (hb : n * bytes ≤ 140737488355328) (h63 : n ≤ 140737488355328)
    (kk : ∀ id' cap', n ≤ cap' → keptH U pend L ((id', .cells e (List.replicate (cap' * k) .und) 0) :: L) ∧ HPlan P ops Q p pend (setR d (.hs id' 0 n cap') regs) ((id', .cells e (List.replicate (cap' * k) .und) 0) :: L) T) : HPlan P ops Q (.act i U p) pend regs L T := by
  refine .actd ho ht fun st hst => does_run fun G A w hR hrr => ?_
  obtain ⟨inf, zv, hul, hi, hzi, rfl, rfl, hzc⟩ := elemIn_spec hel
  have rx := rep_opd hrr x
  have ry := rep_opd hrr y
  rw [opdV_of hx] at rx
  rw [opdV_of hy] at ry
  obtain ⟨vx, ex⟩ : ∃ vx, A.eval x = vx := ⟨_, rfl⟩
  obtain ⟨vy, ey⟩ : ∃ vy, A.eval y = vy := ⟨_, rfl⟩
  rw [ex] at rx
  rw [ey] at ry
  cases rx with | @hs _ _ _ _ b1 hb1' =>
  cases ry
  have hfit := growslice_fits (need := 0 + n) (old := c) (bytes := inf.bytes) (by omega) (by rw [Nat.zero_add]; exact hb)
  have hrun := Lib.run_append_grow_zeros (P := P) w t tn ty e inf zv kq kn hul htn hi hzi (some ⟨b1, off, none⟩) 0 c [] (by simp [Builtin.firstCells, loadCells, loadCellsFrom]) n h0 hk0 (by omega) (by omega) (by omega) hfit
  rw [Nat.zero_add] at hrun
  obtain ⟨cap', hcap'⟩ : ∃ cap', cap' = grownCap w n c e := ⟨_, rfl⟩
  have hge : n ≤ cap' := by rw [hcap']; have := grownCap_ge w n c e; exact this
  rw [← hcap'] at hrun
  have hd := step_drew hR
  obtain ⟨X, hX⟩ : ∃ X, X = (([] : List Value).toArray ++ Builtin.zeroCells zv.cells n ++ Builtin.zeroCells zv.cells (cap' - n)) := ⟨_, rfl⟩
  rw [← hX] at hrun
  have hXl : X.toList.length = cap' * inf.size := by
    rw [hX]
    simp only [Array.toList_append, List.length_append, Array.length_toList, size_zeroCells, hzc, List.length_nil, List.toList_toArray]
    rw [Nat.zero_add, ← Nat.add_mul]; congr 1; omega
  have k2 := step_new hd.rel (o := .cells X e) (l := .cells e (List.replicate (cap' * inf.size) .und) 0) ⟨X, rfl, by
    have := repAll_und (G := G) X.toList
    rwa [hXl] at this⟩
  refine ⟨.slice (some ⟨w.heap.size, 0, none⟩) n cap', .hs st.heap.length 0 n cap', _, _, _, ?_, hd.trans hR k2, .hs (by simp [Ghost.addBlk]), _, T, has_new hst _, kk _ _ hge⟩
  simp only [execOp, resolve, invoke, builtin, Sem.run_bind, Sem.run_pure, Result.andThen_ok, List.map_toArray, List.map_cons, List.map_nil, ex, ey, hrun]
  rfl
end
end Go.L

set_option linter.unusedVariables false
set_option linter.unusedSimpArgs false
namespace Go.L
open Go Go.RowKit

theorem Part.appL {α : Type} (A B : List α) : Part A (A ++ B) := ⟨B, .refl _⟩
theorem Part.appR {α : Type} {A C : List α} (B : List α) (h : Part A C) : Part A (B ++ C) := h.trans (.app _ _)
theorem Part.congr {α : Type} {A B A' : List α} (h : Part A' A) (e : A'.Perm B) : Part B A := Part.trans (.of_perm e) h
section
variable {P : Program} {regs : Fr} {L : Hp} {T : Tk} {Q : HQ} {ops : Array Oper} {p : Plan} {pend : Pends} {i : Nat} {U : List Nat} {d : Option Tmp} {ty : TypeId} {pos : String} {af : Array Edge} {g : Option (Nat × Bool)}
theorem reads_subNil {st : St} {o : Oper} {t k : Nat} {x : Operand} {lo hi : Option Operand} (h : o.op = .slice t x lo hi none) (ht : sliceTy P t = some k) (hx : opdV regs x = .nils)
    (h1 : optOk regs lo = true) (h2 : optOk regs hi = true) (hl : optI regs 0 lo = 0) (hh : optI regs ((0 : Nat) : Int) hi = 0) : Reads P st regs o .nils [] := reads_pure fun G A hr => by
  have rx := rep_opd hr x
  obtain ⟨v, hv⟩ : ∃ v, A.eval x = v := ⟨_, rfl⟩
  rw [hv, hx] at rx
  cases rx
  have hb := fun w' => run_bounds (P := P) hr (isS := true) (c := 0) h1 h2 (by rw [hl]; exact Int.le_refl _) (by rw [hl, hh]; exact Int.le_refl _) (by rw [hh]; exact Int.le_refl _) w'
  rw [hl, hh] at hb
  unfold sliceTy at ht
  split at ht
  · rename_i el hu
    cases hq : P.info? el with
    | none => simp [hq] at ht
    | some inf =>
      refine ⟨.slice none 0 0, .nils, fun w' => ?_⟩
      simp [execOp, h, Instr.sliceAt, run_underlying hu w', Instr.slice, hv, hb w', sizeOf, typeInfo, hq]
  · cases ht
theorem HPlan.subNil {t k : Nat} {x : Operand} {lo hi : Option Operand} (ho : ops[i]? = some ⟨d, .slice t x lo hi none, ty, pos, af, g⟩) (ht : takenB ops g regs = true) (hx : opdO regs x = some .nils)
    (ha : optO regs 0 lo = some 0) (hb : optO regs ((0 : Nat) : Int) hi = some 0) (hs : sliceTy P t = some k) (kk : HPlan P ops Q p pend (setR d .nils regs) L T) : HPlan P ops Q (.rd i p) pend regs L T := by
  obtain ⟨o1, o2⟩ := optO_spec ha
  obtain ⟨o3, o4⟩ := optO_spec hb
  exact .rd0 ho ht rfl (fun st => reads_subNil rfl hs (opdV_of hx) o1 o3 o2 o4) kk
/-- Known objects are apart. -/
theorem HPlan.nodupA {op : Op} (ho : ops[i]? = some ⟨d, op, ty, pos, af, g⟩) (ht : takenB ops g regs = true) (h : (L.map (·.1)).Nodup → HPlan P ops Q (.act i U p) pend regs L T) : HPlan P ops Q (.act i U p) pend regs L T := by
  by_cases hn : (L.map (·.1)).Nodup
  · exact h hn
  · exact .actd ho ht fun st hst => absurd hst.nd hn
end
end Go.L

set_option linter.unusedVariables false
set_option linter.unusedSimpArgs false
namespace Go.L
open Go Go.RowKit

/-- What a truth value's equation says. -/
theorem Pr : (∀ (p : Prop) [Decidable p], (decide p = true) = p) ∧ (∀ (p : Prop) [Decidable p], (decide p = false) = ¬ p) ∧ (∀ b : Bool, ((!b) = true) = (b = false)) ∧ (∀ b : Bool, ((!b) = false) = (b = true)) ∧
    ((!true) = false) ∧ ((!false) = true) ∧ (∀ (α : Type) [BEq α] [LawfulBEq α] (a b : α), ((a == b) = true) = (a = b)) ∧ (∀ (α : Type) [BEq α] [LawfulBEq α] (a b : α), ((a != b) = true) = ¬ (a = b)) ∧ (∀ (α : Type) [BEq α] [LawfulBEq α] (a b : α), ((a != b) = false) = (a = b)) ∧
    (∀ (α : Type) [BEq α] [LawfulBEq α] (a b : α), ((a == b) = false) = ¬ (a = b)) ∧ (∀ (α : Type) (a b : α), (a ≠ b) = ¬ (a = b)) ∧ (∀ a b : Int, (¬ a < b) = (b ≤ a)) ∧ (∀ a b : Int, (¬ a ≤ b) = (b < a)) := by
  refine ⟨?_, ?_, ?_, ?_, ?_, ?_, ?_, ?_, ?_, ?_, ?_, ?_, ?_⟩ <;> intros <;> simp
theorem PrN {p : Prop} {b : Bool} (h : b = !b) : p := by cases b <;> cases h
/-! ### What is handed in, counted by values and letters -/
mutual
def bulk {H : Type} : DataW H → Nat
  | .lit (.string bytes) => bytes.length + 1
  | .lit _ => 1
  | .nil => 1
  | .ptr d => bulk d + 1
  | .slice elems spare => bulkAll elems + bulkAll spare + 1
  | .agg parts => bulkAll parts + 1
  | .iface _ d => bulk d + 1
  | .map entries => bulkEntries entries + 1
  | .held _ => 1
def bulkAll {H : Type} : List (DataW H) → Nat
  | [] => 0
  | d :: r => bulk d + bulkAll r
def bulkEntries {H : Type} : List (Lit × DataW H) → Nat
  | [] => 0
  | x :: r => bulkEntry x + bulkEntries r
def bulkEntry {H : Type} : Lit × DataW H → Nat
  | (.string bytes, d) => bytes.length + bulk d + 1
  | (_, d) => bulk d + 1
end
theorem bulk_one {H : Type} (d : DataW H) : 1 ≤ bulk d := by
  cases d with
  | lit l => cases l <;> simp [bulk]
  | nil => simp [bulk]
  | ptr d => simp [bulk]
  | slice elems spare => simp [bulk]
  | agg parts => simp [bulk]
  | iface t d => simp [bulk]
  | map entries => simp [bulk]
  | held h => simp [bulk]
theorem bulk_len {H : Type} : ∀ l : List (DataW H), l.length ≤ bulkAll l
  | [] => by simp [bulkAll]
  | d :: l => by have := bulk_one d; have := bulk_len l; simp only [bulkAll, List.length_cons]; omega
theorem bulk_entry {H : Type} (x : Lit × DataW H) : bulk x.2 + 1 ≤ bulkEntry x := by
  obtain ⟨l, d⟩ := x
  cases l <;> simp [bulkEntry] <;> omega
theorem bulk_lenE {H : Type} : ∀ l : List (Lit × DataW H), l.length ≤ bulkEntries l
  | [] => by simp [bulkEntries]
  | x :: l => by have := bulk_entry x; have := bulk_lenE l; simp only [bulkEntries, List.length_cons]; omega
/-- Are the elements of all slices of at most so many bytes? -/
def Ty.within (K : Nat) : Ty → Bool
  | .sl b e => decide (b ≤ K) && e.within K
  | .arr _ e => e.within K
  | .pair a r => a.within K && r.within K
  | _ => true
section
variable {P : Program} {H : Type} {K : Nat}
theorem w_all {t : TypeId} (h : ∀ d : DataW H, ∀ n ∈ d.weights P t, n ≤ bulk d * K) : ∀ (l : List (DataW H)), ∀ n ∈ DataW.weightsAll P t l, n ≤ bulkAll l * K
  | [], n, hn => by simp [DataW.weightsAll] at hn
  | d :: r, n, hn => by
    simp only [DataW.weightsAll, List.mem_append] at hn
    simp only [bulkAll, Nat.add_mul]
    rcases hn with hn | hn
    · have := h d n hn; omega
    · have := w_all h r n hn; omega
theorem w_lit (h1 : 1 ≤ K) {l : Lit} {t : TypeId} {n : Nat} (hn : n ∈ (DataW.lit (H := H) l).weights P t) : n ≤ bulk (DataW.lit (H := H) l) * K := by
  cases l <;> simp [DataW.weights] at hn
  subst hn
  simp only [bulk]
  exact Nat.le_trans (Nat.le_succ _) (Nat.le_mul_of_pos_right _ (by omega))
theorem bulk_w (h1 : 1 ≤ K) : ∀ (ty : Ty), ty.within K = true → (∀ (t : TypeId) (d : DataW H), (tyBoth P ty).1 t = true → ∀ n ∈ d.weights P t, n ≤ bulk d * K) ∧
    (∀ (l : List Field) (off : Nat) (ds : List (DataW H)), (tyBoth P ty).2 l off = true → ∀ n ∈ DataW.weightsEach P (l.map (·.type)) ds, n ≤ bulkAll ds * K) := by
  intro ty
  induction ty with
  | bool | u8 | int _ | str =>
    refine fun _ => ⟨fun t d ht n hn => ?_, fun l off ds ht => by cases ht⟩
    cases d with
    | lit l => exact w_lit h1 hn
    | nil | iface _ _ | held _ => simp [DataW.weights] at hn
    | ptr _ | slice _ _ | agg _ | map _ =>
      simp only [tyBoth] at ht
      simp only [DataW.weights] at hn
      split at ht <;> simp_all
  | sl b e ih =>
    intro hw
    simp only [Ty.within, Bool.and_eq_true, decide_eq_true_eq] at hw
    refine ⟨fun t d ht n hn => ?_, fun l off ds ht => by cases ht⟩
    obtain ⟨u, hu, hue, hb⟩ : ∃ u, P.underlying t = some (.slice u) ∧ (tyBoth P e).1 u = true ∧ P.bytesOf u = b := by
      simp only [tyBoth] at ht; split at ht
      · rename_i u hu
        simp only [Bool.and_eq_true, decide_eq_true_eq, beq_iff_eq] at ht
        exact ⟨u, hu, ht.1.1.1, ht.2⟩
      · cases ht
    cases d with
    | lit l => exact w_lit h1 hn
    | nil | iface _ _ | held _ => simp [DataW.weights] at hn
    | ptr _ | agg _ | map _ => simp [DataW.weights, hu] at hn
    | slice elems spare =>
      simp only [DataW.weights, hu, List.mem_cons, List.mem_append] at hn
      have hall := fun d => (ih hw.2).1 u d hue
      simp only [bulk, Nat.add_mul, Nat.one_mul]
      rcases hn with rfl | hn | hn
      · have a := bulk_len elems
        have c := bulk_len spare
        have k : (elems.length + spare.length) * P.bytesOf u ≤ (bulkAll elems + bulkAll spare) * K := Nat.mul_le_mul (Nat.add_le_add a c) (by omega)
        rw [Nat.add_mul _ _ K] at k
        omega
      · have := w_all hall elems n hn; omega
      · have := w_all hall spare n hn; omega
  | arr m e ih =>
    intro hw
    refine ⟨fun t d ht n hn => ?_, fun l off ds ht => by cases ht⟩
    obtain ⟨u, hu, hue⟩ : ∃ u, P.underlying t = some (.array m u) ∧ (tyBoth P e).1 u = true := by
      simp only [tyBoth] at ht; split at ht
      · rename_i m' u hu
        simp only [Bool.and_eq_true, beq_iff_eq] at ht
        obtain ⟨⟨⟨t1, t2⟩, t3⟩, t4⟩ := ht
        subst t1
        exact ⟨u, hu, t2⟩
      · cases ht
    cases d with
    | lit l => exact w_lit h1 hn
    | nil | iface _ _ | held _ => simp [DataW.weights] at hn
    | ptr _ | slice _ _ | map _ => simp [DataW.weights, hu] at hn
    | agg parts =>
      simp only [DataW.weights, hu] at hn
      have := w_all (fun d => (ih hw).1 u d hue) parts n hn
      simp only [bulk, Nat.add_mul, Nat.one_mul]; omega
  | one =>
    refine fun _ => ⟨(fun t d ht => nomatch ht), fun l off ds ht n hn => ?_⟩
    have : l = [] := by simpa [tyBoth] using ht
    subst this
    cases ds <;> simp [DataW.weightsEach] at hn
  | pair a r ia ir =>
    intro hw
    simp only [Ty.within, Bool.and_eq_true] at hw
    have flds : ∀ (l : List Field) (off : Nat) (ds : List (DataW H)), (tyBoth P (.pair a r)).2 l off = true → ∀ n ∈ DataW.weightsEach P (l.map (·.type)) ds, n ≤ bulkAll ds * K := by
      intro l off ds ht n hn
      cases l with
      | nil => cases ht
      | cons x l =>
        simp only [tyBoth, Bool.and_eq_true, beq_iff_eq] at ht
        obtain ⟨⟨⟨t1, t2⟩, t3⟩, t4⟩ := ht
        cases ds with
        | nil => simp [DataW.weightsEach] at hn
        | cons d ds =>
          simp only [List.map_cons, DataW.weightsEach, List.mem_append] at hn
          simp only [bulkAll, Nat.add_mul]
          rcases hn with hn | hn
          · have := (ia hw.1).1 _ d t2 n hn; omega
          · have := (ir hw.2).2 l _ ds t4 n hn; omega
    refine ⟨fun t d ht n hn => ?_, flds⟩
    obtain ⟨fs, hu, h2⟩ : ∃ fs : Array Field, P.underlying t = some (.struct fs) ∧ (tyBoth P (.pair a r)).2 fs.toList 0 = true := by
      simp only [tyBoth] at ht; split at ht
      · rename_i l hl
        simp only [Bool.and_eq_true, beq_iff_eq] at ht
        exact ⟨l, hl, ht.2⟩
      · cases ht
    cases d with
    | lit l => exact w_lit h1 hn
    | nil | iface _ _ | held _ => simp [DataW.weights] at hn
    | ptr _ | slice _ _ | map _ => simp [DataW.weights, hu] at hn
    | agg parts =>
      simp only [DataW.weights, hu] at hn
      have := flds _ _ parts h2 n hn
      simp only [bulk, Nat.add_mul, Nat.one_mul]; omega
theorem bulk_part : ∀ {l : List (DataW H)} {j : Nat} {d : DataW H}, l[j]? = some d → bulk d ≤ bulkAll l
  | x :: l, 0, d, h => by simp at h; subst h; simp [bulkAll]
  | x :: l, j + 1, d, h => by simp at h; have := bulk_part h; simp only [bulkAll]; omega
  | [], _, _, h => by simp at h
/-- What is handed in, where it is of a bulk. -/
theorem bulked_in {B : Nat} {ty : Ty} {ds : List (DataW H)} {j : Nat} {t : TypeId} {d : DataW H} (h1 : 1 ≤ K) (hw : ty.within K = true) (ht : (tyBoth P ty).1 t = true) (hb : bulkAll ds ≤ B) (hd : ds[j]? = some d) : ∀ n ∈ d.weights P t, n ≤ B * K := fun n hn =>
  Nat.le_trans ((bulk_w h1 ty hw).1 t d ht n hn) (Nat.mul_le_mul_right _ (Nat.le_trans (bulk_part hd) hb))
end
end Go.L
