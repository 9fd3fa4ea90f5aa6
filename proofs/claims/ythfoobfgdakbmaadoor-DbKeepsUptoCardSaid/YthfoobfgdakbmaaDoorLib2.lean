/- WHAT THE WALKS STAND ON, part of a proof: L14 L15 L16 L17 L18 L19 L20 L21 L22 L23 L24 L25 L26 L27 L30 L31 L32. No condition beyond what each theorem states. -/
import Derived.MapKept
import Derived.Lib.ConvBytes
import Derived.Laws.BytesString
import Derived.RangeFuncRecord
import Derived.Maps.RangeRun
import Derived.Sort.Grow
import Derived.Deep.Draws
import GoSem.ClaimJoined
import GoSem.ClaimChange
import Derived.ChangeArms
import Derived.SizedLaws
import Derived.WalkKit
import Derived.ProofKit
import Derived.OpenShut
import Derived.ShutString
import Derived.ChangeOld
import Derived.Below
import Derived.Carry
import Derived.Test.YthfoobfgdakbmaaDoorLib1
set_option linter.unusedVariables false
set_option linter.unusedSimpArgs false
namespace Go.L
open Go Go.RowKit

def takenB (ops : Array Oper) (g : Option (Nat × Bool)) (regs : Fr) : Bool :=
  match g with
  | none => true
  | some (g, b) => match guardReg ops g regs with
    | some (.bool c) => c == b
    | _ => false
def leftB (ops : Array Oper) (g : Option (Nat × Bool)) (regs : Fr) : Bool :=
  match g with
  | none => false
  | some (g, b) => match guardReg ops g regs with
    | some (.bool c) => c == !b
    | some .skp => true
    | _ => false
theorem taken_of {ops : Array Oper} {o : Oper} {regs : Fr} (h : takenB ops o.guard regs = true) : Taken ops o regs := by
  unfold takenB at h
  unfold Taken
  split at h
  · rename_i e; rw [e]; trivial
  · rename_i g b e
    rw [e]
    split at h
    · rename_i c hc
      simp only [beq_iff_eq] at h
      subst h
      exact hc
    · cases h
theorem left_of {ops : Array Oper} {o : Oper} {regs : Fr} (h : leftB ops o.guard regs = true) : Left ops o regs := by
  unfold leftB at h
  unfold Left
  split at h
  · cases h
  · rename_i g b e
    rw [e]
    split at h
    · rename_i c hc
      simp only [beq_iff_eq] at h
      subst h
      exact .inr hc
    · rename_i hc; exact .inl hc
    · cases h

theorem keptH_nil {pend : Pends} {L L' : Hp} : keptH [] pend L L' := fun _ h => nomatch h

def partsO (regs : Fr) : List (Nat × Operand) → Option (List (Nat × LV))
  | [] => some []
  | (i, x) :: r => match opdO regs x with
    | none => none
    | some v => match partsO regs r with
      | none => none
      | some l => some ((i, v) :: l)
theorem partsO_spec {regs : Fr} : ∀ {ps : List (Nat × Operand)} {es : List (Nat × LV)}, partsO regs ps = some es → (ps.map fun (i, x) => (i, opdV regs x)) = es
  | [], es, h => by simp only [partsO, Option.some.injEq] at h; subst h; rfl
  | (i, x) :: r, es, h => by
    simp only [partsO] at h
    split at h
    · cases h
    · rename_i v hv
      split at h
      · cases h
      · rename_i l hl
        injection h with h; subst h
        simp only [List.map_cons, opdV_of hv, partsO_spec hl]
def argsO (regs : Fr) : List Operand → Option (List LV)
  | [] => some []
  | x :: r => match opdO regs x with
    | none => none
    | some v => match argsO regs r with
      | none => none
      | some l => some (v :: l)
theorem argsO_spec {regs : Fr} : ∀ {ps : List Operand} {es : List LV}, argsO regs ps = some es → ps.map (opdV regs) = es
  | [], es, h => by simp only [argsO, Option.some.injEq] at h; subst h; rfl
  | x :: r, es, h => by
    simp only [argsO] at h
    split at h
    · cases h
    · rename_i v hv
      split at h
      · cases h
      · rename_i l hl
        injection h with h; subst h
        simp only [List.map_cons, opdV_of hv, argsO_spec hl]
def optO (regs : Fr) (d : Int) : Option Operand → Option Int
  | none => some d
  | some x => match opdO regs x with
    | some (.int _ n) => some n
    | _ => none
theorem optO_spec {regs : Fr} {d a : Int} {x : Option Operand} (h : optO regs d x = some a) : optOk regs x = true ∧ optI regs d x = a := by
  cases x with
  | none => simp only [optO, Option.some.injEq] at h; subst h; exact ⟨rfl, rfl⟩
  | some x =>
    simp only [optO] at h
    split at h
    · rename_i k n hv
      injection h with h; subst h
      simp [optOk, optI, opdV_of hv]
    · cases h

section
variable {P : Program} {ops : Array Oper} {Q : HQ} {p : Plan} {pend : Pends} {regs : Fr} {L : Hp} {T : Tk} {i : Nat} {U : List Nat}
  {d : Option Tmp} {ty : TypeId} {pos : String} {af : Array Edge} {g : Option (Nat × Bool)}

theorem HPlan.fin (h : Q .normal regs L T) : HPlan P ops Q .done pend regs L T := h
theorem HPlan.both {p q : Plan} (h : HPlan P ops Q p pend regs L T) (k : HPlan P ops Q q pend regs L T) : HPlan P ops Q (.alt p q) pend regs L T := ⟨h, k⟩
theorem HPlan.leftR {op : Op} (ho : ops[i]? = some ⟨d, op, ty, pos, af, g⟩) (ht : leftB ops g regs = true) (k : HPlan P ops Q p pend (setR d .skp regs) L T) : HPlan P ops Q (.rd i p) pend regs L T :=
  ⟨_, ho, .inl ⟨left_of ht, k⟩⟩
theorem HPlan.leftA {op : Op} (ho : ops[i]? = some ⟨d, op, ty, pos, af, g⟩) (ht : leftB ops g regs = true) (k : HPlan P ops Q p pend (setR d .skp regs) L T) : HPlan P ops Q (.act i U p) pend regs L T :=
  ⟨_, ho, .inl ⟨left_of ht, k⟩⟩
theorem HPlan.rd0 {op : Op} {l : LV} (ho : ops[i]? = some ⟨d, op, ty, pos, af, g⟩) (ht : takenB ops g regs = true) (hdep : depOp op = false) (hr : ∀ st, Reads P st regs ⟨d, op, ty, pos, af, g⟩ l [])
    (k : HPlan P ops Q p pend (setR d l regs) L T) : HPlan P ops Q (.rd i p) pend regs L T :=
  ⟨_, ho, .inr ⟨taken_of ht, l, [], fun _ => rfl, fun st _ => hr st, by simp only [hdep]; exact k⟩⟩
theorem HPlan.rdd {op : Op} {l : LV} {deps : List Nat} (ho : ops[i]? = some ⟨d, op, ty, pos, af, g⟩) (ht : takenB ops g regs = true) (hdep : depOp op = true) (hr : HReads P regs L T ⟨d, op, ty, pos, af, g⟩ l deps)
    (k : HPlan P ops Q p ((i, deps) :: pend) (setR d l regs) L T) : HPlan P ops Q (.rd i p) pend regs L T :=
  ⟨_, ho, .inr ⟨taken_of ht, l, deps, fun e => (by rw [hdep] at e; cases e), hr, by simp only [hdep]; exact k⟩⟩
theorem HPlan.actd {op : Op} (ho : ops[i]? = some ⟨d, op, ty, pos, af, g⟩) (ht : takenB ops g regs = true) (h : HDoes P regs L T ⟨d, op, ty, pos, af, g⟩ (fun l L' T' => keptH U pend L L' ∧ HPlan P ops Q p pend (setR d l regs) L' T')) :
    HPlan P ops Q (.act i U p) pend regs L T := ⟨_, ho, .inr ⟨taken_of ht, h⟩⟩

/-! ### Reading -/
theorem HPlan.move {x : Operand} {v : LV} (ho : ops[i]? = some ⟨d, .move x, ty, pos, af, g⟩) (ht : takenB ops g regs = true) (hv' : opdO regs x = some (v)) (k : HPlan P ops Q p pend (setR d v regs) L T) : HPlan P ops Q (.rd i p) pend regs L T := by
  have hv := opdV_of hv'
  subst hv; exact .rd0 ho ht rfl (fun st => reads_move rfl) k
theorem HPlan.assign {x : Operand} {v : LV} (ho : ops[i]? = some ⟨d, .assign x, ty, pos, af, g⟩) (ht : takenB ops g regs = true) (hv' : opdO regs x = some (v)) (k : HPlan P ops Q p pend (setR d v regs) L T) : HPlan P ops Q (.rd i p) pend regs L T := by
  have hv := opdV_of hv'
  subst hv; exact .rd0 ho ht rfl (fun st => reads_assign rfl) k
theorem HPlan.pick {c x y : Operand} {b : Bool} {vx vy v : LV} (ho : ops[i]? = some ⟨d, .pick c x y, ty, pos, af, g⟩) (ht : takenB ops g regs = true) (hc : opdO regs c = some (.bool b)) (hx : opdO regs x = some vx) (hy : opdO regs y = some vy) (hv : (if b then vx else vy) = v)
    (k : HPlan P ops Q p pend (setR d v regs) L T) : HPlan P ops Q (.rd i p) pend regs L T := by
  subst hv
  refine .rd0 ho ht rfl (fun st => ?_) k
  have := reads_pick (P := P) (st := st) (regs := regs) (o := ⟨d, .pick c x y, ty, pos, af, g⟩) rfl (by rw [opdV_of hc]; rfl)
  rw [opdV_of hc, opdV_of hx, opdV_of hy] at this; exact this
theorem HPlan.pickT {c x y : Operand} {v : LV} (ho : ops[i]? = some ⟨d, .pick c x y, ty, pos, af, g⟩) (ht : takenB ops g regs = true) (hc : opdO regs c = some (.bool true)) (hx : opdO regs x = some v)
    (k : HPlan P ops Q p pend (setR d v regs) L T) : HPlan P ops Q (.rd i p) pend regs L T := by
  refine .rd0 ho ht rfl (fun st => ?_) k
  have := reads_pick (P := P) (st := st) (regs := regs) (o := ⟨d, .pick c x y, ty, pos, af, g⟩) rfl (by rw [opdV_of hc]; rfl)
  rw [opdV_of hc, opdV_of hx] at this; exact this
theorem HPlan.pickF {c x y : Operand} {v : LV} (ho : ops[i]? = some ⟨d, .pick c x y, ty, pos, af, g⟩) (ht : takenB ops g regs = true) (hc : opdO regs c = some (.bool false)) (hy : opdO regs y = some v)
    (k : HPlan P ops Q p pend (setR d v regs) L T) : HPlan P ops Q (.rd i p) pend regs L T := by
  refine .rd0 ho ht rfl (fun st => ?_) k
  have := reads_pick (P := P) (st := st) (regs := regs) (o := ⟨d, .pick c x y, ty, pos, af, g⟩) rfl (by rw [opdV_of hc]; rfl)
  rw [opdV_of hc, opdV_of hy] at this; exact this
theorem HPlan.nilCheck {x : Operand} {v : LV} (ho : ops[i]? = some ⟨d, .nilCheck x, ty, pos, af, g⟩) (ht : takenB ops g regs = true) (hv' : opdO regs x = some (v)) (hn : (v.isAddr || v.isFn) = true) (k : HPlan P ops Q p pend (setR d v regs) L T) :
    HPlan P ops Q (.rd i p) pend regs L T := by
  have hv := opdV_of hv'
  subst hv; exact .rd0 ho ht rfl (fun st => reads_nilCheck rfl (by rw [Bool.or_eq_true] at hn; exact hn)) k
theorem HPlan.fieldAddr {s f n : Nat} {x : Operand} {a v : LV} (ho : ops[i]? = some ⟨d, .fieldAddr s x f, ty, pos, af, g⟩) (ht : takenB ops g regs = true) (hx' : opdO regs x = some (a)) (ha : a.isAddr = true) (hf : fieldOff P s f = some n) (hv : offs a n = v)
    (k : HPlan P ops Q p pend (setR d v regs) L T) : HPlan P ops Q (.rd i p) pend regs L T := by
  have hx := opdV_of hx'
  subst hv; subst hx; exact .rd0 ho ht rfl (fun st => reads_fieldAddr rfl hf ha) k
theorem HPlan.indexArr {t n e : Nat} {x y : Operand} {a v : LV} {ki : IntKind} {j : Int} (ho : ops[i]? = some ⟨d, .indexAddr t x y, ty, pos, af, g⟩) (ht : takenB ops g regs = true) (hx' : opdO regs x = some (a)) (hy' : opdO regs y = some (.int ki j)) (ha : a.isAddr = true)
    (hi : indexIn P t = some (some n, e)) (h0 : 0 ≤ j) (h1 : j < n) (hv : offs a (j.toNat * e) = v) (k : HPlan P ops Q p pend (setR d v regs) L T) : HPlan P ops Q (.rd i p) pend regs L T := by
  have hx := opdV_of hx'
  have hy := opdV_of hy'
  subst hv; subst hx
  refine .rd0 ho ht rfl (fun st => ?_) k
  have := reads_indexArr (P := P) (st := st) (regs := regs) (o := ⟨d, .indexAddr t x y, ty, pos, af, g⟩) rfl hi ha (by rw [hy]; rfl) (by rw [hy]; exact h0) (by rw [hy]; exact h1)
  rw [hy] at this; exact this
theorem HPlan.indexSl {t e : Nat} {x y : Operand} {s v : LV} {ki : IntKind} {j : Int} (ho : ops[i]? = some ⟨d, .indexAddr t x y, ty, pos, af, g⟩) (ht : takenB ops g regs = true) (hx' : opdO regs x = some (s)) (hy' : opdO regs y = some (.int ki j))
    (hi : indexIn P t = some (none, e)) (hs : s.isSl e = true) (h0 : 0 ≤ j) (h1 : j < s.els.length) (hv : s.els.getD j.toNat .und = v) (k : HPlan P ops Q p pend (setR d (.imm v 0) regs) L T) : HPlan P ops Q (.rd i p) pend regs L T := by
  have hx := opdV_of hx'
  have hy := opdV_of hy'
  subst hv; subst hx
  refine .rd0 ho ht rfl (fun st => ?_) k
  have := reads_indexSl (P := P) (st := st) (regs := regs) (o := ⟨d, .indexAddr t x y, ty, pos, af, g⟩) rfl hi hs (by rw [hy]; rfl) (by rw [hy]; exact h0) (by rw [hy]; exact h1)
  rw [hy] at this; exact this
theorem HPlan.indexAgg {t n e : Nat} {ag : Bool} {x y : Operand} {cs : List LV} {v : LV} {ki : IntKind} {j : Int} (ho : ops[i]? = some ⟨d, .index t x y, ty, pos, af, g⟩) (ht : takenB ops g regs = true) (hx' : opdO regs x = some (.agg cs)) (hy' : opdO regs y = some (.int ki j))
    (hi : arrIn P t = some (n, ag, e)) (he : 0 < e) (hs : cs.length = n * e) (h0 : 0 ≤ j) (h1 : j < n) (hv : partV ag e (j.toNat * e) cs = v) (k : HPlan P ops Q p pend (setR d v regs) L T) : HPlan P ops Q (.rd i p) pend regs L T := by
  have hx := opdV_of hx'
  have hy := opdV_of hy'
  subst hv
  refine .rd0 ho ht rfl (fun st => ?_) k
  have := reads_indexAgg (P := P) (st := st) (regs := regs) (o := ⟨d, .index t x y, ty, pos, af, g⟩) rfl hi he (by rw [hx]; simp [hs]) (by rw [hy]; rfl) (by rw [hy]; exact h0) (by rw [hy]; exact h1)
  rw [hx, hy] at this; exact this
theorem HPlan.indexStr {t : Nat} {x y : Operand} {s : ByteArray} {v : LV} {ki : IntKind} {j : Int} (ho : ops[i]? = some ⟨d, .index t x y, ty, pos, af, g⟩) (ht : takenB ops g regs = true) (hx' : opdO regs x = some (.str s)) (hy' : opdO regs y = some (.int ki j))
    (hi : isStrTy P t = true) (h0 : 0 ≤ j) (h1 : j < s.size) (hv : .int .u8 (byteAt s j) = v) (k : HPlan P ops Q p pend (setR d v regs) L T) : HPlan P ops Q (.rd i p) pend regs L T := by
  have hx := opdV_of hx'
  have hy := opdV_of hy'
  subst hv
  refine .rd0 ho ht rfl (fun st => ?_) k
  have := reads_indexStr (P := P) (st := st) (regs := regs) (o := ⟨d, .index t x y, ty, pos, af, g⟩) rfl hi (by rw [hx]; rfl) (by rw [hy]; rfl) (by rw [hy]; exact h0) (by rw [hx, hy]; exact h1)
  rw [hx, hy] at this; exact this
theorem HPlan.field {s f off n : Nat} {ag : Bool} {x : Operand} {cs : List LV} {v : LV} (ho : ops[i]? = some ⟨d, .field s x f, ty, pos, af, g⟩) (ht : takenB ops g regs = true) (hx' : opdO regs x = some (.agg cs)) (hf : fieldIn P s f = some (off, ag, n))
    (hl : off + (bif ag then n else 1) ≤ cs.length) (hv : partV ag n off cs = v) (k : HPlan P ops Q p pend (setR d v regs) L T) : HPlan P ops Q (.rd i p) pend regs L T := by
  have hx := opdV_of hx'
  subst hv
  refine .rd0 ho ht rfl (fun st => ?_) k
  have := reads_field (P := P) (st := st) (regs := regs) (o := ⟨d, .field s x f, ty, pos, af, g⟩) (m := cs.length) rfl hf (by rw [hx]; simp) hl
  rw [hx] at this; exact this
theorem HPlan.extract {x : Operand} {n : Nat} {vs : List LV} {v : LV} (ho : ops[i]? = some ⟨d, .extract x n, ty, pos, af, g⟩) (ht : takenB ops g regs = true) (hx' : opdO regs x = some (.tup vs)) (hv : vs[n]? = some v) (k : HPlan P ops Q p pend (setR d v regs) L T) :
    HPlan P ops Q (.rd i p) pend regs L T := by
  have hx := opdV_of hx'
  refine .rd0 ho ht rfl (fun st => ?_) k
  have := reads_extract (P := P) (st := st) (regs := regs) (o := ⟨d, .extract x n, ty, pos, af, g⟩) rfl (by rw [hx]; have := (List.getElem?_eq_some_iff.1 hv).1; simp [this])
  rw [hx] at this; simpa [List.getD_eq_getElem?_getD, hv] using this
theorem HPlan.makeFunc {f : Fn} {xs ys : Array Operand} {bs_ bs : List LV} (ho : ops[i]? = some ⟨d, .makeFunc f xs ys, ty, pos, af, g⟩) (ht : takenB ops g regs = true) (hx : argsO regs xs.toList = some bs_) (hy : argsO regs ys.toList = some bs) (k : HPlan P ops Q p pend (setR d (.fn f bs_ bs) regs) L T) :
    HPlan P ops Q (.rd i p) pend regs L T := by
  have := fun st => reads_makeFunc (P := P) (st := st) (regs := regs) (o := ⟨d, .makeFunc f xs ys, ty, pos, af, g⟩) rfl
  rw [argsO_spec hx, argsO_spec hy] at this
  exact .rd0 ho ht rfl this k
theorem HPlan.build {t : Nat} {ps : Array (Nat × Operand)} {es : List (Nat × LV)} {place : Nat → Option (Nat × Nat)} {z v : LV} (ho : ops[i]? = some ⟨d, .build t ps, ty, pos, af, g⟩) (ht : takenB ops g regs = true) (hps : partsO regs ps.toList = some es) (hz : zeroOf P t = some z) (hzs : z.solid = true) (hp : placesOf P t = some place)
    (hok : fillOk place z.cells.length es) (hv : buildV place z es = v) (k : HPlan P ops Q p pend (setR d v regs) L T) : HPlan P ops Q (.rd i p) pend regs L T := by
  have e : evalParts regs ps = es := partsO_spec hps
  subst hv; subst e; exact .rd0 ho ht rfl (fun st => reads_build rfl hz hzs hp hok) k
theorem HPlan.intBin {op : BinOp} {t t' : Nat} {x y : Operand} {ka kb : IntKind} {a b : Int} {v : LV} (ho : ops[i]? = some ⟨d, .binOp op t x y t', ty, pos, af, g⟩) (ht : takenB ops g regs = true) (hx' : opdO regs x = some (.int ka a)) (hy' : opdO regs y = some (.int kb b))
    (ok : intBinOk op ka kb b) (hv : intBin op ka a b = v) (k : HPlan P ops Q p pend (setR d v regs) L T) : HPlan P ops Q (.rd i p) pend regs L T := by
  have hx := opdV_of hx'
  have hy := opdV_of hy'
  subst hv; exact .rd0 ho ht rfl (fun st => reads_intBin rfl hx hy ok) k
theorem HPlan.strBin {op : BinOp} {t t' : Nat} {x y : Operand} {a b : ByteArray} {v : LV} (ho : ops[i]? = some ⟨d, .binOp op t x y t', ty, pos, af, g⟩) (ht : takenB ops g regs = true) (hx' : opdO regs x = some (.str a)) (hy' : opdO regs y = some (.str b))
    (ok : strBinOk op a b) (hv : strBin op a b = v) (k : HPlan P ops Q p pend (setR d v regs) L T) : HPlan P ops Q (.rd i p) pend regs L T := by
  have hx := opdV_of hx'
  have hy := opdV_of hy'
  subst hv; exact .rd0 ho ht rfl (fun st => reads_strBin rfl hx hy ok) k
theorem HPlan.boolEq {t t' : Nat} {x y : Operand} {a b : Bool} (ho : ops[i]? = some ⟨d, .binOp .eql t x y t', ty, pos, af, g⟩) (ht : takenB ops g regs = true) (hx' : opdO regs x = some (.bool a)) (hy' : opdO regs y = some (.bool b))
    (hb : (match P.underlying t with | some .bool => true | _ => false) = true) (k : HPlan P ops Q p pend (setR d (.bool (a == b)) regs) L T) : HPlan P ops Q (.rd i p) pend regs L T := by
  have hx := opdV_of hx'
  have hy := opdV_of hy'
  exact .rd0 ho ht rfl (fun st => reads_boolEq (op := .eql) rfl hx hy (.inl rfl) hb) k
theorem HPlan.boolNe {t t' : Nat} {x y : Operand} {a b : Bool} (ho : ops[i]? = some ⟨d, .binOp .neq t x y t', ty, pos, af, g⟩) (ht : takenB ops g regs = true) (hx' : opdO regs x = some (.bool a)) (hy' : opdO regs y = some (.bool b))
    (hb : (match P.underlying t with | some .bool => true | _ => false) = true) (k : HPlan P ops Q p pend (setR d (.bool (!(a == b))) regs) L T) : HPlan P ops Q (.rd i p) pend regs L T := by
  have hx := opdV_of hx'
  have hy := opdV_of hy'
  exact .rd0 ho ht rfl (fun st => reads_boolEq (op := .neq) rfl hx hy (.inr rfl) hb) k
theorem HPlan.aggEq {t t' m n : Nat} {ks : List CK} {x y : Operand} {a b : List LV} {v : Bool} (ho : ops[i]? = some ⟨d, .binOp .eql t x y t', ty, pos, af, g⟩) (ht : takenB ops g regs = true) (hx' : opdO regs x = some (.agg a)) (hy' : opdO regs y = some (.agg b))
    (hs : shapeOf P t = some (true, n)) (hk : kindsOf P m t = some ks) (hm : m ≤ 10000) (hg : P.eqGuardType P.depth t = false) (la : a.length = n) (lb : b.length = n) (fx : fitsAll ks a = true) (fy : fitsAll ks b = true) (hv : flatEq a b = v)
    (k : HPlan P ops Q p pend (setR d (.bool v) regs) L T) : HPlan P ops Q (.rd i p) pend regs L T := by
  have hx := opdV_of hx'
  have hy := opdV_of hy'
  subst hv
  refine .rd0 ho ht rfl (fun st => ?_) k
  have := reads_aggEq (P := P) (st := st) (regs := regs) (o := ⟨d, .binOp .eql t x y t', ty, pos, af, g⟩) (op := .eql) rfl (.inl rfl) hs hk hm hg (by rw [hx]; simp [la]) (by rw [hy]; simp [lb]) (by rw [hx]; exact fx) (by rw [hy]; exact fy)
  rw [hx, hy] at this; exact this
theorem HPlan.aggNe {t t' m n : Nat} {ks : List CK} {x y : Operand} {a b : List LV} {v : Bool} (ho : ops[i]? = some ⟨d, .binOp .neq t x y t', ty, pos, af, g⟩) (ht : takenB ops g regs = true) (hx' : opdO regs x = some (.agg a)) (hy' : opdO regs y = some (.agg b))
    (hs : shapeOf P t = some (true, n)) (hk : kindsOf P m t = some ks) (hm : m ≤ 10000) (hg : P.eqGuardType P.depth t = false) (la : a.length = n) (lb : b.length = n) (fx : fitsAll ks a = true) (fy : fitsAll ks b = true) (hv : flatEq a b = v)
    (k : HPlan P ops Q p pend (setR d (.bool !v) regs) L T) : HPlan P ops Q (.rd i p) pend regs L T := by
  have hx := opdV_of hx'
  have hy := opdV_of hy'
  subst hv
  refine .rd0 ho ht rfl (fun st => ?_) k
  have := reads_aggEq (P := P) (st := st) (regs := regs) (o := ⟨d, .binOp .neq t x y t', ty, pos, af, g⟩) (op := .neq) rfl (.inr rfl) hs hk hm hg (by rw [hx]; simp [la]) (by rw [hy]; simp [lb]) (by rw [hx]; exact fx) (by rw [hy]; exact fy)
  rw [hx, hy] at this; exact this
theorem HPlan.nilEq {t t' : Nat} {x y : Operand} {a b : LV} {v : Bool} (ho : ops[i]? = some ⟨d, .binOp .eql t x y t', ty, pos, af, g⟩) (ht : takenB ops g regs = true) (hx' : opdO regs x = some (a)) (hy' : opdO regs y = some (b)) (ha : nilTy P t a = true) (hn : b.isNil = true)
    (hb : nilTy P t b = true) (hv : a.isNil = v) (k : HPlan P ops Q p pend (setR d (.bool v) regs) L T) : HPlan P ops Q (.rd i p) pend regs L T := by
  have hx := opdV_of hx'
  have hy := opdV_of hy'
  subst hv; subst hx; subst hy
  exact .rd0 ho ht rfl (fun st => reads_nilEq (op := .eql) rfl (.inl rfl) ha hn hb) k
theorem HPlan.nilNe {t t' : Nat} {x y : Operand} {a b : LV} {v : Bool} (ho : ops[i]? = some ⟨d, .binOp .neq t x y t', ty, pos, af, g⟩) (ht : takenB ops g regs = true) (hx' : opdO regs x = some (a)) (hy' : opdO regs y = some (b)) (ha : nilTy P t a = true) (hn : b.isNil = true)
    (hb : nilTy P t b = true) (hv : (!a.isNil) = v) (k : HPlan P ops Q p pend (setR d (.bool v) regs) L T) : HPlan P ops Q (.rd i p) pend regs L T := by
  have hx := opdV_of hx'
  have hy := opdV_of hy'
  subst hv; subst hx; subst hy
  exact .rd0 ho ht rfl (fun st => reads_nilEq (op := .neq) rfl (.inr rfl) ha hn hb) k
theorem HPlan.not {t : Nat} {x : Operand} {a v : Bool} (ho : ops[i]? = some ⟨d, .unOp .not t x, ty, pos, af, g⟩) (ht : takenB ops g regs = true) (hx' : opdO regs x = some (.bool a)) (hv : (!a) = v) (k : HPlan P ops Q p pend (setR d (.bool v) regs) L T) :
    HPlan P ops Q (.rd i p) pend regs L T := by
  have hx := opdV_of hx'
  subst hv
  refine .rd0 ho ht rfl (fun st => ?_) k
  have := reads_not (P := P) (st := st) (regs := regs) (o := ⟨d, .unOp .not t x, ty, pos, af, g⟩) rfl (by rw [hx]; rfl)
  rw [hx] at this; exact this
theorem HPlan.neg {t : Nat} {x : Operand} {ka : IntKind} {a : Int} {v : LV} (ho : ops[i]? = some ⟨d, .unOp .neg t x, ty, pos, af, g⟩) (ht : takenB ops g regs = true) (hx' : opdO regs x = some (.int ka a)) (hv : .int ka (ka.wrap (-a)) = v)
    (k : HPlan P ops Q p pend (setR d v regs) L T) : HPlan P ops Q (.rd i p) pend regs L T := by
  have hx := opdV_of hx'
  subst hv; exact .rd0 ho ht rfl (fun st => reads_neg rfl hx) k
theorem HPlan.compl {t : Nat} {x : Operand} {ka : IntKind} {a : Int} {v : LV} (ho : ops[i]? = some ⟨d, .unOp .xor t x, ty, pos, af, g⟩) (ht : takenB ops g regs = true) (hx' : opdO regs x = some (.int ka a)) (hv : .int ka (bitI .xor ka (if ka.signed then -1 else ka.max) a) = v)
    (k : HPlan P ops Q p pend (setR d v regs) L T) : HPlan P ops Q (.rd i p) pend regs L T := by
  have hx := opdV_of hx'
  subst hv; exact .rd0 ho ht rfl (fun st => reads_compl rfl hx) k
theorem HPlan.intConv {s t : Nat} {x : Operand} {ka kb : IntKind} {a : Int} {v : LV} (ho : ops[i]? = some ⟨d, .convert s t x, ty, pos, af, g⟩) (ht : takenB ops g regs = true) (hx' : opdO regs x = some (.int ka a)) (hs : (P.underlying s).isSome = true) (hd : intTy P t = some kb)
    (hv : .int kb (kb.wrap a) = v) (k : HPlan P ops Q p ((i, []) :: pend) (setR d v regs) L T) : HPlan P ops Q (.rd i p) pend regs L T := by
  have hx := opdV_of hx'
  subst hv; exact .rdd ho ht rfl (fun st _ => reads_intConv rfl hs hd hx) k
theorem HPlan.strConv {s t : Nat} {x : Operand} {a : ByteArray} (ho : ops[i]? = some ⟨d, .convert s t x, ty, pos, af, g⟩) (ht : takenB ops g regs = true) (hx' : opdO regs x = some (.str a)) (hs : (P.underlying s).isSome = true) (hd : isStrTy P t = true)
    (k : HPlan P ops Q p ((i, []) :: pend) (setR d (.str a) regs) L T) : HPlan P ops Q (.rd i p) pend regs L T := by
  have hx := opdV_of hx'
  exact .rdd ho ht rfl (fun st _ => reads_strConv rfl hs hd hx) k
theorem HPlan.len {x : Operand} {t : Nat} {a v : LV} (ho : ops[i]? = some ⟨d, .call { callee := .builtin .len, args := #[x], argTypes := #[t] }, ty, pos, af, g⟩) (ht : takenB ops g regs = true) (hx' : opdO regs x = some (a)) (hl : lenTy P t a = true) (hv : .int .i64 (lenV a) = v)
    (k : HPlan P ops Q p ((i, []) :: pend) (setR d v regs) L T) : HPlan P ops Q (.rd i p) pend regs L T := by
  have hx := opdV_of hx'
  subst hv; subst hx
  exact .rdd ho ht rfl (fun st _ => reads_len rfl hl) k
theorem HPlan.min {x y : Operand} {ts : Array Nat} {ka kb : IntKind} {a b : Int} {v : LV} (ho : ops[i]? = some ⟨d, .call { callee := .builtin .min, args := #[x, y], argTypes := ts }, ty, pos, af, g⟩) (ht : takenB ops g regs = true) (hx' : opdO regs x = some (.int ka a)) (hy' : opdO regs y = some (.int kb b))
    (hv : .int ka (if b < a then b else a) = v) (k : HPlan P ops Q p ((i, []) :: pend) (setR d v regs) L T) : HPlan P ops Q (.rd i p) pend regs L T := by
  have hx := opdV_of hx'
  have hy := opdV_of hy'
  subst hv
  exact .rdd ho ht rfl (fun st _ => reads_min rfl hx hy) k
theorem HPlan.subStr {t : Nat} {x : Operand} {lo hi : Option Operand} {s : ByteArray} {a b : Int} {v : LV} (ho : ops[i]? = some ⟨d, .slice t x lo hi none, ty, pos, af, g⟩) (ht : takenB ops g regs = true) (hx : opdO regs x = some (.str s))
    (ha : optO regs 0 lo = some a) (hb : optO regs s.size hi = some b) (hs : isStrTy P t = true) (hl : 0 ≤ a) (hlh : a ≤ b) (hh : b ≤ s.size) (hv : .str (s.extract a.toNat b.toNat) = v) (k : HPlan P ops Q p pend (setR d v regs) L T) : HPlan P ops Q (.rd i p) pend regs L T := by
  obtain ⟨h1, rfl⟩ := optO_spec ha
  obtain ⟨h2, rfl⟩ := optO_spec hb
  subst hv
  exact .rd0 ho ht rfl (fun st => reads_subStr rfl hs (opdV_of hx) h1 h2 hl hlh hh) k
theorem HPlan.subSl {t e : Nat} {x : Operand} {lo hi : Option Operand} {ow : Own} {es : List LV} {a b : Int} {v : LV} (ho : ops[i]? = some ⟨d, .slice t x lo hi none, ty, pos, af, g⟩) (ht : takenB ops g regs = true) (hx : opdO regs x = some (.sl ow e es))
    (ha : optO regs 0 lo = some a) (hb : optO regs es.length hi = some b) (hs : sliceTy P t = some e) (hl : 0 ≤ a) (hlh : a ≤ b) (hh : b ≤ es.length)
    (hv : .sl (cutOwn ow es.length b.toNat) e ((es.drop a.toNat).take (b.toNat - a.toNat)) = v) (k : HPlan P ops Q p pend (setR d v regs) L T) : HPlan P ops Q (.rd i p) pend regs L T := by
  obtain ⟨h1, rfl⟩ := optO_spec ha
  obtain ⟨h2, rfl⟩ := optO_spec hb
  subst hv
  exact .rd0 ho ht rfl (fun st => reads_subSl rfl hs (opdV_of hx) h1 h2 hl hlh hh) k
/-! ### Looking at objects -/
theorem HPlan.load {t n id off oty ver : Nat} {ag : Bool} {x : Operand} {cs : List LV} {v : LV} (ho : ops[i]? = some ⟨d, .load t x, ty, pos, af, g⟩) (ht : takenB ops g regs = true) (hx' : opdO regs x = some (.ref id off)) (hs : shapeOf P t = some (ag, n)) (hm : (id, .cells oty cs ver) ∈ L)
    (hn : off + (bif ag then n else 1) ≤ cs.length ∧ off < cs.length) (hv : (bif ag then .agg ((cs.drop off).take n) else (cs.drop off).headD .und) = v) (k : HPlan P ops Q p ((i, [id]) :: pend) (setR d v regs) L T) : HPlan P ops Q (.rd i p) pend regs L T := by
  have hx := opdV_of hx'
  subst hv
  refine .rdd ho ht rfl (fun st hst => ?_) k
  have hat : cellsAt st (.ref id off) = cs.drop off := by simp [objCells, hst.obj _ hm]
  have := reads_load (P := P) (st := st) (regs := regs) (o := ⟨d, .load t x, ty, pos, af, g⟩) rfl hs (by rw [hx]; unfold loadOk; rw [hat, List.length_drop]; omega)
  rw [hx] at this
  simpa [loadV, hat, depsOf] using this
theorem HPlan.loadI {t n off : Nat} {ag : Bool} {x : Operand} {l v : LV} (ho : ops[i]? = some ⟨d, .load t x, ty, pos, af, g⟩) (ht : takenB ops g regs = true) (hx' : opdO regs x = some (.imm l off)) (hs : shapeOf P t = some (ag, n))
    (hn : off + (bif ag then n else 1) ≤ l.cells.length ∧ off < l.cells.length) (hv : (bif ag then .agg ((l.cells.drop off).take n) else (l.cells.drop off).headD .und) = v) (k : HPlan P ops Q p ((i, []) :: pend) (setR d v regs) L T) : HPlan P ops Q (.rd i p) pend regs L T := by
  have hx := opdV_of hx'
  subst hv
  refine .rdd ho ht rfl (fun st hst => ?_) k
  have := reads_load (P := P) (st := st) (regs := regs) (o := ⟨d, .load t x, ty, pos, af, g⟩) rfl hs (by rw [hx]; unfold loadOk; simp; omega)
  rw [hx] at this
  simpa [loadV, depsOf] using this

/-! ### Acting -/
theorem HPlan.box {t : Nat} {x : Operand} {l : LV} (ho : ops[i]? = some ⟨d, .box t x, ty, pos, af, g⟩) (ht : takenB ops g regs = true) (hx' : opdO regs x = some (l)) (hs : l.solid = true)
    (k : ∀ id, keptH U pend L ((id, .cells t l.cells 0) :: L) ∧ HPlan P ops Q p pend (setR d (.ref id 0) regs) ((id, .cells t l.cells 0) :: L) T) : HPlan P ops Q (.act i U p) pend regs L T := by
  have hx := opdV_of hx'
  subst hx
  refine .actd ho ht fun st hst => does_box rfl hs ⟨_, T, ?_, k st.heap.length⟩
  refine ⟨fun q hq => ?_, hst.tok, ?_, hst.nt⟩
  · rcases List.mem_cons.1 hq with rfl | hq
    · simp [St.push]
    · have := hst.obj q hq
      simp only [St.push]
      rw [List.getElem?_append_left (List.getElem?_eq_some_iff.1 this).1]; exact this
  · rw [List.map_cons, List.nodup_cons]
    refine ⟨fun hm => ?_, hst.nd⟩
    obtain ⟨q, hq, e⟩ := List.mem_map.1 hm
    have := (List.getElem?_eq_some_iff.1 (hst.obj q hq)).1
    simp only at e; omega
theorem HPlan.alloc {t : Nat} {z : LV} (ho : ops[i]? = some ⟨d, .alloc t, ty, pos, af, g⟩) (ht : takenB ops g regs = true) (hz : zeroOf P t = some z) (hs : z.solid = true)
    (k : ∀ id, keptH U pend L ((id, .cells t z.cells 0) :: L) ∧ HPlan P ops Q p pend (setR d (.ref id 0) regs) ((id, .cells t z.cells 0) :: L) T) : HPlan P ops Q (.act i U p) pend regs L T := by
  refine .actd ho ht fun st hst => does_alloc rfl hz hs ⟨_, T, ?_, k st.heap.length⟩
  refine ⟨fun q hq => ?_, hst.tok, ?_, hst.nt⟩
  · rcases List.mem_cons.1 hq with rfl | hq
    · simp [St.push]
    · have := hst.obj q hq
      simp only [St.push]
      rw [List.getElem?_append_left (List.getElem?_eq_some_iff.1 this).1]; exact this
  · rw [List.map_cons, List.nodup_cons]
    refine ⟨fun hm => ?_, hst.nd⟩
    obtain ⟨q, hq, e⟩ := List.mem_map.1 hm
    have := (List.getElem?_eq_some_iff.1 (hst.obj q hq)).1
    simp only at e; omega

/-- One entry is put in another's place. -/
inductive Upd {β : Type} (id : Nat) (o o' : β) : List (Nat × β) → List (Nat × β) → Prop where
  | here {L : List (Nat × β)} : Upd id o o' ((id, o) :: L) ((id, o') :: L)
  | there {L L' : List (Nat × β)} {q : Nat × β} (h : Upd id o o' L L') : Upd id o o' (q :: L) (q :: L')
theorem Upd.mem {β : Type} {id : Nat} {o o' : β} {L L' : List (Nat × β)} (h : Upd id o o' L L') : (id, o) ∈ L := by
  induction h with
  | here => exact List.mem_cons_self
  | there _ ih => exact List.mem_cons_of_mem _ ih
theorem Upd.keys {β : Type} {id : Nat} {o o' : β} {L L' : List (Nat × β)} (h : Upd id o o' L L') : L'.map (·.1) = L.map (·.1) := by
  induction h with
  | here => rfl
  | there _ ih => simp [ih]
theorem Upd.cases {β : Type} {id : Nat} {o o' : β} {L L' : List (Nat × β)} (h : Upd id o o' L L') (n : (L.map (·.1)).Nodup) {q : Nat × β} (hq : q ∈ L') : q = (id, o') ∨ (q ∈ L ∧ q.1 ≠ id) := by
  induction h with
  | here =>
    rename_i L
    rcases List.mem_cons.1 hq with rfl | hq
    · exact .inl rfl
    · refine .inr ⟨List.mem_cons_of_mem _ hq, fun e => ?_⟩
      rw [List.map_cons, List.nodup_cons] at n
      exact n.1 (e ▸ List.mem_map.2 ⟨q, hq, rfl⟩)
  | there h ih =>
    rename_i L L' q'
    rw [List.map_cons, List.nodup_cons] at n
    rcases List.mem_cons.1 hq with rfl | hq
    · refine .inr ⟨List.mem_cons_self, fun e => ?_⟩
      exact n.1 (e ▸ List.mem_map.2 ⟨_, h.mem, rfl⟩)
    · rcases ih n.2 hq with h | ⟨h, h'⟩
      · exact .inl h
      · exact .inr ⟨List.mem_cons_of_mem _ h, h'⟩
theorem Has.upd {st : St} {L L' : Hp} {T : Tk} {id : Nat} {o o' : LObj} (h : Has st L T) (u : Upd id o o' L L') : Has (st.put id o') L' T := by
  refine ⟨fun q hq => ?_, h.tok, by rw [u.keys]; exact h.nd, h.nt⟩
  have hid := h.obj _ u.mem
  have hlt := (List.getElem?_eq_some_iff.1 hid).1
  rcases u.cases h.nd hq with rfl | ⟨hq, hne⟩
  · simp only [St.put]; rw [List.getElem?_set, if_pos rfl, if_pos hlt]
  · simp only [St.put]; rw [List.getElem?_set, if_neg (fun e => hne e.symm)]; exact h.obj q hq

theorem HPlan.store {t n id off oty ver : Nat} {x y : Operand} {cs cs' : List LV} {l : LV} {L' : Hp} (ho : ops[i]? = some ⟨d, .store t x y, ty, pos, af, g⟩) (ht : takenB ops g regs = true) (hx' : opdO regs x = some (.ref id off)) (hy' : opdO regs y = some (l)) (hn : sizeOfT P t = some n)
    (hs : l.solid = true) (hl : l.cells.length = n) (hm : (id, .cells oty cs ver) ∈ L) (hv : splice cs off l.cells = cs') (hu : Upd id (.cells oty cs ver) (.cells oty cs' (ver + 1)) L L') (hb : off + n ≤ cs.length) (hk : keptH U pend L L')
    (k : HPlan P ops Q p pend (setR d .skp regs) L' T) : HPlan P ops Q (.act i U p) pend regs L T := by
  have hx := opdV_of hx'
  have hy := opdV_of hy'
  subst hy; subst hv
  refine .actd ho ht fun st hst => ?_
  have hid := hst.obj _ hu.mem
  refine does_store rfl hn (by rw [hx]; simp [storeOk, hs, hl, objCells, hid, hb]) ⟨L', T, ?_, hk, k⟩
  rw [hx]
  simp only [storeSt, hid]
  exact hst.upd hu
end
end Go.L

set_option linter.unusedVariables false
set_option linter.unusedSimpArgs false
namespace Go.L
open Go Go.RowKit

theorem Upd.perm {β : Type} {id : Nat} {o o' : β} {L L' : List (Nat × β)} (h : Upd id o o' L L') : ∃ M, L.Perm ((id, o) :: M) ∧ L'.Perm ((id, o') :: M) := by
  induction h with
  | here => exact ⟨_, .refl _, .refl _⟩
  | there _ ih =>
    rename_i q _
    obtain ⟨M, h1, h2⟩ := ih
    exact ⟨q :: M, (h1.cons q).trans (.swap _ _ _), (h2.cons q).trans (.swap _ _ _)⟩

/-! ### Functions that can be entered -/
def enterable (P : Program) (f : FuncId) : Bool :=
  match P.funcs[f]? with
  | none => false
  | some fn => !(fn.name == "runtime.NumGoroutine") && !fn.body.isNone
theorem run_callFunc {P : Program} {f : FuncId} (h : enterable P f = true) (args : Array Value) (w : World) : (callFunc f args).run P w = .ok (.enter f args) w := by
  unfold enterable at h
  split at h
  · cases h
  · rename_i fn hf
    simp only [Bool.and_eq_true, Bool.not_eq_true'] at h
    simp only [callFunc, Sem.run_bind, run_program, Result.andThen_ok, hf, h.1, h.2]
    rfl

section
variable {P : Program} {ops : Array Oper} {Q : HQ} {p : Plan} {pend : Pends} {regs : Fr} {L : Hp} {T : Tk} {i : Nat} {U : List Nat}
  {d : Option Tmp} {ty : TypeId} {pos : String} {af : Array Edge} {g : Option (Nat × Bool)}

/-- A function value, called. -/
def fnArgs : LV → List LV → Option (FuncId × List LV)
  | .fn (.func f) first cap, xs => some (f, first ++ xs ++ cap)
  | _, _ => none

theorem repAll_fn {G : Ghost} {vs : Array Value} {ls : List LV} (hl : vs.size = ls.length) (h : ∀ (i : Nat) (v : Value) (l : LV), vs[i]? = some v → ls[i]? = some l → Rep G v l) : RepAll G vs.toList ls :=
  ⟨by rw [Array.length_toList]; exact hl, fun i v l hv hl => h i v l (by rw [Array.getElem?_toList] at hv; exact hv) hl⟩

theorem does_call {st : St} {o : Oper} {K : LV → St → Prop} {x : Operand} {xs : Array Operand} {ts : Array Nat} {f : FuncId} {args : List LV} (h : o.op = .call { callee := .value x, args := xs, argTypes := ts })
    (hf : fnArgs (opdV regs x) (xs.toList.map (opdV regs)) = some (f, args)) (he : enterable P f = true) (k : LCalls P f args st K) : Does P st regs o K := fun G a w hR hr N Qx hn => by
  have rx := rep_opd hr x
  obtain ⟨v, hv⟩ : ∃ v, a.eval x = v := ⟨_, rfl⟩
  rw [hv] at rx
  generalize opdV regs x = l at *
  unfold fnArgs at hf
  split at hf
  · rename_i f' first cap
    injection hf with hf; injection hf with h1 h2; subst h1; subst h2
    cases rx with | @fn _ vs ws _ _ hl hm h1 h2 =>
    have hrun : (execOp a.eval o).run P w = .ok (.enter f' (vs ++ xs.map a.eval ++ ws)) w := by
      simp [execOp, h, resolve, hv, Deferred.ofValue, invoke, run_callFunc he]
    have hsem : ∀ r, Oper.semAt r a.eval o = execOp a.eval o := fun r => Oper.semAt_eq r _ o (fun c e => by
      rw [h] at e; cases e)
    intro ro
    refine ⟨fun _ _ => trivial, ?_⟩
    rw [hsem, hrun, Oper.uponIn_enter]
    refine ⟨(fun e => nomatch e), ?_⟩
    rw [callsIn_fw]
    have hxs : RepAll G (xs.map a.eval).toList (xs.toList.map (opdV regs)) := ⟨by simp, fun i v l hv hl => by
      simp only [Array.toList_map, List.getElem?_map, Option.map_eq_some_iff] at hv hl
      obtain ⟨y, hy, rfl⟩ := hv
      obtain ⟨z, hz, rfl⟩ := hl
      rw [hy] at hz; injection hz with hz; subst hz
      exact rep_opd hr _⟩
    have hall : RepAll G (vs.toList ++ (xs.map a.eval).toList ++ ws.toList) (first ++ xs.toList.map (opdV regs) ++ cap) := ((repAll_fn hl h1).append hxs).append (repAll_fn hm h2)
    have := k G _ w hR hall
    simp only [← Array.toList_append, Array.toArray_toList] at this
    refine this.mono fun e w' ⟨v', r, st', G', e', hs, hv', kk⟩ => ?_
    subst e'
    exact hn v' r st' w' G' hs hv' kk
  · cases hf

/-- A round of a loop over a function, asked for. -/
def LYield (P : Program) (l : Nat) (args : List LV) (st : St) (Q : LV → St → Prop) : Prop :=
  ∀ G vs w, Rel G st w → RepAll G vs args → ∃ fn tmps assign body, (Instr.yield l vs.toArray).run P w = .ok (.round l fn tmps assign body) w ∧
    RoundIn Fence.wide 0 P l fn tmps assign body w fun e w' => ∃ v r st' G', e = .returned v ∧ Step G st w G' st' w' ∧ Rep G' v r ∧ Q r st'
def HYield (P : Program) (l : Nat) (args : List LV) (L : Hp) (T : Tk) (K : LV → Hp → Tk → Prop) : Prop :=
  ∀ st, Has st L T → LYield P l args st (fun r st' => ∃ L' T', Has st' L' T' ∧ K r L' T')
theorem does_yield {st : St} {o : Oper} {K : LV → St → Prop} {x : Operand} {xs : Array Operand} {ts : Array Nat} {l : Nat} {args : List LV} (h : o.op = .call { callee := .value x, args := xs, argTypes := ts })
    (hf : opdV regs x = .fn (.yield l) [] []) (ha : xs.toList.map (opdV regs) = args) (k : LYield P l args st K) : Does P st regs o K := fun G a w hR hr N Qx hn => by
  have rx := rep_opd hr x
  obtain ⟨v, hv⟩ : ∃ v, a.eval x = v := ⟨_, rfl⟩
  rw [hv, hf] at rx
  cases rx with | @fn _ vs ws _ _ hl hm h1 h2 =>
  have hvs : vs = #[] := Array.size_eq_zero_iff.1 hl
  have hws : ws = #[] := Array.size_eq_zero_iff.1 hm
  subst hvs; subst hws
  have hxs : RepAll G (xs.map a.eval).toList args := ha ▸ ⟨by simp, fun i v l hv hl => by
    simp only [Array.toList_map, List.getElem?_map, Option.map_eq_some_iff] at hv hl
    obtain ⟨y, hy, rfl⟩ := hv
    obtain ⟨z, hz, rfl⟩ := hl
    rw [hy] at hz; injection hz with hz; subst hz
    exact rep_opd hr _⟩
  obtain ⟨fn, tmps, assign, body, hy, hround⟩ := k G _ w hR hxs
  rw [Array.toArray_toList] at hy
  have hrun : (execOp a.eval o).run P w = .ok (.round l fn tmps assign body) w := by
    simp [execOp, h, resolve, hv, Deferred.ofValue, invoke, hy]
  intro ro
  refine ⟨fun _ _ => trivial, ?_⟩
  rw [fw_round, Oper.semAt_eq ro _ o (fun c e => by rw [h] at e; cases e), hrun, Oper.uponIn_round]
  refine ⟨(fun e => nomatch e), RoundIn.mono (F := fw ro) hround fun e w' ⟨v', r, st', G', e', hs, hv', kk⟩ => ?_⟩
  subst e'
  exact hn v' r st' w' G' hs hv' kk

theorem HPlan.callY {x : Operand} {xs : Array Operand} {ts : Array Nat} {l : Nat} {bs_ : List LV} (ho : ops[i]? = some ⟨d, .call { callee := .value x, args := xs, argTypes := ts }, ty, pos, af, g⟩) (ht : takenB ops g regs = true)
    (hx : opdO regs x = some (.fn (.yield l) [] [])) (hxs : argsO regs xs.toList = some bs_)
    (k : HYield P l bs_ L T (fun r L' T' => keptH U pend L L' ∧ HPlan P ops Q p pend (setR d r regs) L' T')) : HPlan P ops Q (.act i U p) pend regs L T :=
  HPlan.actd ho ht fun st hs => does_yield rfl (opdV_of hx) (argsO_spec hxs) (k st hs)

theorem HPlan.call {x : Operand} {xs : Array Operand} {ts : Array Nat} {f : FuncId} {first cap bs_ : List LV} (ho : ops[i]? = some ⟨d, .call { callee := .value x, args := xs, argTypes := ts }, ty, pos, af, g⟩) (ht : takenB ops g regs = true)
    (hx : opdO regs x = some (.fn (.func f) first cap)) (ha : argsO regs xs.toList = some bs_) (he : enterable P f = true) (k : HCalls P f (first ++ bs_ ++ cap) L T (fun l L' T' => keptH U pend L L' ∧ HPlan P ops Q p pend (setR d l regs) L' T')) : HPlan P ops Q (.act i U p) pend regs L T :=
  .actd ho ht fun st hst => does_call rfl (by rw [opdV_of hx, argsO_spec ha]; rfl) he (k st hst)
/-- A function by its name. -/
theorem HPlan.callF {xs : Array Operand} {ts : Array Nat} {f : FuncId} {bs_ : List LV} (ho : ops[i]? = some ⟨d, .call { callee := .value (.func f), args := xs, argTypes := ts }, ty, pos, af, g⟩) (ht : takenB ops g regs = true)
    (ha : argsO regs xs.toList = some bs_) (he : enterable P f = true) (k : HCalls P f bs_ L T (fun l L' T' => keptH U pend L L' ∧ HPlan P ops Q p pend (setR d l regs) L' T')) : HPlan P ops Q (.act i U p) pend regs L T :=
  .call ho ht (first := []) (cap := []) rfl ha he (by simpa using k)

/-- What a contract says, used. -/
theorem HCalls.use {f : FuncId} {args : List LV} {L' : Hp} {T' : Tk} {K K' : LV → Hp → Tk → Prop} (h : HCalls P f args L' T' K) (hl : L.Perm L') (ht : T.Perm T') (hq : ∀ r L T, K r L T → K' r L T) : HCalls P f args L T K' :=
  (h.mono hq).sub (.of_perm hl) (.of_perm ht)

/-! ### Slices -/
theorem Has.newTok {st : St} (h : Has st L T) : Has st.newTok L ((st.toks.length, 0) :: T) := by
  refine ⟨h.obj, fun q hq => ?_, h.nd, ?_⟩
  · rcases List.mem_cons.1 hq with rfl | hq
    · simp [St.newTok]
    · have := h.tok q hq
      simp only [St.newTok]
      rw [List.getElem?_append_left (List.getElem?_eq_some_iff.1 this).1]; exact this
  · rw [List.map_cons, List.nodup_cons]
    refine ⟨fun hm => ?_, h.nt⟩
    obtain ⟨q, hq, e⟩ := List.mem_map.1 hm
    have := (List.getElem?_eq_some_iff.1 (h.tok q hq)).1
    simp only at e; omega
theorem Has.bump {st : St} {T' : Tk} {t ver : Nat} (h : Has st L T) (u : Upd t ver (ver + 1) T T') : Has (st.bump t ver) L T' := by
  refine ⟨h.obj, fun q hq => ?_, h.nd, by rw [u.keys]; exact h.nt⟩
  have hlt := (List.getElem?_eq_some_iff.1 (h.tok _ u.mem)).1
  rcases u.cases h.nt hq with rfl | ⟨hq, hne⟩
  · simp only [St.bump]; rw [List.getElem?_set, if_pos rfl, if_pos hlt]
  · simp only [St.bump]; rw [List.getElem?_set, if_neg (fun e => hne e.symm)]; exact h.tok q hq

def allCellsB (k : Nat) (es : List LV) : Bool := es.all fun e => e.solid && e.cells.length == k
theorem allCells_of {k : Nat} {es : List LV} (h : allCellsB k es = true) : allCells k es := fun e he => by
  have := List.all_eq_true.1 h e he
  simp only [Bool.and_eq_true, beq_iff_eq] at this
  exact this
theorem keptH_same : keptH U pend L L ↔ ∀ i ∈ U, ∀ p ∈ pend, p.1 = i → ∀ id ∈ p.2, ∃ o, (id, o) ∈ L := by
  constructor
  · intro h i hi p hp e id hid; obtain ⟨o, h1, _⟩ := h i hi p hp e id hid; exact ⟨o, h1⟩
  · intro h i hi p hp e id hid; obtain ⟨o, h1⟩ := h i hi p hp e id hid; exact ⟨o, h1, h1⟩

theorem HPlan.buildSlice {t e n k : Nat} {ps : Array (Nat × Operand)} {pes : List (Nat × LV)} {es : List LV} (ho : ops[i]? = some ⟨d, .buildSlice t n ps, ty, pos, af, g⟩) (ht : takenB ops g regs = true) (hs : sliceElem P t = some (e, k)) (hz : (zeroOf P e).isSome = true) (hn : ps.size = n) (h24 : n * k ≤ 16777216)
    (hord : inOrder 0 (ps.toList.map (·.1)) = true) (hps : partsO regs ps.toList = some pes) (hv : pes.map (·.2) = es) (hall : allCells k es) (hk : keptH U pend L L)
    (kk : ∀ tk, HPlan P ops Q p pend (setR d (.sl (.tok tk 0) k es) regs) L ((tk, 0) :: T)) : HPlan P ops Q (.act i U p) pend regs L T := by
  have e : evalParts regs ps = pes := partsO_spec hps
  subst e; subst hv
  exact .actd ho ht fun st hst => does_buildSlice rfl hs hz hn h24 hord hall ⟨L, _, hst.newTok, hk, kk _⟩

theorem HPlan.append_nils {t tx e k bytes : Nat} {s x : Operand} {a : LV} (ho : ops[i]? = some ⟨d, .call { callee := .builtin .append, args := #[s, x], argTypes := #[t, tx] }, ty, pos, af, g⟩) (ht : takenB ops g regs = true) (hs' : opdO regs s = some (.nils)) (hx' : opdO regs x = some (a))
    (he : elemIn P t = some (e, k, bytes)) (htx : srcTy P tx = true) (hsl : a.isSl k = true) (hsol : ∀ e ∈ a.els, e.solid = true) (hb : a.els.length * bytes ≤ 140737488355328) (h63 : a.els.length ≤ 140737488355328) (hk : keptH U pend L L)
    (h0 : a.els = [] → HPlan P ops Q p pend (setR d .nils regs) L T) (h1 : a.els ≠ [] → ∀ tk, HPlan P ops Q p pend (setR d (.sl (.tok tk 0) k a.els) regs) L ((tk, 0) :: T)) : HPlan P ops Q (.act i U p) pend regs L T := by
  have hs := opdV_of hs'
  have hx := opdV_of hx'
  subst hx
  refine .actd ho ht fun st hst => does_append rfl he htx (by rw [hs]; trivial) hsl hsol (by rw [hs]; simpa using hb) (by rw [hs]; simpa using h63) ?_
  rw [hs]
  cases hemp : (opdV regs x).els with
  | nil => exact ⟨L, T, by simpa [appSt, hemp] using hst, hk, by simpa [appV, hemp] using h0 hemp⟩
  | cons y ys =>
    have := h1 (by rw [hemp]; simp) st.toks.length
    rw [hemp] at this
    exact ⟨L, _, by simpa [appSt, hemp] using hst.newTok, hk, by simpa [appV, hemp] using this⟩
/-- To a slice of which one holds the end. -/
theorem HPlan.append {t tx e k bytes tk ver : Nat} {s x : Operand} {a : LV} {es : List LV} {T' : Tk} (ho : ops[i]? = some ⟨d, .call { callee := .builtin .append, args := #[s, x], argTypes := #[t, tx] }, ty, pos, af, g⟩) (ht : takenB ops g regs = true) (hs' : opdO regs s = some (.sl (.tok tk ver) k es)) (hx' : opdO regs x = some (a))
    (he : elemIn P t = some (e, k, bytes)) (htx : srcTy P tx = true) (hsl : a.isSl k = true) (hsol : ∀ e ∈ a.els, e.solid = true) (hu : Upd tk ver (ver + 1) T T') (hb : (es.length + a.els.length) * bytes ≤ 140737488355328) (h63 : es.length + a.els.length ≤ 140737488355328) (hk : keptH U pend L L)
    (h0 : a.els = [] → HPlan P ops Q p pend (setR d (.sl (.tok tk ver) k es) regs) L T) (h1 : a.els ≠ [] → HPlan P ops Q p pend (setR d (.sl (.tok tk (ver + 1)) k (es ++ a.els)) regs) L T') : HPlan P ops Q (.act i U p) pend regs L T := by
  have hs := opdV_of hs'
  have hx := opdV_of hx'
  subst hx
  refine .actd ho ht fun st hst => does_append rfl he htx (by rw [hs]; exact ⟨rfl, hst.tok _ hu.mem⟩) hsl hsol (by rw [hs]; simpa using hb) (by rw [hs]; simpa using h63) ?_
  rw [hs]
  cases hemp : (opdV regs x).els with
  | nil => exact ⟨L, T, by simpa [appSt, hemp] using hst, hk, by simpa [appV, hemp] using h0 hemp⟩
  | cons y ys =>
    have := h1 (by rw [hemp]; simp)
    rw [hemp] at this
    exact ⟨L, _, by simpa [appSt, hemp] using hst.bump hu, hk, by simpa [appV, hemp] using this⟩
end
end Go.L

set_option linter.unusedVariables false
set_option linter.unusedSimpArgs false
namespace Go.L
open Go Go.RowKit

theorem Less.refl (r : Fr) : Less r r := ⟨rfl, fun t l h => ⟨l, h, .refl _⟩⟩
theorem Less.mk {r : Fr} {n : Nat} {e : List (Nat × LV)} (hn : n = r.n) (h : ∀ (t : Nat) (l' : LV), lookE e t = some l' → ∃ l, lookE r.e t = some l ∧ Weak l l') : Less r ⟨n, e⟩ := ⟨hn, h⟩
/-- Slot by slot. -/
inductive LessE (r : List (Nat × LV)) : List (Nat × LV) → Prop where
  | nil : LessE r []
  | cons {t : Nat} {l l' : LV} {e : List (Nat × LV)} (h : lookE r t = some l) (w : Weak l l') (k : LessE r e) : LessE r ((t, l') :: e)
theorem LessE.same {r : List (Nat × LV)} {t : Nat} {l : LV} {e : List (Nat × LV)} (h : lookE r t = some l) (k : LessE r e) : LessE r ((t, l) :: e) := .cons h (.refl _) k
theorem LessE.eq {r : List (Nat × LV)} {t : Nat} {l l' : LV} {e : List (Nat × LV)} (h : lookE r t = some l) (k : LessE r e) (q : l = l') : LessE r ((t, l') :: e) := .cons h (q ▸ .refl _) k
theorem LessE.own {r : List (Nat × LV)} {t k : Nat} {o : Own} {es : List LV} {e : List (Nat × LV)} (h : lookE r t = some (.sl o k es)) (q : LessE r e) : LessE r ((t, .sl .no k es) :: e) := .cons h .own q
theorem LessE.less {r : Fr} {n : Nat} {e : List (Nat × LV)} (h : LessE r.e e) (hn : n = r.n) : Less r ⟨n, e⟩ := by
  refine ⟨hn, ?_⟩
  show ∀ (t : Nat) (l' : LV), lookE e t = some l' → _
  intro t l' hl
  induction h with
  | nil => cases hl
  | cons h w _ ih =>
    rename_i t' l l'' e' _
    simp only [lookE] at hl
    cases hb : Nat.beq t' t with
    | true =>
      rw [hb] at hl
      simp only [cond_true, Option.some.injEq] at hl
      have := Nat.eq_of_beq_eq_true hb
      subst this; subst hl
      exact ⟨_, h, w⟩
    | false => rw [hb] at hl; exact ih hl

theorem Part.cons {α : Type} (a : α) {A B : List α} (h : Part A B) : Part (a :: A) (a :: B) := by
  obtain ⟨M, h⟩ := h
  exact ⟨M, h.cons a⟩
theorem Part.skip {α : Type} (a : α) {A B : List α} (h : Part A B) : Part A (a :: B) := h.trans (.tail a B)

section
variable {P : Program} {regs : Fr} {L : Hp} {T : Tk} {Q : HQ}

theorem onNorm_n {N : Fr → Hp → Tk → Prop} (h : N regs L T) : onNorm N Q .normal regs L T := h
theorem onNorm_e {N : Fr → Hp → Tk → Prop} {id : Nat} (h : Q (.exit id) regs L T) : onNorm N Q (.exit id) regs L T := h
theorem onNorm_r {N : Fr → Hp → Tk → Prop} (h : Q .ret regs L T) : onNorm N Q .ret regs L T := h
theorem onExitH_n {id : Nat} (h : Q .normal regs L T) : onExitH id Q .normal regs L T := h
theorem onExitH_hit {id : Nat} (h : Q .normal regs L T) : onExitH id Q (.exit id) regs L T := by simp only [onExitH]; exact h
theorem onExitH_miss {id j : Nat} (hne : (j == id) = false) (h : Q (.exit j) regs L T) : onExitH id Q (.exit j) regs L T := by
  simp only [onExitH]; rw [if_neg (by simpa using hne)]; exact h
theorem onExitH_r {id : Nat} (h : Q .ret regs L T) : onExitH id Q .ret regs L T := h
theorem retQ_r {rs : List ResultVar} {K : LV → Hp → Tk → Prop} {ls : List LV} (h : ResOk P L regs rs ls) (k : K (resV ls) L T) : retQ P rs K .ret regs L T := ⟨ls, h, k⟩
theorem retQ_n {rs : List ResultVar} {K : LV → Hp → Tk → Prop} {ls : List LV} (h : ResOk P L regs rs ls) (k : K (resV ls) L T) : retQ P rs K .normal regs L T := ⟨ls, h, k⟩

/-- A loop, by what holds at its head, told by an index. -/
theorem HWp.loopF {c : Code} {α : Type} (m : α → Nat) (C : α → Prop) (R : α → Fr) (H : α → Hp) (Tk' : α → Tk)
    (h₀ : ∃ x, C x ∧ Less regs (R x) ∧ Part (H x) L ∧ Part (Tk' x) T)
    (round : ∀ x, C x → HWp P c (R x) (H x) (Tk' x) (onNorm (fun r' L' T' => ∃ y, m y < m x ∧ C y ∧ Less r' (R y) ∧ Part (H y) L' ∧ Part (Tk' y) T') Q)) : HWp P (.loop c) regs L T Q := by
  refine HWp.loop (fun n r L T => ∃ x, m x = n ∧ C x ∧ Less r (R x) ∧ Part (H x) L ∧ Part (Tk' x) T) ?_ ?_
  · obtain ⟨x, h1, h2, h3, h4⟩ := h₀
    exact ⟨m x, x, rfl, h1, h2, h3, h4⟩
  · rintro n r L T ⟨x, rfl, h1, h2, h3, h4⟩
    refine HWp.less h2 (HWp.sub h3 h4 ((round x h1).mono ?_))
    intro e r L T q
    cases e with
    | normal => obtain ⟨y, hy, q⟩ := q; exact ⟨m y, hy, y, rfl, q⟩
    | exit id => exact q
    | goto l => exact q
    | ret => exact q
    | panic c => exact q
    | outgrown => exact q

/-! ### Kinds of types -/
inductive TK where
  | ptr | sl | mp | fn | str | other
def tyKind (P : Program) (t : Nat) : TK :=
  match P.underlying t with
  | some (.pointer _) => .ptr
  | some (.slice _) => .sl
  | some (.map ..) => .mp
  | some (.func ..) => .fn
  | some .string => .str
  | _ => .other
def nilTyK : TK → LV → Bool
  | .ptr, .nilp | .ptr, .ref .. | .ptr, .imm .. => true
  | .sl, .nils | .sl, .sl .. | .sl, .hs .. => true
  | .mp, .nilm | .mp, .mp _ => true
  | .fn, .nilf | .fn, .fn .. => true
  | _, _ => false
def lenTyK : TK → LV → Bool
  | .str, .str _ => true
  | .sl, .nils | .sl, .sl .. | .sl, .hs .. => true
  | .mp, .nilm => true
  | _, _ => false
theorem nilTy_of {t : Nat} {k : TK} {a : LV} (h : tyKind P t = k) (ha : nilTyK k a = true) : nilTy P t a = true := by
  unfold tyKind at h
  split at h <;> subst h <;> cases a <;> simp only [nilTyK, Bool.false_eq_true] at ha <;> simp only [nilTy, *]
theorem lenTy_of {t : Nat} {k : TK} {a : LV} (h : tyKind P t = k) (ha : lenTyK k a = true) : lenTy P t a = true := by
  unfold tyKind at h
  split at h <;> subst h <;> cases a <;> simp only [lenTyK, Bool.false_eq_true] at ha <;> simp only [lenTy, *]

variable {ops : Array Oper} {p : Plan} {pend : Pends} {i : Nat} {U : List Nat} {d : Option Tmp} {ty : TypeId} {pos : String} {af : Array Edge} {g : Option (Nat × Bool)}

theorem HPlan.nilEqK {t t' : Nat} {x y : Operand} {a b : LV} {v : Bool} {k : TK} (ho : ops[i]? = some ⟨d, .binOp .eql t x y t', ty, pos, af, g⟩) (ht : takenB ops g regs = true) (hx' : opdO regs x = some (a)) (hy' : opdO regs y = some (b)) (hk : tyKind P t = k) (ha : nilTyK k a = true) (hn : b.isNil = true)
    (hb : nilTyK k b = true) (hv : a.isNil = v) (kk : HPlan P ops Q p pend (setR d (.bool v) regs) L T) : HPlan P ops Q (.rd i p) pend regs L T := by
  exact HPlan.nilEq ho ht hx' hy' (nilTy_of hk ha) hn (nilTy_of hk hb) hv kk
theorem HPlan.nilNeK {t t' : Nat} {x y : Operand} {a b : LV} {v : Bool} {k : TK} (ho : ops[i]? = some ⟨d, .binOp .neq t x y t', ty, pos, af, g⟩) (ht : takenB ops g regs = true) (hx' : opdO regs x = some (a)) (hy' : opdO regs y = some (b)) (hk : tyKind P t = k) (ha : nilTyK k a = true) (hn : b.isNil = true)
    (hb : nilTyK k b = true) (hv : (!a.isNil) = v) (kk : HPlan P ops Q p pend (setR d (.bool v) regs) L T) : HPlan P ops Q (.rd i p) pend regs L T := by
  exact HPlan.nilNe ho ht hx' hy' (nilTy_of hk ha) hn (nilTy_of hk hb) hv kk
theorem HPlan.lenK {x : Operand} {t : Nat} {a v : LV} {k : TK} (ho : ops[i]? = some ⟨d, .call { callee := .builtin .len, args := #[x], argTypes := #[t] }, ty, pos, af, g⟩) (ht : takenB ops g regs = true) (hx' : opdO regs x = some (a)) (hk : tyKind P t = k) (hl : lenTyK k a = true) (hv : .int .i64 (lenV a) = v)
    (kk : HPlan P ops Q p ((i, []) :: pend) (setR d v regs) L T) : HPlan P ops Q (.rd i p) pend regs L T := by
  exact HPlan.len ho ht hx' (lenTy_of hk hl) hv kk
/-- Two ways, by the truth value that came just now. -/
theorem HPlan.split {d : Option Tmp} {b : Bool} (h1 : b = true → HPlan P ops Q p pend (setR d (.bool true) regs) L T) (h0 : b = false → HPlan P ops Q p pend (setR d (.bool false) regs) L T) : HPlan P ops Q p pend (setR d (.bool b) regs) L T := by
  cases b with
  | true => exact h1 rfl
  | false => exact h0 rfl
theorem HWp.frame {c : Code} {r' : Fr} (h : regs = r') (k : HWp P c r' L T Q) : HWp P c regs L T Q := h ▸ k

/-- A function of values alone. -/
def HPure (P : Program) (f : FuncId) (args : List LV) (r : LV) : Prop := ∀ L T, HCalls P f args L T (fun r' L' T' => r' = r ∧ L' = L ∧ T' = T)
theorem HPlan.callPure {xs : Array Operand} {ts : Array Nat} {f : FuncId} {bs_ : List LV} {r : LV} (ho : ops[i]? = some ⟨d, .call { callee := .value (.func f), args := xs, argTypes := ts }, ty, pos, af, g⟩) (ht : takenB ops g regs = true)
    (ha : argsO regs xs.toList = some bs_) (he : enterable P f = true) (h : HPure P f bs_ r) (hk : keptH U pend L L) (k : HPlan P ops Q p pend (setR d r regs) L T) : HPlan P ops Q (.act i U p) pend regs L T :=
  .callF ho ht ha he ((h L T).mono fun r' L' T' ⟨e1, e2, e3⟩ => by subst e1; subst e2; subst e3; exact ⟨hk, k⟩)

/-! ### Numbers -/
theorem wrap_i64 {n : Int} (h0 : -9223372036854775808 ≤ n) (h1 : n ≤ 9223372036854775807) : IntKind.i64.wrap n = n := by
  simp only [IntKind.wrap, IntKind.signed, IntKind.bits]
  simp
  omega
theorem add_i64 {a b : Int} (h0 : -9223372036854775808 ≤ a + b) (h1 : a + b ≤ 9223372036854775807) : intBin .add .i64 a b = .int .i64 (a + b) := by simp only [intBin, wrap_i64 h0 h1]
theorem sub_i64 {a b : Int} (h0 : -9223372036854775808 ≤ a - b) (h1 : a - b ≤ 9223372036854775807) : intBin .sub .i64 a b = .int .i64 (a - b) := by simp only [intBin, wrap_i64 h0 h1]
theorem mul_i64 {a b : Int} (h0 : -9223372036854775808 ≤ a * b) (h1 : a * b ≤ 9223372036854775807) : intBin .mul .i64 a b = .int .i64 (a * b) := by simp only [intBin, wrap_i64 h0 h1]
end
end Go.L

set_option linter.unusedVariables false
set_option linter.unusedSimpArgs false
namespace Go.L
open Go Go.RowKit

/-- A slice with these elements, or nil where there are none. -/
inductive IsSl (k : Nat) : List LV → LV → Prop where
  | nils : IsSl k [] .nils
  | sl {o : Own} {es : List LV} : IsSl k es (.sl o k es)
theorem IsSl.isSl {k : Nat} {es : List LV} {x : LV} (h : IsSl k es x) : x.isSl k = true := by cases h <;> simp
theorem IsSl.els {k : Nat} {es : List LV} {x : LV} (h : IsSl k es x) : x.els = es := by cases h <;> simp
theorem IsSl.lenTyK {k : Nat} {es : List LV} {x : LV} (h : IsSl k es x) : lenTyK .sl x = true := by cases h <;> rfl
theorem IsSl.nilTyK {k : Nat} {es : List LV} {x : LV} (h : IsSl k es x) : nilTyK .sl x = true := by cases h <;> rfl
theorem IsSl.lenV {k : Nat} {es : List LV} {x : LV} (h : IsSl k es x) : lenV x = es.length := by cases h <;> simp
theorem fillOk_nil {place : Nat → Option (Nat × Nat)} {n : Nat} : fillOk place n [] := trivial
theorem fillOk_cons {place : Nat → Option (Nat × Nat)} {n i off size : Nat} {l : LV} {r : List (Nat × LV)} (hp : place i = some (off, size)) (hs : l.solid = true) (hl : l.cells.length = size) (hb : off + size ≤ n) (k : fillOk place n r) : fillOk place n ((i, l) :: r) := by
  refine ⟨?_, k⟩
  rw [hp]
  exact ⟨hs, hl, hb⟩
theorem allCells_nil {k : Nat} : allCells k [] := fun _ h => nomatch h
theorem allCells_cons {k : Nat} {l : LV} {r : List LV} (hs : l.solid = true) (hl : l.cells.length = k) (h : allCells k r) : allCells k (l :: r) := fun e he => by
  rcases List.mem_cons.1 he with rfl | he
  · exact ⟨hs, hl⟩
  · exact h e he
theorem solid_nil : ∀ e ∈ ([] : List LV), e.solid = true := fun _ h => nomatch h
theorem solid_cons {l : LV} {r : List LV} (hs : l.solid = true) (h : ∀ e ∈ r, e.solid = true) : ∀ e ∈ l :: r, e.solid = true := fun e he => by
  rcases List.mem_cons.1 he with rfl | he
  · exact hs
  · exact h e he

section
variable {P : Program} {regs : Fr} {L : Hp} {T : Tk} {Q : HQ} {ops : Array Oper} {p : Plan} {pend : Pends} {i : Nat} {U : List Nat} {d : Option Tmp} {ty : TypeId} {pos : String} {af : Array Edge} {g : Option (Nat × Bool)}

theorem HPlan.indexS {t e : Nat} {x y : Operand} {s v : LV} {es : List LV} {ki : IntKind} {j : Int} (ho : ops[i]? = some ⟨d, .indexAddr t x y, ty, pos, af, g⟩) (ht : takenB ops g regs = true) (hx' : opdO regs x = some (s)) (hy' : opdO regs y = some (.int ki j))
    (hi : indexIn P t = some (none, e)) (hs : IsSl e es s) (h0 : 0 ≤ j) (h1 : j < es.length) (hv : es.getD j.toNat .und = v) (k : HPlan P ops Q p pend (setR d (.imm v 0) regs) L T) : HPlan P ops Q (.rd i p) pend regs L T := by
  exact HPlan.indexSl ho ht hx' hy' hi hs.isSl h0 (by rw [hs.els]; exact h1) (by rw [hs.els]; exact hv) k
theorem HPlan.lenS {x : Operand} {t e : Nat} {a v : LV} {es : List LV} (ho : ops[i]? = some ⟨d, .call { callee := .builtin .len, args := #[x], argTypes := #[t] }, ty, pos, af, g⟩) (ht : takenB ops g regs = true) (hx' : opdO regs x = some (a)) (hk : tyKind P t = .sl) (hs : IsSl e es a) (hv : .int .i64 (es.length : Int) = v)
    (k : HPlan P ops Q p ((i, []) :: pend) (setR d v regs) L T) : HPlan P ops Q (.rd i p) pend regs L T := by
  exact HPlan.lenK ho ht hx' hk hs.lenTyK (by rw [hs.lenV]; exact hv) k
theorem HPlan.lenStr {x : Operand} {t : Nat} {s : ByteArray} {v : LV} (ho : ops[i]? = some ⟨d, .call { callee := .builtin .len, args := #[x], argTypes := #[t] }, ty, pos, af, g⟩) (ht : takenB ops g regs = true) (hx' : opdO regs x = some (.str s)) (hk : tyKind P t = .str) (hv : .int .i64 (s.size : Int) = v)
    (k : HPlan P ops Q p ((i, []) :: pend) (setR d v regs) L T) : HPlan P ops Q (.rd i p) pend regs L T := by
  exact HPlan.lenK ho ht hx' hk rfl hv k
theorem HDoes.weak {o : Oper} {K : LV → Hp → Tk → Prop} {l : LV} {L1 : Hp} {T1 : Tk} (h : HDoes P regs L T o (fun l' L' T' => l' = l ∧ L' = L1 ∧ T' = T1)) {m : LV} (w : Weak l m) {T2 : Tk} (ht : Part T2 T1) (k : K m L1 T2) : HDoes P regs L T o K :=
  fun st hst G a w' hR hr N Qx hn => h st hst G a w' hR hr N Qx fun v l' st' w2 G' hs hv ⟨L', T', hh, e1, e2, e3⟩ => by
    subst e1; subst e2; subst e3
    exact hn v m st' w2 G' hs (w G' v hv) ⟨_, T2, hh.sub (.refl _) ht, k⟩
/-- A slice of given elements, whose end one doesn't hold. -/
theorem HPlan.buildSliceN {t e n k : Nat} {ps : Array (Nat × Operand)} {pes : List (Nat × LV)} {es : List LV} (ho : ops[i]? = some ⟨d, .buildSlice t n ps, ty, pos, af, g⟩) (ht : takenB ops g regs = true) (hs : sliceElem P t = some (e, k)) (hz : (zeroOf P e).isSome = true) (hn : ps.size = n) (h24 : n * k ≤ 16777216)
    (hord : inOrder 0 (ps.toList.map (·.1)) = true) (hps : partsO regs ps.toList = some pes) (hv : pes.map (·.2) = es) (hall : allCells k es) (hk : keptH U pend L L)
    (kk : HPlan P ops Q p pend (setR d (.sl .no k es) regs) L T) : HPlan P ops Q (.act i U p) pend regs L T := by
  have e : evalParts regs ps = pes := partsO_spec hps
  subst e; subst hv
  refine .actd ho ht fun st hst G a w hR hr N Qx hn' => does_buildSlice (K := fun l s => l = .sl (.tok st.toks.length 0) k ((evalParts regs ps).map (·.2)) ∧ s = st.newTok) rfl hs hz hn h24 hord hall ⟨rfl, rfl⟩ G a w hR hr N Qx fun v l' st' w2 G' hss hv ⟨e1, e2⟩ => ?_
  subst e1; subst e2
  exact hn' v _ _ w2 G' hss (Weak.own _ _ hv) ⟨L, T, hst.newTok.sub (.refl _) (.tail _ _), hk, kk⟩

/-- A list that is built by appending: nil, or one holds its end. -/
def growV (o : Option (Nat × Nat)) (k : Nat) (es : List LV) : LV := match o with | none => .nils | some (tk, ver) => .sl (.tok tk ver) k es
def growT (o : Option (Nat × Nat)) : Tk := match o with | none => [] | some x => [x]
def growOk (o : Option (Nat × Nat)) (es : List LV) : Prop := o = none → es = []
theorem growV_isSl {o : Option (Nat × Nat)} {k : Nat} {es : List LV} (h : growOk o es) : IsSl k es (growV o k es) := by
  cases o with
  | none => rw [h rfl]; exact .nils
  | some x => exact .sl
theorem upd_head {β : Type} {id : Nat} {o o' : β} {L : List (Nat × β)} : Upd id o o' ((id, o) :: L) ((id, o') :: L) := .here
theorem HPlan.appendG {t tx e k bytes : Nat} {s x : Operand} {a : LV} {es xs : List LV} {o : Option (Nat × Nat)} {T0 : Tk} (ho : ops[i]? = some ⟨d, .call { callee := .builtin .append, args := #[s, x], argTypes := #[t, tx] }, ty, pos, af, g⟩) (ht : takenB ops g regs = true) (hs' : opdO regs s = some (growV o k es)) (hx' : opdO regs x = some (a))
    (he : elemIn P t = some (e, k, bytes)) (htx : srcTy P tx = true) (hsl : IsSl k xs a) (hT : T.Perm (growT o ++ T0)) (hg : growOk o es) (hsol : ∀ e ∈ xs, e.solid = true) (hb : (es.length + xs.length) * bytes ≤ 140737488355328) (h63 : es.length + xs.length ≤ 140737488355328) (hk : keptH U pend L L)
    (kk : ∀ o', growOk o' (es ++ xs) → HPlan P ops Q p pend (setR d (growV o' k (es ++ xs)) regs) L (growT o' ++ T0)) : HPlan P ops Q (.act i U p) pend regs L T := by
  have hs := opdV_of hs'
  have hx := opdV_of hx'
  have e1 := hsl.els
  subst hx
  cases o with
  | none =>
    have hes : es = [] := hg rfl
    subst hes
    refine .actd ho ht fun st hst => does_append rfl he htx (by rw [hs]; trivial) hsl.isSl (by rw [e1]; exact hsol) (by rw [hs, e1]; simpa [growV] using hb) (by rw [hs, e1]; simpa [growV] using h63) ?_
    rw [hs]
    have hst' : Has st L T0 := hst.sub (.refl _) (.of_perm (by simpa [growT] using hT))
    cases hemp : xs with
    | nil =>
      have := kk none (fun _ => by simp [hemp])
      exact ⟨L, T0, by simpa [appSt, e1, hemp] using hst', hk, by simpa [appV, growV, growT, e1, hemp] using this⟩
    | cons y ys =>
      have := kk (some (st.toks.length, 0)) (fun e => by cases e)
      exact ⟨L, _, by simpa [appSt, e1, hemp, growV] using hst'.newTok, hk, by simpa [appV, growV, growT, e1, hemp] using this⟩
  | some x =>
    obtain ⟨tk, ver⟩ := x
    have hs' : opdV regs s = .sl (.tok tk ver) k es := hs
    refine .actd ho ht fun st hst => ?_
    have hst' : Has st L ((tk, ver) :: T0) := hst.sub (.refl _) (.of_perm (by simpa [growT] using hT))
    refine does_append rfl he htx (by rw [hs']; exact ⟨rfl, hst'.tok _ List.mem_cons_self⟩) hsl.isSl (by rw [e1]; exact hsol) (by rw [hs', e1]; simpa using hb) (by rw [hs', e1]; simpa using h63) ?_
    rw [hs']
    cases hemp : xs with
    | nil =>
      have := kk (some (tk, ver)) (fun e => by cases e)
      exact ⟨L, _, by simpa [appSt, e1, hemp] using hst', hk, by simpa [appV, growV, growT, e1, hemp] using this⟩
    | cons y ys =>
      have := kk (some (tk, ver + 1)) (fun e => by cases e)
      exact ⟨L, _, by simpa [appSt, e1, hemp] using hst'.bump .here, hk, by simpa [appV, growV, growT, e1, hemp] using this⟩
end
end Go.L

set_option linter.unusedVariables false
set_option linter.unusedSimpArgs false
namespace Go.L
open Go Go.RowKit

/-- One entry drawn to the front. -/
inductive Pull {α : Type} (x : α) : List α → List α → Prop where
  | here {M : List α} : Pull x (x :: M) M
  | there {y : α} {L M : List α} (h : Pull x L M) : Pull x (y :: L) (y :: M)
theorem Pull.perm {α : Type} {x : α} {L M : List α} (h : Pull x L M) : L.Perm (x :: M) := by
  induction h with
  | here => exact .refl _
  | there _ ih => exact (ih.cons _).trans (.swap _ _ _)
inductive Pulls {α : Type} : List α → List α → List α → Prop where
  | nil {L : List α} : Pulls [] L L
  | cons {x : α} {xs L M N : List α} (h : Pull x L M) (k : Pulls xs M N) : Pulls (x :: xs) L N
theorem Pulls.perm {α : Type} {xs L N : List α} (h : Pulls xs L N) : L.Perm (xs ++ N) := by
  induction h with
  | nil => exact .refl _
  | cons h _ ih => exact h.perm.trans (ih.cons _)
theorem Pulls.part {α : Type} {xs L N : List α} (h : Pulls xs L N) : Part xs L := ⟨N, h.perm⟩
theorem Part.pull {α : Type} {x : α} {A L M : List α} (h : Pull x L M) (k : Part A M) : Part (x :: A) L := by
  obtain ⟨N, k⟩ := k
  exact ⟨N, h.perm.trans (k.cons x)⟩
theorem Part.app {α : Type} (A B : List α) : Part B (A ++ B) := ⟨A, List.perm_append_comm⟩
theorem Part.nil {α : Type} (L : List α) : Part [] L := ⟨L, .refl _⟩

def pendIds (U : List Nat) (pend : Pends) : List Nat := (pend.filter fun p => U.contains p.1).flatMap (·.2)
def AllId (ids : List Nat) (L L' : Hp) : Prop := ∀ id ∈ ids, ∃ o, (id, o) ∈ L ∧ (id, o) ∈ L'
theorem allId_nil {L L' : Hp} : AllId [] L L' := fun _ h => nomatch h
theorem allId_cons {id : Nat} {ids : List Nat} {o : LObj} {L L' : Hp} (h : (id, o) ∈ L) (h' : (id, o) ∈ L') (k : AllId ids L L') : AllId (id :: ids) L L' := fun j hj => by
  rcases List.mem_cons.1 hj with rfl | hj
  · exact ⟨o, h, h'⟩
  · exact k j hj
theorem keptH_ids {U : List Nat} {pend : Pends} {L L' : Hp} (h : AllId (pendIds U pend) L L') : keptH U pend L L' := fun i hi p hp e id hid =>
  h id (List.mem_flatMap.2 ⟨p, List.mem_filter.2 ⟨hp, by rw [e]; exact List.contains_iff_mem.2 hi⟩, hid⟩)

section
variable {P : Program} {regs : Fr} {L : Hp} {T : Tk} {Q : HQ} {ops : Array Oper} {p : Plan} {pend : Pends} {i : Nat} {U : List Nat} {d : Option Tmp} {ty : TypeId} {pos : String} {af : Array Edge} {g : Option (Nat × Bool)}

theorem HPlan.callS {xs : Array Operand} {ts : Array Nat} {f : FuncId} {bs_ : List LV} {L1 : Hp} {T1 : Tk} {K : LV → Hp → Tk → Prop} (ho : ops[i]? = some ⟨d, .call { callee := .value (.func f), args := xs, argTypes := ts }, ty, pos, af, g⟩) (ht : takenB ops g regs = true)
    (ha : argsO regs xs.toList = some bs_) (he : enterable P f = true) (h : HCalls P f bs_ L1 T1 K) (hl : L.Perm L1) (hT : T.Perm T1)
    (k : ∀ r L' T', K r L' T' → keptH U pend L L' ∧ HPlan P ops Q p pend (setR d r regs) L' T') : HPlan P ops Q (.act i U p) pend regs L T :=
  .callF ho ht ha he (h.use hl hT k)
/-- A function by its value. -/
theorem HPlan.callV {x : Operand} {xs : Array Operand} {ts : Array Nat} {f : FuncId} {first cap bs_ bs_' : List LV} {L1 : Hp} {T1 : Tk} {K : LV → Hp → Tk → Prop} (ho : ops[i]? = some ⟨d, .call { callee := .value x, args := xs, argTypes := ts }, ty, pos, af, g⟩) (ht : takenB ops g regs = true)
    (hx : opdO regs x = some (.fn (.func f) first cap)) (ha : argsO regs xs.toList = some bs_) (he : enterable P f = true) (has : first ++ bs_ ++ cap = bs_') (h : HCalls P f bs_' L1 T1 K) (hl : L.Perm L1) (hT : T.Perm T1)
    (k : ∀ r L' T', K r L' T' → keptH U pend L L' ∧ HPlan P ops Q p pend (setR d r regs) L' T') : HPlan P ops Q (.act i U p) pend regs L T := by
  subst has
  exact .call ho ht hx ha he (h.use hl hT k)

/-- A call's end, by less of what is known there. -/
def endK (K : LV → Hp → Tk → Prop) : LV → Hp → Tk → Prop := fun r L T => ∃ L2 T2, Part L2 L ∧ Part T2 T ∧ K r L2 T2
theorem HCalls.enterG {f : FuncId} {fn : Func} {c : Code} {args : List LV} {K : LV → Hp → Tk → Prop} (hf : P.funcs[f]? = some fn) (hb : fn.body = some c)
    (h : HWp P c ⟨args.length + (fn.ntmps - args.length), enumF 0 args⟩ L T (retQ P fn.results.toList (endK K))) : HCalls P f args L T K := fun st hst =>
  (HCalls.enter hf hb h st hst).mono fun r s ⟨L1, T1, h1, L2, T2, p1, p2, k⟩ => ⟨L2, T2, h1.sub p1 p2, k⟩
theorem endK_of {K : LV → Hp → Tk → Prop} {r : LV} {L2 : Hp} {T2 : Tk} (k : K r L2 T2) (p1 : Part L2 L) (p2 : Part T2 T) : endK K r L T := ⟨L2, T2, p1, p2, k⟩
end
end Go.L

set_option linter.unusedVariables false
set_option linter.unusedSimpArgs false
namespace Go.L
open Go Go.RowKit

/-! ### Maps -/
inductive KeyK where
  | plain (c : CK)
  | arr (n : Nat) (c : CK)
def plainOf (P : Program) (t : Nat) : Option CK :=
  match P.underlying t with
  | some (.int k) => some (.int k)
  | some .string => some .str
  | some .bool => some .bool
  | _ => none
def keyK (P : Program) (t : Nat) : Option KeyK :=
  match P.underlying t with
  | some (.int k) => some (.plain (.int k))
  | some .string => some (.plain .str)
  | some .bool => some (.plain .bool)
  | some (.array n e) => (match plainOf P e with
    | none => none
    | some c => (match P.info? e, P.info? t with
      | some i, some j => if i.size = 1 ∧ j.size = n then some (.arr n c) else none
      | _, _ => none))
  | _ => none
def KeyK.fits : KeyK → LV → Bool
  | .plain c, l => c.fits l
  | .arr n c, .agg cs => cs.length == n && cs.all c.fits
  | _, _ => false
def keyEq (a b : LV) : Bool := flatEq a.cells b.cells
def findL (k : LV) : List (LV × LV) → Nat → Option (Nat × LV)
  | [], _ => none
  | q :: r, i => bif keyEq k q.1 then some (i, q.2) else findL k r (i + 1)
def getL (k : LV) : List (LV × LV) → Option LV
  | [] => none
  | q :: r => bif keyEq k q.1 then some q.2 else getL k r
def putL (k v : LV) : List (LV × LV) → List (LV × LV)
  | [] => [(k, v)]
  | q :: r => bif keyEq k q.1 then (k, v) :: r else q :: putL k v r
def delL (k : LV) : List (LV × LV) → List (LV × LV)
  | [] => []
  | q :: r => bif keyEq k q.1 then r else q :: delL k r

theorem fits_cells {kk : KeyK} {l : LV} (h : kk.fits l = true) : (∃ c, kk = .plain c ∧ c.fits l = true ∧ l.cells = [l]) ∨ (∃ n c cs, kk = .arr n c ∧ l = .agg cs ∧ cs.length = n ∧ cs.all c.fits = true) := by
  cases kk with
  | plain c => exact .inl ⟨c, rfl, h, by cases c <;> cases l <;> simp [KeyK.fits, CK.fits] at h <;> rfl⟩
  | arr n c =>
    cases l <;> simp only [KeyK.fits, Bool.and_eq_true, beq_iff_eq] at h <;> try cases h
    exact .inr ⟨n, c, _, rfl, rfl, ‹_›, ‹_›⟩
theorem fits_replicate {c : CK} : ∀ {cs : List LV}, cs.all c.fits = true → fitsAll (List.replicate cs.length c) cs = true
  | [], _ => rfl
  | x :: cs, h => by
    simp only [List.all_cons, Bool.and_eq_true] at h
    simp [List.replicate_succ, fitsAll, h.1, fits_replicate h.2]

section
variable {P : Program} {st : St} {regs : Fr} {o : Oper}

theorem plainOf_spec {t : Nat} {c : CK} (h : plainOf P t = some c) : ∀ w, ∃ d, (underlying t).run P w = .ok d w ∧ P.underlying t = some d ∧ (match d with | .array _ _ => False | .struct _ => False | .interface _ => False | _ => True) := by
  intro w
  unfold plainOf at h
  split at h <;> first | (rename_i hu; exact ⟨_, run_underlying hu w, hu, trivial⟩) | cases h

theorem run_checkKey_plain {t : Nat} {c : CK} (h : plainOf P t = some c) (b : Bool) (d : Nat) (v : Value) (w : World) : (Instr.checkKey b (d + 1) t v).run P w = .ok () w := by
  unfold plainOf at h
  split at h <;> first | cases h | skip
  all_goals (rename_i hu; simp only [Instr.checkKey, Sem.run_bind, run_underlying hu w, Result.andThen_ok]; cases v <;> rfl)

theorem keyK_plain {t : Nat} {c : CK} (h : keyK P t = some (.plain c)) : plainOf P t = some c := by
  unfold keyK at h
  unfold plainOf
  split at h <;> first | (injection h with h; injection h with h; subst h; simp only [*]) | cases h | skip
  rename_i n e hu
  split at h
  · cases h
  · split at h
    · split at h <;> simp at h
    · cases h
theorem keyK_arr {t n : Nat} {c : CK} (h : keyK P t = some (.arr n c)) : ∃ e i j, P.underlying t = some (.array n e) ∧ plainOf P e = some c ∧ P.info? e = some i ∧ i.size = 1 ∧ P.info? t = some j ∧ j.size = n := by
  unfold keyK at h
  split at h <;> first | (injection h with h; cases h) | cases h | skip
  rename_i n' e hu
  split at h
  · cases h
  · rename_i c' hc
    split at h
    · rename_i i j hi hj
      split at h
      · rename_i hs
        injection h with h; injection h with h1 h2; subst h1; subst h2
        exact ⟨e, i, j, hu, hc, hi, hs.1, hj, hs.2⟩
      · cases h
    · cases h

theorem part_plain {G : Ghost} {e : Nat} {c : CK} {i : TypeInfo} {vs : Array Value} (hc : plainOf P e = some c) (hi : P.info? e = some i) (j : Nat) (hj : j < vs.size) (w : World) : (part e vs j).run P w = .ok vs[j] w := by
  have hs : shapeOf P e = some (false, i.size) := by
    unfold plainOf at hc
    unfold shapeOf
    split at hc <;> first | (rename_i hu; simp [hu, hi, aggDesc]; done) | cases hc
  have h1 := (run_shapeOf hs w).1
  have : vs[j]? = some vs[j] := by simp [hj]
  simp [part, h1, this]

theorem run_checkKey {t : Nat} {kk : KeyK} (hk : keyK P t = some kk) {G : Ghost} {v : Value} {l : LV} (hv : Rep G v l) (hf : kk.fits l = true) (b : Bool) (w : World) : (Instr.checkKey b 10000 t v).run P w = .ok () w := by
  rcases fits_cells hf with ⟨c, rfl, _, _⟩ | ⟨n, c, cs, rfl, rfl, hn, _⟩
  · exact run_checkKey_plain (keyK_plain hk) b 9999 v w
  · obtain ⟨e, i, j, hu, hc, hi, hs, hj, hjs⟩ := keyK_arr hk
    cases hv with | @agg vs _ hl h =>
    refine (?_ : ∀ d : Nat, (Instr.checkKey b (d + 2) t (.agg vs)).run P w = .ok () w) 9998
    intro d
    have hsz : (sizeOf e).run P w = .ok 1 w := by simp [sizeOf, typeInfo, hi, hs]
    rw [show d + 2 = (d + 1) + 1 from rfl, Instr.checkKey]
    simp only [Sem.run_bind, run_underlying hu w, Result.andThen_ok]
    simp only [Std.Legacy.Range.forIn_eq_forIn_range', Std.Legacy.Range.size, Nat.sub_zero, Nat.add_one_sub_one, Nat.div_one]
    have each : ∀ k ∈ List.range' 0 n, k < vs.size := fun k hk' => by
      rw [List.mem_range'_1] at hk'; omega
    generalize List.range' 0 n = is at each
    induction is with
    | nil => simp
    | cons k is ih =>
      have hk' := each k (by simp)
      simp only [List.forIn_cons, Sem.run_bind, hsz, Result.andThen_ok, Nat.mul_one, part_plain (G := G) hc hi k hk' w, run_checkKey_plain hc b d _ w, Sem.run_pure]
      exact ih (fun y hy => each y (by simp [hy]))

def KeyK.kinds : KeyK → List CK
  | .plain c => [c]
  | .arr n c => List.replicate n c
theorem kinds_fits {kk : KeyK} {l : LV} (h : kk.fits l = true) : fitsAll kk.kinds l.cells = true := by
  rcases fits_cells h with ⟨c, rfl, h1, h2⟩ | ⟨n, c, cs, rfl, rfl, rfl, h2⟩
  · rw [h2]; simp [KeyK.kinds, fitsAll, h1]
  · exact fits_replicate h2
theorem key_shape {t m : Nat} {kk : KeyK} (hks : kindsOf P m t = some kk.kinds) (hk : keyK P t = some kk) {a b : LV} (ha : kk.fits a = true) (hb : kk.fits b = true) :
    ∃ ag n, shapeOf P t = some (ag, n) ∧ (ag = true → a.isAgg n = true ∧ b.isAgg n = true) ∧ (ag = false → a.cells = [a] ∧ b.cells = [b]) := by
  obtain ⟨ag, hs⟩ := kindsOf_len hks
  refine ⟨ag, _, hs, ?_, ?_⟩
  · rintro rfl
    rcases fits_cells ha with ⟨c, rfl, _, _⟩ | ⟨n, c, cs, rfl, rfl, h1, _⟩
    · have := keyK_plain hk
      unfold plainOf at this
      unfold shapeOf at hs
      split at this <;> first | (rename_i hu; rw [hu] at hs; simp only at hs; split at hs <;> simp [aggDesc] at hs; done) | cases this
    · rcases fits_cells hb with ⟨c', e, _, _⟩ | ⟨n', c', cs', e, rfl, h2, _⟩
      · cases e
      · injection e with e1 e2; subst e1; subst e2
        simp [KeyK.kinds, h1, h2]
  · rintro rfl
    rcases fits_cells ha with ⟨c, rfl, _, h1⟩ | ⟨n, c, cs, rfl, rfl, h1, _⟩
    · rcases fits_cells hb with ⟨c', e, _, h2⟩ | ⟨n', c', cs', e, _, _, _⟩
      · exact ⟨h1, h2⟩
      · cases e
    · obtain ⟨e, i, j, hu, _⟩ := keyK_arr hk
      unfold shapeOf at hs
      rw [hu] at hs
      simp only at hs
      split at hs <;> simp [aggDesc] at hs
theorem run_equal {t m : Nat} {kk : KeyK} (hks : kindsOf P m t = some kk.kinds) (hm : m ≤ 10000) (hk : keyK P t = some kk) {G : Ghost} {x y : Value} {a b : LV} (hx : Rep G x a) (hy : Rep G y b) (ha : kk.fits a = true) (hb : kk.fits b = true) (w : World) :
    (Op.equal t x y).run P w = .ok (keyEq a b) w := by
  obtain ⟨ag, n, hs, h1, h2⟩ := key_shape hks hk ha hb
  have := eqOk m t _ hks (10000 - m) w G x y a b ag n hs hx hy h1 h2 (kinds_fits ha) (kinds_fits hb)
  rw [Nat.sub_add_cancel hm] at this
  exact this

theorem keyEq_spec {kk : KeyK} {a b : LV} (ha : kk.fits a = true) (hb : kk.fits b = true) (h : keyEq a b = true) : a = b := by
  have one : ∀ {c : CK} {x y : LV}, c.fits x = true → c.fits y = true → ckEq x y = true → x = y := by
    intro c x y h1 h2 h3
    cases c with
    | bool => obtain ⟨p, rfl⟩ := fits_bool h1; obtain ⟨q, rfl⟩ := fits_bool h2; simp [ckEq] at h3; rw [h3]
    | int k => obtain ⟨p, rfl⟩ := fits_int h1; obtain ⟨q, rfl⟩ := fits_int h2; simp [ckEq] at h3; rw [h3]
    | str => obtain ⟨p, rfl⟩ := fits_str h1; obtain ⟨q, rfl⟩ := fits_str h2; simp [ckEq] at h3; rw [h3]
  rcases fits_cells ha with ⟨c, rfl, h1, h2⟩ | ⟨n, c, cs, rfl, rfl, h1, h2⟩
  · rcases fits_cells hb with ⟨c', e, k1, k2⟩ | ⟨_, _, _, e, _⟩
    · injection e with e; subst e
      unfold keyEq at h
      rw [h2, k2] at h
      simp only [flatEq, Bool.and_true] at h
      exact one h1 k1 h
    · cases e
  · rcases fits_cells hb with ⟨_, e, _⟩ | ⟨n', c', ds, e, rfl, k1, k2⟩
    · cases e
    · injection e with e1 e2; subst e1; subst e2
      have key : ∀ {cs ds : List LV}, cs.all c.fits = true → ds.all c.fits = true → flatEq cs ds = true → cs = ds := by
        intro cs
        induction cs with
        | nil => intro ds _ _ h; cases ds <;> simp [flatEq] at h; rfl
        | cons x cs ih =>
          intro ds hc hd h
          cases ds with
          | nil => simp [flatEq] at h
          | cons y ds =>
            simp only [List.all_cons, Bool.and_eq_true] at hc hd
            simp only [flatEq, Bool.and_eq_true] at h
            rw [one hc.1 hd.1 h.1, ih hc.2 hd.2 h.2]
      rw [key h2 k2 h]

def EntsRep (G : Ghost) (ents : List MapEntry) (es : List (LV × LV)) : Prop := ents.length = es.length ∧ ∀ (i : Nat) (e : MapEntry) (p : LV × LV), ents[i]? = some e → es[i]? = some p → Rep G e.key p.1 ∧ Rep G e.val p.2
theorem EntsRep.tail {G : Ghost} {e : MapEntry} {ents : List MapEntry} {p : LV × LV} {es : List (LV × LV)} (h : EntsRep G (e :: ents) (p :: es)) : (Rep G e.key p.1 ∧ Rep G e.val p.2) ∧ EntsRep G ents es :=
  ⟨h.2 0 e p rfl rfl, by have := h.1; simpa using this, fun i x q hx hq => h.2 (i + 1) x q (by simpa using hx) (by simpa using hq)⟩

def FoundOk (G : Ghost) (ents : List MapEntry) (es : List (LV × LV)) (j : Nat) (k : LV) (r : Option (Nat × Value)) : Prop :=
  match r with
  | none => findL k es j = none
  | some (i, v) => ∃ l, findL k es j = some (i, l) ∧ Rep G v l
theorem FoundOk.cons {G : Ghost} {e : MapEntry} {ents : List MapEntry} {p : LV × LV} {es : List (LV × LV)} {j : Nat} {k : LV} {r : Option (Nat × Value)} (hn : keyEq k p.1 = false) (h : FoundOk G ents es (j + 1) k r) : FoundOk G (e :: ents) (p :: es) j k r := by
  unfold FoundOk at *
  cases r with
  | none => simp only [findL, hn, cond_false]; exact h
  | some x => obtain ⟨l, h1, h2⟩ := h; exact ⟨l, by simp only [findL, hn, cond_false]; exact h1, h2⟩

theorem run_findAsking {t m : Nat} {kk : KeyK} (hks : kindsOf P m t = some kk.kinds) (hm : m ≤ 10000) (hk : keyK P t = some kk) {G : Ghost} {x : Value} {a : LV} (hx : Rep G x a) (ha : kk.fits a = true) :
    ∀ (ents : List MapEntry) (es : List (LV × LV)) (j : Nat), EntsRep G ents es → (∀ p ∈ es, kk.fits p.1 = true) → ∃ r, (∀ w, (Instr.findAsking t x ents j).run P w = .ok r w) ∧ FoundOk G ents es j a r
  | [], [], j, _, _ => ⟨none, fun _ => rfl, rfl⟩
  | [], _ :: _, j, h, _ => by have := h.1; simp at this
  | _ :: _, [], j, h, _ => by have := h.1; simp at this
  | e :: ents, p :: es, j, h, hf => by
    obtain ⟨⟨h1, h2⟩, h3⟩ := h.tail
    have heq := run_equal hks hm hk hx h1 ha (hf p (by simp))
    obtain ⟨r, hr, hr'⟩ := run_findAsking hks hm hk hx ha ents es (j + 1) h3 (fun q hq => hf q (by simp [hq]))
    cases hq : keyEq a p.1 with
    | true =>
      refine ⟨some (j, e.val), fun w => by simp [Instr.findAsking, heq w, hq], p.2, ?_, h2⟩
      obtain ⟨p1, p2⟩ := p
      simp only at hq
      simp [findL, hq]
    | false => exact ⟨r, fun w => by simp [Instr.findAsking, heq w, hq, hr w], hr'.cons hq⟩

theorem ba_beq (p q : ByteArray) : (p == q) = true ↔ p = q := by
  have e : (p == q) = (p.data == q.data) := rfl
  rw [e, beq_iff_eq]
  constructor
  · intro h; cases p; cases q; simp only at h; rw [h]
  · intro h; rw [h]
theorem sameNow_plain {t : Nat} {c : CK} {d : TypeDesc} (hc : plainOf P t = some c) (hd : P.underlying t = some d) {G : Ghost} {x y : Value} {a b : LV} (hx : Rep G x a) (hy : Rep G y b) (ha : c.fits a = true) (hb : c.fits b = true) :
    Instr.sameNow d x y = some (keyEq a b) := by
  unfold plainOf at hc
  rw [hd] at hc
  cases d <;> simp at hc <;> subst hc
  · obtain ⟨p, rfl⟩ := fits_bool ha; obtain ⟨q, rfl⟩ := fits_bool hb
    cases hx; cases hy; simp [Instr.sameNow, keyEq, flatEq, LV.cells, ckEq]
  · obtain ⟨p, rfl⟩ := fits_int ha; obtain ⟨q, rfl⟩ := fits_int hb
    cases hx; cases hy; simp [Instr.sameNow, keyEq, flatEq, LV.cells, ckEq]
  · obtain ⟨p, rfl⟩ := fits_str ha; obtain ⟨q, rfl⟩ := fits_str hb
    cases hx; cases hy; simp [Instr.sameNow, keyEq, flatEq, LV.cells, ckEq]
    rw [Bool.eq_iff_iff, decide_eq_true_eq]
    exact ba_beq p q
theorem run_findNow {t : Nat} {c : CK} {d : TypeDesc} (hc : plainOf P t = some c) (hd : P.underlying t = some d) {G : Ghost} {x : Value} {a : LV} (hx : Rep G x a) (ha : c.fits a = true) :
    ∀ (ents : List MapEntry) (es : List (LV × LV)) (j : Nat), EntsRep G ents es → (∀ p ∈ es, c.fits p.1 = true) → ∃ r, Instr.findNow d x ents j = some r ∧ FoundOk G ents es j a r
  | [], [], j, _, _ => ⟨none, rfl, rfl⟩
  | [], _ :: _, j, h, _ => by have := h.1; simp at this
  | _ :: _, [], j, h, _ => by have := h.1; simp at this
  | e :: ents, p :: es, j, h, hf => by
    obtain ⟨⟨h1, h2⟩, h3⟩ := h.tail
    have heq := sameNow_plain hc hd hx h1 ha (hf p (by simp))
    obtain ⟨r, hr, hr'⟩ := run_findNow hc hd hx ha ents es (j + 1) h3 (fun q hq => hf q (by simp [hq]))
    cases hq : keyEq a p.1 with
    | true =>
      refine ⟨some (j, e.val), by simp [Instr.findNow, heq, hq], p.2, ?_, h2⟩
      obtain ⟨p1, p2⟩ := p
      simp only at hq
      simp [findL, hq]
    | false => exact ⟨r, by simp [Instr.findNow, heq, hq, hr], hr'.cons hq⟩

theorem run_findKey {t m : Nat} {kk : KeyK} (hks : kindsOf P m t = some kk.kinds) (hm : m ≤ 10000) (hk : keyK P t = some kk) {G : Ghost} {x : Value} {a : LV} (hx : Rep G x a) (ha : kk.fits a = true) (ents : List MapEntry) (es : List (LV × LV))
    (h : EntsRep G ents es) (hf : ∀ p ∈ es, kk.fits p.1 = true) : ∃ r, (∀ w, (Instr.findKey t x ents).run P w = .ok r w) ∧ FoundOk G ents es 0 a r := by
  cases kk with
  | plain c =>
    have hc := keyK_plain hk
    obtain ⟨d, hd⟩ : ∃ d, P.underlying t = some d := by
      unfold plainOf at hc
      split at hc <;> first | exact ⟨_, ‹_›⟩ | cases hc
    obtain ⟨r, hr, hr'⟩ := run_findNow hc hd hx ha ents es 0 h hf
    exact ⟨r, fun w => by simp [Instr.findKey, run_underlying hd w, hr], hr'⟩
  | arr n c =>
    obtain ⟨e, i, j, hu, _⟩ := keyK_arr hk
    cases ents with
    | nil =>
      cases es with
      | nil => exact ⟨none, fun w => by simp [Instr.findKey, run_underlying hu w, Instr.findNow], rfl⟩
      | cons p es => have := h.1; simp at this
    | cons e0 ents =>
      obtain ⟨r, hr, hr'⟩ := run_findAsking hks hm hk hx ha (e0 :: ents) es 0 h hf
      refine ⟨r, fun w => ?_, hr'⟩
      simp only [Instr.findKey, Sem.run_bind, run_underlying hu w, Result.andThen_ok]
      have : Instr.findNow (.array n e) x (e0 :: ents) 0 = none := by simp [Instr.findNow, Instr.sameNow]
      rw [this]; exact hr w
end
end Go.L

set_option linter.unusedVariables false
set_option linter.unusedSimpArgs false
namespace Go.L
open Go Go.RowKit

theorem rep_key {kk : KeyK} {G : Ghost} {x y : Value} {a : LV} (hf : kk.fits a = true) (hx : Rep G x a) (hy : Rep G y a) : x = y := by
  have one : ∀ {c : CK} {u v : Value} {l : LV}, c.fits l = true → Rep G u l → Rep G v l → u = v := by
    intro c u v l h1 h2 h3
    cases c with
    | bool => obtain ⟨p, rfl⟩ := fits_bool h1; cases h2; cases h3; rfl
    | int k => obtain ⟨p, rfl⟩ := fits_int h1; cases h2; cases h3; rfl
    | str => obtain ⟨p, rfl⟩ := fits_str h1; cases h2; cases h3; rfl
  rcases fits_cells hf with ⟨c, rfl, h1, _⟩ | ⟨n, c, cs, rfl, rfl, h1, h2⟩
  · exact one h1 hx hy
  · cases hx with | @agg vs _ hl h =>
    cases hy with | @agg us _ kl k =>
    congr 1
    apply Array.ext
    · omega
    · intro i hi hj
      have hc : i < cs.length := by omega
      have hcf : c.fits cs[i] = true := by
        rw [List.all_eq_true] at h2
        exact h2 _ (List.getElem_mem hc)
      exact one hcf (h i _ _ (by simp [hi]) (List.getElem?_eq_getElem hc)) (k i _ _ (by simp [hj]) (List.getElem?_eq_getElem hc))
theorem sameBits_key {kk : KeyK} {G : Ghost} {x : Value} {a : LV} (hf : kk.fits a = true) (hx : Rep G x a) : Instr.sameBits 10000 x x = true := by
  have one : ∀ {c : CK} {u : Value} {l : LV} (n : Nat), c.fits l = true → Rep G u l → Instr.sameBits n u u = true := by
    intro c u l n h1 h2
    cases c with
    | bool => obtain ⟨p, rfl⟩ := fits_bool h1; cases h2; cases n <;> simp [Instr.sameBits]
    | int k => obtain ⟨p, rfl⟩ := fits_int h1; cases h2; cases n <;> simp [Instr.sameBits]
    | str =>
      obtain ⟨p, rfl⟩ := fits_str h1; cases h2
      have : (p == p) = true := (ba_beq p p).2 rfl
      cases n <;> simp [Instr.sameBits, this]
  rcases fits_cells hf with ⟨c, rfl, h1, _⟩ | ⟨n, c, cs, rfl, rfl, h1, h2⟩
  · exact one _ h1 hx
  · cases hx with | @agg vs _ hl h =>
    refine (?_ : ∀ d : Nat, Instr.sameBits (d + 1) (.agg vs) (.agg vs) = true) 9999
    intro d
    simp only [Instr.sameBits, beq_self_eq_true, Bool.true_and, List.all_eq_true]
    rintro ⟨u, v⟩ hm
    obtain ⟨i, hi, he⟩ := List.mem_iff_getElem.1 hm
    simp only [List.getElem_zip, Prod.mk.injEq] at he
    obtain ⟨rfl, rfl⟩ := he
    have hi' : i < vs.size := by simpa using hi
    have hc : i < cs.length := by omega
    have hcf : c.fits cs[i] = true := by
      rw [List.all_eq_true] at h2
      exact h2 _ (List.getElem_mem hc)
    exact one _ hcf (h i _ _ (by simp [hi']) (List.getElem?_eq_getElem hc))

theorem findL_none {k v : LV} : ∀ {es : List (LV × LV)} {j : Nat}, findL k es j = none → getL k es = none ∧ putL k v es = es ++ [(k, v)] ∧ delL k es = es
  | [], j, _ => ⟨rfl, rfl, rfl⟩
  | q :: r, j, h => by
    simp only [findL] at h
    cases hq : keyEq k q.1 with
    | true => simp [hq] at h
    | false =>
      simp only [hq, cond_false] at h
      obtain ⟨h1, h2, h3⟩ := findL_none (v := v) h
      simp [getL, putL, delL, hq, h1, h2, h3]
theorem findL_some {k v : LV} : ∀ {es : List (LV × LV)} {j i : Nat} {l : LV}, findL k es j = some (i, l) → ∃ n p, i = j + n ∧ es[n]? = some p ∧ keyEq k p.1 = true ∧ p.2 = l ∧ getL k es = some l ∧ putL k v es = es.set n (k, v) ∧ delL k es = es.eraseIdx n
  | [], j, i, l, h => by simp [findL] at h
  | q :: r, j, i, l, h => by
    simp only [findL] at h
    cases hq : keyEq k q.1 with
    | true =>
      simp only [hq, cond_true, Option.some.injEq, Prod.mk.injEq] at h
      obtain ⟨rfl, rfl⟩ := h
      exact ⟨0, q, rfl, rfl, hq, rfl, by simp [getL, hq], by simp [putL, hq], by simp [delL, hq]⟩
    | false =>
      simp only [hq, cond_false] at h
      obtain ⟨n, p, h1, h2, h3, h4, h5, h6, h7⟩ := findL_some (v := v) h
      exact ⟨n + 1, p, by omega, by simpa using h2, h3, h4, by simp [getL, hq, h5], by simp [putL, hq, h6], by simp [delL, hq, h7]⟩

theorem run_getMap {P : Program} {w : World} {r : Nat} {es : Array MapEntry} {clock : Nat} (hb : w.heap[r]? = some (.map es clock)) : (getObj r).run P w = .ok (.map es clock) w := by
  simp [getObj, Sem.run, hb]
theorem run_setMap {P : Program} {w : World} {r : Nat} {es : Array MapEntry} {clock : Nat} (o : Obj) (hb : w.heap[r]? = some (.map es clock)) : (setObj r o).run P w = .ok () { w with heap := w.heap.setIfInBounds r o } := by
  simp [setObj, Sem.run, hb]
def mapTy (P : Program) (t : Nat) : Option (Nat × Nat) := match P.underlying t with | some (.map k e) => some (k, e) | _ => none
theorem mapTy_spec {P : Program} {t k e : Nat} (h : mapTy P t = some (k, e)) : P.underlying t = some (.map k e) := by
  unfold mapTy at h
  split at h
  · rename_i hu; injection h with h; injection h with h1 h2; subst h1; subst h2; exact hu
  · cases h

section
variable {P : Program} {regs : Fr} {L : Hp} {T : Tk} {Q : HQ} {ops : Array Oper} {p : Plan} {pend : Pends} {i : Nat} {U : List Nat} {d : Option Tmp} {ty : TypeId} {pos : String} {af : Array Edge} {g : Option (Nat × Bool)}

/-- Keys of a map, at its key's type. -/
structure KeysOk (P : Program) (t : Nat) (kk : KeyK) : Prop where
  kinds : ∃ m, m ≤ 10000 ∧ kindsOf P m t = some kk.kinds
  key : keyK P t = some kk

theorem objRep_ents {G : Ghost} {obj : Obj} {es : List (LV × LV)} {ver : Nat} (h : ObjRep G obj (.map es ver)) : ∃ ents clock, obj = .map ents clock ∧ EntsRep G ents.toList es := by
  obtain ⟨ents, clock, e, h1, h2, _⟩ := h
  exact ⟨ents, clock, e, by simpa using h1, fun i x q hx hq => h2 i x q (by rw [Array.getElem?_toList] at hx; exact hx) hq⟩
theorem objRep_born {G : Ghost} {ents : Array MapEntry} {clock ver : Nat} {es : List (LV × LV)} (h : ObjRep G (.map ents clock) (.map es ver)) : BornOk ents clock := by
  obtain ⟨e1, c1, e, h1, h2, h3⟩ := h
  injection e with e1 e2; subst e1; subst e2; exact h3
def BornL (ents : List MapEntry) (clock : Nat) : Prop := (ents.map (·.born)).Nodup ∧ ∀ e ∈ ents, e.born < clock
theorem born_push {ents : List MapEntry} {clock : Nat} (h : BornL ents clock) (e : MapEntry) (he : e.born = clock) : BornL (ents ++ [e]) (clock + 1) := by
  refine ⟨?_, fun x hx => ?_⟩
  · rw [List.map_append, List.nodup_append]
    refine ⟨h.1, by simp, fun a ha b hb => ?_⟩
    obtain ⟨x, hx, rfl⟩ := List.mem_map.1 ha
    simp at hb; subst hb
    have := h.2 x hx
    omega
  · rcases List.mem_append.1 hx with hx | hx
    · have := h.2 x hx; omega
    · simp at hx; subst hx; omega
theorem born_modify {ents : List MapEntry} {clock n : Nat} {f : MapEntry → MapEntry} (h : BornL ents clock) (hf : ∀ e, (f e).born = e.born) : BornL (ents.modify n f) clock := by
  have hm : (ents.modify n f).map (·.born) = ents.map (·.born) := by
    apply List.ext_getElem?
    intro i
    simp only [List.getElem?_map, List.getElem?_modify]
    by_cases hi : n = i
    · subst hi; cases ents[n]? <;> simp [hf]
    · simp only [hi, if_false]; cases ents[i]? <;> simp
  refine ⟨by rw [hm]; exact h.1, fun x hx => ?_⟩
  have : x.born ∈ (ents.modify n f).map (·.born) := List.mem_map.2 ⟨x, hx, rfl⟩
  rw [hm] at this
  obtain ⟨y, hy, e⟩ := List.mem_map.1 this
  have := h.2 y hy
  omega
theorem born_erase {ents : List MapEntry} {clock : Nat} (h : BornL ents clock) (n : Nat) : BornL (ents.eraseIdx n) clock :=
  ⟨((List.eraseIdx_sublist _ _).map _).nodup h.1, fun x hx => h.2 x ((List.eraseIdx_sublist _ _).mem hx)⟩
theorem objRep_of {G : Ghost} {ents : List MapEntry} {clock ver : Nat} {es : List (LV × LV)} (h : EntsRep G ents es) (hb : BornL ents clock) : ObjRep G (.map ents.toArray clock) (.map es ver) :=
  ⟨ents.toArray, clock, rfl, by simpa using h.1, fun i x q hx hq => h.2 i x q (by simpa using hx) hq, hb⟩

def okTup (c : Bool) (v : LV) (b : Bool) : LV := bif c then .tup [v, .bool b] else v
theorem HPlan.lookup {t kt et id ver : Nat} {x y : Operand} {c : Bool} {kk : KeyK} {es : List (LV × LV)} {a z v : LV} (ho : ops[i]? = some ⟨d, .lookup t x y c, ty, pos, af, g⟩) (ht : takenB ops g regs = true) (hx : opdO regs x = some (.mp id)) (hy : opdO regs y = some a)
    (hm : mapTy P t = some (kt, et)) (hk : KeysOk P kt kk) (hz : zeroOf P et = some z) (hL : (id, .map es ver) ∈ L) (ha : kk.fits a = true) (hes : ∀ p ∈ es, kk.fits p.1 = true) (hv : okTup c ((getL a es).getD z) (getL a es).isSome = v)
    (k : HPlan P ops Q p ((i, [id]) :: pend) (setR d v regs) L T) : HPlan P ops Q (.rd i p) pend regs L T := by
  subst hv
  refine .rdd ho ht rfl (fun st hst G A w hR hr => ?_) k
  have hid := hst.obj _ hL
  obtain ⟨b, obj, e1, e2, e3, e4⟩ := hR.objs id _ hid
  obtain ⟨ents, clock, rfl, hents⟩ := objRep_ents e4
  have rx := rep_opd hr x
  have ry := rep_opd hr y
  rw [opdV_of hx] at rx
  rw [opdV_of hy] at ry
  obtain ⟨u, hu⟩ : ∃ u, A.eval x = u := ⟨_, rfl⟩
  rw [hu] at rx
  cases rx with | @mp _ b' hb =>
  rw [e1] at hb; injection hb with hb; subst hb
  obtain ⟨m, hm1, hm2⟩ := hk.kinds
  obtain ⟨zv, hzv, hzr⟩ := run_zeroOf hz G
  obtain ⟨r, hfind, hr2⟩ := run_findKey hm2 hm1 hk.key ry ha ents.toList es hents hes
  have hmt := mapTy_spec hm
  have hobj : ∀ w' : World, w'.heap[b]? = some (.map ents clock) → (getObj b).run P w' = .ok (.map ents clock) w' := fun w' h => run_getMap h
  cases r with
  | none =>
    obtain ⟨h1, _⟩ := findL_none (v := a) hr2
    refine ⟨if c then .tuple #[zv, .bool false] else zv, ?_, fun w' hd _ => ?_⟩
    · rw [h1]
      cases c with
      | false => exact hzv
      | true => exact .tup rfl (fun i v l hv hl => by
          rcases i with _ | _ | i
          · simp at hv hl; subst hv; subst hl; exact hzv
          · simp at hv hl; subst hv; subst hl; exact .bool _
          · simp at hv)
    · have hb' := hd id (by simp) b e1
      rw [e3] at hb'
      cases c <;> simp [execOp, hu, Instr.lookup, run_underlying hmt w', hobj w' hb', run_checkKey hk.key ry ha, hfind w', hzr w']
  | some q =>
    obtain ⟨n, u'⟩ := q
    obtain ⟨l, h1, h2⟩ := hr2
    obtain ⟨_, _, _, _, _, _, h6, _⟩ := findL_some (v := a) h1
    refine ⟨if c then .tuple #[u', .bool true] else u', ?_, fun w' hd _ => ?_⟩
    · rw [h6]
      cases c with
      | false => exact h2
      | true => exact .tup rfl (fun i v l hv hl => by
          rcases i with _ | _ | i
          · simp at hv hl; subst hv; subst hl; exact h2
          · simp at hv hl; subst hv; subst hl; exact .bool _
          · simp at hv)
    · have hb' := hd id (by simp) b e1
      rw [e3] at hb'
      cases c <;> simp [execOp, hu, Instr.lookup, run_underlying hmt w', hobj w' hb', run_checkKey hk.key ry ha, hfind w']

theorem HPlan.lookupN {t kt et : Nat} {x y : Operand} {c : Bool} {kk : KeyK} {a z v : LV} (ho : ops[i]? = some ⟨d, .lookup t x y c, ty, pos, af, g⟩) (ht : takenB ops g regs = true) (hx : opdO regs x = some .nilm) (hy : opdO regs y = some a)
    (hm : mapTy P t = some (kt, et)) (hk : KeysOk P kt kk) (hz : zeroOf P et = some z) (ha : kk.fits a = true) (hv : okTup c z false = v)
    (k : HPlan P ops Q p ((i, []) :: pend) (setR d v regs) L T) : HPlan P ops Q (.rd i p) pend regs L T := by
  subst hv
  refine .rdd ho ht rfl (fun st hst G A w hR hr => ?_) k
  have rx := rep_opd hr x
  have ry := rep_opd hr y
  rw [opdV_of hx] at rx
  rw [opdV_of hy] at ry
  obtain ⟨u, hu⟩ : ∃ u, A.eval x = u := ⟨_, rfl⟩
  rw [hu] at rx
  cases rx
  obtain ⟨m, hm1, hm2⟩ := hk.kinds
  obtain ⟨zv, hzv, hzr⟩ := run_zeroOf hz G
  obtain ⟨r, hfind, hr2⟩ := run_findKey hm2 hm1 hk.key ry ha [] [] ⟨rfl, fun i e p h => by simp at h⟩ (fun p h => nomatch h)
  have hmt := mapTy_spec hm
  have hr' : r = none := by
    cases r with
    | none => rfl
    | some q => obtain ⟨q1, q2⟩ := q; obtain ⟨l, h1, _⟩ := hr2; cases h1
  subst hr'
  refine ⟨if c then .tuple #[zv, .bool false] else zv, ?_, fun w' hd _ => ?_⟩
  · cases c with
    | false => exact hzv
    | true => exact .tup rfl (fun i v l hv hl => by
        rcases i with _ | _ | i
        · simp at hv hl; subst hv; subst hl; exact hzv
        · simp at hv hl; subst hv; subst hl; exact .bool _
        · simp at hv)
  · cases c <;> simp [execOp, hu, Instr.lookup, run_underlying hmt w', run_checkKey hk.key ry ha, hfind w', hzr w']

theorem HPlan.lenMap {x : Operand} {t id ver : Nat} {es : List (LV × LV)} {v : LV} (ho : ops[i]? = some ⟨d, .call { callee := .builtin .len, args := #[x], argTypes := #[t] }, ty, pos, af, g⟩) (ht : takenB ops g regs = true) (hx : opdO regs x = some (.mp id)) (hk : tyKind P t = .mp) (hL : (id, .map es ver) ∈ L)
    (hv : .int .i64 (es.length : Int) = v) (k : HPlan P ops Q p ((i, [id]) :: pend) (setR d v regs) L T) : HPlan P ops Q (.rd i p) pend regs L T := by
  subst hv
  refine .rdd ho ht rfl (fun st hst G A w hR hr => ?_) k
  have hid := hst.obj _ hL
  obtain ⟨b, obj, e1, e2, e3, e4⟩ := hR.objs id _ hid
  obtain ⟨ents, clock, rfl, hents⟩ := objRep_ents e4
  have rx := rep_opd hr x
  rw [opdV_of hx] at rx
  obtain ⟨u, hu⟩ : ∃ u, A.eval x = u := ⟨_, rfl⟩
  rw [hu] at rx
  cases rx with | @mp _ b' hb =>
  rw [e1] at hb; injection hb with hb; subst hb
  have hmt : ∃ q e, P.underlying t = some (.map q e) := by
    unfold tyKind at hk
    split at hk <;> first | exact ⟨_, _, ‹_›⟩ | cases hk
  obtain ⟨q, e, hmt⟩ := hmt
  refine ⟨.int .i64 (es.length : Int), .int _ _, fun w' hd _ => ?_⟩
  have hb' := hd id (by simp) b e1
  rw [e3] at hb'
  have hsz : ents.size = es.length := by have := hents.1; simpa using this
  simp [execOp, resolve, invoke, builtin, hu, Builtin.len_, run_underlying hmt w', run_getMap hb', goInt, hsz]

theorem HPlan.makeMap {t : Nat} (ho : ops[i]? = some ⟨d, .makeMap t none, ty, pos, af, g⟩) (ht : takenB ops g regs = true)
    (k : ∀ id, keptH U pend L ((id, .map [] 0) :: L) ∧ HPlan P ops Q p pend (setR d (.mp id) regs) ((id, .map [] 0) :: L) T) : HPlan P ops Q (.act i U p) pend regs L T := by
  refine .actd ho ht fun st hst => does_run fun G a w hR hr => ?_
  refine ⟨.map (some w.heap.size), .mp st.heap.length, st.push (.map [] 0), w.alloc (.map #[] 0), _, ?_, step_new hR (o := .map #[] 0) (l := .map [] 0) ⟨#[], 0, rfl, rfl, fun i e p h => by simp at h, by simp, fun e h => by simp at h⟩, .mp (by simp [Ghost.addBlk]), _, T, ?_, k st.heap.length⟩
  · simp [execOp, Instr.makeMap]
  · refine ⟨fun q hq => ?_, hst.tok, ?_, hst.nt⟩
    · rcases List.mem_cons.1 hq with rfl | hq
      · simp [St.push]
      · have := hst.obj q hq
        simp only [St.push]
        rw [List.getElem?_append_left (List.getElem?_eq_some_iff.1 this).1]; exact this
    · rw [List.map_cons, List.nodup_cons]
      refine ⟨fun hm => ?_, hst.nd⟩
      obtain ⟨q, hq, e⟩ := List.mem_map.1 hm
      have := (List.getElem?_eq_some_iff.1 (hst.obj q hq)).1
      simp only at e; omega

theorem entsRep_set {G : Ghost} {ents : List MapEntry} {es : List (LV × LV)} (h : EntsRep G ents es) {n : Nat} {f : MapEntry → MapEntry} {q : LV × LV} (hf : ∀ e, ents[n]? = some e → Rep G (f e).key q.1 ∧ Rep G (f e).val q.2) :
    EntsRep G (ents.modify n f) (es.set n q) := by
  refine ⟨by simp [h.1], fun i e p he hp => ?_⟩
  rw [List.getElem?_modify] at he
  rw [List.getElem?_set] at hp
  by_cases hi : n = i
  · subst hi
    simp only [if_true] at he hp
    split at hp
    · injection hp with hp; subst hp
      cases hx : ents[n]? with
      | none => simp [hx] at he
      | some x => simp [hx] at he; subst he; exact hf x hx
    · cases hp
  · rw [if_neg hi] at hp
    simp only [hi, if_false] at he
    refine h.2 i e p ?_ hp
    cases hx : ents[i]? with
    | none => simp [hx] at he
    | some x => simpa [hx] using he
theorem entsRep_push {G : Ghost} {ents : List MapEntry} {es : List (LV × LV)} (h : EntsRep G ents es) {e : MapEntry} {q : LV × LV} (hk : Rep G e.key q.1) (hv : Rep G e.val q.2) : EntsRep G (ents ++ [e]) (es ++ [q]) := by
  refine ⟨by simp [h.1], fun i x p hx hp => ?_⟩
  rw [List.getElem?_append] at hx hp
  rw [h.1] at hx
  split at hx
  · rename_i hi; rw [if_pos hi] at hp; exact h.2 i x p hx hp
  · rename_i hi
    rw [if_neg hi] at hp
    rcases hj : i - es.length with _ | j
    · rw [hj] at hx hp; simp at hx hp; subst hx; subst hp; exact ⟨hk, hv⟩
    · rw [hj] at hx; simp at hx
theorem entsRep_erase {G : Ghost} {ents : List MapEntry} {es : List (LV × LV)} (h : EntsRep G ents es) (n : Nat) : EntsRep G (ents.eraseIdx n) (es.eraseIdx n) := by
  refine ⟨by rw [List.length_eraseIdx, List.length_eraseIdx, h.1], fun i x p hx hp => ?_⟩
  rw [List.getElem?_eraseIdx] at hx hp
  split at hx
  · rename_i hi; rw [if_pos hi] at hp; exact h.2 i x p hx hp
  · rename_i hi; rw [if_neg hi] at hp; exact h.2 (i + 1) x p hx hp

theorem HPlan.mapUpdate {t kt et id ver : Nat} {x y z : Operand} {kk : KeyK} {es es' : List (LV × LV)} {a v : LV} {L' : Hp} (ho : ops[i]? = some ⟨d, .mapUpdate t x y z, ty, pos, af, g⟩) (ht : takenB ops g regs = true) (hx : opdO regs x = some (.mp id)) (hy : opdO regs y = some a) (hz : opdO regs z = some v)
    (hm : mapTy P t = some (kt, et)) (hk : KeysOk P kt kk) (ha : kk.fits a = true) (hes : ∀ p ∈ es, kk.fits p.1 = true) (he : putL a v es = es') (hu : Upd id (.map es ver) (.map es' (ver + 1)) L L') (hkp : keptH U pend L L')
    (k : HPlan P ops Q p pend (setR d .skp regs) L' T) : HPlan P ops Q (.act i U p) pend regs L T := by
  subst he
  refine .actd ho ht fun st hst => does_skip fun G A w hR hr => ?_
  have hid := hst.obj _ hu.mem
  obtain ⟨b, obj, e1, e2, e3, e4⟩ := hR.objs id _ hid
  obtain ⟨ents, clock, rfl, hents⟩ := objRep_ents e4
  have rx := rep_opd hr x
  have ry := rep_opd hr y
  have rz := rep_opd hr z
  rw [opdV_of hx] at rx
  rw [opdV_of hy] at ry
  rw [opdV_of hz] at rz
  obtain ⟨u, hu'⟩ : ∃ u, A.eval x = u := ⟨_, rfl⟩
  rw [hu'] at rx
  cases rx with | @mp _ b' hb =>
  have hbb := hb
  rw [e1] at hb; injection hb with hb; subst hb
  obtain ⟨m, hm1, hm2⟩ := hk.kinds
  obtain ⟨r, hfind, hr2⟩ := run_findKey hm2 hm1 hk.key ry ha ents.toList es hents hes
  have hmt := mapTy_spec hm
  have hlt : b < w.heap.size := hR.blk_lt hbb
  have fin : ∀ (o : Obj), ObjRep G o (.map (putL a v es) (ver + 1)) → Step G st w G (st.put id (.map (putL a v es) (ver + 1))) { w with heap := w.heap.setIfInBounds b o } := fun o h =>
    step_set hR hid hbb rfl (by simp [LObj.ver]) (by simp) (fun k hk => by simp [Array.getElem?_setIfInBounds_ne (Ne.symm hk)]) (by simp [hlt]) h rfl rfl rfl
  cases r with
  | none =>
    obtain ⟨_, h2, _⟩ := findL_none (v := v) hr2
    refine ⟨st.put id (.map (putL a v es) (ver + 1)), { w with heap := w.heap.setIfInBounds b (.map (ents.push { key := A.eval y, val := A.eval z, born := clock }) (clock + 1)) }, G, ?_, fin _ ?_, L', T, hst.upd hu, hkp, k⟩
    · simp [execOp, hu', Instr.mapUpdate, run_underlying hmt w, run_getMap e3, run_checkKey hk.key ry ha, hfind w, run_setMap _ e3]
    · rw [h2]
      have := objRep_of (clock := clock + 1) (ver := ver + 1) (entsRep_push hents (e := { key := A.eval y, val := A.eval z, born := clock }) (q := (a, v)) ry rz) (born_push (objRep_born e4) _ rfl)
      have e : ∀ q : MapEntry, ents.push q = (ents.toList ++ [q]).toArray := fun q => by
        apply Array.ext'; simp
      rw [e]; exact this
  | some q =>
    obtain ⟨n, u''⟩ := q
    obtain ⟨l, h1, h2⟩ := hr2
    obtain ⟨n', pp, hn, hp1, hp2, hp3, _, h6, _⟩ := findL_some (v := v) h1
    have hn' : n = n' := by omega
    subst hn'
    have hnl : n < es.length := (List.getElem?_eq_some_iff.1 hp1).1
    have hne : n < ents.toList.length := by rw [hents.1]; exact hnl
    have hne' : n < ents.size := by simpa using hne
    have hkey : ents[n].key = A.eval y := by
      have hr1 := (hents.2 n ents[n] pp (by rw [Array.getElem?_toList]; simp [hne']) hp1).1
      have hpa : pp.1 = a := (keyEq_spec ha (hes pp (List.mem_of_getElem? hp1)) hp2).symm
      rw [hpa] at hr1
      exact rep_key ha hr1 ry
    have hstay : (Instr.keyThatStays (((ents[n]?).map (·.key)).getD (A.eval y)) (A.eval y)).run P w = .ok (A.eval y) w := by
      have : ents[n]? = some ents[n] := by simp [hne']
      rw [this]
      simp only [Option.map_some, Option.getD_some, hkey, Instr.keyThatStays, sameBits_key ha ry, if_true]
      rfl
    refine ⟨st.put id (.map (putL a v es) (ver + 1)), { w with heap := w.heap.setIfInBounds b (.map (ents.modify n fun e => { e with key := A.eval y, val := A.eval z }) clock) }, G, ?_, fin _ ?_, L', T, hst.upd hu, hkp, k⟩
    · simp only [execOp, hu', Instr.mapUpdate, Sem.run_bind, run_underlying hmt w, Result.andThen_ok, run_getMap e3, run_checkKey hk.key ry ha, hfind w, hstay, run_setMap _ e3]
      rfl
    · rw [h6]
      have := objRep_of (clock := clock) (ver := ver + 1) (entsRep_set hents (n := n) (f := fun e => { e with key := A.eval y, val := A.eval z }) (q := (a, v)) (fun e _ => ⟨ry, rz⟩)) (born_modify (objRep_born e4) fun _ => rfl)
      simpa [← Array.toList_modify] using this

theorem HPlan.delete {t t2 kt et id ver : Nat} {x y : Operand} {kk : KeyK} {es es' : List (LV × LV)} {a : LV} {L' : Hp} (ho : ops[i]? = some ⟨d, .call { callee := .builtin .delete, args := #[x, y], argTypes := #[t, t2] }, ty, pos, af, g⟩) (ht : takenB ops g regs = true) (hx : opdO regs x = some (.mp id)) (hy : opdO regs y = some a)
    (hm : mapTy P t = some (kt, et)) (hk : KeysOk P kt kk) (ha : kk.fits a = true) (hes : ∀ p ∈ es, kk.fits p.1 = true) (he : delL a es = es') (hu : Upd id (.map es ver) (.map es' (ver + 1)) L L') (hkp : keptH U pend L L')
    (k : HPlan P ops Q p pend (setR d (.tup []) regs) L' T) : HPlan P ops Q (.act i U p) pend regs L T := by
  subst he
  refine .actd ho ht fun st hst => does_run fun G A w hR hr => ?_
  have hid := hst.obj _ hu.mem
  obtain ⟨b, obj, e1, e2, e3, e4⟩ := hR.objs id _ hid
  obtain ⟨ents, clock, rfl, hents⟩ := objRep_ents e4
  have rx := rep_opd hr x
  have ry := rep_opd hr y
  rw [opdV_of hx] at rx
  rw [opdV_of hy] at ry
  obtain ⟨u, hu'⟩ : ∃ u, A.eval x = u := ⟨_, rfl⟩
  rw [hu'] at rx
  cases rx with | @mp _ b' hb =>
  have hbb := hb
  rw [e1] at hb; injection hb with hb; subst hb
  obtain ⟨m, hm1, hm2⟩ := hk.kinds
  obtain ⟨r, hfind, hr2⟩ := run_findKey hm2 hm1 hk.key ry ha ents.toList es hents hes
  have hmt := mapTy_spec hm
  have hlt : b < w.heap.size := hR.blk_lt hbb
  have fin : ∀ (o : Obj), ObjRep G o (.map (delL a es) (ver + 1)) → Step G st w G (st.put id (.map (delL a es) (ver + 1))) { w with heap := w.heap.setIfInBounds b o } := fun o h =>
    step_set hR hid hbb rfl (by simp [LObj.ver]) (by simp) (fun k hk => by simp [Array.getElem?_setIfInBounds_ne (Ne.symm hk)]) (by simp [hlt]) h rfl rfl rfl
  cases r with
  | none =>
    obtain ⟨_, _, h3⟩ := findL_none (v := a) hr2
    refine ⟨.tuple #[], .tup [], st.put id (.map (delL a es) (ver + 1)), { w with heap := w.heap.setIfInBounds b (.map ents clock) }, G, ?_, fin _ ?_, .tup rfl (fun i v l h => by simp at h), L', T, hst.upd hu, hkp, k⟩
    · simp [execOp, resolve, invoke, builtin, hu', Builtin.delete_, run_underlying hmt w, run_getMap e3, run_checkKey hk.key ry ha, hfind w, run_setMap _ e3]
    · rw [h3]
      have := objRep_of (clock := clock) (ver := ver + 1) hents (objRep_born e4)
      simpa using this
  | some q =>
    obtain ⟨n, u''⟩ := q
    obtain ⟨l, h1, h2⟩ := hr2
    obtain ⟨n', pp, hn, hp1, hp2, hp3, _, _, h7⟩ := findL_some (v := a) h1
    have hn' : n = n' := by omega
    subst hn'
    refine ⟨.tuple #[], .tup [], st.put id (.map (delL a es) (ver + 1)), { w with heap := w.heap.setIfInBounds b (.map (ents.eraseIdxIfInBounds n) clock) }, G, ?_, fin _ ?_, .tup rfl (fun i v l h => by simp at h), L', T, hst.upd hu, hkp, k⟩
    · simp [execOp, resolve, invoke, builtin, hu', Builtin.delete_, run_underlying hmt w, run_getMap e3, run_checkKey hk.key ry ha, hfind w, run_setMap _ e3]
    · rw [h7]
      have := objRep_of (clock := clock) (ver := ver + 1) (entsRep_erase hents n) (born_erase (objRep_born e4) n)
      have e : ents.eraseIdxIfInBounds n = (ents.toList.eraseIdx n).toArray := by
        apply Array.ext'
        rw [Array.toList_eraseIdxIfInBounds]
      rw [e]; exact this
end
end Go.L

set_option linter.unusedVariables false
set_option linter.unusedSimpArgs false
namespace Go.L
open Go Go.RowKit

/-- Bytes, as cells. -/
def bytesLV (l : List UInt8) : List LV := l.map fun b => .int .u8 b.toNat
@[simp] theorem bytesLV_length (l : List UInt8) : (bytesLV l).length = l.length := by simp [bytesLV]
theorem bytesLV_append (a b : List UInt8) : bytesLV (a ++ b) = bytesLV a ++ bytesLV b := by simp [bytesLV]
theorem bytesLV_get {l : List UInt8} {i : Nat} : (bytesLV l)[i]? = (l[i]?).map fun b => LV.int .u8 b.toNat := by simp [bytesLV]
theorem bytesLV_cells (l : List UInt8) : ∀ e ∈ bytesLV l, e.cells.length = 1 := fun e he => by
  simp only [bytesLV, List.mem_map] at he
  obtain ⟨b, _, rfl⟩ := he; rfl
theorem bytesLV_solid (l : List UInt8) : ∀ e ∈ bytesLV l, e.solid = true := fun e he => by
  simp only [bytesLV, List.mem_map] at he
  obtain ⟨b, _, rfl⟩ := he; rfl
theorem flat_bytes (l : List UInt8) : flat (bytesLV l) = bytesLV l := by
  induction l with
  | nil => rfl
  | cons b l ih => simp only [flat, bytesLV, List.map_cons, List.flatMap_cons] at ih ⊢; rw [ih]; rfl

section
variable {P : Program} {regs : Fr} {L : Hp} {T : Tk} {Q : HQ} {ops : Array Oper} {p : Plan} {pend : Pends} {i : Nat} {U : List Nat} {d : Option Tmp} {ty : TypeId} {pos : String} {af : Array Edge} {g : Option (Nat × Bool)}

def byteVals (s : ByteArray) : List Value := s.toList.map fun b => .int .u8 b.toNat
theorem rep_byteVals (G : Ghost) (s : ByteArray) : RepAll G (byteVals s) (bytesLV s.toList) := by
  refine ⟨by simp [byteVals], fun i v l hv hl => ?_⟩
  simp only [byteVals, bytesLV, List.getElem?_map, Option.map_eq_some_iff] at hv hl
  obtain ⟨b, hb, rfl⟩ := hv
  obtain ⟨c, hc, rfl⟩ := hl
  rw [hb] at hc; injection hc with hc; subst hc
  exact .int _ _
theorem ba_toList (s : ByteArray) : s.toList = s.data.toList := ByteArray.toList_eq ..
theorem first_str (s : ByteArray) : ((s.extract 0 s.size).data.map fun b => Value.int .u8 b.toNat) = (byteVals s).toArray := by
  apply Array.ext'
  simp [byteVals, ba_toList]
theorem byteVals_length (s : ByteArray) : (byteVals s).length = s.size := by rw [byteVals, List.length_map, ba_toList, Array.length_toList]; rfl
theorem byteVals_one (s : ByteArray) : ∀ u ∈ byteVals s, u.oneCell' = true := fun u hu => by
  simp only [byteVals, List.mem_map] at hu
  obtain ⟨b, _, rfl⟩ := hu; rfl

theorem run_appendStr_in {t tx ty e : Nat} {i : TypeInfo} {w : World} (ht : P.underlying t = some (.slice e)) (htx : P.underlying tx = some .string) (hi : P.info? e = some i) (hi1 : i.size = 1)
    {g off sLen sCap ty' : Nat} {cur : Array Value} {fr : Nat × Nat} (s : ByteArray) (hg : w.heap[g]? = some (.cells cur ty' fr)) (hfr : frOk fr cur.size) (hroom : sLen + s.size ≤ sCap) (hfit : off + sLen + s.size ≤ cur.size) :
    (Builtin.append_ #[t, tx] ty #[.slice (some ⟨g, off, none⟩) sLen sCap, .string s]).run P w =
      .ok (.slice (some ⟨g, off, none⟩) (sLen + s.size) sCap) (w.setRow g (cur.toList.take (off + sLen) ++ byteVals s ++ cur.toList.drop (off + sLen + s.size)).toArray) := by
  have hst := run_storeCells_fr (P := P) g (off + sLen) ty' fr (byteVals s) 0 cur w hg hfr (by simpa [byteVals_length] using hfit) (byteVals_one s)
  simp only [Nat.add_zero, byteVals_length] at hst
  have hf : (Builtin.firstCells 1 s.size (.string s)).run P w = .ok (byteVals s).toArray w := by
    simp only [Builtin.firstCells, first_str]; rfl
  simp [Builtin.append_, run_underlying ht, run_underlying htx, sizeOf, typeInfo, hi, hi1, Builtin.lenOf, hroom, hf, addr_add, hst]

theorem run_appendStr_new {t tx ty e : Nat} {i : TypeInfo} {z : Value} {w : World} (ht : P.underlying t = some (.slice e)) (htx : P.underlying tx = some .string) (hi : P.info? e = some i) (hi1 : i.size = 1) (hz : i.zero = some z)
    {s : Value} {sLen sCap : Nat} {x : ByteArray} {olds : List Value} (hs : (s = .slice none 0 0 ∧ sLen = 0 ∧ sCap = 0 ∧ olds = []) ∨ ∃ a, s = .slice (some a) sLen sCap ∧ ∀ j u, olds[j]? = some u → w.cell? (a.add j) = some u)
    (hlo : olds.length = sLen) (hgr : sCap < sLen + x.size) (h63 : ((sLen + x.size : Nat) : Int) ≤ 9223372036854775807) (hfit : Builtin.nextslicecap (sLen + x.size) sCap * i.bytes ≤ 281474976710656) :
    (Builtin.append_ #[t, tx] ty #[s, .string x]).run P w =
      .ok (.slice (some ⟨w.heap.size, 0, none⟩) (sLen + x.size) (grownCap w (sLen + x.size) sCap e)) (w.drew.alloc (.cells (olds.toArray ++ (byteVals x).toArray ++ Builtin.zeroCells z.cells (grownCap w (sLen + x.size) sCap e - (sLen + x.size))) e)) := by
  have hn : ¬ (sLen + x.size ≤ sCap) := by omega
  have h63' : ¬ (9223372036854775807 < ((sLen : Int) + (x.size : Int))) := by omega
  have h48' : ¬ (281474976710656 < Builtin.nextslicecap (sLen + x.size) sCap * i.bytes) := by omega
  have hf : (Builtin.firstCells 1 x.size (.string x)).run P w.drew = .ok (byteVals x).toArray w.drew := by
    simp only [Builtin.firstCells, first_str]; rfl
  rcases hs with ⟨rfl, rfl, rfl, rfl⟩ | ⟨a, rfl, holds⟩
  · have hm0 : x.size ≠ 0 := by omega
    simp only [Nat.zero_add] at *
    have h63'' : ¬ (9223372036854775807 < (x.size : Int)) := by omega
    simp [Builtin.append_, run_underlying ht, run_underlying htx, sizeOf, typeInfo, zeroValue, hi, hi1, hz, Builtin.lenOf, hm0, h63'', h48', Question.forced, run_firstCells_none, hf, newRow, grownCap]
  · have hfo := run_firstCells_some (P := P) w.drew 1 sLen a sLen sCap olds (by rw [hlo, Nat.mul_one]) (by simpa using holds)
    simp [Builtin.append_, run_underlying ht, run_underlying htx, sizeOf, typeInfo, zeroValue, hi, hi1, hz, Builtin.lenOf, hn, h63', h48', Question.forced, hf, hfo, newRow, grownCap]
    congr 2
    apply Array.ext'
    simp [List.append_assoc]

theorem zeroCells_size1 {z : Value} (hz : z.cells.size = 1) (n : Nat) : (Builtin.zeroCells z.cells n).size = n := by rw [size_zeroCells, hz, Nat.mul_one]

theorem bytes_len {l : List UInt8} (k : Nat) (hk : k = 1) : ∀ e ∈ bytesLV l, e.cells.length = k := by subst hk; exact bytesLV_cells l

/-- A text's bytes, appended. -/
theorem does_appendStr {st : St} {o : Oper} {K : LV → St → Prop} {t tx e bytes : Nat} {s x : Operand} {b : ByteArray} (h : o.op = .call { callee := .builtin .append, args := #[s, x], argTypes := #[t, tx] }) (ht : elemIn P t = some (e, 1, bytes)) (htx : isStrTy P tx = true)
    (hcan : canApp st 1 (opdV regs s)) (hx : opdV regs x = .str b)
    (hsz : ((opdV regs s).els.length + b.size) * bytes ≤ 140737488355328) (h63 : (opdV regs s).els.length + b.size ≤ 140737488355328)
    (hk : K (appV st 1 (opdV regs s) (.sl .no 1 (bytesLV b.toList))) (appSt st (opdV regs s) (.sl .no 1 (bytesLV b.toList)))) : Does P st regs o K :=
  does_run fun G a w hR hr => by
    obtain ⟨inf, z, hu, hi, hz, hi1, rfl, hzc⟩ := elemIn_spec ht
    have htx' : P.underlying tx = some .string := by
      unfold isStrTy at htx; split at htx
      · assumption
      · cases htx
    have rs := rep_opd hr s
    have rx := rep_opd hr x
    have hexec : ∀ w', (execOp a.eval o).run P w' = ((Builtin.append_ #[t, tx] o.type #[a.eval s, a.eval x]).run P w').andThen fun v w'' => .ok (.value v) w'' := fun w' => by
      simp [execOp, h, resolve, invoke, builtin]
    simp only [hexec]
    obtain ⟨vs, hvs⟩ : ∃ v, a.eval s = v := ⟨_, rfl⟩
    obtain ⟨vx, hvx⟩ : ∃ v, a.eval x = v := ⟨_, rfl⟩
    rw [hvs] at rs ⊢; rw [hvx] at rx ⊢
    rw [hx] at rx
    cases rx
    generalize opdV regs s = ls at *
    have hbl : b.toList.length = b.size := by rw [ba_toList, Array.length_toList]; rfl
    have hels : (LV.sl .no 1 (bytesLV b.toList)).els = bytesLV b.toList := rfl
    have hrb := rep_byteVals G b
    by_cases hemp : b.size = 0
    · have hnil : bytesLV b.toList = [] := List.eq_nil_of_length_eq_zero (by rw [bytesLV_length, hbl, hemp])
      have happ : appV st 1 ls (.sl .no 1 (bytesLV b.toList)) = ls := by simp [appV, hnil]
      have hast : appSt st ls (.sl .no 1 (bytesLV b.toList)) = st := by simp [appSt, hnil]
      rw [happ, hast] at hk
      refine ⟨vs, ls, st, w, G, ?_, .refl hR, rs, hk⟩
      have hf : (Builtin.firstCells 1 0 (.string b)).run P w = .ok #[] w := by
        have := first_str b
        have hb0 : byteVals b = [] := List.eq_nil_of_length_eq_zero (by rw [byteVals_length, hemp])
        rw [hb0, hemp] at this
        simp only [Builtin.firstCells, this]; rfl
      cases rs <;> simp only [canApp] at hcan
      · simp [Builtin.append_, run_underlying hu, run_underlying htx', sizeOf, typeInfo, hi, hi1, Builtin.lenOf, hemp, hf]
      · rename_i b off cap k' ow es f hk' hf' hr' hc ho
        simp [Builtin.append_, run_underlying hu, run_underlying htx', sizeOf, typeInfo, hi, hi1, Builtin.lenOf, hemp, hf, hc, storeCells]
    · have hpos : 0 < b.size := Nat.pos_of_ne_zero hemp
      have hne : (bytesLV b.toList).isEmpty = false := by
        cases hq : bytesLV b.toList with
        | nil => have := congrArg List.length hq; rw [bytesLV_length, hbl, List.length_nil] at this; omega
        | cons _ _ => rfl
      have hxl : (bytesLV b.toList).length = b.size := by rw [bytesLV_length, hbl]
      have hk2 := bytesLV_cells b.toList
      have hgc : ∀ (need old : Nat), need ≤ grownCap w need old e := fun need old => grownCap_ge w need old e
      have hzlen : ∀ (need old : Nat) (olds : List Value), olds.length + b.size = need → grownCap w need old e * 1 ≤ (olds.toArray ++ (byteVals b).toArray ++ Builtin.zeroCells z.cells (grownCap w need old e - need)).size := fun need old olds hl => by
        have h1 := hgc need old
        simp only [Array.size_append, List.size_toArray, zeroCells_size1 hzc, byteVals_length]
        omega
      cases rs <;> simp only [canApp] at hcan
      case nils =>
        simp only [els_nils, List.length_nil, Nat.zero_add] at hsz h63
        have hrun := run_appendStr_new (P := P) (w := w) (t := t) (tx := tx) (ty := o.type) hu htx' hi hi1 hz (s := .slice none 0 0) (sLen := 0) (sCap := 0) (x := b) (olds := [])
          (.inl ⟨rfl, rfl, rfl, rfl⟩) (by simp) (by omega) (by omega) (by rw [Nat.zero_add, nextslicecap_zero hpos]; omega)
        have hd := step_drew hR
        have hz2 := hzlen (0 + b.size) 0 [] (by simp)
        have hcapge := hgc (0 + b.size) 0
        obtain ⟨G', hs, hrep⟩ := new_own (st := st) (w := w.drew) hd.rel (ty := e) (k := 1) (cap := grownCap w (0 + b.size) 0 e) (t := st.toks.length) (ver := 0) (es := bytesLV b.toList) (st.toks ++ [0]) hk2
          (arr := ([] : List Value).toArray ++ (byteVals b).toArray ++ Builtin.zeroCells z.cells (grownCap w (0 + b.size) 0 e - (0 + b.size)))
          (by
            rw [hxl, Nat.mul_one, flat_bytes]
            have : (([] : List Value).toArray ++ (byteVals b).toArray ++ Builtin.zeroCells z.cells (grownCap w (0 + b.size) 0 e - (0 + b.size))).toList.take b.size = byteVals b := by
              rw [← byteVals_length b]; simp
            rw [this]; exact hrb) (by rw [hxl]; omega) hz2 (toks_push_self st) (fun u v hu e => toks_push_oth hu e) (fun u v e => toks_push_old e) (fun cur e => toks_push_new e)
        have e1 : appV st 1 .nils (.sl .no 1 (bytesLV b.toList)) = .sl (.tok st.toks.length 0) 1 (bytesLV b.toList) := by simp [appV, hne]
        have e2 : appSt st .nils (.sl .no 1 (bytesLV b.toList)) = st.newTok := by simp [appSt, hne]
        rw [e1, e2] at hk
        rw [hxl] at hrep
        refine ⟨.slice (some ⟨w.heap.size, 0, none⟩) b.size (grownCap w (0 + b.size) 0 e), _, _, _, G', ?_, hd.trans hR hs, hrep, hk⟩
        rw [hrun]; simp
      case sl bb off cap k' ow es f hk' hf hr' hc ho =>
        cases ow with
        | no => simp at hcan
        | tok tk ver =>
          obtain ⟨rfl, htk⟩ := hcan
          simp only [els_sl] at hsz h63
          obtain ⟨olds, o1, o2, o3⟩ := sl_flat f hk' hf hr'
          simp only [Nat.mul_one] at o1 o2
          obtain ⟨x0, hx0, hx1⟩ := ho
          simp only [Nat.mul_one] at hx1
          have e1 : appV st 1 (.sl (.tok tk ver) 1 es) (.sl .no 1 (bytesLV b.toList)) = .sl (.tok tk (ver + 1)) 1 (es ++ bytesLV b.toList) := by simp [appV, hne]
          have e2 : appSt st (.sl (.tok tk ver) 1 es) (.sl .no 1 (bytesLV b.toList)) = st.bump tk ver := by simp [appSt, hne]
          rw [e1, e2] at hk
          have hallk : ∀ e ∈ es ++ bytesLV b.toList, e.cells.length = 1 := fun e he => (List.mem_append.1 he).elim (hk' e) (hk2 e)
          have hl4 : (es ++ bytesLV b.toList).length = es.length + b.size := by rw [List.length_append, hxl]
          have hrr : RepAll G (olds ++ byteVals b) (flat (es ++ bytesLV b.toList)) := by rw [flat_append, flat_bytes]; exact o3.append hrb
          by_cases hroom : es.length + b.size ≤ cap
          · have hx0' := hx1 (by omega)
            subst hx0'
            obtain ⟨b', e', c', arr, ty, fr, g1, g2, g3, g4, g5, g6, g7⟩ := hR.toks tk ver htk
            rw [hx0] at g1; injection g1 with g1; obtain ⟨rfl, rfl, rfl⟩ : bb = b' ∧ off + es.length = e' ∧ off + cap = c' := by simpa using g1
            have hrun := run_appendStr_in (P := P) (w := w) (t := t) (tx := tx) (ty := o.type) hu htx' hi hi1 (off := off) (sLen := es.length) (sCap := cap) b g2 g7 hroom (by omega)
            have harl : arr.toList.length = arr.size := Array.length_toList
            obtain ⟨X, hX⟩ : ∃ X, X = arr.toList.take (off + es.length) ++ byteVals b ++ arr.toList.drop (off + es.length + b.size) := ⟨_, rfl⟩
            rw [← hX] at hrun
            have hlen3 : X.length = arr.size := by rw [hX]; simp [byteVals_length]; omega
            have hXold : ∀ q, q < off + es.length → X.toArray[q]? = arr[q]? := fun q hq => by
              have h1 : X.toArray[q]? = X[q]? := arr_get X q
              rw [h1, hX, List.append_assoc, List.getElem?_append_left (by simp; omega), List.getElem?_take, if_pos hq, Array.getElem?_toList]
            have hXnew : ∀ q, q < b.size → X.toArray[off + es.length + q]? = (byteVals b)[q]? := fun q hq => by
              have h1 : X.toArray[off + es.length + q]? = X[off + es.length + q]? := arr_get X _
              rw [h1, hX, List.append_assoc, List.getElem?_append_right (by simp; omega), List.getElem?_append_left (by simp [byteVals_length]; omega)]
              congr 1
              simp; omega
            have hs := step_room hR htk hx0 g2 (arr' := X.toArray) (setRow_heap w bb arr _ ty _ g2) (by rw [List.size_toArray]; exact hlen3) hXold
              (off + es.length + b.size) (by omega) (by omega) (by simp [World.setRow]) (fun k hk => setRow_other w bb k _ hk) rfl rfl rfl
            have hrep := rep_sl (b := bb) (off := off) (cap := cap) (k := 1) (o := .tok tk (ver + 1)) (es := es ++ bytesLV b.toList) (vs := olds ++ byteVals b) hallk (fun q hq => ?_)
              (((show (olds ++ byteVals b).take ((es ++ bytesLV b.toList).length * 1) = olds ++ byteVals b from List.take_of_length_le (by rw [hl4, Nat.mul_one, List.length_append, o1, byteVals_length]; exact Nat.le_refl _)).symm ▸ hrr).mono hs.le)
              (by rw [hl4, Nat.mul_one, List.length_append, o1, byteVals_length]; exact Nat.le_refl _) (by rw [hl4]; exact hroom) ⟨(bb, off + es.length + b.size, off + cap), by simp [Ghost.addTok], fun _ => by rw [hl4]; simp [Nat.add_assoc]⟩
            · rw [hl4] at hrep
              refine ⟨.slice (some ⟨bb, off, none⟩) (es.length + b.size) cap, _, _, _, _, ?_, hs, hrep, hk⟩
              rw [hrun]; rfl
            · rw [hl4, Nat.mul_one] at hq
              simp only [Ghost.addTok]
              rw [List.getElem?_append]
              by_cases hq1 : q < es.length
              · rw [if_neg (by omega), if_pos (by omega)]; exact o2 q hq1
              · rw [if_pos ⟨trivial, by omega, by omega⟩, if_neg (by omega)]
                have h1 := hXnew (q - es.length) (by omega)
                rw [show off + es.length + (q - es.length) = off + q by omega] at h1
                rw [h1, o1]
          · have hrun := run_appendStr_new (P := P) (w := w) (t := t) (tx := tx) (ty := o.type) hu htx' hi hi1 hz (s := .slice (some ⟨bb, off, none⟩) es.length cap) (sLen := es.length) (sCap := cap) (x := b) (olds := olds)
              (.inr ⟨⟨bb, off, none⟩, rfl, fun j u hj => by
                rw [addr_add]
                have hlt := (List.getElem?_eq_some_iff.1 hj).1
                exact hR.imm _ _ _ ((o2 j (by omega)).trans hj)⟩) o1 (by omega) (by omega) (growslice_fits (by omega) hsz)
            have hd := step_drew hR
            have htl : tk < st.toks.length := (List.getElem?_eq_some_iff.1 htk).1
            have hz2 := hzlen (es.length + b.size) cap olds (by rw [o1])
            have hcapge := hgc (es.length + b.size) cap
            obtain ⟨G', hs, hrep⟩ := new_own (st := st) (w := w.drew) hd.rel (ty := e) (k := 1) (cap := grownCap w (es.length + b.size) cap e) (t := tk) (ver := ver + 1) (es := es ++ bytesLV b.toList) (st.toks.set tk (ver + 1)) hallk
              (arr := olds.toArray ++ (byteVals b).toArray ++ Builtin.zeroCells z.cells (grownCap w (es.length + b.size) cap e - (es.length + b.size)))
              (by
                have hl : (es ++ bytesLV b.toList).length * 1 = (olds ++ byteVals b).length := by rw [hl4, List.length_append, o1, byteVals_length, Nat.mul_one]
                have hcat : (olds.toArray ++ (byteVals b).toArray ++ Builtin.zeroCells z.cells (grownCap w (es.length + b.size) cap e - (es.length + b.size))).toList = (olds ++ byteVals b) ++ (Builtin.zeroCells z.cells (grownCap w (es.length + b.size) cap e - (es.length + b.size))).toList := by simp
                rw [hl, hcat, List.take_append_of_le_length (Nat.le_refl _), List.take_length]
                exact hrr) (by rw [hl4]; exact hcapge) hz2 (by simp [htl])
              (fun u v hu e => by rw [List.getElem?_set, if_neg (fun e => hu e.symm)] at e; exact e)
              (fun u v e => by
                by_cases hu : u = tk
                · subst hu; rw [htk] at e; injection e with e; exact ⟨ver + 1, by simp [htl], by omega⟩
                · exact ⟨v, by rw [List.getElem?_set, if_neg (fun e => hu e.symm)]; exact e, Nat.le_refl _⟩)
              (fun cur e => by rw [htk] at e; injection e with e; omega)
            rw [hl4] at hrep
            refine ⟨.slice (some ⟨w.heap.size, 0, none⟩) (es.length + b.size) (grownCap w (es.length + b.size) cap e), _, _, _, G', by rw [hrun]; simp, hd.trans hR hs, hrep, hk⟩
end
end Go.L

set_option linter.unusedVariables false
set_option linter.unusedSimpArgs false
namespace Go.L
open Go Go.RowKit

section
variable {P : Program} {regs : Fr} {L : Hp} {T : Tk} {Q : HQ} {ops : Array Oper} {p : Plan} {pend : Pends} {i : Nat} {U : List Nat} {d : Option Tmp} {ty : TypeId} {pos : String} {af : Array Edge} {g : Option (Nat × Bool)}

theorem HPlan.appendStrG {t tx e bytes : Nat} {s x : Operand} {b : ByteArray} {es : List LV} {o : Option (Nat × Nat)} {T0 : Tk} (ho : ops[i]? = some ⟨d, .call { callee := .builtin .append, args := #[s, x], argTypes := #[t, tx] }, ty, pos, af, g⟩) (ht : takenB ops g regs = true) (hs : opdO regs s = some (growV o 1 es)) (hx : opdO regs x = some (.str b))
    (he : elemIn P t = some (e, 1, bytes)) (htx : isStrTy P tx = true) (hT : T.Perm (growT o ++ T0)) (hg : growOk o es) (hb : (es.length + b.size) * bytes ≤ 140737488355328) (h63 : es.length + b.size ≤ 140737488355328) (hk : keptH U pend L L)
    (kk : ∀ o', growOk o' (es ++ bytesLV b.toList) → HPlan P ops Q p pend (setR d (growV o' 1 (es ++ bytesLV b.toList)) regs) L (growT o' ++ T0)) : HPlan P ops Q (.act i U p) pend regs L T := by
  have hx' := opdV_of hx
  cases o with
  | none =>
    have hes : es = [] := hg rfl
    subst hes
    have hs' : opdV regs s = .nils := opdV_of hs
    refine .actd ho ht fun st hst => does_appendStr rfl he htx (by rw [hs']; trivial) hx' (by rw [hs']; simpa using hb) (by rw [hs']; simpa using h63) ?_
    rw [hs']
    have hst' : Has st L T0 := hst.sub (.refl _) (.of_perm (by simpa [growT] using hT))
    cases hemp : bytesLV b.toList with
    | nil =>
      have := kk none (fun _ => by simp [hemp])
      exact ⟨L, T0, by simpa [appSt] using hst', hk, by simpa [appV, growV, growT, hemp] using this⟩
    | cons y ys =>
      have := kk (some (st.toks.length, 0)) (fun e => by cases e)
      exact ⟨L, _, by simpa [appSt] using hst'.newTok, hk, by simpa [appV, growV, growT, hemp] using this⟩
  | some x0 =>
    obtain ⟨tk, ver⟩ := x0
    have hs' : opdV regs s = .sl (.tok tk ver) 1 es := opdV_of hs
    refine .actd ho ht fun st hst => ?_
    have hst' : Has st L ((tk, ver) :: T0) := hst.sub (.refl _) (.of_perm (by simpa [growT] using hT))
    refine does_appendStr rfl he htx (by rw [hs']; exact ⟨rfl, hst'.tok _ List.mem_cons_self⟩) hx' (by rw [hs']; simpa using hb) (by rw [hs']; simpa using h63) ?_
    rw [hs']
    cases hemp : bytesLV b.toList with
    | nil =>
      have := kk (some (tk, ver)) (fun e => by cases e)
      exact ⟨L, _, by simpa [appSt] using hst', hk, by simpa [appV, growV, growT, hemp] using this⟩
    | cons y ys =>
      have := kk (some (tk, ver + 1)) (fun e => by cases e)
      exact ⟨L, _, by simpa [appSt] using hst'.bump .here, hk, by simpa [appV, growV, growT, hemp] using this⟩

/-- An end of a list that is built. -/
theorem HPlan.dropG {t e : Nat} {x : Operand} {lo : Option Operand} {o : Option (Nat × Nat)} {es : List LV} {a : Int} {v : List LV} (ho : ops[i]? = some ⟨d, .slice t x lo none none, ty, pos, af, g⟩) (ht : takenB ops g regs = true) (hx : opdO regs x = some (growV o e es))
    (ha : optO regs 0 lo = some a) (hs : sliceTy P t = some e) (hg : o.isSome = true) (hl : 0 ≤ a) (hh : a ≤ es.length)
    (hv : es.drop a.toNat = v) (k : HPlan P ops Q p pend (setR d (growV o e v) regs) L T) : HPlan P ops Q (.rd i p) pend regs L T := by
  cases o with
  | none => cases hg
  | some q =>
    obtain ⟨tk, ver⟩ := q
    subst hv
    refine HPlan.subSl ho ht (hi := none) (es := es) (ow := .tok tk ver) (e := e) hx ha rfl hs hl hh (Int.le_refl _) rfl ?_
    have e1 : cutOwn (.tok tk ver) es.length (es.length : Int).toNat = .tok tk ver := by simp [cutOwn]
    have e2 : (es.drop a.toNat).take ((es.length : Int).toNat - a.toNat) = es.drop a.toNat := List.take_of_length_le (by simp)
    rw [e1, e2]
    exact k
/-- A beginning. -/
theorem HPlan.takeS {t e : Nat} {x : Operand} {hi : Operand} {ow : Own} {es : List LV} {b : Int} {v : List LV} (ho : ops[i]? = some ⟨d, .slice t x none (some hi) none, ty, pos, af, g⟩) (ht : takenB ops g regs = true) (hx : opdO regs x = some (.sl ow e es))
    (hb : optO regs es.length (some hi) = some b) (hs : sliceTy P t = some e) (hl : 0 ≤ b) (hh : b ≤ es.length) (hv : es.take b.toNat = v)
    (k : HPlan P ops Q p pend (setR d (.sl .no e v) regs) L T) : HPlan P ops Q (.rd i p) pend regs L T := by
  subst hv
  refine ⟨_, ho, .inr ⟨taken_of ht, .sl .no e (es.take b.toNat), [], fun _ => rfl, fun st _ => ?_, k⟩⟩
  obtain ⟨h2, h3⟩ := optO_spec hb
  have := reads_subSl (P := P) (st := st) (regs := regs) (o := ⟨d, .slice t x none (some hi) none, ty, pos, af, g⟩) (lo := none) (hi := some hi) rfl hs (opdV_of hx) rfl h2 (by simp [optI]) (by simp only [optI] at h3 ⊢; omega) (by rw [h3]; exact hh)
  rw [h3] at this
  intro G A w hR hr
  obtain ⟨v, hv, hrun⟩ := this G A w hR hr
  refine ⟨v, ?_, hrun⟩
  have := Weak.own _ _ hv
  simpa [optI] using this
theorem HPlan.takeG {t e : Nat} {x : Operand} {hi : Operand} {o : Option (Nat × Nat)} {es : List LV} {b : Int} {v : List LV} (ho : ops[i]? = some ⟨d, .slice t x none (some hi) none, ty, pos, af, g⟩) (ht : takenB ops g regs = true) (hx : opdO regs x = some (growV o e es))
    (hb : optO regs es.length (some hi) = some b) (hs : sliceTy P t = some e) (hg : o.isSome = true) (hl : 0 ≤ b) (hh : b ≤ es.length) (hv : es.take b.toNat = v)
    (k : HPlan P ops Q p pend (setR d (.sl .no e v) regs) L T) : HPlan P ops Q (.rd i p) pend regs L T := by
  cases o with
  | none => cases hg
  | some q => obtain ⟨tk, ver⟩ := q; exact HPlan.takeS ho ht hx hb hs hl hh hv k
theorem growOk_pos {o : Option (Nat × Nat)} {es : List LV} (h : growOk o es) (hp : 0 < es.length) : o.isSome = true := by
  cases o with
  | none => rw [h rfl] at hp; simp at hp
  | some x => rfl
theorem growOk_some {x : Nat × Nat} {es : List LV} : growOk (some x) es := fun e => by cases e
theorem growOk_isSome {o : Option (Nat × Nat)} {es : List LV} (h : o.isSome = true) : growOk o es := fun e => by rw [e] at h; cases h

/-! ### Texts and bytes -/
def ofBytes (l : List UInt8) : ByteArray := ⟨l.toArray⟩
theorem foldl_push (l : List UInt8) : ∀ acc : ByteArray, (l.map fun b => (b.toNat : Int)).foldl (fun r n => r.push (UInt8.ofNat n.toNat)) acc = ⟨acc.data ++ l.toArray⟩ := by
  induction l with
  | nil => intro acc; cases acc; simp
  | cons b l ih =>
    intro acc
    simp only [List.map_cons, List.foldl_cons, ih]
    cases acc
    simp [ByteArray.push]
def byteSl (P : Program) (t : Nat) : Bool := match P.underlying t with | some (.slice e) => (match P.underlying e with | some (.int .u8) => true | _ => false) | _ => false
theorem byteSl_spec {t : Nat} (h : byteSl P t = true) : ∃ e, P.underlying t = some (.slice e) ∧ P.underlying e = some (.int .u8) := by
  unfold byteSl at h
  split at h
  · rename_i e hu
    split at h
    · exact ⟨e, hu, ‹_›⟩
    · cases h
  · cases h
theorem HPlan.bytesStr {s t : Nat} {x : Operand} {a : LV} {l : List UInt8} {v : LV} (ho : ops[i]? = some ⟨d, .convert s t x, ty, pos, af, g⟩) (ht : takenB ops g regs = true) (hx : opdO regs x = some a) (hs : byteSl P s = true) (hd : isStrTy P t = true) (ha : IsSl 1 (bytesLV l) a) (hv : .str (ofBytes l) = v)
    (k : HPlan P ops Q p ((i, []) :: pend) (setR d v regs) L T) : HPlan P ops Q (.rd i p) pend regs L T := by
  subst hv
  refine .rdd ho ht rfl (fun st _ G A w hR hr => ?_) k
  have rx := rep_opd hr x
  rw [opdV_of hx] at rx
  obtain ⟨u, hu⟩ : ∃ u, A.eval x = u := ⟨_, rfl⟩
  rw [hu] at rx
  obtain ⟨e, hse, he⟩ := byteSl_spec hs
  have hds : P.underlying t = some .string := by
    unfold isStrTy at hd; split at hd
    · assumption
    · cases hd
  refine ⟨.string (ofBytes l), .str _, fun w' _ himm => ?_⟩
  obtain ⟨es, hes⟩ : ∃ es, es = bytesLV l := ⟨_, rfl⟩
  rw [← hes] at ha
  cases ha with
  | nils =>
    cases rx
    have hl : l = [] := List.eq_nil_of_length_eq_zero (by rw [← bytesLV_length, ← hes]; rfl)
    subst hl
    simp only [execOp, hu, Sem.run_bind, run_convert_bytes_string w' s t e none 0 0 hse he hds]
    rfl
  | sl =>
    cases rx with
    | @sl0 a0 _ =>
      have hl : l = [] := List.eq_nil_of_length_eq_zero (by rw [← bytesLV_length, ← hes]; rfl)
      subst hl
      have hload : (loadCells a0 0).run P w' = .ok ((([] : List UInt8).map fun b => (b.toNat : Int)).map (Value.int .u8)).toArray w' := by simp [loadCells, loadCellsFrom]
      have := run_bytesToString w' a0 0 0 _ hload
      simp only [execOp, hu, Sem.run_bind, run_convert_bytes_string w' s t e _ _ _ hse he hds, this, foldl_push]
      simp [ofBytes]
    | @sl b off cap _ _ _ f hk hf hr' hc ho' =>
    obtain ⟨vs, h1, h2, h3⟩ := sl_flat f hk hf hr'
    rw [hes, bytesLV_length, Nat.mul_one] at h1 h2
    rw [hes, flat_bytes] at h3
    have hvs : vs = (l.map fun b => (b.toNat : Int)).map (Value.int .u8) := by
      apply List.ext_getElem?
      intro q
      rw [List.getElem?_map, List.getElem?_map]
      by_cases hq : q < l.length
      · have hb : (bytesLV l)[q]? = some (.int .u8 (l[q].toNat : Int)) := by rw [bytesLV_get, List.getElem?_eq_getElem hq]; rfl
        have hv : vs[q]? = some (vs[q]'(by omega)) := List.getElem?_eq_getElem (by omega)
        have := h3.2 q _ _ hv hb
        rw [hv, List.getElem?_eq_getElem hq]
        obtain ⟨u, hu⟩ : ∃ u, vs[q]'(by omega) = u := ⟨_, rfl⟩
        rw [hu] at this ⊢
        cases this
        rfl
      · rw [List.getElem?_eq_none (by omega), List.getElem?_eq_none (by omega)]; rfl
    have hload : (loadCells ⟨b, off, none⟩ es.length).run P w' = .ok ((l.map fun b => (b.toNat : Int)).map (Value.int .u8)).toArray w' := by
      rw [← hvs, hes, bytesLV_length, ← h1]
      exact run_loadCells_list (P := P) w' ⟨b, off, none⟩ vs fun j u hj => by
        rw [addr_add]
        exact himm _ _ _ ((h2 j (by have := (List.getElem?_eq_some_iff.1 hj).1; omega)).trans hj)
    have := run_bytesToString w' ⟨b, off, none⟩ es.length cap _ hload
    simp only [execOp, hu, Sem.run_bind, run_convert_bytes_string w' s t e _ _ _ hse he hds, this, foldl_push]
    simp [ofBytes]

theorem bytesWorld_eq (w : World) (e : Nat) (s : ByteArray) : Lib.bytesWorld w e s = w.drew.alloc (.cells (Lib.bytesCells w e s) e ((Lib.bytesCells w e s).size, (Lib.bytesCells w e s).size + 1)) := by
  simp only [Lib.bytesWorld, World.freeze, World.alloc, World.drew]
  simp only [Nat.add_one_ne_zero, if_false, reduceCtorEq]
  congr 1
  apply Array.ext
  · simp
  · intro j h1 h2
    rw [Array.getElem_modify]
    split
    · rename_i hj; subst hj; simp
    · rename_i hj
      simp at h1
      rw [Array.getElem_push_lt (by omega), Array.getElem_push_lt (by omega)]
theorem HPlan.strBytes {s t : Nat} {x : Operand} {b : ByteArray} {v : List LV} (ho : ops[i]? = some ⟨d, .convert s t x, ty, pos, af, g⟩) (ht : takenB ops g regs = true) (hx : opdO regs x = some (.str b)) (hs : (P.underlying s).isSome = true) (hd : byteSl P t = true) (hv : bytesLV b.toList = v) (hk : keptH U pend L L)
    (k : ∀ tk, HPlan P ops Q p pend (setR d (growV (some (tk, 0)) 1 v) regs) L ((tk, 0) :: T)) : HPlan P ops Q (.act i U p) pend regs L T := by
  subst hv
  refine .actd ho ht fun st hst => does_run fun G A w hR hr => ?_
  have rx := rep_opd hr x
  rw [opdV_of hx] at rx
  obtain ⟨u, hu⟩ : ∃ u, A.eval x = u := ⟨_, rfl⟩
  rw [hu] at rx
  cases rx
  obtain ⟨e, hse, he⟩ := byteSl_spec hd
  obtain ⟨ds, hs⟩ := Option.isSome_iff_exists.1 hs
  have hrun := Lib.run_convert_string_bytes (P := P) w s t e b hs hse he
  have hdr := step_drew hR
  have hbl : b.toList.length = b.size := by rw [ba_toList, Array.length_toList]; rfl
  have hxl : (bytesLV b.toList).length = b.size := by rw [bytesLV_length, hbl]
  have hge : b.size ≤ grownCap w b.size 0 e := grownCap_ge w _ _ _
  have hsz : (Lib.bytesCells w e b).size = grownCap w b.size 0 e := by
    simp only [Lib.bytesCells, Array.size_append, Array.size_map, Array.size_replicate]
    have : b.data.size = b.size := rfl
    omega
  have htake : (Lib.bytesCells w e b).toList.take b.size = byteVals b := by
    simp only [Lib.bytesCells, Array.toList_append, Array.toList_map, byteVals, ba_toList]
    rw [List.take_append_of_le_length (by simp), List.take_of_length_le (by simp)]
  obtain ⟨G', hss, hrep⟩ := new_ownF (st := st) (w := w.drew) hdr.rel (fr := ((Lib.bytesCells w e b).size, (Lib.bytesCells w e b).size + 1)) (arr := Lib.bytesCells w e b) (.inr (Nat.le_refl _)) (ty := e) (k := 1) (cap := grownCap w b.size 0 e) (t := st.toks.length) (ver := 0) (es := bytesLV b.toList) (st.toks ++ [0]) (bytesLV_cells _)
    (by rw [hxl, Nat.mul_one, flat_bytes, htake]; exact rep_byteVals G b) (by rw [hxl]; exact hge) (by rw [Nat.mul_one, hsz]; exact Nat.le_refl _) (toks_push_self st) (fun u v hu e => toks_push_oth hu e) (fun u v e => toks_push_old e) (fun cur e => toks_push_new e)
  rw [hxl] at hrep
  refine ⟨.slice (some ⟨w.heap.size, 0, none⟩) b.size (grownCap w b.size 0 e), .sl (.tok st.toks.length 0) 1 (bytesLV b.toList), st.newTok, Lib.bytesWorld w e b, G', ?_, ?_, hrep, L, _, hst.newTok, hk, k _⟩
  · simp [execOp, hu, hrun]
  · rw [bytesWorld_eq]; exact hdr.trans hR hss
end
end Go.L

set_option linter.unusedVariables false
set_option linter.unusedSimpArgs false
namespace Go.L
open Go Go.RowKit

/-! ### Loops over functions -/
/-- The frame of a round: what the function hands over lies in the loop's slots. -/
def setPs (ps : List Nat) (x : List LV) (f : Fr) : Fr := (ps.zip x).foldl (fun f q => setR (some q.1) q.2 f) f
theorem repF_set {G : Ghost} {vs : List Value} {f : Fr} (h : RepF G vs f) (d : Nat) {v : Value} {l : LV} (hv : Rep G v l) : RepF G (vs.set d v) (setR (some d) l f) := by
  have := repF_put (a := { tmps := vs.toArray, defers := [] }) (by simpa using h) (some d) hv
  simpa [Act.put] using this
theorem repF_ps {G : Ghost} : ∀ (ps : List Nat) (vs : List Value) (x : List LV) (tmps : List Value) (f : Fr), RepF G tmps f → RepAll G vs x →
    RepF G ((ps.zip vs).foldl (fun t q => t.set q.1 q.2) tmps) (setPs ps x f)
  | [], vs, x, tmps, f, h, _ => by simpa [setPs] using h
  | d :: ps, vs, x, tmps, f, h, hx => by
    cases vs with
    | nil =>
      cases x with
      | nil => simpa [setPs] using h
      | cons l x => have := hx.1; simp at this
    | cons v vs =>
      cases x with
      | nil => have := hx.1; simp at this
      | cons l x =>
        have h1 := repF_set h d (hx.2 0 v l rfl rfl)
        have := repF_ps ps vs x _ _ h1 ⟨by have := hx.1; simpa using this, fun i u m hu hm => hx.2 (i + 1) u m hu hm⟩
        simpa [setPs] using this
theorem foldl_arr (ps : Array Nat) (vs : Array Value) (tmps : Array Value) : ((ps.zip vs).foldl (fun t q => t.setIfInBounds q.1 q.2) tmps).toList = (ps.toList.zip vs.toList).foldl (fun t q => t.set q.1 q.2) tmps.toList := by
  rw [← Array.foldl_toList, Array.toList_zip]
  generalize ps.toList.zip vs.toList = l
  induction l generalizing tmps with
  | nil => rfl
  | cons q l ih => simp only [List.foldl_cons]; rw [ih]; simp

/-- What a round asks of what it hands back: true: on; false: no more. -/
def YieldQ (F : Hp) (FT : Tk) (J E : Hp → Tk → Prop) : LV → Hp → Tk → Prop :=
  fun r L' T' => ∃ b L1 T1, r = .bool b ∧ Part (F ++ L1) L' ∧ Part (FT ++ T1) T' ∧ (b = true → J L1 T1) ∧ (b = false → E L1 T1)
/-- A function that hands over one row of values after the other, and looks meanwhile at the objects L0. -/
def IterOk (P : Program) (f : FuncId) (first cap : List LV) (np : Nat) (L0 : Hp) (T0 : Tk) (Ok : List (List LV) → List LV → Prop) (S : List (List LV) → Prop) : Prop :=
  (∀ pre x, Ok pre x → x.length = np) ∧ ∀ (l : Nat) (J : List (List LV) → Hp → Tk → Prop) (E : Hp → Tk → Prop),
    (∀ pre x L T F FT, Ok pre x → J pre L T → HYield P l x (F ++ (L0 ++ L)) (FT ++ (T0 ++ T)) (YieldQ (F ++ L0) (FT ++ T0) (J (pre ++ [x])) E)) →
    ∀ L T, J [] L T → HCalls P f (first ++ [.fn (.yield l) [] []] ++ cap) (L0 ++ L) (T0 ++ T)
      (fun r L' T' => ∃ L1 T1, Part (L0 ++ L1) L' ∧ Part (T0 ++ T1) T' ∧ ((∃ xs, S xs ∧ J xs L1 T1) ∨ E L1 T1))

def leaveQ (E : Exit → Hp → Tk → Prop) (F : Hp) (FT : Tk) (J : Hp → Tk → Prop) : HQ
  | .normal, _, L', T' => ∃ L1 T1, Part (F ++ L1) L' ∧ Part (FT ++ T1) T' ∧ J L1 T1
  | .ret, _, L', T' => ∃ L1 T1, Part (F ++ L1) L' ∧ Part (FT ++ T1) T' ∧ E .ret L1 T1
  | .exit id, _, L', T' => ∃ L1 T1, Part (F ++ L1) L' ∧ Part (FT ++ T1) T' ∧ E (.exit id) L1 T1
  | _, _, _, _ => False

def asgQ (F : Hp) (FT : Tk) (A : Fr → Hp → Tk → Prop) : HQ
  | .normal, r, L', T' => ∃ r' La Ta, Less r r' ∧ Part (F ++ La) L' ∧ Part (FT ++ Ta) T' ∧ A r' La Ta
  | _, _, _, _ => False

theorem Part.app_l {α : Type} {A B : List α} (C : List α) (h : Part A B) : Part (C ++ A) (C ++ B) := by
  obtain ⟨M, h⟩ := h
  exact ⟨M, by rw [List.append_assoc]; exact h.append_left C⟩

/-- The pending jump of a loop that was left. -/
def jumpOf : Exit → Option Code
  | .ret => some .ret
  | .exit id => some (.exit id)
  | _ => none

section
variable {P : Program} {regs : Fr} {L : Hp} {T : Tk} {Q : HQ}

theorem Rel.loop {G : Ghost} {st : St} {w : World} (h : Rel G st w) {q b : Nat} {f : Fr} {ps : Array Tmp} {assign body : Code} {state : LoopState} {pending : Option Code} {ver : Nat}
    (hq : st.heap[q]? = some (.loop b f ps assign body state pending ver)) : ∃ r : Loop, G.blk q = some b ∧ w.heap[b]? = some (.loop r) ∧ RepF G r.tmps.toList f ∧ r.params = ps ∧ r.assign = assign ∧ r.body = body ∧ r.state = state ∧ r.pending = pending := by
  obtain ⟨b', obj, h1, _, h3, r, rfl, h4⟩ := h.objs q _ hq
  have e : b = b' := h.places q _ b' hq h1
  subst e
  exact ⟨r, h1, h3, h4⟩
theorem step_loop {G : Ghost} {st : St} {w : World} (h : Rel G st w) {q b : Nat} {f : Fr} {ps : Array Tmp} {assign body : Code} {state state' : LoopState} {pending pending' : Option Code} {ver : Nat} {r' : Loop}
    (hq : st.heap[q]? = some (.loop b f ps assign body state pending ver)) (hb : G.blk q = some b) (hr' : RepF G r'.tmps.toList f ∧ r'.params = ps ∧ r'.assign = assign ∧ r'.body = body ∧ r'.state = state' ∧ r'.pending = pending') :
    Step G st w G (st.put q (.loop b f ps assign body state' pending' (ver + 1))) (w.putObj b (.loop r')) :=
  have hlt := h.blk_lt hb
  step_set h hq hb rfl (by simp [LObj.ver]) World.putObj_size (fun k hk => World.putObj_heap_other hk) (World.putObj_heap_same hlt) ⟨r', rfl, hr'⟩ rfl rfl rfl (by rfl)

theorem has_loop {st : St} {F : Hp} {M : Hp} {T : Tk} {q : Nat} {o o' : LObj} (h : Has st (F ++ ((q, o) :: M)) T) : Has (st.put q o') (F ++ ((q, o') :: M)) T := by
  have : ∀ F : Hp, Upd q o o' (F ++ ((q, o) :: M)) (F ++ ((q, o') :: M)) := fun F => by
    induction F with
    | nil => exact .here
    | cons x F ih => exact .there ih
  exact h.upd (this F)

theorem perm_mid {α : Type} (F L0 : List α) (x : α) (M : List α) : (F ++ (L0 ++ (x :: M))).Perm (x :: (F ++ (L0 ++ M))) := by
  rw [← List.append_assoc, ← List.append_assoc]; exact List.perm_middle
def RecJ (q l : Nat) (regs : Fr) (ps : Array Tmp) (assign body : Code) (J : Hp → Tk → Prop) : Hp → Tk → Prop :=
  fun L T => ∃ ver Lu, L = (q, .loop l regs ps assign body .ready none ver) :: Lu ∧ J Lu T
def RecE (q l : Nat) (regs : Fr) (ps : Array Tmp) (assign body : Code) (E : Exit → Hp → Tk → Prop) : Hp → Tk → Prop :=
  fun L T => ∃ ver e c Lu, jumpOf e = some c ∧ L = (q, .loop l regs ps assign body .done (some c) ver) :: Lu ∧ E e Lu T

theorem yield_round {q l : Nat} {ps : Array Tmp} {assign body : Code} {L0 : Hp} {T0 : Tk} {Ok : List (List LV) → List LV → Prop} {J : List (List LV) → Hp → Tk → Prop} {E : Exit → Hp → Tk → Prop} {A : List (List LV) → List LV → Fr → Hp → Tk → Prop}
    (ha : noRange assign = true) (hb : noRange body = true) (hps : ∀ pre x, Ok pre x → x.length = ps.size)
    (hassign : ∀ pre x L T F FT, Ok pre x → J pre L T → HWp P assign (setPs ps.toList x regs) (F ++ (L0 ++ L)) (FT ++ (T0 ++ T)) (asgQ (F ++ L0) (FT ++ T0) (A pre x)))
    (hbody : ∀ pre x r La Ta F FT, Ok pre x → A pre x r La Ta → HWp P body r (F ++ (L0 ++ La)) (FT ++ (T0 ++ Ta)) (leaveQ E (F ++ L0) (FT ++ T0) (J (pre ++ [x]))))
    (pre : List (List LV)) (x : List LV) (L : Hp) (T : Tk) (F : Hp) (FT : Tk) (hok : Ok pre x) (hJ : RecJ q l regs ps assign body (J pre) L T) :
    HYield P l x (F ++ (L0 ++ L)) (FT ++ (T0 ++ T)) (YieldQ (F ++ L0) (FT ++ T0) (RecJ q l regs ps assign body (J (pre ++ [x]))) (RecE q l regs ps assign body E)) := by
  intro st hst G vs w hR hvs
  obtain ⟨ver, Lu, rfl, hJ⟩ := hJ
  have hst := hst.sub (L' := (q, .loop l regs ps assign body .ready none ver) :: (F ++ (L0 ++ Lu))) (T' := FT ++ (T0 ++ T)) (.of_perm (perm_mid F L0 _ Lu)) (.refl _)
  obtain ⟨r, hblk, hw, hf, hp, h2, h3, hs, hpe⟩ := hR.loop (hst.obj _ List.mem_cons_self)
  have hsz : vs.toArray.size = r.params.size := by rw [hp, ← hps pre x hok, ← hvs.1]; simp
  refine ⟨r.fn, _, r.assign, r.body, run_yield hw hsz, ?_⟩
  rw [h2, h3]
  refine roundIn_of_wpIn (F := Fence.wide) trivial ?_
  have hregs : RepF G ((r.params.zip vs.toArray).foldl (fun tmps (t, a) => tmps.setIfInBounds t a) r.tmps).toList (setPs ps.toList x regs) := by
    have := repF_ps ps.toList vs x r.tmps.toList regs hf hvs
    rw [← hp] at this
    have e := foldl_arr r.params vs.toArray r.tmps
    simp only [List.toList_toArray] at e
    rw [← e, hp] at this
    rw [hp]; exact this
  have H1 := hassign pre x Lu T ((q, .loop l regs ps assign body .ready none ver) :: F) FT hok hJ st hst G { tmps := _, defers := [] } w (some l) st.heap.length hR hregs .nil (Nat.le_refl _) (.inr ha)
  refine wpIn_mono H1 ?_
  rintro e a1 w1 ⟨r1, st1, G1, k1, hr1, hd1, hn1, L1, T1, hh1, q1⟩
  cases e with
  | exit id => exact q1.elim
  | goto id => exact q1.elim
  | ret => exact q1.elim
  | panic c => exact hn1.elim
  | outgrown => exact q1.elim
  | normal =>
    obtain ⟨r', La, Ta, hless, p1, p2, hA⟩ := q1
    have hh1 : Has st1 ((q, .loop l regs ps assign body .ready none ver) :: (F ++ (L0 ++ La))) (FT ++ (T0 ++ Ta)) := hh1.sub (by simpa using p1) (by simpa using p2)
    have hq1 := hh1.obj _ List.mem_cons_self
    obtain ⟨x1, hb1, hw1, hf1, hp1, ha1, hbo1, hs1, hpe1⟩ := k1.rel.loop hq1
    refine ⟨_, run_beginRound hw1 hs1, ?_⟩
    have k2 := step_loop (state' := .busy) (pending' := none) (r' := { x1 with state := .busy }) k1.rel hq1 hb1 ⟨hf1, hp1, ha1, hbo1, rfl, hpe1⟩
    have hh2 : Has _ ((q, .loop l regs ps assign body .busy none (ver + 1)) :: (F ++ (L0 ++ La))) (FT ++ (T0 ++ Ta)) := has_loop (F := []) hh1
    have H2 := (hbody pre x r' La Ta ((q, .loop l regs ps assign body .busy none (ver + 1)) :: F) FT hok hA).less hless _ hh2 G1 a1 _ (some l) st.heap.length k2.rel hr1
      (hd1.step k2) (Nat.le_trans k1.ver.length k2.ver.length) (.inr hb)
    refine wpIn_mono H2 ?_
    rintro e a2 w2 ⟨r2, st2, G2, k3, hr2, hd2, hn2, L2, T2, hh3, q2⟩
    have kk := (k1.trans hR k2).trans hR k3
    have fin : ∀ (jump : Option Code) (L1 : Hp) (T1 : Tk), Part (((q, .loop l regs ps assign body .busy none (ver + 1)) :: F ++ L0) ++ L1) L2 → Part ((FT ++ T0) ++ T1) T2 →
        ∃ v w', (Instr.endRound l jump).run P w2 = .ok v w' ∧ ∃ st', Step G st w G2 st' w' ∧ v = .bool jump.isNone ∧
          Has st' ((F ++ L0) ++ ((q, .loop l regs ps assign body (if jump.isNone then .ready else .done) jump (ver + 1 + 1)) :: L1)) ((FT ++ T0) ++ T1) := fun jump L1 T1 p1 p2 => by
      have hh4 := hh3.sub p1 p2
      have hq3 := hh4.obj _ (List.mem_append_left _ (List.mem_append_left _ List.mem_cons_self))
      obtain ⟨x3, hb3, hw3, hf3, hp3, ha3, hbo3, hs3, hpe3⟩ := k3.rel.loop hq3
      refine ⟨_, _, run_endRound jump hw3, _, kk.trans hR (step_loop (r' := { x3 with state := if jump.isNone then .ready else .done, pending := jump }) k3.rel hq3 hb3 ⟨hf3, hp3, ha3, hbo3, rfl, rfl⟩), rfl, ?_⟩
      have h5 := has_loop (F := []) (M := F ++ L0 ++ L1) (o' := .loop l regs ps assign body (if jump.isNone then .ready else .done) jump (ver + 1 + 1)) (by simpa using hh4)
      refine h5.sub (.of_perm ?_) (by first | exact .refl _ | (rw [List.append_assoc]; exact .refl _) | (rw [← List.append_assoc]; exact .refl _))
      simpa using (perm_mid F L0 _ L1).symm
    cases e with
    | goto id => exact q2.elim
    | panic c => exact hn2.elim
    | outgrown => exact q2.elim
    | normal =>
      obtain ⟨L1, T1, p1, p2, hJ'⟩ := q2
      obtain ⟨v, w', hrun, st', ks, rfl, hh⟩ := fin none L1 T1 p1 p2
      exact ⟨_, w', hrun, _, .bool true, st', G2, rfl, ks, .bool _, _, _, hh, true, _, _, rfl, .refl _, .refl _, (fun _ => ⟨_, _, rfl, hJ'⟩), (fun h => nomatch h)⟩
    | ret =>
      obtain ⟨L1, T1, p1, p2, hE⟩ := q2
      obtain ⟨v, w', hrun, st', ks, rfl, hh⟩ := fin (some .ret) L1 T1 p1 p2
      exact ⟨_, w', hrun, _, .bool false, st', G2, rfl, ks, .bool _, _, _, hh, false, _, _, rfl, .refl _, .refl _, (fun h => nomatch h), fun _ => ⟨_, _, _, _, rfl, rfl, hE⟩⟩
    | exit id =>
      obtain ⟨L1, T1, p1, p2, hE⟩ := q2
      obtain ⟨v, w', hrun, st', ks, rfl, hh⟩ := fin (some (.exit id)) L1 T1 p1 p2
      exact ⟨_, w', hrun, _, .bool false, st', G2, rfl, ks, .bool _, _, _, hh, false, _, _, rfl, .refl _, .refl _, (fun h => nomatch h), fun _ => ⟨_, _, _, _, rfl, rfl, hE⟩⟩

theorem DefOk.mark {G : Ghost} {st : St} {w : World} {n : Nat} {ds : List Deferred} (h : DefOk G st w n ds) (hn : n ≤ st.heap.length) {G' : Ghost} (k : Step G st w G' (st.push (.gone 0)) (w.alloc (.deferred (some [])))) (hb : G'.blk st.heap.length = some w.heap.size) :
    DefOk G' (st.push (.gone 0)) (w.alloc (.deferred (some []))) n ([{ target := .collected w.heap.size, args := #[] }] ++ ds) := by
  obtain ⟨ms, e1, e2, e3⟩ := h
  refine ⟨(st.heap.length, w.heap.size) :: ms, by rw [e1]; rfl, ?_, fun m hm => ?_⟩
  · rw [List.map_cons, List.nodup_cons]
    refine ⟨fun hm => ?_, e2⟩
    obtain ⟨m, hm, e⟩ := List.mem_map.1 hm
    have := (List.getElem?_eq_some_iff.1 (e3 m hm).2.2.1).1
    simp only at e; omega
  · rcases List.mem_cons.1 hm with rfl | hm
    · exact ⟨hn, hb, by simp [St.push], World.alloc_heap_new w _⟩
    · obtain ⟨h1, h2, h3, h4⟩ := e3 m hm
      have h5 := k.ver.gone h3 rfl
      exact ⟨h1, k.le.blk _ _ h2, h5, (k.keep m.1 m.2 h2 (h5.trans h3.symm)).trans h4⟩

/-- The statement. -/
theorem HWp.rangeFunc {g : Operand} {ps : Array Tmp} {assign body : Code} {f : FuncId} {first cap : List LV} {L0 L1 : Hp} {T0 T1 : Tk} {Ok : List (List LV) → List LV → Prop} {S : List (List LV) → Prop}
    (J : List (List LV) → Hp → Tk → Prop) (E : Exit → Hp → Tk → Prop) (A : List (List LV) → List LV → Fr → Hp → Tk → Prop)
    (hg : opdO regs g = some (.fn (.func f) first cap)) (hen : enterable P f = true) (ha : noRange assign = true) (hb : noRange body = true) (it : IterOk P f first cap ps.size L0 T0 Ok S)
    (hL : Part (L0 ++ L1) L) (hT : Part (T0 ++ T1) T) (h0 : J [] L1 T1)
    (hassign : ∀ pre x L T F FT, Ok pre x → J pre L T → HWp P assign (setPs ps.toList x regs) (F ++ (L0 ++ L)) (FT ++ (T0 ++ T)) (asgQ (F ++ L0) (FT ++ T0) (A pre x)))
    (hbody : ∀ pre x r La Ta F FT, Ok pre x → A pre x r La Ta → HWp P body r (F ++ (L0 ++ La)) (FT ++ (T0 ++ Ta)) (leaveQ E (F ++ L0) (FT ++ T0) (J (pre ++ [x]))))
    (done : ∀ xs L T, S xs → J xs L T → Q .normal regs (L0 ++ L) (T0 ++ T))
    (left : ∀ e c L T, jumpOf e = some c → E e L T → Q e regs (L0 ++ L) (T0 ++ T)) : HWp P (.rangeFunc g ps assign body) regs L T Q := by
  intro st hst G a w ro n hR hr hd hn hx
  have hro : ro = none := hx.resolve_right (by simp [noRange])
  subst hro
  have hst := hst.sub hL hT
  refine wpIn_rangeFunc fun fn _ => ?_
  have k1 := step_new hR (o := .deferred (some [])) (l := .gone 0) trivial
  have k2 := step_new k1.rel (o := .loop { state := .ready, pending := none, fn := fn, tmps := a.tmps, params := ps, assign := assign, body := body, defers := w.heap.size }) (l := .loop (w.heap.size + 1) regs ps assign body .ready none 0)
    ⟨_, rfl, hr.mono k1.le, rfl, rfl, rfl, rfl, rfl⟩ (by rw [World.size_alloc]; exact rfl)
  have rg := rep_opd hr g
  rw [opdV_of hg] at rg
  obtain ⟨v, hv⟩ : ∃ v, a.eval g = v := ⟨_, rfl⟩
  rw [hv] at rg
  cases rg with | @fn _ vs ws _ _ hl hm h1 h2 =>
  refine ⟨w.heap.size + 1, _, ((w.alloc (.deferred (some []))).alloc (.loop { state := .ready, pending := none, fn := fn, tmps := a.tmps, params := ps, assign := assign, body := body, defers := w.heap.size })), { target := .fn (.func f) ws, args := vs ++ #[.func (.yield (w.heap.size + 1)) #[] #[]] }, ((w.alloc (.deferred (some []))).alloc (.loop { state := .ready, pending := none, fn := fn, tmps := a.tmps, params := ps, assign := assign, body := body, defers := w.heap.size })), f, vs ++ #[.func (.yield (w.heap.size + 1)) #[] #[]] ++ ws, ((w.alloc (.deferred (some []))).alloc (.loop { state := .ready, pending := none, fn := fn, tmps := a.tmps, params := ps, assign := assign, body := body, defers := w.heap.size })), run_enterLoop_outer fn a.tmps ps assign body, ?_, fun _ _ => trivial, ?_, (fun e => nomatch e), ?_⟩
  · have e2 : a.eval (.const (.func (.yield (w.heap.size + 1)) #[] #[])) = .func (.yield (w.heap.size + 1)) #[] #[] := rfl
    simp [rangeCall, resolve, hv, e2, Deferred.ofValue]
  · simp [invoke, run_callFunc hen]
  generalize ((w.alloc (.deferred (some []))).alloc (.loop { state := .ready, pending := none, fn := fn, tmps := a.tmps, params := ps, assign := assign, body := body, defers := w.heap.size })) = W at k2 ⊢
  have hargs : RepAll ((G.addBlk st.heap.length w.heap.size).addBlk (st.push (.gone 0)).heap.length (w.alloc (.deferred (some []))).heap.size) (vs.toList ++ [.func (.yield (w.heap.size + 1)) #[] #[]] ++ ws.toList) (first ++ [.fn (.yield (w.heap.size + 1)) [] []] ++ cap) := by
    have kk := k1.trans hR k2
    refine (RepAll.append (RepAll.append ((repAll_fn hl h1).mono kk.le) ⟨rfl, fun i v l hv hl => ?_⟩) ((repAll_fn hm h2).mono kk.le))
    cases i with
    | zero => simp at hv hl; subst hv; subst hl; exact .fn rfl rfl (fun i v l hv => by simp at hv) (fun i v l hv => by simp at hv)
    | succ i => simp at hv
  have hq : st.heap.length + 1 = (st.push (.gone 0)).heap.length := by simp [St.push]
  have hst2 : Has ((st.push (.gone 0)).push (.loop (w.heap.size + 1) regs ps assign body .ready none 0)) ((st.heap.length + 1, .loop (w.heap.size + 1) regs ps assign body .ready none 0) :: (L0 ++ L1)) (T0 ++ T1) := by
    refine ⟨fun p hp => ?_, hst.tok, ?_, hst.nt⟩
    · rcases List.mem_cons.1 hp with rfl | hp
      · simp [St.push]
      · have := hst.obj p hp
        have hlt := (List.getElem?_eq_some_iff.1 this).1
        simp only [St.push]
        rw [List.getElem?_append_left (by simp; omega), List.getElem?_append_left hlt]; exact this
    · rw [List.map_cons, List.nodup_cons]
      refine ⟨fun hm => ?_, hst.nd⟩
      obtain ⟨q, hq, e⟩ := List.mem_map.1 hm
      have := (List.getElem?_eq_some_iff.1 (hst.obj q hq)).1
      simp only at e; omega
  have hst3 := hst2.sub (L' := L0 ++ ((st.heap.length + 1, .loop (w.heap.size + 1) regs ps assign body .ready none 0) :: L1)) (T' := T0 ++ T1) (.of_perm (by simpa using (perm_mid [] L0 _ L1).symm)) (.refl _)
  have H := it.2 (w.heap.size + 1) (fun pre => RecJ (st.heap.length + 1) (w.heap.size + 1) regs ps assign body (J pre)) (RecE (st.heap.length + 1) (w.heap.size + 1) regs ps assign body E)
    (fun pre x L T F FT hok hJ => yield_round ha hb it.1 hassign hbody pre x L T F FT hok hJ) _ T1 ⟨0, L1, rfl, h0⟩ _ hst3 _ _ W k2.rel hargs
  have e : (vs.toList ++ [Value.func (.yield (w.heap.size + 1)) #[] #[]] ++ ws.toList).toArray = vs ++ #[.func (.yield (w.heap.size + 1)) #[] #[]] ++ ws := by
    apply Array.ext'; simp
  rw [callsIn_fw, ← e]
  refine H.mono ?_
  rintro e w3 ⟨v, r, st3, G3, rfl, k3, _, L', T', hh, L1', T1', p1, p2, hend⟩
  have kk := (k1.trans hR k2).trans hR k3
  have hdm := ((hd.mark hn k1 (by simp [Ghost.addBlk])).step k2).step k3
  have hh1 := hh.sub p1 p2
  have fin : ∀ (state : LoopState) (pend : Option Code) (ver : Nat) (Lu : Hp), state ≠ .busy → L1' = (st.heap.length + 1, .loop (w.heap.size + 1) regs ps assign body state pend ver) :: Lu →
      ∃ w4 st4, (Instr.endLoop (w.heap.size + 1)).run P w3 = .ok pend w4 ∧ Step G st w G3 st4 w4 ∧ RepF G3 a.tmps.toList regs ∧ DefOk G3 st4 w4 n ([{ target := .collected w.heap.size, args := #[] }] ++ a.defers) ∧ Has st4 (L0 ++ Lu) (T0 ++ T1') := fun state pend ver Lu hs e => by
    subst e
    have hq3 := hh1.obj _ (List.mem_append_right _ List.mem_cons_self)
    obtain ⟨x3, hb3, hw3, hf3, hp3, ha3, hbo3, hs3, hpe3⟩ := k3.rel.loop hq3
    have hrun := run_endLoop (P := P) hw3 (by rw [hs3]; exact hs)
    rw [hpe3] at hrun
    have k4 := step_loop (state' := .exhausted) (pending' := pend) (r' := { x3 with state := .exhausted, pending := pend }) k3.rel hq3 hb3 ⟨hf3, hp3, ha3, hbo3, rfl, rfl⟩
    exact ⟨_, _, hrun, kk.trans hR k4, hr.mono kk.le, hdm.step k4, (has_loop hh1).sub (by
      have := perm_mid [] L0 (st.heap.length + 1, .loop (w.heap.size + 1) regs ps assign body .exhausted pend (ver + 1)) Lu
      exact (Part.tail _ _).trans (.of_perm this)) (.refl _)⟩
  rcases hend with ⟨xs, hS, ver, Lu, e, hJ⟩ | ⟨ver, e, c, Lu, he, e', hE⟩
  · obtain ⟨w4, st4, hrun, k4, hr4, hd4, hh4⟩ := fin .ready none ver Lu (by simp) e
    exact ⟨none, w4, hrun, regs, st4, G3, k4, hr4, hd4, trivial, _, _, hh4, done xs _ _ hS hJ⟩
  · obtain ⟨w4, st4, hrun, k4, hr4, hd4, hh4⟩ := fin .done (some c) ver Lu (by simp) e'
    refine ⟨some c, w4, hrun, ?_⟩
    have hq := left e c Lu T1' he hE
    cases e with
    | ret => injection he with he; subst he; exact wpIn_ret ⟨regs, st4, G3, k4, hr4, hd4, trivial, _, _, hh4, hq⟩
    | exit id => injection he with he; subst he; exact wpIn_exit ⟨regs, st4, G3, k4, hr4, hd4, trivial, _, _, hh4, hq⟩
    | normal => cases he
    | goto l => cases he
    | panic c => cases he
    | outgrown => cases he

end
end Go.L

set_option linter.unusedVariables false
set_option linter.unusedSimpArgs false
namespace Go.L
open Go Go.RowKit

/-! ### Walks over maps and texts -/
def Ghost.addEnts (G : Ghost) (id ver : Nat) (x : Array MapEntry × Nat) : Ghost := { G with ents := fun m v => if m = id ∧ v = ver then some x else G.ents m v }
/-- A map's entries, kept in mind. -/
theorem step_snap {G : Ghost} {st : St} {w : World} (h : Rel G st w) {id b ver clock : Nat} {es : List (LV × LV)} {ents : Array MapEntry} (hid : st.heap[id]? = some (.map es ver)) (hb : G.blk id = some b)
    (hw : w.heap[b]? = some (.map ents clock)) : Step G st w (G.addEnts id ver (ents, clock)) st w := by
  have hle : G.le (G.addEnts id ver (ents, clock)) := ⟨rfl, rfl, fun _ _ _ e => e, fun _ _ e => e, fun _ _ _ e => e, fun m v x e => by
    simp only [Ghost.addEnts]
    split
    · rename_i k; obtain ⟨rfl, rfl⟩ := k
      obtain ⟨o, h1, h2, h3⟩ := h.snap m v x e
      rw [hid] at h1; injection h1 with h1; subst h1
      have := h3 es b rfl hb
      rw [hw] at this
      injection this with this; injection this with e1 e2
      rw [e1, e2]
    · exact e⟩
  refine ⟨hle, ⟨fun i o ho => ?_, h.inj, h.dom, h.imm, h.apart, h.toks, h.tokdom, h.tokinj, h.below, h.size, h.drew, h.places, fun m v x e => ?_⟩, .refl _, fun _ _ _ _ => rfl⟩
  · obtain ⟨c, obj, h1, h2, h3, h4⟩ := h.objs i o ho
    exact ⟨c, obj, h1, h2, h3, h4.mono hle⟩
  · simp only [Ghost.addEnts] at e
    split at e
    · rename_i k; obtain ⟨rfl, rfl⟩ := k
      injection e with e; subst e
      exact ⟨_, hid, Nat.le_refl _, fun es' c _ hc => by
        have hc : G.blk m = some c := hc
        rw [hb] at hc; injection hc with hc; subst hc; exact hw⟩
    · exact h.snap m v x e

section
variable {P : Program} {regs : Fr} {L : Hp} {T : Tk} {Q : HQ} {ops : Array Oper} {p : Plan} {pend : Pends} {i : Nat} {U : List Nat} {d : Option Tmp} {ty : TypeId} {pos : String} {af : Array Edge} {g : Option (Nat × Bool)}

theorem has_new {st : St} {L : Hp} {T : Tk} (h : Has st L T) (o : LObj) : Has (st.push o) ((st.heap.length, o) :: L) T := by
  refine ⟨fun q hq => ?_, h.tok, ?_, h.nt⟩
  · rcases List.mem_cons.1 hq with rfl | hq
    · simp [St.push]
    · have := h.obj q hq
      simp only [St.push]
      rw [List.getElem?_append_left (List.getElem?_eq_some_iff.1 this).1]; exact this
  · rw [List.map_cons, List.nodup_cons]
    refine ⟨fun hm => ?_, h.nd⟩
    obtain ⟨q, hq, e⟩ := List.mem_map.1 hm
    have := (List.getElem?_eq_some_iff.1 (h.obj q hq)).1
    simp only at e; omega

theorem HPlan.rangeM {t kt et id ver : Nat} {x : Operand} {es : List (LV × LV)} (ho : ops[i]? = some ⟨d, .range t x, ty, pos, af, g⟩) (ht : takenB ops g regs = true) (hx : opdO regs x = some (.mp id)) (hm : mapTy P t = some (kt, et)) (hL : (id, .map es ver) ∈ L)
    (k : ∀ it, keptH U pend L ((it, .iter id ver (List.range es.length) none 0) :: L) ∧ HPlan P ops Q p pend (setR d (.ref it 0) regs) ((it, .iter id ver (List.range es.length) none 0) :: L) T) : HPlan P ops Q (.act i U p) pend regs L T := by
  refine .actd ho ht fun st hst => does_run fun G a w hR hr => ?_
  have hid := hst.obj _ hL
  obtain ⟨b, obj, e1, e2, e3, ents, clock, rfl, e5, e6, e7⟩ := hR.objs id _ hid
  have rx := rep_opd hr x
  rw [opdV_of hx] at rx
  obtain ⟨u, hu⟩ : ∃ u, a.eval x = u := ⟨_, rfl⟩
  rw [hu] at rx
  cases rx with | @mp _ b' hb =>
  have hbb := hb
  rw [e1] at hb; injection hb with hb; subst hb
  have k1 := step_snap hR hid hbb e3
  have k2 := step_new k1.rel (o := .mapIter (some b) clock #[] clock) (l := .iter id ver (List.range es.length) none 0)
    ⟨ents, clock, b, #[], by simp [Ghost.addEnts], hbb, rfl, fun j e he => by
      have := (Array.getElem?_eq_some_iff.1 he).1
      simp; omega, fun j h => by cases h⟩
  refine ⟨.pointer (some ⟨w.heap.size, 0, none⟩), .ref st.heap.length 0, _, _, _, ?_, k1.trans hR k2, .ref (by simp [Ghost.addBlk]), _, T, has_new hst _, k st.heap.length⟩
  have hmt := mapTy_spec hm
  simp [execOp, hu, Instr.range, run_underlying hmt w, run_getMap e3]

theorem HPlan.rangeN {t kt et : Nat} {x : Operand} (ho : ops[i]? = some ⟨d, .range t x, ty, pos, af, g⟩) (ht : takenB ops g regs = true) (hx : opdO regs x = some .nilm) (hm : mapTy P t = some (kt, et))
    (k : ∀ it, keptH U pend L ((it, .iter0 0) :: L) ∧ HPlan P ops Q p pend (setR d (.ref it 0) regs) ((it, .iter0 0) :: L) T) : HPlan P ops Q (.act i U p) pend regs L T := by
  refine .actd ho ht fun st hst => does_run fun G a w hR hr => ?_
  have rx := rep_opd hr x
  rw [opdV_of hx] at rx
  obtain ⟨u, hu⟩ : ∃ u, a.eval x = u := ⟨_, rfl⟩
  rw [hu] at rx
  cases rx
  have k2 := step_new hR (o := .mapIter none 0 #[] 0) (l := .iter0 0) rfl
  refine ⟨.pointer (some ⟨w.heap.size, 0, none⟩), .ref st.heap.length 0, _, _, _, ?_, k2, .ref (by simp [Ghost.addBlk]), _, T, has_new hst _, k st.heap.length⟩
  have hmt := mapTy_spec hm
  simp [execOp, hu, Instr.range, run_underlying hmt w]
theorem HPlan.rangeS {t : Nat} {x : Operand} {s : ByteArray} (ho : ops[i]? = some ⟨d, .range t x, ty, pos, af, g⟩) (ht : takenB ops g regs = true) (hx : opdO regs x = some (.str s)) (hs : isStrTy P t = true)
    (k : ∀ it, keptH U pend L ((it, .siter s 0 0) :: L) ∧ HPlan P ops Q p pend (setR d (.ref it 0) regs) ((it, .siter s 0 0) :: L) T) : HPlan P ops Q (.act i U p) pend regs L T := by
  refine .actd ho ht fun st hst => does_run fun G a w hR hr => ?_
  have rx := rep_opd hr x
  rw [opdV_of hx] at rx
  obtain ⟨u, hu⟩ : ∃ u, a.eval x = u := ⟨_, rfl⟩
  rw [hu] at rx
  cases rx
  have k2 := step_new hR (o := .stringIter s 0) (l := .siter s 0 0) rfl
  refine ⟨.pointer (some ⟨w.heap.size, 0, none⟩), .ref st.heap.length 0, _, _, _, ?_, k2, .ref (by simp [Ghost.addBlk]), _, T, has_new hst _, k st.heap.length⟩
  simp [execOp, hu, Instr.range, run_isStrTy hs w]

theorem born_inj {ents : Array MapEntry} {clock : Nat} (h : BornOk ents clock) {i j : Nat} {x y : MapEntry} (hi : ents[i]? = some x) (hj : ents[j]? = some y) (e : x.born = y.born) : i = j := by
  obtain ⟨l1, e1⟩ := Array.getElem?_eq_some_iff.1 hi
  obtain ⟨l2, e2⟩ := Array.getElem?_eq_some_iff.1 hj
  refine (List.getElem_inj (i := i) (j := j) (h₀ := by simpa using l1) (h₁ := by simpa using l2) h.1).1 ?_
  simp only [List.getElem_map, Array.getElem_toList, e1, e2, e]

/-- The next entry, whichever it is; or there is none. -/
theorem HPlan.nextM {x : Operand} {it id ver ver' : Nat} {left : List Nat} {cur : Option Nat} {es : List (LV × LV)} (ho : ops[i]? = some ⟨d, .next x false, ty, pos, af, g⟩) (ht : takenB ops g regs = true) (hx : opdO regs x = some (.ref it 0))
    (hI : (it, .iter id ver left cur ver') ∈ L) (hM : (id, .map es ver) ∈ L) (hk0 : keptH U pend L L) (k0 : (∀ j, j < es.length → j ∉ left) → HPlan P ops Q p pend (setR d (.tup [.bool false]) regs) L T)
    (k1 : ∀ (j : Nat) (kv : LV × LV), es[j]? = some kv → j ∈ left → ∃ L', Upd it (.iter id ver left cur ver') (.iter id ver (left.filter (· != j)) (some j) (ver' + 1)) L L' ∧ keptH U pend L L' ∧ HPlan P ops Q p pend (setR d (.tup [.bool true, kv.1, kv.2]) regs) L' T) : HPlan P ops Q (.act i U p) pend regs L T := by
  refine .actd ho ht fun st hst => does_run fun G a w hR hr => ?_
  have hid := hst.obj _ hM
  have hit := hst.obj _ hI
  obtain ⟨b, obj, e1, e2, e3, ents, clock, rfl, e5, e6, e7⟩ := hR.objs id _ hid
  obtain ⟨c, obj', f1, f2, f3, ents', clock', bm, seen, g1, g2, rfl, g3, g4⟩ := hR.objs it _ hit
  rw [e1] at g2; injection g2 with g2; subst g2
  obtain ⟨o', h1, _, h3⟩ := hR.snap id ver _ g1
  rw [hid] at h1; injection h1 with h1; subst h1
  have h3 := h3 es b rfl e1
  rw [e3] at h3; injection h3 with h3; injection h3 with h3 h4
  simp only at h3 h4; subst h3; subst h4
  have rx := rep_opd hr x
  rw [opdV_of hx] at rx
  obtain ⟨u, hu⟩ : ∃ u, a.eval x = u := ⟨_, rfl⟩
  rw [hu] at rx
  cases rx with | @ref _ _ c' hc =>
  rw [f1] at hc; injection hc with hc; subst hc
  rcases run_next_at (P := P) w ty c b clock clock seen ents clock f3 e3 e7.2 (Nat.le_refl _) with ⟨hz, hrun⟩ | ⟨e, he, w1, hw1, hrun⟩
  · refine ⟨.tuple #[.bool false], .tup [.bool false], st, w, G, by simp [execOp, hu, hrun], .refl hR, .tup rfl (fun j v l hv hl => ?_), L, T, hst, hk0, k0 fun j hj hm => ?_⟩
    · cases j with
      | zero => simp at hv hl; subst hv; subst hl; exact .bool _
      | succ j => simp at hv
    · have hj' : j < ents.size := by omega
      have hs : seen.contains ents[j].born = false := (g3 j ents[j] (by simp [hj'])).2 hm
      have : ents[j] ∈ leftOf ents seen := by
        unfold leftOf
        rw [Array.mem_filter]
        exact ⟨Array.getElem_mem hj', by rw [hs]; rfl⟩
      rw [Array.eq_empty_of_size_eq_zero hz] at this
      simp at this
  · obtain ⟨hm, hs⟩ := mem_left he
    obtain ⟨j, hj⟩ := List.getElem?_of_mem hm
    rw [Array.getElem?_toList] at hj
    have hjl : j < es.length := by have := (Array.getElem?_eq_some_iff.1 hj).1; omega
    have hjm : j ∈ left := (g3 j e hj).1 hs
    obtain ⟨L', hu', hk', kk⟩ := k1 j es[j] (by simp [hjl]) hjm
    have hw1' : w1.heap = w.heap ∧ w1.os = w.os ∧ w1.tape = w.tape ∧ w1.output = w.output ∧ w.drawn ≤ w1.drawn := by rcases hw1 with rfl | rfl <;> exact ⟨rfl, rfl, rfl, rfl, by first | exact Nat.le_refl _ | exact Nat.le_succ _⟩
    have k1 := step_same hR hw1'.1 hw1'.2.1 hw1'.2.2.1 hw1'.2.2.2.1 hw1'.2.2.2.2
    have hR1 := k1.rel
    have hlt := hR1.blk_lt f1
    have k2 := step_set (w' := Go.ChangeMaps.setBlock w1 c (.mapIter (some b) clock (seen.push e.born) clock)) (l := .iter id ver (left.filter (· != j)) (some j) (ver' + 1)) (o := .mapIter (some b) clock (seen.push e.born) clock) hR1 hit f1 rfl (by simp [LObj.ver])
      (by simp [Go.ChangeMaps.setBlock]) (fun k hk => by simp [Go.ChangeMaps.setBlock, Array.getElem?_setIfInBounds_ne (Ne.symm hk)]) (by simp [Go.ChangeMaps.setBlock, hlt])
      ⟨ents, clock, b, _, g1, e1, rfl, fun i' e' he' => ?_, fun i' hi' => ?_⟩ (by simp [Go.ChangeMaps.setBlock]) (by simp [Go.ChangeMaps.setBlock]) (by simp [Go.ChangeMaps.setBlock])
    refine ⟨.tuple #[.bool true, e.key, e.val], .tup [.bool true, es[j].1, es[j].2], _, _, G, by simp [execOp, hu, hrun], k1.trans hR k2, .tup rfl (fun j' v l hv hl => ?_), L', T, hst.upd hu', hk', kk⟩
    · obtain ⟨r1, r2⟩ := e6 j e es[j] hj (by simp [hjl])
      match j', hv, hl with
      | 0, hv, hl => simp at hv hl; subst hv; subst hl; exact .bool _
      | 1, hv, hl => simp at hv hl; subst hv; subst hl; exact r1
      | 2, hv, hl => simp at hv hl; subst hv; subst hl; exact r2
      | j' + 3, hv, hl => simp at hv
    · have hx := g3 i' e' he'
      rw [Array.contains_push, List.mem_filter]
      by_cases hb : e'.born = e.born
      · have : i' = j := born_inj e7 he' hj hb
        subst this
        simp [hb]
      · have hne : i' ≠ j := fun h => hb (by subst h; rw [hj] at he'; injection he' with he'; rw [he'])
        simp [hb, hne, ← hx]
    · injection hi' with hi'; subst hi'
      exact ⟨e, hj, seen, rfl⟩

/-- The entry that came just now. -/
theorem HPlan.entryM {x : Operand} {it id ver ver' j : Nat} {left : List Nat} {es : List (LV × LV)} {kv : LV × LV} (ho : ops[i]? = some ⟨d, .entry x, ty, pos, af, g⟩) (ht : takenB ops g regs = true) (hx : opdO regs x = some (.ref it 0))
    (hI : (it, .iter id ver left (some j) ver') ∈ L) (hM : (id, .map es ver) ∈ L) (hj : es[j]? = some kv) (hk : keptH U pend L L) (k : HPlan P ops Q p pend (setR d (.tup [kv.1, kv.2]) regs) L T) : HPlan P ops Q (.act i U p) pend regs L T := by
  refine .actd ho ht fun st hst => does_run fun G a w hR hr => ?_
  have hid := hst.obj _ hM
  have hit := hst.obj _ hI
  obtain ⟨b, obj, e1, e2, e3, ents, clock, rfl, e5, e6, e7⟩ := hR.objs id _ hid
  obtain ⟨c, obj', f1, f2, f3, ents', clock', bm, seen, g1, g2, rfl, g3, g4⟩ := hR.objs it _ hit
  rw [e1] at g2; injection g2 with g2; subst g2
  obtain ⟨o', h1, _, h3⟩ := hR.snap id ver _ g1
  rw [hid] at h1; injection h1 with h1; subst h1
  have h3 := h3 es b rfl e1
  rw [e3] at h3; injection h3 with h3; injection h3 with h3 h4
  simp only at h3 h4; subst h3; subst h4
  have rx := rep_opd hr x
  rw [opdV_of hx] at rx
  obtain ⟨u, hu⟩ : ∃ u, a.eval x = u := ⟨_, rfl⟩
  rw [hu] at rx
  cases rx with | @ref _ _ c' hc =>
  rw [f1] at hc; injection hc with hc; subst hc
  obtain ⟨e, he, s, rfl⟩ := g4 j rfl
  have hm : e ∈ ents.toList := Array.mem_toList_iff.2 (Array.mem_of_getElem? he)
  have hrun := run_entry_at (P := P) w c b clock s ents clock e f3 e3 hm e7.1
  obtain ⟨r1, r2⟩ := e6 j e kv he hj
  refine ⟨.tuple #[e.key, e.val], .tup [kv.1, kv.2], st, w, G, by simp [execOp, hu, hrun], .refl hR, .tup rfl (fun j' v l hv hl => ?_), L, T, hst, hk, k⟩
  match j', hv, hl with
  | 0, hv, hl => simp at hv hl; subst hv; subst hl; exact r1
  | 1, hv, hl => simp at hv hl; subst hv; subst hl; exact r2
  | j' + 2, hv, hl => simp at hv

theorem HPlan.nextN {x : Operand} {it ver' : Nat} (ho : ops[i]? = some ⟨d, .next x false, ty, pos, af, g⟩) (ht : takenB ops g regs = true) (hx : opdO regs x = some (.ref it 0))
    (hI : (it, .iter0 ver') ∈ L) (hk0 : keptH U pend L L) (k0 : HPlan P ops Q p pend (setR d (.tup [.bool false]) regs) L T) : HPlan P ops Q (.act i U p) pend regs L T := by
  refine .actd ho ht fun st hst => does_run fun G a w hR hr => ?_
  have hit := hst.obj _ hI
  obtain ⟨c, obj', f1, f2, f3, rfl⟩ := hR.objs it _ hit
  have rx := rep_opd hr x
  rw [opdV_of hx] at rx
  obtain ⟨u, hu⟩ : ∃ u, a.eval x = u := ⟨_, rfl⟩
  rw [hu] at rx
  cases rx with | @ref _ _ c' hc =>
  rw [f1] at hc; injection hc with hc; subst hc
  have hg : (getObj c).run P w = .ok (.mapIter none 0 #[] 0) w := by simp [getObj, Sem.run, f3]
  refine ⟨.tuple #[.bool false], .tup [.bool false], st, w, G, by simp [execOp, hu, Instr.next, hg], .refl hR, .tup rfl (fun j v l hv hl => ?_), L, T, hst, hk0, k0⟩
  cases j with
  | zero => simp at hv hl; subst hv; subst hl; exact .bool _
  | succ j => simp at hv

/-- The next rune of a text. -/
theorem HPlan.nextS {x : Operand} {it ver' pos' : Nat} {s : ByteArray} (ho : ops[i]? = some ⟨d, .next x true, ty, pos, af, g⟩) (ht : takenB ops g regs = true) (hx : opdO regs x = some (.ref it 0))
    (hI : (it, .siter s pos' ver') ∈ L) (hk0 : keptH U pend L L) (k0 : s.size ≤ pos' → HPlan P ops Q p pend (setR d (.tup [.bool false]) regs) L T)
    (k1 : pos' < s.size → ∃ L', Upd it (.siter s pos' ver') (.siter s (pos' + (Utf8.decode s pos').2) (ver' + 1)) L L' ∧ keptH U pend L L' ∧
      HPlan P ops Q p pend (setR d (.tup [.bool true, .int .i64 (pos' : Int), .int .i32 ((Utf8.decode s pos').1 : Int)]) regs) L' T) : HPlan P ops Q (.act i U p) pend regs L T := by
  refine .actd ho ht fun st hst => does_run fun G a w hR hr => ?_
  have hit := hst.obj _ hI
  obtain ⟨c, obj', f1, f2, f3, rfl⟩ := hR.objs it _ hit
  have rx := rep_opd hr x
  rw [opdV_of hx] at rx
  obtain ⟨u, hu⟩ : ∃ u, a.eval x = u := ⟨_, rfl⟩
  rw [hu] at rx
  cases rx with | @ref _ _ c' hc =>
  have hcc := hc
  rw [f1] at hc; injection hc with hc; subst hc
  have hg : (getObj c).run P w = .ok (.stringIter s pos') w := by simp [getObj, Sem.run, f3]
  have hlt := hR.blk_lt f1
  by_cases hp : pos' < s.size
  · obtain ⟨L', hu', hk', kk⟩ := k1 hp
    have hset : (setObj c (.stringIter s (pos' + (Utf8.decode s pos').2))).run P w = .ok () (w.putObj c (.stringIter s (pos' + (Utf8.decode s pos').2))) := by simp [setObj, Sem.run, f3, World.putObj]
    have k2 := step_set (w' := w.putObj c (.stringIter s (pos' + (Utf8.decode s pos').2))) (l := .siter s (pos' + (Utf8.decode s pos').2) (ver' + 1)) hR hit f1 rfl (by simp [LObj.ver]) World.putObj_size (fun k hk => World.putObj_heap_other hk) (World.putObj_heap_same hlt) rfl rfl rfl rfl
    refine ⟨.tuple #[.bool true, goInt pos', .int .i32 ((Utf8.decode s pos').1 : Int)], _, _, _, G, ?_, k2, .tup (ls := [.bool true, .int .i64 (pos' : Int), .int .i32 ((Utf8.decode s pos').1 : Int)]) rfl (fun j' v l hv hl => ?_), L', T, hst.upd hu', hk', kk⟩
    · simp [execOp, hu, Instr.next, hg, hp, hset]
    · match j', hv, hl with
      | 0, hv, hl => simp at hv hl; subst hv; subst hl; exact .bool _
      | 1, hv, hl => simp [goInt] at hv hl; subst hv; subst hl; exact .int _ _
      | 2, hv, hl => simp at hv hl; subst hv; subst hl; exact .int _ _
      | j' + 3, hv, hl => simp at hv
  · refine ⟨.tuple #[.bool false], .tup [.bool false], st, w, G, by simp [execOp, hu, Instr.next, hg, hp], .refl hR, .tup rfl (fun j v l hv hl => ?_), L, T, hst, hk0, k0 (by omega)⟩
    cases j with
    | zero => simp at hv hl; subst hv; subst hl; exact .bool _
    | succ j => simp at hv
end
end Go.L

set_option linter.unusedVariables false
set_option linter.unusedSimpArgs false
namespace Go.L
open Go Go.RowKit

/-! ### Slices of one's own that may be written -/
inductive OwnSl (k : Nat) (es : List LV) : LV → Hp → Prop
  | nil (h : es = []) : OwnSl k es .nils []
  | obj {id ty ver cap : Nat} {rest : List LV} (hl : es.length * k + rest.length = cap * k) (hc : es.length ≤ cap) (hk : ∀ e ∈ es, e.cells.length = k) : OwnSl k es (.hs id 0 es.length cap) [(id, .cells ty (flat es ++ rest) ver)]

theorem OwnSl.kcells {k : Nat} {es : List LV} {v : LV} {Lv : Hp} (h : OwnSl k es v Lv) : ∀ e ∈ es, e.cells.length = k := by
  cases h with
  | nil h => subst h; intro e he; cases he
  | obj _ _ hk => exact hk

theorem repAll_und {G : Ghost} (vs : List Value) : RepAll G vs (List.replicate vs.length .und) :=
  ⟨by simp, fun i v l hv hl => by
    have := List.mem_of_getElem? hl
    rw [List.mem_replicate] at this
    rw [this.2]; exact .und v⟩
theorem RepAll.take {G : Ghost} {vs : List Value} {ls : List LV} (h : RepAll G vs ls) (n : Nat) : RepAll G (vs.take n) (ls.take n) :=
  ⟨by simp [h.1], fun i v l hv hl => by
    rw [List.getElem?_take] at hv hl
    split at hv
    · rename_i hi; rw [if_pos hi] at hl; exact h.2 i v l hv hl
    · cases hv⟩
theorem RepAll.drop {G : Ghost} {vs : List Value} {ls : List LV} (h : RepAll G vs ls) (n : Nat) : RepAll G (vs.drop n) (ls.drop n) :=
  ⟨by simp [h.1], fun i v l hv hl => by
    rw [List.getElem?_drop] at hv hl
    exact h.2 _ v l hv hl⟩

section
variable {P : Program} {regs : Fr} {L : Hp} {T : Tk} {Q : HQ} {ops : Array Oper} {p : Plan} {pend : Pends} {i : Nat} {U : List Nat} {d : Option Tmp} {ty : TypeId} {pos : String} {af : Array Edge} {g : Option (Nat × Bool)}

theorem HPlan.appendH {t tx e k bytes : Nat} {s x : Operand} {v a : LV} {es xs : List LV} {Lv F : Hp} (ho : ops[i]? = some ⟨d, .call { callee := .builtin .append, args := #[s, x], argTypes := #[t, tx] }, ty, pos, af, g⟩) (ht : takenB ops g regs = true)
    (hs : opdO regs s = some v) (hx : opdO regs x = some a) (hel : elemIn P t = some (e, k, bytes)) (htx : srcTy P tx = true) (hv : OwnSl k es v Lv) (ha : IsSl k xs a) (hxk : ∀ e ∈ xs, e.cells.length = k) (hL : L.Perm (Lv ++ F)) (hsol : ∀ e ∈ xs, e.solid = true)
    (hb : (es.length + xs.length) * bytes ≤ 140737488355328) (h63 : es.length + xs.length ≤ 140737488355328)
    (kk : ∀ v' Lv', OwnSl k (es ++ xs) v' Lv' → keptH U pend L (F ++ Lv') ∧ HPlan P ops Q p pend (setR d v' regs) (F ++ Lv') T) : HPlan P ops Q (.act i U p) pend regs L T := by
  refine .actd ho ht fun st hst => does_run fun G A w hR hr => ?_
  have hst := hst.sub (.of_perm hL) (.refl T)
  obtain ⟨inf, z, hu, hi, hz, rfl, rfl, hzc⟩ := elemIn_spec hel
  have htx' : ∃ d, P.underlying tx = some (.slice d) := by
    unfold srcTy at htx; split at htx
    · exact ⟨_, ‹_›⟩
    · cases htx
  have rs := rep_opd hr s
  have rx := rep_opd hr x
  rw [opdV_of hs] at rs
  rw [opdV_of hx] at rx
  have hexec : ∀ w', (execOp A.eval ⟨d, .call { callee := .builtin .append, args := #[s, x], argTypes := #[t, tx] }, ty, pos, af, g⟩).run P w' = ((Builtin.append_ #[t, tx] ty #[A.eval s, A.eval x]).run P w').andThen fun v w'' => .ok (.value v) w'' := fun w' => by
    simp [execOp, resolve, invoke, builtin]
  simp only [hexec]
  obtain ⟨vs, hvs⟩ : ∃ v, A.eval s = v := ⟨_, rfl⟩
  obtain ⟨vx, hvx⟩ : ∃ v, A.eval x = v := ⟨_, rfl⟩
  rw [hvs] at rs ⊢; rw [hvx] at rx ⊢
  by_cases hemp : xs = []
  · subst hemp
    rw [List.append_nil] at kk
    refine ⟨vs, v, st, w, G, ?_, .refl hR, rs, _, T, hst.sub (.of_perm List.perm_append_comm) (.refl T), kk v Lv hv⟩
    obtain ⟨d, htx'⟩ := htx'
    have hf0 : ∃ bx cx, vx = .slice bx 0 cx := by
      cases ha with
      | nils => cases rx; exact ⟨_, _, rfl⟩
      | sl => cases rx <;> exact ⟨_, _, rfl⟩
    obtain ⟨bx, cx, rfl⟩ := hf0
    have hfc : (Builtin.firstCells inf.size 0 (.slice bx 0 cx)).run P w = .ok #[] w := by
      cases bx <;> simp [Builtin.firstCells, loadCells, loadCellsFrom]
    cases hv with
    | nil h => cases rs; simp [Builtin.append_, run_underlying hu, run_underlying htx', sizeOf, typeInfo, hi, Builtin.lenOf, hfc]
    | obj hl hc hk => cases rs; simp [Builtin.append_, run_underlying hu, run_underlying htx', sizeOf, typeInfo, hi, Builtin.lenOf, hfc, hc, storeCells]
  · cases ha with
    | nils => exact (hemp rfl).elim
    | sl =>
    cases rx with
    | sl0 => exact (hemp rfl).elim
    | @sl b2 off2 cap2 _ ow2 _ f2 hk2 hf2 hr2 hc2 ho2 =>
    obtain ⟨news, n1, n2, n3⟩ := sl_flat f2 hk2 hf2 hr2
    have hnews : ∀ w' : World, (∀ (b i : Nat) (x : Value), G.imm b i = some x → w'.cell? ⟨b, i, none⟩ = some x) → ∀ (j : Nat) (u : Value), news[j]? = some u → w'.cell? ((⟨b2, off2, none⟩ : Addr).add j) = some u := fun w' hw j u hj => by
      rw [addr_add]
      have hlt := (List.getElem?_eq_some_iff.1 hj).1
      exact hw _ _ _ ((n2 j (by omega)).trans hj)
    have hone := repAll_one n3 hsol
    have hpos : 0 < xs.length := List.length_pos_iff.2 hemp
    have hd := step_drew hR
    -- a new row
    have fresh : ∀ (olds : List Value) (need cap' : Nat), RepAll G olds (flat es) → es.length + xs.length ≤ cap' →
        ∃ G', Step G st w G' (st.push (.cells e (flat (es ++ xs) ++ List.replicate ((cap' - (es.length + xs.length)) * inf.size) .und) 0)) (w.drew.alloc (.cells (olds.toArray ++ news.toArray ++ Builtin.zeroCells z.cells (cap' - (es.length + xs.length))) e)) ∧
          Rep G' (.slice (some ⟨w.heap.size, 0, none⟩) (es.length + xs.length) cap') (.hs st.heap.length 0 (es.length + xs.length) cap') ∧
          ∃ Lv', OwnSl inf.size (es ++ xs) (.hs st.heap.length 0 (es.length + xs.length) cap') Lv' ∧ Has (st.push (.cells e (flat (es ++ xs) ++ List.replicate ((cap' - (es.length + xs.length)) * inf.size) .und) 0)) (Lv' ++ F) T := fun olds need cap' ho hcap => by
      have k2 := step_new hd.rel (o := .cells (olds.toArray ++ news.toArray ++ Builtin.zeroCells z.cells (cap' - (es.length + xs.length))) e) (l := .cells e (flat (es ++ xs) ++ List.replicate ((cap' - (es.length + xs.length)) * inf.size) .und) 0) ⟨_, rfl, by
        have e1 : (olds.toArray ++ news.toArray ++ Builtin.zeroCells z.cells (cap' - (es.length + xs.length))).toList = (olds ++ news) ++ (Builtin.zeroCells z.cells (cap' - (es.length + xs.length))).toList := by simp
        rw [e1, flat_append]
        refine (ho.append n3).append ?_
        have := repAll_und (G := G) (Builtin.zeroCells z.cells (cap' - (es.length + xs.length))).toList
        have hz3 : (Builtin.zeroCells z.cells (cap' - (es.length + xs.length))).toList.length = (cap' - (es.length + xs.length)) * inf.size := by rw [Array.length_toList, size_zeroCells, hzc]
        rwa [hz3] at this⟩
      refine ⟨_, hd.trans hR k2, .hs (by simp [Ghost.addBlk]), [(st.heap.length, .cells e (flat (es ++ xs) ++ List.replicate ((cap' - (es.length + xs.length)) * inf.size) .und) 0)], ?_, ?_⟩
      · have := OwnSl.obj (k := inf.size) (es := es ++ xs) (id := st.heap.length) (ty := e) (ver := 0) (cap := cap') (rest := List.replicate ((cap' - (es.length + xs.length)) * inf.size) .und) (by
          rw [List.length_replicate, List.length_append, ← Nat.add_mul]; congr 1; omega) (by rw [List.length_append]; exact hcap) (fun y hy => (List.mem_append.1 hy).elim (hv.kcells y) (hxk y))
        rw [List.length_append] at this
        exact this
      · exact (has_new (hst.sub ⟨Lv, List.perm_append_comm⟩ (.refl T)) _)
    cases hv with
    | nil h =>
      subst h
      cases rs
      have hrun := run_append_new (P := P) (w := w) (t := t) (tx := tx) (ty := ty) hu htx' hi hz (s := .slice none 0 0) (sLen := 0) (sCap := 0) (m := xs.length) (c := cap2) (b := ⟨b2, off2, none⟩) (olds := []) (news := news)
        (.inl ⟨rfl, rfl, rfl, rfl⟩) (by simp) n1 (hnews w hR.imm) (by omega) (by simp only [List.length_nil] at h63; omega) (by rw [Nat.zero_add, nextslicecap_zero hpos]; simp only [List.length_nil, Nat.zero_add] at hb; omega)
      obtain ⟨G', hs', hrep, Lv', hv', hh⟩ := fresh [] 0 (grownCap w (0 + xs.length) 0 e) ⟨rfl, fun i v l h => by simp at h⟩ (by simp only [List.length_nil]; exact grownCap_ge w _ _ _)
      refine ⟨_, _, _, _, G', ?_, hs', hrep, _, T, hh.sub (.of_perm List.perm_append_comm) (.refl T), kk _ _ hv'⟩
      rw [hrun]; simp
    | @obj id ty' ver cap rest hl hc hk =>
      have hid := hst.obj (id, .cells ty' (flat es ++ rest) ver) (by simp)
      obtain ⟨b, ob, e1, e2, e3, arr, rfl, e5⟩ := hR.objs id _ hid
      cases rs with | @hs _ _ _ _ b' hb' =>
      have hbb := hb'
      rw [e1] at hb'; injection hb' with hb'; subst hb'
      have hfl := flat_len hk
      have ftake : (flat es ++ rest).take (es.length * inf.size) = flat es := by rw [← hfl]; simp
      have fdrop : (flat es ++ rest).drop (es.length * inf.size + news.length) = rest.drop news.length := by rw [← hfl, List.drop_append, List.drop_of_length_le (by omega), List.nil_append]; congr 1; omega
      have harl : arr.toList.length = es.length * inf.size + rest.length := by rw [e5.1, List.length_append, hfl]
      have harl' : arr.size = cap * inf.size := by rw [← Array.length_toList, harl]; exact hl
      have holds : ∀ j u, (arr.toList.take (es.length * inf.size))[j]? = some u → w.cell? ((⟨b, 0, none⟩ : Addr).add j) = some u := fun j u hj => by
        rw [addr_add]
        rw [List.getElem?_take] at hj
        split at hj
        · simp only [World.cell?, e3, Nat.zero_add]
          rw [Array.getElem?_toList] at hj; exact hj
        · cases hj
      by_cases hroom : es.length + xs.length ≤ cap
      · have hxk' : xs.length * inf.size ≤ (cap - es.length) * inf.size := Nat.mul_le_mul_right _ (by omega)
        have hck : es.length * inf.size + (cap - es.length) * inf.size = cap * inf.size := by rw [← Nat.add_mul]; congr 1; omega
        have hrun := run_append_in (P := P) (w := w) (t := t) (tx := tx) (ty := ty) (m := xs.length) (c := cap2) (b := ⟨b2, off2, none⟩) (news := news) hu htx' hi (g := b) (off := 0) (sLen := es.length) (sCap := cap) e3 (.inl rfl) n1 (hnews w hR.imm) hone hroom (by rw [n1]; omega)
        obtain ⟨X, hX⟩ : ∃ X, X = arr.toList.take (0 + es.length * inf.size) ++ news ++ arr.toList.drop (0 + es.length * inf.size + news.length) := ⟨_, rfl⟩
        rw [← hX] at hrun
        have hrepX : RepAll G X (flat (es ++ xs) ++ rest.drop (xs.length * inf.size)) := by
          rw [hX, flat_append]
          have t1 := e5.take (es.length * inf.size)
          have t2 := e5.drop (es.length * inf.size + news.length)
          rw [ftake] at t1
          rw [fdrop, n1] at t2
          rw [Nat.zero_add, n1]
          exact (t1.append n3).append t2
        have k2 := step_set (l := .cells ty' (flat (es ++ xs) ++ rest.drop (xs.length * inf.size)) (ver + 1)) (w' := w.setRow b X.toArray) (o := .cells X.toArray ty' (0, 0)) hR hid hbb rfl (by simp [LObj.ver]) (by simp [World.setRow]) (fun k hk => setRow_other w b k _ hk) (setRow_heap w b arr _ ty' _ e3) ⟨_, rfl, by simpa using hrepX⟩ rfl rfl rfl
        have hv' := OwnSl.obj (k := inf.size) (es := es ++ xs) (id := id) (ty := ty') (ver := ver + 1) (cap := cap) (rest := rest.drop (xs.length * inf.size)) (by
          rw [List.length_append, Nat.add_mul, List.length_drop]
          omega) (by rw [List.length_append]; exact hroom) (fun y hy => (List.mem_append.1 hy).elim (hk y) (hxk y))
        rw [List.length_append] at hv'
        refine ⟨_, _, _, _, G, by rw [hrun]; rfl, k2, .hs hbb, _, T, ?_, kk _ _ hv'⟩
        exact Has.sub (L := (id, .cells ty' (flat (es ++ xs) ++ rest.drop (xs.length * inf.size)) (ver + 1)) :: F) (hst.upd .here) (.of_perm (List.perm_append_comm (l₁ := [(id, _)]))) (.refl T)
      · have hrun := run_append_new (P := P) (w := w) (t := t) (tx := tx) (ty := ty) hu htx' hi hz (s := .slice (some ⟨b, 0, none⟩) es.length cap) (sLen := es.length) (sCap := cap) (m := xs.length) (c := cap2) (b := ⟨b2, off2, none⟩) (olds := arr.toList.take (es.length * inf.size)) (news := news)
          (.inr ⟨⟨b, 0, none⟩, rfl, holds⟩) (by rw [List.length_take, harl]; omega) n1 (hnews w hR.imm) (by omega) (by omega) (growslice_fits (by omega) hb)
        have t1 := e5.take (es.length * inf.size)
        rw [ftake] at t1
        obtain ⟨G', hs', hrep, Lv', hv', hh⟩ := fresh _ 0 (grownCap w (es.length + xs.length) cap e) t1 (grownCap_ge w _ _ _)
        refine ⟨_, _, _, _, G', ?_, hs', hrep, _, T, hh.sub (.of_perm List.perm_append_comm) (.refl T), kk _ _ hv'⟩
        rw [hrun]; simp

theorem reads_indexH {st : St} {o : Oper} {t k id off len cap : Nat} {x y : Operand} (h : o.op = .indexAddr t x y) (ht : indexIn P t = some (none, k)) (hx : opdV regs x = .hs id off len cap)
    (hi : (opdV regs y).isI = true) (h0 : 0 ≤ (opdV regs y).asI) (h1 : (opdV regs y).asI < len) :
    Reads P st regs o (.ref id (off + (opdV regs y).asI.toNat * k)) [] := reads_pure fun G a hr => by
  obtain ⟨ki, ei, -⟩ := rep_int (rep_opd hr y) hi
  have hx' := rep_opd hr x
  rw [hx] at hx'
  obtain ⟨v, hv⟩ : ∃ v, a.eval x = v := ⟨_, rfl⟩
  rw [hv] at hx'
  generalize (opdV regs y).asI = j at *
  cases hx' with | @hs _ _ _ _ b hb =>
  refine ⟨.pointer (some ⟨b, off + j.toNat * k, none⟩), .ref hb, fun w' => ?_⟩
  unfold indexIn at ht
  split at ht
  · split at ht
    · split at ht <;> simp at ht
    · cases ht
  · rename_i e hu
    split at ht
    · rename_i inf hq
      split at ht
      · cases ht
      · rename_i hsz
        simp only [Option.some.injEq, Prod.mk.injEq, true_and] at ht
        subst ht
        simp [execOp, h, hv, ei, Instr.indexAt, asIntOf, run_underlying hu w', h0, h1, sizeOf, typeInfo, hq, addr_add]
    · cases ht
  · cases ht
theorem HPlan.indexH {t e id off len cap : Nat} {x y : Operand} {v : LV} {ki : IntKind} {j : Int} (ho : ops[i]? = some ⟨d, .indexAddr t x y, ty, pos, af, g⟩) (ht : takenB ops g regs = true) (hx' : opdO regs x = some (.hs id off len cap)) (hy' : opdO regs y = some (.int ki j))
    (hi : indexIn P t = some (none, e)) (h0 : 0 ≤ j) (h1 : j < len) (hv : .ref id (off + j.toNat * e) = v) (k : HPlan P ops Q p pend (setR d v regs) L T) : HPlan P ops Q (.rd i p) pend regs L T := by
  subst hv
  have hy := opdV_of hy'
  refine .rd0 ho ht rfl (fun st => ?_) k
  have := reads_indexH (st := st) (o := ⟨d, .indexAddr t x y, ty, pos, af, g⟩) rfl hi (opdV_of hx') (by rw [hy]; rfl) (by rw [hy]; exact h0) (by rw [hy]; exact h1)
  rw [hy] at this
  exact this

theorem OwnSl.lenTyK {k : Nat} {es : List LV} {x : LV} {Lv : Hp} (h : OwnSl k es x Lv) : lenTyK .sl x = true := by cases h <;> rfl
theorem OwnSl.nilTyK {k : Nat} {es : List LV} {x : LV} {Lv : Hp} (h : OwnSl k es x Lv) : nilTyK .sl x = true := by cases h <;> rfl
theorem OwnSl.lenV {k : Nat} {es : List LV} {x : LV} {Lv : Hp} (h : OwnSl k es x Lv) : lenV x = es.length := by
  cases h with
  | nil h => subst h; rfl
  | obj _ _ _ => rfl
theorem HPlan.lenO {x : Operand} {t e : Nat} {a v : LV} {es : List LV} {Lv : Hp} (hs : OwnSl e es a Lv) (ho : ops[i]? = some ⟨d, .call { callee := .builtin .len, args := #[x], argTypes := #[t] }, ty, pos, af, g⟩) (ht : takenB ops g regs = true) (hx' : opdO regs x = some (a)) (hk : tyKind P t = .sl) (hv : .int .i64 (es.length : Int) = v)
    (k : HPlan P ops Q p ((i, []) :: pend) (setR d v regs) L T) : HPlan P ops Q (.rd i p) pend regs L T :=
  HPlan.lenK ho ht hx' hk hs.lenTyK (by rw [hs.lenV]; exact hv) k

theorem Has.less {st : St} {id : Nat} {o o' : LObj} {F : Hp} {T : Tk} (h : Has st ((id, o) :: F) T) : Has (st.put id o') F T :=
  (h.upd (id := id) (o := o) (o' := o') .here).sub (Part.tail _ _) (.refl _)
/-- What is handed back, and nobody writes any more. -/
theorem HCalls.freeze {f : FuncId} {args : List LV} {k : Nat} {K : List LV → Hp → Tk → Prop} (h : HCalls P f args L T (fun r L' T' => ∃ es Lv F, OwnSl k es r Lv ∧ L' = Lv ++ F ∧ K es F T')) :
    HCalls P f args L T (fun r L' T' => ∃ es, (es = [] ∧ r = .nils ∨ r = .sl .no k es) ∧ K es L' T') := fun st hst G vs w hR hr =>
  (h st hst G vs w hR hr).mono fun e w' ⟨v, r, st', G', e', hs, hv, L', T', hh, es, Lv, F, ho, e2, hk⟩ => by
    subst e2
    cases ho with
    | nil h => subst h; exact ⟨v, .nils, st', G', e', hs, hv, F, T', hh, [], .inl ⟨rfl, rfl⟩, hk⟩
    | @obj id ty ver cap rest hl hc hkk =>
      have hid := hh.obj (id, .cells ty (flat es ++ rest) ver) (by simp)
      obtain ⟨b, ob, e1, e2, e3, arr, rfl, e5⟩ := hs.rel.objs id _ hid
      cases hv with | @hs _ _ _ _ b' hb' =>
      have hbb := hb'
      rw [e1] at hb'; injection hb' with hb'; subst hb'
      have k2 := step_freeze hs.rel hid hbb e3
      have hfl := flat_len hkk
      have ftake : (flat es ++ rest).take (es.length * k) = flat es := by rw [← hfl]; simp
      refine ⟨_, .sl .no k es, _, _, e', hs.trans hR k2, ?_, F, T', ?_, es, .inr rfl, hk⟩
      · refine rep_sl (vs := arr.toList) hkk (fun i hi => ?_) ?_ ?_ hc trivial
        · simp [Ghost.addImm]
        · have := e5.take (es.length * k)
          rw [ftake] at this
          exact this.mono k2.le
        · rw [e5.1, List.length_append, hfl]; omega
      · exact Has.less (o := .cells ty (flat es ++ rest) ver) hh

theorem perm_rot {α : Type} (F L0 L : List α) : (F ++ (L0 ++ L)).Perm (L ++ (F ++ L0)) := by
  rw [← List.append_assoc]; exact List.perm_append_comm
end
end Go.L


set_option linter.unusedVariables false
set_option linter.unusedSimpArgs false
namespace Go.L
open Go Go.RowKit

section
variable {P : Program} {regs : Fr} {L L' : Hp} {T T' : Tk} {Q : HQ} {ops : Array Oper} {p : Plan} {pend : Pends} {i : Nat} {U : List Nat} {d : Option Tmp} {ty : TypeId} {pos : String} {af : Array Edge} {g : Option (Nat × Bool)}

theorem HYield.use {l : Nat} {args : List LV} {L' : Hp} {T' : Tk} {K K' : LV → Hp → Tk → Prop} (h : HYield P l args L' T' K) (hl : Part L' L) (ht : Part T' T) (hq : ∀ r L T, K r L T → ∃ L2 T2, Part L2 L ∧ Part T2 T ∧ K' r L2 T2) : HYield P l args L T K' :=
  fun st hst G vs w hR hr => by
    obtain ⟨fn, tmps, assign, body, h1, h2⟩ := h st (hst.sub hl ht) G vs w hR hr
    exact ⟨fn, tmps, assign, body, h1, h2.mono fun e w' ⟨v, r, st', G', e', hs, hv, L1, T1, hh, hk⟩ =>
      have ⟨L2, T2, p1, p2, hk'⟩ := hq _ _ _ hk
      ⟨v, r, st', G', e', hs, hv, L2, T2, hh.sub p1 p2, hk'⟩⟩
/-- A round is asked for; less of what is known goes on. -/
theorem HPlan.callYU {x : Operand} {xs : Array Operand} {ts : Array Nat} {l : Nat} {bs_ : List LV} {L1 : Hp} {T1 : Tk} {K : LV → Hp → Tk → Prop} (ho : ops[i]? = some ⟨d, .call { callee := .value x, args := xs, argTypes := ts }, ty, pos, af, g⟩) (ht : takenB ops g regs = true)
    (hx : opdO regs x = some (.fn (.yield l) [] [])) (hxs : argsO regs xs.toList = some bs_) (h : HYield P l bs_ L1 T1 K) (hl : Part L1 L) (hT : Part T1 T)
    (k : ∀ r L' T', K r L' T' → ∃ L2 T2, Part L2 L' ∧ Part T2 T' ∧ keptH U pend L L2 ∧ HPlan P ops Q p pend (setR d r regs) L2 T2) : HPlan P ops Q (.act i U p) pend regs L T :=
  .callY ho ht hx hxs (h.use hl hT k)

theorem HCalls.useP {f : FuncId} {args : List LV} {L' : Hp} {T' : Tk} {K K' : LV → Hp → Tk → Prop} (h : HCalls P f args L' T' K) (hl : Part L' L) (ht : Part T' T) (hq : ∀ r L T, K r L T → ∃ L2 T2, Part L2 L ∧ Part T2 T ∧ K' r L2 T2) : HCalls P f args L T K' :=
  fun st hst => (h st (hst.sub hl ht)).mono fun r s ⟨L1, T1, hh, hk⟩ =>
    have ⟨L2, T2, p1, p2, hk'⟩ := hq _ _ _ hk
    ⟨L2, T2, hh.sub p1 p2, hk'⟩
/-- A call by its contract; less of what is known goes on. -/
theorem HPlan.callP {xs : Array Operand} {ts : Array Nat} {f : FuncId} {bs_ : List LV} {L1 : Hp} {T1 : Tk} {K : LV → Hp → Tk → Prop} (ho : ops[i]? = some ⟨d, .call { callee := .value (.func f), args := xs, argTypes := ts }, ty, pos, af, g⟩) (ht : takenB ops g regs = true)
    (ha : argsO regs xs.toList = some bs_) (he : enterable P f = true) (h : HCalls P f bs_ L1 T1 K) (hl : Part L1 L) (hT : Part T1 T)
    (k : ∀ r L' T', K r L' T' → ∃ L2 T2, Part L2 L' ∧ Part T2 T' ∧ keptH U pend L L2 ∧ HPlan P ops Q p pend (setR d r regs) L2 T2) : HPlan P ops Q (.act i U p) pend regs L T :=
  .callF ho ht ha he (h.useP hl hT k)
end
end Go.L

set_option linter.unusedVariables false
set_option linter.unusedSimpArgs false
namespace Go.L
open Go Go.RowKit

/-! ### From a world that is there -/
/-- Nothing of one's own yet; all that is there stays. -/
def freshG (w : World) : Ghost := { base := w.heap.size, w0 := w, imm := fun b i => w.cell? ⟨b, i, none⟩, blk := fun _ => none, tok := fun _ _ => none, ents := fun _ _ => none }
theorem freshRel (w : World) : Rel (freshG w) ⟨[], []⟩ w where
  objs := fun id o h => by simp at h
  inj := fun i j b h => by simp [freshG] at h
  dom := fun id b h => by simp [freshG] at h
  imm := fun b i v h => h
  apart := fun id b i o h => by simp [freshG] at h
  toks := fun t ver h => by simp at h
  tokdom := fun t ver x h => by simp [freshG] at h
  tokinj := fun t u a b x e c y z h => by simp at h
  below := .refl _ _
  size := Nat.le_refl _
  drew := Nat.le_refl _
  places := fun id o b h => by simp at h
  snap := fun id ver x h => by simp [freshG] at h
theorem freshHas : Has ⟨[], []⟩ [] [] := ⟨(fun p h => nomatch h), (fun p h => nomatch h), by simp, by simp⟩

theorem grow_of {w w' : World} (h : Below w.heap.size w w') (hd : w.drawn ≤ w'.drawn) : ∃ q os, w' = Sort.grow (w.drewN q) os := by
  refine ⟨w'.drawn - w.drawn, w'.heap.extract w.heap.size w'.heap.size, ?_⟩
  have hs := h.size
  have hh : w.heap ++ w'.heap.extract w.heap.size w'.heap.size = w'.heap := by
    apply Array.ext
    · simp; omega
    · intro i h1 h2
      by_cases hi : i < w.heap.size
      · rw [Array.getElem_append_left hi]
        have := h.block i hi
        rw [Array.getElem?_eq_getElem hi, Array.getElem?_eq_getElem h2] at this
        exact (Option.some.inj this).symm
      · rw [Array.getElem_append_right (by omega)]
        simp only [Array.getElem_extract]
        congr 1; omega
  obtain ⟨h1, t1, d1, o1, u1⟩ := w
  obtain ⟨h2, t2, d2, o2, u2⟩ := w'
  simp only [Sort.grow, World.drewN] at *
  have e1 := h.os
  have e2 := h.tape
  have e3 := h.output
  simp only at e1 e2 e3
  subst e1; subst e2; subst e3
  simp only [World.mk.injEq]
  exact ⟨hh.symm, trivial, by omega, trivial, trivial⟩

theorem HCalls.base {P : Program} {f : FuncId} {args : List LV} {K : LV → Hp → Tk → Prop} (h : HCalls P f args [] [] K) {vs : List Value} {w : World} (hv : RepAll (freshG w) vs args) :
    Calls P f vs.toArray w fun e w' => ∃ v r G' L' T', e = .returned v ∧ Rep G' v r ∧ K r L' T' ∧ (∃ st', Has st' L' T' ∧ Rel G' st' w') ∧ ∃ q os, w' = Sort.grow (w.drewN q) os :=
  (h _ freshHas (freshG w) vs w (freshRel w) hv).mono fun e w' ⟨v, r, st', G', e1, hs, hr, L', T', hh, hk⟩ => by
    have e2 := hs.le.base
    have e3 := hs.le.w0
    have hb := hs.rel.below
    have hd := hs.rel.drew
    rw [e2, e3] at hb
    rw [e3] at hd
    exact ⟨v, r, G', L', T', e1, hr, hk, ⟨st', hh, hs.rel⟩, grow_of hb hd⟩
end Go.L

set_option linter.unusedVariables false
set_option linter.unusedSimpArgs false
namespace Go.L
open Go Go.RowKit

/-! ### What is handed in, read as values -/
/-- What a type's values are made of. -/
inductive Ty where
  | bool
  | u8
  | int (k : IntKind)
  | str
  | sl (b : Nat) (e : Ty)
  | arr (n : Nat) (e : Ty)
  | one
  | pair (a r : Ty)
def Ty.Dec : Ty → Type
  | .bool => Bool
  | .u8 => UInt8
  | .int _ => Int
  | .str => ByteArray
  | .sl _ e => Option (List e.Dec)
  | .arr _ e => List e.Dec
  | .one => Unit
  | .pair a r => a.Dec × r.Dec
def Ty.size : Ty → Nat
  | .arr n e => n * e.size
  | .one => 0
  | .pair a r => a.size + r.size
  | _ => 1
def Ty.agg : Ty → Bool
  | .arr .. | .one | .pair .. => true
  | _ => false
def Ty.enc : (t : Ty) → t.Dec → List LV
  | .bool, b => [.bool b]
  | .u8, b => [.int .u8 (b.toNat : Int)]
  | .int k, n => [.int k n]
  | .str, s => [.str s]
  | .sl _ _, none => [.nils]
  | .sl _ e, some l => [.sl .no e.size (l.map fun d => if e.agg then .agg (e.enc d) else (e.enc d).headD .und)]
  | .arr _ e, l => l.flatMap e.enc
  | .one, _ => []
  | .pair a r, d => a.enc d.1 ++ r.enc d.2
/-- A value as a whole. -/
def Ty.val (t : Ty) (d : t.Dec) : LV := if t.agg then .agg (t.enc d) else (t.enc d).headD .und
/-- What is known of it. -/
def Ty.okN (N : Nat) : (t : Ty) → t.Dec → Prop
  | .bool, _ => True
  | .u8, _ => True
  | .int k, (n : Int) => k.min ≤ n ∧ n ≤ k.max
  | .str, (s : ByteArray) => s.size ≤ N
  | .sl _ _, none => True
  | .sl b e, some l => l.length * b ≤ N ∧ ∀ d ∈ l, e.okN N d
  | .arr n e, (l : List e.Dec) => l.length = n ∧ ∀ d ∈ l, e.okN N d
  | .one, _ => True
  | .pair a r, d => a.okN N d.1 ∧ r.okN N d.2
abbrev Ty.ok (t : Ty) (d : t.Dec) : Prop := t.okN reachBytes d
theorem flatMap_size {α : Type} {f : α → List LV} {k : Nat} : ∀ l : List α, (∀ d ∈ l, (f d).length = k) → (l.flatMap f).length = l.length * k
  | [], _ => by simp
  | x :: l, h => by
    simp only [List.flatMap_cons, List.length_append, List.length_cons, Nat.succ_mul, flatMap_size l (fun d hd => h d (List.mem_cons_of_mem _ hd)), h x List.mem_cons_self]; omega
theorem Ty.enc_len {N : Nat} : ∀ (t : Ty) (d : t.Dec), t.okN N d → (t.enc d).length = t.size
  | .bool, _, _ | .u8, _, _ | .int _, _, _ | .str, _, _ | .sl _ _, none, _ | .sl _ _, some _, _ | .one, _, _ => rfl
  | .arr n e, (l : List e.Dec), h => by
    have h : l.length = n ∧ ∀ d ∈ l, e.okN N d := h
    show (List.flatMap e.enc l).length = n * e.size
    rw [flatMap_size l (fun d hd => Ty.enc_len e d (h.2 d hd)), h.1]
  | .pair a r, d, h => by
    show (a.enc d.1 ++ r.enc d.2).length = a.size + r.size
    rw [List.length_append, Ty.enc_len a d.1 h.1, Ty.enc_len r d.2 h.2]

/-- Is a type of the program made so (as a type; as the fields of a struct from an offset on)? -/
def tyBoth (P : Program) : Ty → (Nat → Bool) × (List Field → Nat → Bool)
  | .bool => (fun t => match P.underlying t with | some .bool => true | _ => false, fun _ _ => false)
  | .u8 => (fun t => match P.underlying t with | some (.int .u8) => true | _ => false, fun _ _ => false)
  | .int k => (fun t => match P.underlying t with | some (.int k') => k == k' | _ => false, fun _ _ => false)
  | .str => (fun t => match P.underlying t with | some .string => true | _ => false, fun _ _ => false)
  | .sl b e => (fun t => match P.underlying t with | some (.slice u) => (tyBoth P e).1 u && P.cellsOf u == e.size && decide (0 < e.size) && (P.bytesOf u == b) | _ => false, fun _ _ => false)
  | .arr n e => (fun t => match P.underlying t with | some (.array m u) => m == n && (tyBoth P e).1 u && P.cellsOf u == e.size && P.cellsOf t == n * e.size | _ => false, fun _ _ => false)
  | .one => (fun _ => false, fun fs _ => fs.isEmpty)
  | .pair a r =>
    let fs (l : List Field) (off : Nat) : Bool := match l with
      | [] => false
      | x :: l => x.offset == off && (tyBoth P a).1 x.type && P.cellsOf x.type == a.size && (tyBoth P r).2 l (off + a.size)
    (fun t => match P.underlying t with | some (.struct l) => P.cellsOf t == a.size + r.size && fs l.toList 0 | _ => false, fs)

theorem mapM_some {α β : Type} {f : α → Option β} : ∀ {l : List α} {r : List β}, l.mapM f = some r → ∀ x ∈ l, ∃ y, f x = some y
  | [], _, _, x, hx => by cases hx
  | a :: l, r, h, x, hx => by
    rw [List.mapM_cons] at h
    cases ha : f a with
    | none => rw [ha] at h; cases h
    | some b =>
      rw [ha] at h
      cases hl : l.mapM f with
      | none => rw [hl] at h; cases h
      | some bs =>
        rcases List.mem_cons.1 hx with rfl | hx
        · exact ⟨b, ha⟩
        · exact mapM_some hl x hx
theorem choose_list {α : Type} {Q : Nat → α → Prop} : ∀ n, (∀ i, i < n → ∃ d, Q i d) → ∃ l : List α, l.length = n ∧ ∀ i d, l[i]? = some d → Q i d
  | 0, _ => ⟨[], rfl, fun i d h => by simp at h⟩
  | n + 1, h => by
    obtain ⟨l, h1, h2⟩ := choose_list n (fun i hi => h i (by omega))
    obtain ⟨d, hd⟩ := h n (by omega)
    refine ⟨l ++ [d], by simp [h1], fun i x hx => ?_⟩
    rw [List.getElem?_append] at hx
    split at hx
    · exact h2 i x hx
    · rename_i hi
      have : i = n := by
        have := (List.getElem?_eq_some_iff.1 hx).1
        simp at this; omega
      subst this
      simp [h1] at hx; subst hx; exact hd

section
variable {N : Nat} {P : Program} {H : Type} {enc : TypeId × Value → H} {w : World} {spare : Nat → Bool} {held : Bool}

def DecOk (N : Nat) (w : World) (ty : Ty) (cs : List Value) : Prop := ∃ d : ty.Dec, RepAll (freshG w) cs (ty.enc d) ∧ ty.okN N d

theorem repAll_nil {G : Ghost} : RepAll G [] [] := ⟨rfl, fun i v l h => by simp at h⟩
theorem repAll_append {G : Ghost} {a b : List Value} {l m : List LV} (h : RepAll G a l) (k : RepAll G b m) : RepAll G (a ++ b) (l ++ m) := by
  refine ⟨by rw [List.length_append, List.length_append, h.1, k.1], fun i v x hv hx => ?_⟩
  rw [List.getElem?_append] at hv hx
  by_cases hi : i < a.length
  · rw [if_pos hi] at hv; rw [if_pos (by rw [← h.1]; exact hi)] at hx; exact h.2 _ _ _ hv hx
  · rw [if_neg hi] at hv; rw [if_neg (by rw [← h.1]; exact hi)] at hx; rw [← h.1] at hx; exact k.2 _ _ _ hv hx
theorem repAll_sing {G : Ghost} {v : Value} {l : LV} (h : Rep G v l) : RepAll G [v] [l] := ⟨rfl, fun i a b ha hb => by
  cases i with
  | zero => simp at ha hb; subst ha; subst hb; exact h
  | succ i => simp at ha⟩

theorem Ty.val_cells : ∀ (t : Ty) (d : t.Dec), (t.val d).cells = t.enc d
  | .bool, _ | .u8, _ | .int _, _ | .str, _ | .sl _ _, none | .sl _ _, some _ => rfl
  | .one, _ => rfl
  | .arr _ _, _ => rfl
  | .pair _ _, _ => rfl
theorem rep_slice {a : Addr} {len cap : Nat} {e : Ty} (hpos : 0 < e.size) (hl : len ≤ cap) (hx : ∀ i, i < cap → ∃ cs, w.cells? 0 (a.add (i * e.size)) e.size = some cs ∧ DecOk N w e cs) :
    ∃ l : List e.Dec, l.length = len ∧ (∀ d ∈ l, e.okN N d) ∧ Rep (freshG w) (.slice (some a) len cap) (.sl .no e.size (l.map e.val)) := by
  obtain ⟨l, h1, h2⟩ := choose_list (Q := fun i (d : e.Dec) => ∃ cs, w.cells? 0 (a.add (i * e.size)) e.size = some cs ∧ RepAll (freshG w) cs (e.enc d) ∧ e.okN N d) len
    (fun i hi => by obtain ⟨cs, h1, d, h2, h3⟩ := hx i (by omega); exact ⟨d, cs, h1, h2, h3⟩)
  have hok : ∀ d ∈ l, e.okN N d := fun d hd => by
    obtain ⟨i, hi⟩ := List.mem_iff_getElem?.1 hd
    obtain ⟨_, _, _, h3⟩ := h2 i d hi
    exact h3
  refine ⟨l, h1, hok, ?_⟩
  by_cases hc : cap = 0
  · subst hc
    have : len = 0 := by omega
    subst this
    have : l = [] := List.eq_nil_of_length_eq_zero h1
    subst this
    exact .sl0
  obtain ⟨cs0, k1, -⟩ := hx 0 (by omega)
  obtain ⟨_, k2, k3⟩ := World.cells?_some k1
  have k4 := k3 0 hpos
  obtain ⟨c0, hc0⟩ : ∃ c0, cs0[0]? = some c0 := ⟨_, List.getElem?_eq_getElem (by omega)⟩
  rw [hc0] at k4
  have hspot : a.spot = none := by simpa [Addr.add] using World.cell?_spot k4
  obtain ⟨b, off, spot⟩ := a
  simp only at hspot
  subst hspot
  have hlen : (l.map e.val).length = len := by simp [h1]
  have hcell : ∀ i j, i < len → j < e.size → ∃ cs d x, l[i]? = some d ∧ RepAll (freshG w) cs (e.enc d) ∧ cs[j]? = some x ∧ w.cell? ⟨b, off + i * e.size + j, none⟩ = some x := fun i j hi hj => by
    have hd : l[i]? = some (l[i]'(by omega)) := List.getElem?_eq_getElem (by omega)
    obtain ⟨cs, c1, c2, -⟩ := h2 i _ hd
    obtain ⟨_, c3, c4⟩ := World.cells?_some c1
    obtain ⟨x, hx⟩ : ∃ x, cs[j]? = some x := ⟨_, List.getElem?_eq_getElem (by omega)⟩
    refine ⟨cs, _, x, hd, c2, hx, ?_⟩
    have := c4 j hj
    rw [hx, addr_add, addr_add] at this
    exact this
  have key : Rep (freshG w) (.slice (some ⟨b, off, none⟩) (l.map e.val).length cap) (.sl .no e.size (l.map e.val)) := by
    refine .sl (fun j => (w.cell? ⟨b, off + j, none⟩).getD Go.undef) ?_ ?_ ?_ (by omega) trivial
    · intro x hx
      obtain ⟨d, hd, rfl⟩ := List.mem_map.1 hx
      rw [Ty.val_cells, Ty.enc_len e d (hok d hd)]
    · intro i j hi hj
      rw [hlen] at hi
      obtain ⟨cs, d, x, _, _, _, h⟩ := hcell i j hi hj
      show w.cell? _ = _
      rw [h, show off + (i * e.size + j) = off + i * e.size + j by omega, h]; rfl
    · intro i x j c hi hj
      rw [List.getElem?_map] at hi
      cases hd : l[i]? with
      | none => rw [hd] at hi; cases hi
      | some d =>
        rw [hd] at hi
        simp only [Option.map_some, Option.some.injEq] at hi
        subst hi
        rw [Ty.val_cells] at hj
        have hjl : j < e.size := by
          rw [← Ty.enc_len e d (hok d (List.mem_of_getElem? hd))]
          exact (List.getElem?_eq_some_iff.1 hj).1
        have hil : i < len := by rw [← h1]; exact (List.getElem?_eq_some_iff.1 hd).1
        obtain ⟨cs, d', y, e1, e2, e3, e4⟩ := hcell i j hil hjl
        rw [hd] at e1
        cases e1
        have := e2.2 j _ _ e3 hj
        simp only [show off + (i * e.size + j) = off + i * e.size + j by omega, e4]
        exact this
  rw [hlen] at key
  exact key

theorem weights_all {e : TypeId} : ∀ {ds : List (DataW H)} {j : Nat} {d : DataW H}, ds[j]? = some d → ∀ n ∈ d.weights P e, n ∈ DataW.weightsAll P e ds
  | d0 :: ds, 0, d, hd, n, hn => by
    simp only [List.getElem?_cons_zero, Option.some.injEq] at hd
    subst hd
    simp only [DataW.weightsAll, List.mem_append]
    exact .inl hn
  | d0 :: ds, j + 1, d, hd, n, hn => by
    simp only [List.getElem?_cons_succ] at hd
    simp only [DataW.weightsAll, List.mem_append]
    exact .inr (weights_all hd n hn)
  | [], _, _, hd, _, _ => by simp at hd
theorem mapM_get {α β : Type} {f : α → Option β} : ∀ {l : List α} {r : List β}, l.mapM f = some r → ∀ (i : Nat) (x : α), l[i]? = some x → ∃ y, f x = some y ∧ r[i]? = some y
  | [], _, _, i, x, hx => by simp at hx
  | a :: l, r, h, i, x, hx => by
    rw [List.mapM_cons] at h
    cases ha : f a with
    | none => rw [ha] at h; cases h
    | some b =>
      rw [ha] at h
      cases hl : l.mapM f with
      | none => rw [hl] at h; cases h
      | some bs =>
        rw [hl] at h
        cases h
        cases i with
        | zero => simp at hx; subst hx; exact ⟨b, ha, rfl⟩
        | succ i =>
          simp only [List.getElem?_cons_succ] at hx ⊢
          exact mapM_get hl i x hx
theorem trod_array {u : TypeId} {m fuel : Nat} {t : TypeId} {cs : List Value} {x : DataW H × List MemPlace} (ht : P.underlying t = some (.array m u)) (h : DataW.trod enc P w 0 spare held fuel t cs = some x) :
    ∃ n, cs.length = P.cellsOf t ∧ ∀ i, i < m → ∃ y, DataW.trod enc P w 0 spare held n u ((cs.drop (i * P.cellsOf u)).take (P.cellsOf u)) = some y ∧ ∀ k ∈ y.1.weights P u, k ∈ x.1.weights P t := by
  cases fuel with
  | zero => simp [DataW.trod] at h
  | succ n =>
    unfold DataW.trod at h
    rw [ht] at h
    split at h <;> simp_all
    obtain ⟨hl, xs, hp, hd⟩ := h
    subst hd
    refine ⟨n, fun i hi => ?_⟩
    obtain ⟨y, hy, hy2⟩ := mapM_get hp i i (by simp [hi])
    refine ⟨y.1, ⟨y.2, hy⟩, fun k hk => ?_⟩
    simp only [DataW.weights, ht]
    exact weights_all (j := i) (d := y.1) (by rw [List.getElem?_map, hy2]; rfl) k hk
theorem chunks {e : Ty} : ∀ (m : Nat) (cs : List Value), cs.length = m * e.size → (∀ i, i < m → DecOk N w e ((cs.drop (i * e.size)).take e.size)) →
    ∃ l : List e.Dec, l.length = m ∧ (∀ d ∈ l, e.okN N d) ∧ RepAll (freshG w) cs (l.flatMap e.enc)
  | 0, cs, h, _ => by
    have : cs = [] := List.eq_nil_of_length_eq_zero (by omega)
    subst this
    exact ⟨[], rfl, by simp, repAll_nil⟩
  | m + 1, cs, h, k => by
    rw [Nat.succ_mul] at h
    obtain ⟨d, r, o⟩ := k 0 (by omega)
    obtain ⟨l, l1, l2, l3⟩ := chunks (e := e) m (cs.drop e.size) (by rw [List.length_drop]; omega) (fun i hi => by
      rw [List.drop_drop]
      have := k (i + 1) (by omega)
      rwa [Nat.succ_mul, Nat.add_comm] at this)
    refine ⟨d :: l, by simp [l1], fun x hx => ?_, ?_⟩
    · rcases List.mem_cons.1 hx with rfl | hx
      · exact o
      · exact l2 x hx
    · rw [← List.take_append_drop e.size cs, List.flatMap_cons]
      simp only [Nat.zero_mul, List.drop_zero] at r
      exact repAll_append r l3

theorem trod_dec (hsp : ∀ b, spare b = true) : ∀ (ty : Ty) (fuel : Nat) (t : TypeId) (cs : List Value) (x : DataW H × List MemPlace), (tyBoth P ty).1 t = true → DataW.trod enc P w 0 spare held fuel t cs = some x → (∀ n ∈ x.1.weights P t, n ≤ N) → DecOk N w ty cs := by
  have both : ∀ (ty : Ty), (∀ (fuel : Nat) (t : TypeId) (cs : List Value) (x : DataW H × List MemPlace), (tyBoth P ty).1 t = true → DataW.trod enc P w 0 spare held fuel t cs = some x → (∀ n ∈ x.1.weights P t, n ≤ N) → DecOk N w ty cs) ∧
      (∀ (n : Nat) (l : List Field) (off : Nat) (cs : List Value), (tyBoth P ty).2 l off = true → cs.length = off + ty.size →
        (∀ f ∈ l, ∃ y, DataW.trod enc P w 0 spare held n f.type ((cs.drop f.offset).take (P.cellsOf f.type)) = some y ∧ ∀ n ∈ y.1.weights P f.type, n ≤ N) → DecOk N w ty (cs.drop off)) := by
    intro ty
    induction ty with
    | bool =>
      refine ⟨fun fuel t cs x ht h hw => ?_, fun n l off cs ht => by cases ht⟩
      have hu : P.underlying t = some .bool := by
        simp only [tyBoth] at ht; split at ht
        · assumption
        · cases ht
      obtain ⟨b, rfl, -⟩ := DataW.trod_bool hu h
      exact ⟨b, repAll_sing (.bool b), trivial⟩
    | u8 =>
      refine ⟨fun fuel t cs x ht h hw => ?_, fun n l off cs ht => by cases ht⟩
      have hu : P.underlying t = some (.int .u8) := by
        simp only [tyBoth] at ht; split at ht
        · assumption
        · cases ht
      obtain ⟨n, rfl, -, hw⟩ := DataW.trod_int hu h
      have hn : 0 ≤ n ∧ n < 256 := by
        have h1 : IntKind.u8.min ≤ n ∧ n ≤ IntKind.u8.max := by simpa [Lit.wf] using hw
        have e1 : IntKind.u8.min = 0 := rfl
        have e2 : IntKind.u8.max = 255 := rfl
        omega
      refine ⟨(UInt8.ofNat n.toNat : UInt8), repAll_sing ?_, trivial⟩
      show Rep _ _ (.int .u8 ((UInt8.ofNat n.toNat).toNat : Int))
      rw [show ((UInt8.ofNat n.toNat).toNat : Int) = n by rw [UInt8.toNat_ofNat']; omega]
      exact .int _ _
    | int k =>
      refine ⟨fun fuel t cs x ht h hw => ?_, fun n l off cs ht => by cases ht⟩
      have hu : P.underlying t = some (.int k) := by
        simp only [tyBoth] at ht; split at ht
        · rename_i k' hk'
          rw [hk', eq_of_beq ht]
        · cases ht
      obtain ⟨n, rfl, -, hw⟩ := DataW.trod_int hu h
      refine ⟨(n : Int), repAll_sing (.int _ _), ?_⟩
      show k.min ≤ n ∧ n ≤ k.max
      simpa [Lit.wf] using hw
    | str =>
      refine ⟨fun fuel t cs x ht h hw => ?_, fun n l off cs ht => by cases ht⟩
      have hu : P.underlying t = some .string := by
        simp only [tyBoth] at ht; split at ht
        · assumption
        · cases ht
      obtain ⟨s, rfl, rfl, -⟩ := DataW.trod_string hu h
      exact ⟨(s : ByteArray), repAll_sing (.str _), Nat.le_trans (Nat.le_of_eq Array.length_toList.symm) (hw _ (by simp [DataW.weights]))⟩
    | sl b e ih =>
      refine ⟨fun fuel t cs x ht h hw => ?_, fun n l off cs ht => by cases ht⟩
      obtain ⟨u, hu, hue, hus, hpos, hbp⟩ : ∃ u, P.underlying t = some (.slice u) ∧ (tyBoth P e).1 u = true ∧ P.cellsOf u = e.size ∧ 0 < e.size ∧ P.bytesOf u = b := by
        simp only [tyBoth] at ht; split at ht
        · rename_i u hu
          simp only [Bool.and_eq_true, decide_eq_true_eq, beq_iff_eq] at ht
          exact ⟨u, hu, ht.1.1.1, ht.1.1.2, ht.1.2, ht.2⟩
        · cases ht
      rcases DataW.trod_slice hu h with ⟨rfl, -⟩ | ⟨a, len, cap, elems, rest, n, -, rfl, hx, -, hle, hmax, h1, h2, h3, -⟩
      · exact ⟨(none : Option (List e.Dec)), repAll_sing .nils, trivial⟩
      · obtain ⟨h4, h5⟩ := h3 (hsp _)
        obtain ⟨l, l1, l2, l3⟩ := rep_slice (N := N) (w := w) (a := a) (len := len) (cap := cap) hpos hle (fun i hi => by
          have : ∃ y, (w.cells? 0 (a.add (i * P.cellsOf u)) (P.cellsOf u)).bind (DataW.trod enc P w 0 spare held n u) = some y ∧ ∀ k ∈ y.1.weights P u, k ≤ N := by
            by_cases hil : i < len
            · refine ⟨_, (h2 i hil).trans (List.getElem?_eq_getElem (by omega)), fun k hk => hw k ?_⟩
              rw [hx]; simp only [DataW.weights, hu]
              exact List.mem_cons_of_mem _ (List.mem_append_left _ (weights_all (j := i) (by rw [List.getElem?_map, List.getElem?_eq_getElem (by omega)]; rfl) k hk))
            · have := h5 (i - len) (by omega)
              rw [show len + (i - len) = i by omega] at this
              refine ⟨_, this.trans (List.getElem?_eq_getElem (by omega)), fun k hk => hw k ?_⟩
              rw [hx]; simp only [DataW.weights, hu]
              exact List.mem_cons_of_mem _ (List.mem_append_right _ (weights_all (j := i - len) (by rw [List.getElem?_map, List.getElem?_eq_getElem (by omega)]; rfl) k hk))
          obtain ⟨y, hy, hyw⟩ := this
          obtain ⟨cs, c1, c2⟩ := Option.bind_eq_some_iff.1 hy
          rw [hus] at c1
          exact ⟨cs, c1, ih.1 n u cs y hue c2 hyw⟩)
        have hb := hw ((elems.length + rest.length) * P.bytesOf u) (by rw [hx]; simp [DataW.weights, hu])
        exact ⟨(some l : Option (List e.Dec)), repAll_sing l3, Nat.le_trans (Nat.le_of_eq (by rw [l1, h1, hbp])) (Nat.le_trans (Nat.mul_le_mul_right _ (Nat.le_add_right _ _)) hb), l2⟩
    | arr m e ih =>
      refine ⟨fun fuel t cs x ht h hw => ?_, fun n l off cs ht => by cases ht⟩
      obtain ⟨u, hu, h1, h2, h3⟩ : ∃ u, P.underlying t = some (.array m u) ∧ (tyBoth P e).1 u = true ∧ P.cellsOf u = e.size ∧ P.cellsOf t = m * e.size := by
        simp only [tyBoth] at ht; split at ht
        · rename_i m' u hu
          simp only [Bool.and_eq_true, beq_iff_eq] at ht
          obtain ⟨⟨⟨t1, t2⟩, t3⟩, t4⟩ := ht
          subst t1
          exact ⟨u, hu, t2, t3, t4⟩
        · cases ht
      obtain ⟨n, hl, hall⟩ := trod_array hu h
      rw [h2] at hall
      obtain ⟨l, l1, l2, l3⟩ := chunks (N := N) (w := w) m cs (by rw [hl, h3]) (fun i hi => by
        obtain ⟨y, hy, hyw⟩ := hall i hi
        exact ih.1 n u _ y h1 hy (fun k hk => hw k (hyw k hk)))
      exact ⟨(l : List e.Dec), l3, l1, l2⟩
    | one =>
      refine ⟨fun fuel t cs x ht => (nomatch ht), fun n l off cs ht hl _ => ?_⟩
      have : cs.drop off = [] := by rw [List.drop_eq_nil_iff]; simp [Ty.size] at hl; omega
      rw [this]
      exact ⟨(), repAll_nil, trivial⟩
    | pair a r ia ir =>
      have flds : ∀ (n : Nat) (l : List Field) (off : Nat) (cs : List Value), (tyBoth P (.pair a r)).2 l off = true → cs.length = off + (Ty.pair a r).size →
        (∀ f ∈ l, ∃ y, DataW.trod enc P w 0 spare held n f.type ((cs.drop f.offset).take (P.cellsOf f.type)) = some y ∧ ∀ n ∈ y.1.weights P f.type, n ≤ N) → DecOk N w (.pair a r) (cs.drop off) := by
        intro n l off cs ht hl hf
        cases l with
        | nil => cases ht
        | cons x l =>
          simp only [tyBoth, Bool.and_eq_true, beq_iff_eq] at ht
          obtain ⟨⟨⟨t1, t2⟩, t3⟩, t4⟩ := ht
          obtain ⟨y, hy, hyw⟩ := hf x List.mem_cons_self
          rw [t1, t3] at hy
          obtain ⟨d1, r1, o1⟩ := ia.1 _ _ _ _ t2 hy hyw
          obtain ⟨d2, r2, o2⟩ := ir.2 n l (off + a.size) cs t4 (by simp only [Ty.size] at hl; omega) (fun f hf' => hf f (List.mem_cons_of_mem _ hf'))
          refine ⟨(d1, d2), ?_, o1, o2⟩
          rw [← List.drop_drop] at r2
          rw [← List.take_append_drop a.size (cs.drop off)]
          exact repAll_append r1 r2
      refine ⟨fun fuel t cs x ht h hw => ?_, flds⟩
      obtain ⟨fs, hu, h1, h2⟩ : ∃ fs : Array Field, P.underlying t = some (.struct fs) ∧ P.cellsOf t = a.size + r.size ∧ (tyBoth P (.pair a r)).2 fs.toList 0 = true := by
        simp only [tyBoth] at ht; split at ht
        · rename_i l hl
          simp only [Bool.and_eq_true, beq_iff_eq] at ht
          exact ⟨l, hl, ht.1, ht.2⟩
        · cases ht
      obtain ⟨xs, n, -, hx, hlen, hxs, hall⟩ := DataW.trod_struct hu h
      have := flds n fs.toList 0 cs h2 (by rw [hlen, h1]; simp [Ty.size]) (fun f hf => by
        obtain ⟨i, hi⟩ := List.mem_iff_getElem?.1 hf
        have hi' : fs[i]? = some f := by simpa using hi
        have hil := (Array.getElem?_eq_some_iff.1 hi').1
        refine ⟨_, (hall i f hi').trans (List.getElem?_eq_getElem (by omega)), fun k hk => hw k ?_⟩
        rw [hx]; simp only [DataW.weights, hu]
        exact DataW.weights_mem_each (j := i) (by rw [List.getElem?_map, hi]; rfl) (by rw [List.getElem?_map, List.getElem?_eq_getElem (by omega)]; rfl) k hk)
      simpa using this
  exact fun ty => (both ty).1
end
end Go.L

set_option linter.unusedVariables false
set_option linter.unusedSimpArgs false
namespace Go.L
open Go Go.RowKit Go.ChangeShapes

section
variable {P : Program} {H : Type} {enc : TypeId × Value → H} {w : World}

theorem Ty.enc_one : ∀ (t : Ty) (d : t.Dec), t.agg = false → t.enc d = [t.val d]
  | .bool, _, _ | .u8, _, _ | .int _, _, _ | .str, _, _ | .sl _ _, none, _ | .sl _ _, some _, _ => rfl
theorem Ty.val_agg : ∀ (t : Ty) (d : t.Dec), t.agg = true → t.val d = .agg (t.enc d)
  | .arr _ _, _, _ | .one, _, _ | .pair _ _, _, _ => rfl
theorem agg_under {ty : Ty} {t : TypeId} (h : (tyBoth P ty).1 t = true) : match P.underlying t with
    | some (.struct _) | some (.array _ _) => ty.agg = true
    | some .bool | some (.int _) | some .string | some (.slice _) => ty.agg = false
    | _ => False := by
  cases ty <;> simp only [tyBoth] at h <;> first | (split at h <;> rename_i e <;> first | (rw [e]; rfl) | cases h) | cases h

/-- What is handed in, as a value with its reading. -/
theorem rep_in {base : Nat} {ty : Ty} {t : TypeId} {v : Value} {d : DataW H} {ps : List MemPlace} (ht : (tyBoth P ty).1 t = true)
    (hv : Value.okWide P w .any base t v) (h : DataW.Trod enc P w 0 (fun _ => true) true t v d ps) {N : Nat} (hw : ∀ n ∈ d.weights P t, n ≤ N) : ∃ x : ty.Dec, ty.okN N x ∧ Rep (freshG w) v (ty.val x) := by
  obtain ⟨fuel, hf⟩ := h
  obtain ⟨x, hr, hok⟩ := trod_dec (fun _ => rfl) ty fuel t _ _ ht hf hw
  refine ⟨x, hok, ?_⟩
  have hu := agg_under ht
  unfold Value.okWide at hv
  split at hv
  · rename_i e
    rw [e] at hu
    obtain ⟨cs, rfl, -⟩ := hv
    rw [Ty.val_agg ty x hu]
    simp only [Value.cells] at hr
    exact .agg (by simpa using hr.1) (fun i v l a b => hr.2 i v l (by simpa using a) b)
  · rename_i e
    rw [e] at hu
    obtain ⟨cs, rfl, -⟩ := hv
    rw [Ty.val_agg ty x hu]
    simp only [Value.cells] at hr
    exact .agg (by simpa using hr.1) (fun i v l a b => hr.2 i v l (by simpa using a) b)
  · have hg : ty.agg = false := by
      revert hu
      split <;> simp_all
    have hcells : v.cells = #[v] := by
      cases v <;> first | rfl | skip
      exfalso
      revert hu
      simp only [Cell.okWide, Cell.ok] at hv
      split <;> simp_all
    rw [hcells, Ty.enc_one ty x hg] at hr
    exact hr.2 0 _ _ rfl rfl

/-- What is handed in is no more than a machine reaches. -/
theorem sized_in {ts : List TypeId} {ds : List (DataW H)} {j : Nat} {t : TypeId} {d : DataW H} (hsz : (DataW.weightsEach P ts ds).all (· ≤ reachBytes) = true) (ht : ts[j]? = some t) (hd : ds[j]? = some d) : ∀ n ∈ d.weights P t, n ≤ reachBytes := fun n hn => by
  simpa using List.all_eq_true.1 hsz n (DataW.weights_mem_each ht hd n hn)
/-- What was handed in reads on as it read. -/
theorem trodAll_stays (hl : laidOutB P = true) : ∀ {ts : List TypeId} {vs : List Value} {ds : List (DataW H)} {ps : List MemPlace} {w' : World}, ts.all (fun t => P.readableRec t && decide (t < P.types.size)) = true →
    DataW.TrodAll enc P w 0 (fun _ => true) true ts vs ds ps → Below w.heap.size w w' → DataW.TrodAll enc P w' 0 (fun b => decide (b < w.heap.size)) true ts vs ds ps
  | [], _, _, _, _, _, h, _ => by
    obtain ⟨rfl, rfl, rfl⟩ := trodAll_nil h
    exact trodAll_mk0
  | t :: ts, _, _, _, w', ht, h, hb => by
    obtain ⟨v, vs, d, ds, p, q, rfl, rfl, rfl, h1, h2⟩ := trodAll_cons h
    rw [List.all_cons, Bool.and_eq_true, Bool.and_eq_true, decide_eq_true_eq] at ht
    exact trodAll_cons_mk (Below.trod hl ht.1.1 ht.1.2 h1 hb (by obtain ⟨m, hm⟩ := h1; exact DataW.trod_lt m _ _ _ hm)) (trodAll_stays hl ht.2 h2 hb)

/-- A call that gives one certain value, from a world that is there. -/
theorem HPure.base {f : FuncId} {args : List LV} {b : Bool} (h : HPure P f args (.bool b)) {vs : List Value} (hv : RepAll (freshG w) vs args) :
    Calls P f vs.toArray w fun e w' => e = .returned (.bool b) ∧ Below w.heap.size w w' :=
  (h [] [] _ freshHas (freshG w) vs w (freshRel w) hv).mono fun e w' ⟨v, r, st', G', e1, hs, hr, L', T', hh, hk⟩ => by
    have e2 := hs.le.base
    have e3 := hs.le.w0
    have hb := hs.rel.below
    rw [e2, e3] at hb
    obtain ⟨rfl, -, -⟩ := hk
    cases hr
    exact ⟨e1, hb⟩
end
end Go.L

set_option linter.unusedVariables false
set_option linter.unusedSimpArgs false
namespace Go.L
open Go Go.RowKit

/-! ### Values by their types: what is needed of each -/
/-- A slice of known elements. -/
structure SlD (k : Nat) {α : Type} (f : α → LV) where
  l : List α
  v : LV
  ok : IsSl k (l.map f) v
  small : l.length < 4611686018427387904
theorem at_map {α : Type} {f : α → LV} {l : List α} {k : Nat} (h : k < l.length) : (l.map f).getD ((k : Int).toNat) .und = f l[k] := by
  simp [List.getD_eq_getElem?_getD, h]
theorem flatEq_app : ∀ {a b c d : List LV}, a.length = b.length → flatEq (a ++ c) (b ++ d) = (flatEq a b && flatEq c d)
  | [], [], c, d, _ => by simp [flatEq]
  | [], _ :: _, _, _, h => by simp at h
  | _ :: _, [], _, _, h => by simp at h
  | x :: a, y :: b, c, d, h => by
    simp only [List.cons_append, flatEq, flatEq_app (a := a) (b := b) (c := c) (d := d) (by simpa using h), Bool.and_assoc]
theorem fitsAll_app : ∀ {ks ls : List CK} {a b : List LV}, ks.length = a.length → fitsAll (ks ++ ls) (a ++ b) = (fitsAll ks a && fitsAll ls b)
  | [], _, [], _, _ => by simp [fitsAll]
  | [], _, _ :: _, _, h => by simp at h
  | _ :: _, _, [], _, h => by simp at h
  | k :: ks, ls, x :: a, b, h => by
    simp only [List.cons_append, fitsAll, fitsAll_app (ks := ks) (ls := ls) (a := a) (b := b) (by simpa using h), Bool.and_assoc]
theorem flatEq_u8 : ∀ (a b : List UInt8), flatEq (bytesLV a) (bytesLV b) = decide (a = b)
  | [], [] => rfl
  | [], _ :: _ => rfl
  | _ :: _, [] => rfl
  | x :: a, y :: b => by
    have ih := flatEq_u8 a b
    simp only [bytesLV, List.map_cons] at ih ⊢
    simp only [flatEq, ih, ckEq, List.cons.injEq]
    have e : ((x.toNat : Int) == (y.toNat : Int)) = decide (x = y) := by
      rw [Bool.eq_iff_iff, beq_iff_eq, decide_eq_true_eq, Int.natCast_inj, UInt8.toNat_inj]
    rw [e]
    by_cases h1 : x = y <;> by_cases h2 : a = b <;> simp [h1, h2]
theorem fits_u8 : ∀ (a : List UInt8), fitsAll (List.replicate a.length (.int .u8)) (bytesLV a) = true
  | [] => rfl
  | x :: a => by
    have := fits_u8 a
    simp only [bytesLV] at this
    simp [fitsAll, bytesLV, CK.fits, List.replicate_succ, this]
theorem whole_of {cs : List LV} {n : Nat} (h : cs.length = n) : (bif true then LV.agg ((cs.drop 0).take n) else (cs.drop 0).headD .und) = .agg cs := by
  simp only [cond_true, List.drop_zero]
  rw [List.take_of_length_le (by omega)]
theorem splice_whole (a b : List LV) (h : b.length = a.length) : splice a 0 b = b := by simp [splice, h]
theorem min_lv {k : IntKind} (a b : Int) : LV.int k (if b < a then b else a) = LV.int k (min a b) := by
  congr 1
  split <;> omega
/-- A digest. -/
abbrev Dig := { l : List UInt8 // l.length = 32 }
def digC (d : Dig) : List LV := bytesLV d.1
def dgV (d : Dig) : LV := .agg (digC d)
@[simp] theorem digC_len (d : Dig) : (digC d).length = 32 := by simp [digC, d.2]
@[simp] theorem dgV_solid (d : Dig) : (dgV d).solid = true := by simp [dgV, digC, LV.solid, LV.cells, bytesLV, LV.one]
theorem dgV_all (d : Dig) : (bif true then LV.agg (((digC d).drop 0).take 32) else ((digC d).drop 0).headD .und) = dgV d := whole_of (digC_len d)
theorem dig_eq (a b : Dig) : flatEq (digC a) (digC b) = decide (a = b) := by
  rw [digC, digC, flatEq_u8]
  exact decide_eq_decide.2 ⟨fun h => Subtype.ext h, fun h => by rw [h]⟩
theorem dig_fit (d : Dig) : fitsAll (List.replicate 32 (.int .u8)) (digC d) = true := by
  have := fits_u8 d.1
  rwa [d.2] at this
end Go.L
