/- WHAT THE WALKS STAND ON, part of a proof: L1 L2 L3 L4 L5 L6 L7 L8 L9 L10 L11 L12 L13. No condition beyond what each theorem states. -/
import Derived.WalkKit
import Derived.OrdersHeld
import Derived.OrdersIn
import Derived.RangeFuncLeaves
import Derived.RangeFuncSeq
import Derived.Laws.StructEq
import Derived.DeepKeys2
import Derived.Great.FillDense
import Derived.TacticsIn
import Derived.RangeFuncRecord
set_option linter.unusedVariables false
set_option linter.unusedSimpArgs false
namespace Go.L
open Go Go.RowKit

/-- Who may append in place behind a slice: nobody; or the holder of a token at its latest version. -/
inductive Own where
  | no
  | tok (t ver : Nat)

/-- A value as it is reckoned with: slices by their elements, places of one's own objects by numbers. -/
inductive LV where
  | und
  | skp
  | bool (b : Bool)
  | int (k : IntKind) (n : Int)
  | str (s : ByteArray)
  | nilp
  | ref (id off : Nat)
  | imm (v : LV) (off : Nat)
  | nils
  | sl (o : Own) (k : Nat) (es : List LV)
  | nilm
  | mp (id : Nat)
  | hs (id off len cap : Nat)
  | fn (f : Fn) (first cap : List LV)
  | nilf
  | ifc (t : Nat) (v : LV)
  | nili
  | agg (cs : List LV)
  | tup (vs : List LV)

def LV.cells : LV → List LV
  | .agg cs => cs
  | v => [v]

/-- A frame: how many slots, and what is known of some. -/
structure Fr where
  n : Nat
  e : List (Nat × LV)
def lookE : List (Nat × LV) → Nat → Option LV
  | [], _ => none
  | (i, v) :: r, t => bif Nat.beq i t then some v else lookE r t

/-- Objects of one's own: cells; maps; the record of a loop over a function (its block; the frame of its rounds); a walk over a map (the map, its version, which entries are left, which one came just now), over a nil map, over a text. -/
inductive LObj where
  | cells (ty : Nat) (cs : List LV) (ver : Nat)
  | map (es : List (LV × LV)) (ver : Nat)
  | loop (b : Nat) (f : Fr) (ps : Array Tmp) (assign body : Code) (state : LoopState) (pending : Option Code) (ver : Nat)
  | iter (m mver : Nat) (left : List Nat) (cur : Option Nat) (ver : Nat)
  | iter0 (ver : Nat)
  | siter (s : ByteArray) (pos : Nat) (ver : Nat)
  | gone (ver : Nat)

def LObj.ver : LObj → Nat
  | .cells _ _ v => v
  | .map _ v => v
  | .loop _ _ _ _ _ _ _ v => v
  | .iter _ _ _ _ v => v
  | .iter0 v => v
  | .siter _ _ v => v
  | .gone v => v
def LObj.live : LObj → Bool
  | .gone _ => false
  | _ => true
/-- An object that is told with its block lies there. -/
def LObj.isAt (b : Nat) : LObj → Prop
  | .loop c _ _ _ _ _ _ _ => c = b
  | _ => True

structure St where
  heap : List LObj
  toks : List Nat

def St.push (st : St) (o : LObj) : St := { st with heap := st.heap ++ [o] }
def St.put (st : St) (id : Nat) (o : LObj) : St := { st with heap := st.heap.set id o }

/-- What is known of memory for good, and where one's objects lie. -/
structure Ghost where
  base : Nat
  w0 : World
  imm : Nat → Nat → Option Value
  blk : Nat → Option Nat
  tok : Nat → Nat → Option (Nat × Nat × Nat)
  ents : Nat → Nat → Option (Array MapEntry × Nat)

structure Ghost.le (G G' : Ghost) : Prop where
  base : G'.base = G.base
  w0 : G'.w0 = G.w0
  imm : ∀ b i v, G.imm b i = some v → G'.imm b i = some v
  blk : ∀ id b, G.blk id = some b → G'.blk id = some b
  tok : ∀ t ver x, G.tok t ver = some x → G'.tok t ver = some x
  ents : ∀ m ver x, G.ents m ver = some x → G'.ents m ver = some x

theorem Ghost.le.refl (G : Ghost) : G.le G := ⟨rfl, rfl, fun _ _ _ h => h, fun _ _ h => h, fun _ _ _ h => h, fun _ _ _ h => h⟩
theorem Ghost.le.trans {A B C : Ghost} (h : A.le B) (k : B.le C) : A.le C :=
  ⟨k.base.trans h.base, k.w0.trans h.w0, fun b i v e => k.imm b i v (h.imm b i v e), fun i b e => k.blk i b (h.blk i b e), fun t v x e => k.tok t v x (h.tok t v x e), fun t v x e => k.ents t v x (h.ents t v x e)⟩

def OwnOk (G : Ghost) (o : Own) (n cap b e c : Nat) : Prop :=
  match o with
  | .no => True
  | .tok t ver => ∃ x, G.tok t ver = some x ∧ (n < cap → x = (b, e, c))

inductive Rep (G : Ghost) : Value → LV → Prop where
  | und (v : Value) : Rep G v .und
  | skp : Rep G Go.undef .skp
  | bool (b : Bool) : Rep G (.bool b) (.bool b)
  | int (k : IntKind) (n : Int) : Rep G (.int k n) (.int k n)
  | str (s : ByteArray) : Rep G (.string s) (.str s)
  | nilp : Rep G (.pointer none) .nilp
  | ref {id off b : Nat} (h : G.blk id = some b) : Rep G (.pointer (some ⟨b, off, none⟩)) (.ref id off)
  | imm {b o off : Nat} {v : LV} (f : Nat → Value) (hf : ∀ j, j < v.cells.length → G.imm b (o + j) = some (f j))
      (hr : ∀ (j : Nat) (c : LV), v.cells[j]? = some c → Rep G (f j) c) : Rep G (.pointer (some ⟨b, o + off, none⟩)) (.imm v off)
  | nils : Rep G (.slice none 0 0) .nils
  | sl {b off cap k : Nat} {o : Own} {es : List LV} (f : Nat → Value) (hk : ∀ e ∈ es, e.cells.length = k)
      (hf : ∀ i j, i < es.length → j < k → G.imm b (off + i * k + j) = some (f (i * k + j)))
      (hr : ∀ (i : Nat) (e : LV) (j : Nat) (c : LV), es[i]? = some e → e.cells[j]? = some c → Rep G (f (i * k + j)) c)
      (hc : es.length ≤ cap) (ho : OwnOk G o es.length cap b (off + es.length * k) (off + cap * k)) :
      Rep G (.slice (some ⟨b, off, none⟩) es.length cap) (.sl o k es)
  | sl0 {a : Addr} {k : Nat} : Rep G (.slice (some a) 0 0) (.sl .no k [])
  | nilm : Rep G (.map none) .nilm
  | mp {id b : Nat} (h : G.blk id = some b) : Rep G (.map (some b)) (.mp id)
  | hs {id off len cap b : Nat} (h : G.blk id = some b) : Rep G (.slice (some ⟨b, off, none⟩) len cap) (.hs id off len cap)
  | fn {f : Fn} {vs ws : Array Value} {ls ms : List LV} (hl : vs.size = ls.length) (hm : ws.size = ms.length)
      (h : ∀ (i : Nat) (v : Value) (l : LV), vs[i]? = some v → ls[i]? = some l → Rep G v l) (k : ∀ (i : Nat) (v : Value) (l : LV), ws[i]? = some v → ms[i]? = some l → Rep G v l) :
      Rep G (.func f vs ws) (.fn f ls ms)
  | nilf : Rep G .nilFunc .nilf
  | ifc {t : Nat} {v : Value} {l : LV} (h : Rep G v l) : Rep G (.iface t v) (.ifc t l)
  | nili : Rep G .nilIface .nili
  | agg {vs : Array Value} {ls : List LV} (hl : vs.size = ls.length) (h : ∀ (i : Nat) (v : Value) (l : LV), vs[i]? = some v → ls[i]? = some l → Rep G v l) : Rep G (.agg vs) (.agg ls)
  | tup {vs : Array Value} {ls : List LV} (hl : vs.size = ls.length) (h : ∀ (i : Nat) (v : Value) (l : LV), vs[i]? = some v → ls[i]? = some l → Rep G v l) : Rep G (.tuple vs) (.tup ls)

theorem OwnOk.mono {G G' : Ghost} (h : G.le G') {o : Own} {n cap b e c : Nat} (k : OwnOk G o n cap b e c) : OwnOk G' o n cap b e c := by
  cases o with
  | no => trivial
  | tok t v => obtain ⟨x, h1, h2⟩ := k; exact ⟨x, h.tok _ _ _ h1, h2⟩

theorem Rep.mono {G G' : Ghost} (h : G.le G') {v : Value} {l : LV} (r : Rep G v l) : Rep G' v l := by
  induction r with
  | und v => exact .und v
  | skp => exact .skp
  | bool b => exact .bool b
  | int k n => exact .int k n
  | str s => exact .str s
  | nilp => exact .nilp
  | ref hb => exact .ref (h.blk _ _ hb)
  | imm f hf _ ih => exact .imm f (fun j hj => h.imm _ _ _ (hf j hj)) ih
  | nils => exact .nils
  | sl f hk hf _ hc ho ih => exact .sl f hk (fun i j hi hj => h.imm _ _ _ (hf i j hi hj)) ih hc (ho.mono h)
  | sl0 => exact .sl0
  | nilm => exact .nilm
  | mp hb => exact .mp (h.blk _ _ hb)
  | hs hb => exact .hs (h.blk _ _ hb)
  | fn hl hm _ _ i1 i2 => exact .fn hl hm i1 i2
  | nilf => exact .nilf
  | ifc _ ih => exact .ifc ih
  | nili => exact .nili
  | agg hl _ ih => exact .agg hl ih
  | tup hl _ ih => exact .tup hl ih

def RepAll (G : Ghost) (vs : List Value) (ls : List LV) : Prop := vs.length = ls.length ∧ ∀ (i : Nat) (v : Value) (l : LV), vs[i]? = some v → ls[i]? = some l → Rep G v l
theorem RepAll.mono {G G' : Ghost} (h : G.le G') {vs : List Value} {ls : List LV} (r : RepAll G vs ls) : RepAll G' vs ls :=
  ⟨r.1, fun i v l a b => (r.2 i v l a b).mono h⟩

def RepF (G : Ghost) (vs : List Value) (f : Fr) : Prop := vs.length = f.n ∧ ∀ (t : Nat) (l : LV), lookE f.e t = some l → ∀ v, vs[t]? = some v → Rep G v l
theorem RepF.mono {G G' : Ghost} (h : G.le G') {vs : List Value} {f : Fr} (r : RepF G vs f) : RepF G' vs f := ⟨r.1, fun t l a v b => (r.2 t l a v b).mono h⟩

/-- The stamps of a map's entries are apart, and below its clock. -/
def BornOk (ents : Array MapEntry) (clock : Nat) : Prop := (ents.toList.map (·.born)).Nodup ∧ ∀ e ∈ ents.toList, e.born < clock
/-- How an object of one's own lies in memory. -/
def ObjRep (G : Ghost) (o : Obj) : LObj → Prop
  | .cells ty cs _ => ∃ arr : Array Value, o = .cells arr ty (0, 0) ∧ RepAll G arr.toList cs
  | .map es _ => ∃ (ents : Array MapEntry) (clock : Nat), o = .map ents clock ∧ ents.size = es.length ∧
      (∀ (i : Nat) (e : MapEntry) (p : LV × LV), ents[i]? = some e → es[i]? = some p → Rep G e.key p.1 ∧ Rep G e.val p.2) ∧ BornOk ents clock
  | .loop _ f ps assign body state pending _ => ∃ r : Loop, o = .loop r ∧ RepF G r.tmps.toList f ∧ r.params = ps ∧ r.assign = assign ∧ r.body = body ∧ r.state = state ∧ r.pending = pending
  | .iter m mver left cur _ => ∃ (ents : Array MapEntry) (clock bm : Nat) (seen : Array Nat), G.ents m mver = some (ents, clock) ∧ G.blk m = some bm ∧ o = .mapIter (some bm) clock seen clock ∧
      (∀ (i : Nat) (e : MapEntry), ents[i]? = some e → (seen.contains e.born = false ↔ i ∈ left)) ∧ (∀ i, cur = some i → ∃ e, ents[i]? = some e ∧ ∃ s : Array Nat, seen = s.push e.born)
  | .iter0 _ => o = .mapIter none 0 #[] 0
  | .siter s pos _ => o = .stringIter s pos
  | .gone _ => True

theorem ObjRep.mono {G G' : Ghost} (h : G.le G') {o : Obj} {l : LObj} (r : ObjRep G o l) : ObjRep G' o l := by
  cases l with
  | cells ty cs ver => obtain ⟨arr, e, r⟩ := r; exact ⟨arr, e, r.mono h⟩
  | map es ver => obtain ⟨en, c, e, hl, r, hb⟩ := r; exact ⟨en, c, e, hl, fun i x p a b => ⟨(r i x p a b).1.mono h, (r i x p a b).2.mono h⟩, hb⟩
  | loop b f ps a bo s p ver => obtain ⟨r, e, hr, h1⟩ := r; exact ⟨r, e, hr.mono h, h1⟩
  | iter m mv l c ver => obtain ⟨en, cl, bm, se, e, e1, h1⟩ := r; exact ⟨en, cl, bm, se, h.ents _ _ _ e, h.blk _ _ e1, h1⟩
  | iter0 ver => exact r
  | siter s p ver => exact r
  | gone ver => trivial

/-- No place of a row is barred from writing. -/
def frOk (fr : Nat × Nat) (n : Nat) : Prop := fr = (0, 0) ∨ n ≤ fr.1
structure Rel (G : Ghost) (st : St) (w : World) : Prop where
  objs : ∀ (id : Nat) (o : LObj), st.heap[id]? = some o → ∃ b obj, G.blk id = some b ∧ G.base ≤ b ∧ w.heap[b]? = some obj ∧ ObjRep G obj o
  inj : ∀ i j b, G.blk i = some b → G.blk j = some b → i = j
  dom : ∀ id b, G.blk id = some b → id < st.heap.length
  imm : ∀ b i v, G.imm b i = some v → w.cell? ⟨b, i, none⟩ = some v
  apart : ∀ id b i o, G.blk id = some b → st.heap[id]? = some o → o.live = true → G.imm b i = none
  toks : ∀ t ver, st.toks[t]? = some ver → ∃ b e c arr ty fr, G.tok t ver = some (b, e, c) ∧ w.heap[b]? = some (.cells arr ty fr) ∧ c ≤ arr.size ∧
    G.base ≤ b ∧ (∀ i, e ≤ i → G.imm b i = none) ∧ (∀ id, G.blk id ≠ some b) ∧ frOk fr arr.size
  tokdom : ∀ t ver x, G.tok t ver = some x → ∃ cur, st.toks[t]? = some cur ∧ ver ≤ cur
  tokinj : ∀ t u a b x e c e' c', st.toks[t]? = some a → st.toks[u]? = some b → G.tok t a = some (x, e, c) → G.tok u b = some (x, e', c') → t = u
  below : Below G.base G.w0 w
  size : G.base ≤ w.heap.size
  drew : G.w0.drawn ≤ w.drawn
  places : ∀ id o b, st.heap[id]? = some o → G.blk id = some b → o.isAt b
  snap : ∀ id ver x, G.ents id ver = some x → ∃ o, st.heap[id]? = some o ∧ ver ≤ o.ver ∧ ∀ es b, o = .map es ver → G.blk id = some b → w.heap[b]? = some (.map x.1 x.2)

/-- Objects that bear the version that they bore lie as they lay. -/
structure St.le (st st' : St) : Prop where
  heap : ∀ (id : Nat) (o : LObj), st.heap[id]? = some o → ∃ o' : LObj, st'.heap[id]? = some o' ∧ (o' = o ∨ (o.ver < o'.ver ∧ o.live = true))
theorem St.le.refl (st : St) : st.le st := ⟨fun _ o h => ⟨o, h, .inl rfl⟩⟩
theorem St.le.trans {a b c : St} (h : a.le b) (k : b.le c) : a.le c := ⟨fun id o ho => by
  obtain ⟨o1, h1, e1⟩ := h.heap id o ho
  obtain ⟨o2, h2, e2⟩ := k.heap id o1 h1
  refine ⟨o2, h2, ?_⟩
  rcases e1 with rfl | ⟨e1, f1⟩
  · exact e2
  · rcases e2 with rfl | ⟨e2, _⟩
    · exact .inr ⟨e1, f1⟩
    · exact .inr ⟨Nat.lt_trans e1 e2, f1⟩⟩
theorem St.le.length {a b : St} (h : a.le b) : a.heap.length ≤ b.heap.length := by
  cases e : a.heap.length with
  | zero => exact Nat.zero_le _
  | succ n =>
    obtain ⟨o, ho, _⟩ := h.heap n (a.heap[n]'(by omega)) (List.getElem?_eq_getElem (by omega))
    have := (List.getElem?_eq_some_iff.1 ho).1
    omega
/-- What is gone stays as it is. -/
theorem St.le.gone {a b : St} (h : a.le b) {id : Nat} {o : LObj} (hid : a.heap[id]? = some o) (hl : o.live = false) : b.heap[id]? = some o := by
  obtain ⟨o', h1, h2⟩ := h.heap id o hid
  rcases h2 with rfl | ⟨_, h2⟩
  · exact h1
  · rw [hl] at h2; cases h2

def Keep (G : Ghost) (st : St) (w : World) (st' : St) (w' : World) : Prop :=
  ∀ id b, G.blk id = some b → st'.heap[id]? = st.heap[id]? → w'.heap[b]? = w.heap[b]?

/-- From a state and its world to a later one. -/
structure Step (G : Ghost) (st : St) (w : World) (G' : Ghost) (st' : St) (w' : World) : Prop where
  le : G.le G'
  rel : Rel G' st' w'
  ver : st.le st'
  keep : Keep G st w st' w'

theorem Step.refl {G : Ghost} {st : St} {w : World} (h : Rel G st w) : Step G st w G st w := ⟨.refl _, h, .refl _, fun _ _ _ _ => rfl⟩
theorem Step.trans {A B C : Ghost} {a b c : St} {u v w : World} (hA : Rel A a u) (h : Step A a u B b v) (k : Step B b v C c w) : Step A a u C c w :=
  ⟨h.le.trans k.le, k.rel, h.ver.trans k.ver, fun id x hx he => by
    obtain ⟨o, ho⟩ : ∃ o, a.heap[id]? = some o := ⟨_, List.getElem?_eq_getElem (hA.dom id x hx)⟩
    obtain ⟨o1, h1, e1⟩ := h.ver.heap id o ho
    obtain ⟨o2, h2, e2⟩ := k.ver.heap id o1 h1
    have e : o2 = o := by rw [h2, ho] at he; exact Option.some.inj he
    subst e
    have : o1 = o2 := by
      rcases e1 with rfl | ⟨e1, _⟩
      · rfl
      · rcases e2 with rfl | ⟨e2, _⟩
        · omega
        · omega
    subst this
    rw [k.keep id x (h.le.blk _ _ hx) (by rw [h2, h1]), h.keep id x hx (by rw [h1, ho])]⟩

end Go.L

set_option linter.unusedVariables false
set_option linter.unusedSimpArgs false
namespace Go.L
open Go Go.RowKit

/-- A constant. -/
def constO : Value → Option LV
  | .bool b => some (.bool b)
  | .int k n => some (.int k n)
  | .string s => some (.str s)
  | .pointer none => some .nilp
  | .slice none 0 0 => some .nils
  | .map none => some .nilm
  | .nilFunc => some .nilf
  | .nilIface => some .nili
  | _ => none
def ofVal (v : Value) : LV := (constO v).getD .und
theorem rep_constO (G : Ghost) {v : Value} {l : LV} (h : constO v = some l) : Rep G v l := by
  unfold constO at h
  split at h <;> first | (injection h with h; subst h; constructor) | cases h
theorem rep_ofVal (G : Ghost) (v : Value) : Rep G v (ofVal v) := by
  unfold ofVal
  cases h : constO v with
  | none => exact .und _
  | some l => exact rep_constO G h

def opdO (regs : Fr) : Operand → Option LV
  | .tmp t => bif Nat.blt t regs.n then lookE regs.e t else none
  | .const v => constO v
  | .func f => some (.fn (.func f) [] [])
  | .global _ => none
def opdV (regs : Fr) (x : Operand) : LV := (opdO regs x).getD .und
theorem opdV_of {regs : Fr} {x : Operand} {l : LV} (h : opdO regs x = some l) : opdV regs x = l := by simp [opdV, h]
def setR (d : Option Tmp) (l : LV) (f : Fr) : Fr := match d with | some d => ⟨f.n, (d, l) :: f.e⟩ | none => f


theorem rep_opd {G : Ghost} {a : Act} {regs : Fr} (h : RepF G a.tmps.toList regs) (x : Operand) : Rep G (a.eval x) (opdV regs x) := by
  cases x with
  | tmp t =>
    simp only [Act.eval, opdV, opdO]
    cases hb : Nat.blt t regs.n with
    | false => exact .und _
    | true =>
      simp only [cond_true]
      cases hl : lookE regs.e t with
      | none => exact .und _
      | some l =>
        have ht : t < regs.n := by rw [Nat.blt_eq] at hb; exact hb
        have ht' : t < a.tmps.size := by rw [← h.1, Array.length_toList] at ht; exact ht
        have := h.2 t l hl (a.tmps[t]) (by simp [ht'])
        simpa [ht', Array.getD_eq_getD_getElem?] using this
  | const v => exact rep_ofVal G v
  | func f => exact .fn rfl rfl (fun i v l hv => by simp at hv) (fun i v l hv => by simp at hv)
  | global g => exact .und _

theorem repF_put {G : Ghost} {a : Act} {regs : Fr} (h : RepF G a.tmps.toList regs) (d : Option Tmp) {v : Value} {l : LV} (hv : Rep G v l) :
    RepF G (a.put d v).tmps.toList (setR d l regs) := by
  cases d with
  | none => exact h
  | some d =>
    simp only [Act.put, setR]
    refine ⟨by have h1 := h.1; simpa using h1, fun t m hm u hu => ?_⟩
    simp only [Array.toList_setIfInBounds, List.getElem?_set, lookE] at hm hu
    cases hb : Nat.beq d t with
    | true =>
      have e : d = t := Nat.eq_of_beq_eq_true hb
      subst e
      simp only [hb, cond_true, Option.some.injEq, if_true] at hm hu
      subst hm
      split at hu
      · injection hu with hu; subst hu; exact hv
      · cases hu
    | false =>
      have e : d ≠ t := fun e => by subst e; simp at hb
      rw [if_neg e] at hu
      simp only [hb, cond_false] at hm
      exact h.2 t m hm u hu

/-- A frame of whichever kind: a function's, or a round's of a loop over a function. -/
def fw (r : Option Nat) : Fence := { Fence.wide with round := r }
@[simp] theorem fw_round (r : Option Nat) : (fw r).round = r := rfl
@[simp] theorem fw_fn (r : Option Nat) (f : FuncId) : (fw r).fn f = True := rfl
@[simp] theorem fw_depth (r : Option Nat) : (fw r).depth = none := rfl
theorem callsIn_fw {r : Option Nat} {n : Nat} {P : Program} {f : FuncId} {args : Array Value} {w : World} {R : Ending → World → Prop} : CallsIn (fw r) n P f args w R ↔ Calls P f args w R :=
  (Iff.rfl : CallsIn (fw r) n P f args w R ↔ CallsIn Fence.wide n P f args w R).trans callsIn_wide

/-- What is to be done at a function's end: marks of loops over functions, laid since it began; none of them taken. -/
def DefOk (G : Ghost) (st : St) (w : World) (n : Nat) (ds : List Deferred) : Prop :=
  ∃ ms : List (Nat × Nat), ds = ms.map (fun m => ⟨.collected m.2, #[]⟩) ∧ (ms.map (·.1)).Nodup ∧ ∀ m ∈ ms, n ≤ m.1 ∧ G.blk m.1 = some m.2 ∧ st.heap[m.1]? = some (.gone 0) ∧ w.heap[m.2]? = some (.deferred (some []))
theorem DefOk.nil {G : Ghost} {st : St} {w : World} {n : Nat} : DefOk G st w n [] := ⟨[], rfl, by simp, fun _ h => by cases h⟩
theorem DefOk.step {G G' : Ghost} {st st' : St} {w w' : World} {n : Nat} {ds : List Deferred} (h : DefOk G st w n ds) (k : Step G st w G' st' w') : DefOk G' st' w' n ds := by
  obtain ⟨ms, h1, h2, h3⟩ := h
  refine ⟨ms, h1, h2, fun m hm => ?_⟩
  obtain ⟨a, b, c, d⟩ := h3 m hm
  have e := k.ver.gone c rfl
  exact ⟨a, k.le.blk _ _ b, e, (k.keep m.1 m.2 b (e.trans c.symm)).trans d⟩

/-- What holds at an exit. -/
def Post (G : Ghost) (st : St) (w : World) (n : Nat) (Q : Exit → Fr → St → Prop) : Exit → Act → World → Prop :=
  fun x a' w' => ∃ regs' st' G', Step G st w G' st' w' ∧ RepF G' a'.tmps.toList regs' ∧ DefOk G' st' w' n a'.defers ∧ Q x regs' st'

/-- Is there no loop over a function in a text? -/
def noRange : Code → Bool
  | .seq x y => noRange x && noRange y
  | .cond _ x y => noRange x && noRange y
  | .loop c => noRange c
  | .block _ c => noRange c
  | .skip | .exit _ | .ret | .region .. => true
  | _ => false
def LWp (P : Program) (c : Code) (regs : Fr) (st : St) (Q : Exit → Fr → St → Prop) : Prop :=
  ∀ G a w r n, Rel G st w → RepF G a.tmps.toList regs → DefOk G st w n a.defers → n ≤ st.heap.length → (r = none ∨ noRange c = true) → c.wpIn (fw r) 0 P (Post G st w n Q) a w

def LCalls (P : Program) (f : FuncId) (args : List LV) (st : St) (Q : LV → St → Prop) : Prop :=
  ∀ G vs w, Rel G st w → RepAll G vs args → Calls P f vs.toArray w fun e w' => ∃ v r st' G', e = .returned v ∧ Step G st w G' st' w' ∧ Rep G' v r ∧ Q r st'

section
variable {P : Program}

theorem Post.later {G G1 : Ghost} {st s : St} {w w1 : World} {n : Nat} {Q : Exit → Fr → St → Prop} (hR : Rel G st w) (hs : Step G st w G1 s w1) {x : Exit} {a : Act} {w2 : World}
    (h : Post G1 s w1 n Q x a w2) : Post G st w n Q x a w2 := by
  obtain ⟨r, s2, G2, k, hr, hd, hq⟩ := h
  exact ⟨r, s2, G2, hs.trans hR k, hr, hd, hq⟩

theorem LWp.mono {c : Code} {regs : Fr} {st : St} {Q Q' : Exit → Fr → St → Prop} (h : LWp P c regs st Q) (hq : ∀ e r s, Q e r s → Q' e r s) : LWp P c regs st Q' :=
  fun G a w r n hR hr hd hn hx => wpIn_mono (h G a w r n hR hr hd hn hx) fun _ _ _ ⟨r, s, G', k, hr, hd, q⟩ => ⟨r, s, G', k, hr, hd, hq _ _ _ q⟩

theorem LCalls.mono {f : FuncId} {args : List LV} {st : St} {Q Q' : LV → St → Prop} (h : LCalls P f args st Q) (hq : ∀ r s, Q r s → Q' r s) : LCalls P f args st Q' :=
  fun G vs w hR hr => (h G vs w hR hr).mono fun _ _ ⟨v, r, s, G', e, k, hv, q⟩ => ⟨v, r, s, G', e, k, hv, hq _ _ q⟩

theorem LWp.skip {regs : Fr} {st : St} {Q : Exit → Fr → St → Prop} (h : Q .normal regs st) : LWp P .skip regs st Q :=
  fun _ _ _ _ _ hR hr hd _ _ => wpIn_skip ⟨_, _, _, .refl hR, hr, hd, h⟩
theorem LWp.exit {id : Nat} {regs : Fr} {st : St} {Q : Exit → Fr → St → Prop} (h : Q (.exit id) regs st) : LWp P (.exit id) regs st Q :=
  fun _ _ _ _ _ hR hr hd _ _ => wpIn_exit ⟨_, _, _, .refl hR, hr, hd, h⟩
theorem LWp.ret {regs : Fr} {st : St} {Q : Exit → Fr → St → Prop} (h : Q .ret regs st) : LWp P .ret regs st Q :=
  fun _ _ _ _ _ hR hr hd _ _ => wpIn_ret ⟨_, _, _, .refl hR, hr, hd, h⟩

def onNormal (N : Fr → St → Prop) (Q : Exit → Fr → St → Prop) : Exit → Fr → St → Prop
  | .normal => N
  | e => Q e

theorem LWp.seq {x y : Code} {regs : Fr} {st : St} {Q : Exit → Fr → St → Prop} (h : LWp P x regs st (onNormal (fun r s => LWp P y r s Q) Q)) : LWp P (.seq x y) regs st Q := by
  intro G a w ro n hR hr hd hn hx
  have hx1 : ro = none ∨ noRange x = true := hx.imp id fun e => by simp only [noRange, Bool.and_eq_true] at e; exact e.1
  have hx2 : ro = none ∨ noRange y = true := hx.imp id fun e => by simp only [noRange, Bool.and_eq_true] at e; exact e.2
  refine wpIn_seq (wpIn_mono (h G a w ro n hR hr hd hn hx1) ?_)
  rintro e a' w' ⟨r, s, G', k, hr', hd', hq⟩
  cases e with
  | normal => exact wpIn_mono (hq G' a' w' ro n k.rel hr' hd' (Nat.le_trans hn k.ver.length) hx2) fun _ _ _ hp => hp.later hR k
  | exit id => exact ⟨r, s, G', k, hr', hd', hq⟩
  | goto l => exact ⟨r, s, G', k, hr', hd', hq⟩
  | ret => exact ⟨r, s, G', k, hr', hd', hq⟩
  | panic c => exact ⟨r, s, G', k, hr', hd', hq⟩
  | outgrown => exact ⟨r, s, G', k, hr', hd', hq⟩

def LV.isB : LV → Bool
  | .bool _ => true
  | _ => false
def LV.asB : LV → Bool
  | .bool b => b
  | _ => false
@[simp] theorem LV.isB_bool (b : Bool) : (LV.bool b).isB = true := rfl
@[simp] theorem LV.asB_bool (b : Bool) : (LV.bool b).asB = b := rfl
theorem rep_bool {G : Ghost} {v : Value} {l : LV} (h : Rep G v l) (hb : l.isB = true) : v = .bool l.asB := by
  cases h <;> simp_all [LV.isB, LV.asB]

theorem LWp.cond {c : Operand} {x y : Code} {regs : Fr} {st : St} {Q : Exit → Fr → St → Prop} (hb : (opdV regs c).isB = true)
    (ht : (opdV regs c).asB = true → LWp P x regs st Q) (hf : (opdV regs c).asB = false → LWp P y regs st Q) : LWp P (.cond c x y) regs st Q :=
  fun G a w ro n hR hr hd hn hx => wpIn_cond_split (rep_bool (rep_opd hr c) hb) (fun h => ht h G a w ro n hR hr hd hn (hx.imp id fun e => by simp only [noRange, Bool.and_eq_true] at e; exact e.1))
    (fun h => hf h G a w ro n hR hr hd hn (hx.imp id fun e => by simp only [noRange, Bool.and_eq_true] at e; exact e.2))

def onExit (id : Nat) (Q : Exit → Fr → St → Prop) : Exit → Fr → St → Prop
  | .exit id' => if id' = id then Q .normal else Q (.exit id')
  | e => Q e

theorem LWp.block {id : Nat} {c : Code} {regs : Fr} {st : St} {Q : Exit → Fr → St → Prop} (h : LWp P c regs st (onExit id Q)) : LWp P (.block id c) regs st Q := by
  intro G a w ro n hR hr hd hn hx
  refine wpIn_block (wpIn_mono (h G a w ro n hR hr hd hn (hx.imp (fun e => e) fun e => by simpa only [noRange] using e)) ?_)
  rintro e a' w' ⟨r, s, G', k, hr', hd', hq⟩
  cases e with
  | exit id' =>
    simp only [Exit.inBlock, onExit] at *
    split
    · rename_i e; rw [if_pos e] at hq; exact ⟨r, s, G', k, hr', hd', hq⟩
    · rename_i e; rw [if_neg e] at hq; exact ⟨r, s, G', k, hr', hd', hq⟩
  | normal => exact ⟨r, s, G', k, hr', hd', hq⟩
  | goto l => exact ⟨r, s, G', k, hr', hd', hq⟩
  | ret => exact ⟨r, s, G', k, hr', hd', hq⟩
  | panic c => exact ⟨r, s, G', k, hr', hd', hq⟩
  | outgrown => exact ⟨r, s, G', k, hr', hd', hq⟩

theorem wpIn_loop_n {F : Fence} {d : Nat} {c : Code} {Q : Exit → Act → World → Prop} (I : Nat → Act → World → Prop)
    (round : ∀ n a w, I n a w → c.wpIn F d P (Exit.then (fun a' w' => ∃ m, m < n ∧ I m a' w') Q) a w) {n : Nat} {a : Act} {w : World} (h₀ : I n a w) : (Code.loop c).wpIn F d P Q a w := by
  intro b k cs hro hb hr
  have key : ∀ n a w, I n a w → ∃ e a' w', Q e a' w' ∧ ArrivesIn (Machine.fenced P F) P (lone (b.atR a (.code c :: .inLoop c :: k)) cs w) b k cs e a' w' := by
    intro n
    induction n using Nat.strongRecOn with
    | _ n ih =>
      intro a w hI
      obtain ⟨e, a₁, w₁, hq, harr⟩ := round n a w hI b (.inLoop c :: k) cs hro hb hr
      cases e with
      | normal =>
        obtain ⟨m, hm, hI₁⟩ := hq
        obtain ⟨e₂, a₂, w₂, hq₂, harr₂⟩ := ih m hm a₁ w₁ hI₁
        exact ⟨e₂, a₂, w₂, hq₂, .of_steps (StepsIn.trans harr (.one (fenced_calm hb hr rfl) stepR_inLoop)) harr₂⟩
      | exit id => exact ⟨_, a₁, w₁, hq, .pass (x := .inLoop c) rfl (fun _ _ => .inl (by simp)) harr⟩
      | goto l => exact ⟨_, a₁, w₁, hq, .pass (x := .inLoop c) rfl (fun _ _ => .inl (by simp)) harr⟩
      | ret => exact ⟨_, a₁, w₁, hq, .pass (x := .inLoop c) rfl (fun _ _ => .inl (by simp)) harr⟩
      | panic ch => exact ⟨_, a₁, w₁, hq, .pass (x := .inLoop c) rfl (fun _ _ => .inl (by simp)) harr⟩
      | outgrown => exact ⟨_, a₁, w₁, hq, .pass (x := .inLoop c) rfl (fun _ _ => .inl (by simp)) harr⟩
  obtain ⟨e, a', w', hq, harr⟩ := key _ a w h₀
  exact ⟨e, a', w', hq, .of_steps (.one (fenced_calm hb hr rfl) stepR_loop) harr⟩

theorem LWp.loop {c : Code} {regs : Fr} {st : St} {Q : Exit → Fr → St → Prop} (I : Nat → Fr → St → Prop) (h₀ : ∃ n, I n regs st)
    (round : ∀ n r s, I n r s → LWp P c r s (onNormal (fun r' s' => ∃ m, m < n ∧ I m r' s') Q)) : LWp P (.loop c) regs st Q := by
  intro G a w ro d hR hr hd hn hx
  obtain ⟨n, h₀⟩ := h₀
  refine wpIn_loop_n (fun n a' w' => ∃ r s G', Step G st w G' s w' ∧ RepF G' a'.tmps.toList r ∧ DefOk G' s w' d a'.defers ∧ I n r s) ?_ (n := n) ⟨regs, st, G, .refl hR, hr, hd, h₀⟩
  rintro n a' w' ⟨r, s, G', k, hr', hd', hI⟩
  refine wpIn_mono (round n r s hI G' a' w' ro d k.rel hr' hd' (Nat.le_trans hn k.ver.length) (hx.imp id fun e => by simpa only [noRange] using e)) ?_
  rintro e a2 w2 ⟨r2, s2, G2, k2, hr2, hd2, hq⟩
  cases e with
  | normal => obtain ⟨m, hm, hI2⟩ := hq; exact ⟨m, hm, r2, s2, G2, k.trans hR k2, hr2, hd2, hI2⟩
  | exit id => exact ⟨r2, s2, G2, k.trans hR k2, hr2, hd2, hq⟩
  | goto l => exact ⟨r2, s2, G2, k.trans hR k2, hr2, hd2, hq⟩
  | ret => exact ⟨r2, s2, G2, k.trans hR k2, hr2, hd2, hq⟩
  | panic c => exact ⟨r2, s2, G2, k.trans hR k2, hr2, hd2, hq⟩
  | outgrown => exact ⟨r2, s2, G2, k.trans hR k2, hr2, hd2, hq⟩

/-- Knowing less of a value, of a frame. -/
def Weak (l l' : LV) : Prop := ∀ (G : Ghost) (v : Value), Rep G v l → Rep G v l'
theorem Weak.refl (l : LV) : Weak l l := fun _ _ h => h
theorem Weak.und (l : LV) : Weak l .und := fun _ _ _ => .und _
theorem Weak.own {o : Own} {k : Nat} {es : List LV} : Weak (.sl o k es) (.sl .no k es) := fun _ _ h => by
  cases h with
  | sl f hk hf hr hc ho => exact .sl f hk hf hr hc trivial
  | sl0 => exact .sl0
def Less (r r' : Fr) : Prop := r'.n = r.n ∧ ∀ (t : Nat) (l' : LV), lookE r'.e t = some l' → ∃ l, lookE r.e t = some l ∧ Weak l l'
theorem RepF.less {G : Ghost} {vs : List Value} {r r' : Fr} (h : RepF G vs r) (k : Less r r') : RepF G vs r' :=
  ⟨h.1.trans k.1.symm, fun t l' hl v hv => by
    obtain ⟨l, h1, h2⟩ := k.2 t l' hl
    exact h2 G v (h.2 t l h1 v hv)⟩
theorem LWp.less {c : Code} {r r' : Fr} {st : St} {Q : Exit → Fr → St → Prop} (k : Less r r') (h : LWp P c r' st Q) : LWp P c r st Q :=
  fun G a w ro n hR hr hd hn hx => h G a w ro n hR (hr.less k) hd hn hx

end
end Go.L

set_option linter.unusedVariables false
set_option linter.unusedSimpArgs false
namespace Go.L
open Go Go.RowKit

theorem cell_alloc_old (w : World) (o : Obj) (b i : Nat) (h : b < w.heap.size) : (w.alloc o).cell? ⟨b, i, none⟩ = w.cell? ⟨b, i, none⟩ := by
  simp only [World.cell?, Below.heap_alloc w o b h]

theorem Rel.imm_lt {G : Ghost} {st : St} {w : World} (h : Rel G st w) {b i : Nat} {v : Value} (e : G.imm b i = some v) : b < w.heap.size :=
  World.block_lt_of_cell? w ⟨b, i, none⟩ (h.imm b i v e)
theorem Rel.blk_lt {G : Ghost} {st : St} {w : World} (h : Rel G st w) {id b : Nat} (e : G.blk id = some b) : b < w.heap.size := by
  obtain ⟨b', obj, h1, _, h3, _⟩ := h.objs id _ (List.getElem?_eq_getElem (h.dom id b e))
  rw [e] at h1; injection h1 with h1; subst h1
  exact (Array.getElem?_eq_some_iff.1 h3).1
theorem Rel.tok_lt {G : Ghost} {st : St} {w : World} (h : Rel G st w) {t ver b e c : Nat} (k : st.toks[t]? = some ver) (g : G.tok t ver = some (b, e, c)) : b < w.heap.size := by
  obtain ⟨b', e', c', arr, ty, fr, h1, h2, _⟩ := h.toks t ver k
  rw [g] at h1; injection h1 with h1; injection h1 with h1 _; subst h1
  exact (Array.getElem?_eq_some_iff.1 h2).1

/-- The world is the old one but for draws. -/
theorem step_same {G : Ghost} {st : St} {w w' : World} (h : Rel G st w) (hh : w'.heap = w.heap) (ho : w'.os = w.os) (ht : w'.tape = w.tape) (hu : w'.output = w.output) (hd : w.drawn ≤ w'.drawn) : Step G st w G st w' :=
  ⟨.refl _, ⟨by rw [hh]; exact h.objs, h.inj, h.dom, fun b i v e => by simpa only [World.cell?, hh] using h.imm b i v e, h.apart, by rw [hh]; exact h.toks, h.tokdom, h.tokinj,
    ⟨ho.trans h.below.os, ht.trans h.below.tape, hu.trans h.below.output, by rw [hh]; exact h.below.size, by rw [hh]; exact h.below.block⟩, by rw [hh]; exact h.size, Nat.le_trans h.drew hd, h.places, by rw [hh]; exact h.snap⟩, .refl _, fun _ _ _ _ => by rw [hh]⟩
theorem step_drew {G : Ghost} {st : St} {w : World} (h : Rel G st w) : Step G st w G st { w with drawn := w.drawn + 1 } := step_same h rfl rfl rfl rfl (Nat.le_succ _)

theorem below_alloc {G : Ghost} {st : St} {w : World} (h : Rel G st w) (o : Obj) : Below G.base G.w0 (w.alloc o) := h.below.alloc h.size o

def Ghost.addBlk (G : Ghost) (id b : Nat) : Ghost := { G with blk := fun i => if i = id then some b else G.blk i }

/-- A new object. -/
theorem step_new {G : Ghost} {st : St} {w : World} (h : Rel G st w) {o : Obj} {l : LObj} (r : ObjRep G o l) (ha : l.isAt w.heap.size := by exact trivial) :
    Step G st w (G.addBlk st.heap.length w.heap.size) (st.push l) (w.alloc o) := by
  have hn : G.blk st.heap.length = none := by
    cases e : G.blk st.heap.length with
    | none => rfl
    | some b => have := h.dom _ _ e; omega
  have hle : G.le (G.addBlk st.heap.length w.heap.size) := ⟨rfl, rfl, fun _ _ _ e => e, fun i b e => (by
    simp only [Ghost.addBlk]; rw [if_neg]; exact e
    intro hi; subst hi; rw [hn] at e; cases e), fun _ _ _ e => e, fun _ _ _ e => e⟩
  refine ⟨hle, ⟨?_, ?_, ?_, ?_, ?_, ?_, h.tokdom, h.tokinj, below_alloc h o, by have := h.size; rw [World.size_alloc]; exact Nat.le_succ_of_le this, h.drew, ?_, ?_⟩, ⟨?_⟩, ?_⟩
  · intro id x hx
    simp only [St.push, List.getElem?_append] at hx
    split at hx
    · rename_i hlt
      obtain ⟨b, obj, h1, h2, h3, h4⟩ := h.objs id x hx
      exact ⟨b, obj, hle.blk _ _ h1, h2, (Below.heap_alloc w o b (h.blk_lt h1)).trans h3, h4.mono hle⟩
    · rename_i hlt
      have hid : id = st.heap.length := by
        by_cases e : id - st.heap.length = 0
        · omega
        · rw [List.getElem?_eq_none (by simp; omega)] at hx; cases hx
      subst hid
      simp at hx; subst hx
      exact ⟨w.heap.size, o, by simp [Ghost.addBlk], h.size, heap_alloc_new w o, r.mono hle⟩
  · intro i j b hi hj
    simp only [Ghost.addBlk] at hi hj
    split at hi <;> split at hj
    · omega
    · injection hi with hi; subst hi; have := h.blk_lt hj; omega
    · injection hj with hj; subst hj; have := h.blk_lt hi; omega
    · exact h.inj i j b hi hj
  · intro id b e
    simp only [Ghost.addBlk] at e
    simp only [St.push, List.length_append, List.length_singleton]
    split at e
    · omega
    · have := h.dom id b e; omega
  · intro b i v e
    rw [cell_alloc_old w o b i (h.imm_lt e)]; exact h.imm b i v e
  · intro id b i o' e ho' hlv
    simp only [Ghost.addBlk] at e
    split at e
    · injection e with e; subst e
      cases e2 : G.imm w.heap.size i with
      | none => exact e2
      | some v => have := h.imm_lt e2; omega
    · have := h.dom id b e
      simp only [St.push] at ho'
      rw [List.getElem?_append_left this] at ho'
      exact h.apart id b i o' e ho' hlv
  · intro t ver e
    obtain ⟨b, x, c, arr, ty, fr, h1, h2, h3, h4, h5, h6, h7⟩ := h.toks t ver e
    have hlt := h.tok_lt e h1
    refine ⟨b, x, c, arr, ty, fr, h1, (Below.heap_alloc w o b hlt).trans h2, h3, h4, h5, fun id e' => ?_, h7⟩
    simp only [Ghost.addBlk] at e'
    split at e'
    · injection e' with e'; omega
    · exact h6 id e'
  · intro id x b hx e
    simp only [St.push, List.getElem?_append] at hx
    simp only [Ghost.addBlk] at e
    split at hx
    · rename_i hlt
      rw [if_neg (by omega)] at e
      exact h.places id x b hx e
    · rename_i hlt
      have hid : id = st.heap.length := by
        by_cases e : id - st.heap.length = 0
        · omega
        · rw [List.getElem?_eq_none (by simp; omega)] at hx; cases hx
      subst hid
      simp at hx; subst hx
      rw [if_pos rfl] at e; injection e with e; subst e
      exact ha
  · intro id ver x e
    obtain ⟨o', h1, h2, h3⟩ := h.snap id ver x e
    have hlt := (List.getElem?_eq_some_iff.1 h1).1
    refine ⟨o', by simp only [St.push]; rw [List.getElem?_append_left hlt]; exact h1, h2, fun es b eo eb => ?_⟩
    simp only [Ghost.addBlk] at eb
    rw [if_neg (by omega)] at eb
    exact (Below.heap_alloc w o b (h.blk_lt eb)).trans (h3 es b eo eb)
  · intro id x hx
    exact ⟨x, by simp only [St.push]; rw [List.getElem?_append_left (List.getElem?_eq_some_iff.1 hx).1]; exact hx, .inl rfl⟩
  · intro id b e _
    exact Below.heap_alloc w o b (h.blk_lt e)

/-- An object is written. -/
theorem step_set {G : Ghost} {st : St} {w w' : World} (h : Rel G st w) {id b : Nat} {old l : LObj} {o : Obj} (hid : st.heap[id]? = some old) (hb : G.blk id = some b)
    (hlv : old.live = true) (hv : old.ver < l.ver) (hsz : w'.heap.size = w.heap.size) (hoth : ∀ k, k ≠ b → w'.heap[k]? = w.heap[k]?) (hnew : w'.heap[b]? = some o) (r : ObjRep G o l)
    (ho : w'.os = w.os) (ht : w'.tape = w.tape) (hu : w'.output = w.output) (ha : l.isAt b := by exact trivial) (hdr : w.drawn ≤ w'.drawn := by exact Nat.le_refl _) : Step G st w G (st.put id l) w' := by
  have hlt : id < st.heap.length := h.dom id b hb
  obtain ⟨b', _, e1, hbase, _, _⟩ := h.objs id old hid
  rw [hb] at e1; injection e1 with e1; subst e1
  refine ⟨.refl _, ⟨?_, h.inj, ?_, ?_, ?_, ?_, h.tokdom, h.tokinj, ?_, by rw [hsz]; exact h.size, Nat.le_trans h.drew hdr, ?_, ?_⟩, ⟨?_⟩, ?_⟩
  · intro i x hx
    simp only [St.put, List.getElem?_set] at hx
    split at hx
    · rename_i e; subst e
      injection hx with hx; subst hx
      exact ⟨b, o, hb, hbase, hnew, r⟩
    · rename_i e
      obtain ⟨b2, obj, h1, h2, h3, h4⟩ := h.objs i x hx
      have : b2 ≠ b := fun e' => e (h.inj id i b hb (e' ▸ h1))
      exact ⟨b2, obj, h1, h2, (hoth b2 this).trans h3, h4⟩
  · intro i c e
    simp only [St.put, List.length_set]; exact h.dom i c e
  · intro c i v e
    have : c ≠ b := fun e' => by subst e'; rw [h.apart id c i old hb hid hlv] at e; cases e
    simp only [World.cell?, hoth c this]; exact h.imm c i v e
  · intro j c i o' e ho' hl'
    by_cases hj : j = id
    · subst hj
      rw [hb] at e; injection e with e; subst e
      exact h.apart j b i old hb hid hlv
    · simp only [St.put] at ho'
      rw [List.getElem?_set, if_neg (fun e => hj e.symm)] at ho'
      exact h.apart j c i o' e ho' hl'
  · intro t ver e
    obtain ⟨c, x, y, arr, ty, fr, h1, h2, h3, h4, h5, h6, h7⟩ := h.toks t ver e
    have : c ≠ b := fun e' => h6 id (e' ▸ hb)
    exact ⟨c, x, y, arr, ty, fr, h1, (hoth c this).trans h2, h3, h4, h5, h6, h7⟩
  · exact h.below.trans ⟨ho, ht, hu, by rw [hsz]; exact Nat.le_refl _, fun k hk => hoth k (by omega)⟩
  · intro i x c hx e
    simp only [St.put, List.getElem?_set] at hx
    split at hx
    · rename_i e'; subst e'
      injection hx with hx; subst hx
      rw [hb] at e; injection e with e; subst e
      exact ha
    · exact h.places i x c hx e
  · intro i ver x e
    obtain ⟨o', h1, h2, h3⟩ := h.snap i ver x e
    by_cases hi : i = id
    · subst hi
      rw [hid] at h1; injection h1 with h1; subst h1
      refine ⟨l, by simp [St.put, hlt], by omega, fun es c eo _ => ?_⟩
      subst eo
      have hv : old.ver < ver := hv
      omega
    · refine ⟨o', by simp only [St.put]; rw [List.getElem?_set, if_neg (fun e => hi e.symm)]; exact h1, h2, fun es c eo ec => ?_⟩
      have : c ≠ b := fun e' => hi (h.inj i id b (e' ▸ ec) hb)
      exact (hoth c this).trans (h3 es c eo ec)
  · intro i x hx
    simp only [St.put, List.getElem?_set]
    split
    · rename_i e; subst e
      rw [hid] at hx; injection hx with hx; subst hx
      exact ⟨l, rfl, .inr ⟨hv, hlv⟩⟩
    · exact ⟨x, hx, .inl rfl⟩
  · intro i c e he
    by_cases hc : c = b
    · subst hc
      have := h.inj i id c e hb; subst this
      simp only [St.put, List.getElem?_set, if_true, if_pos hlt, hid] at he
      injection he with he; subst he; omega
    · exact hoth c hc

def Ghost.addImm (G : Ghost) (b : Nat) (f : Nat → Option Value) : Ghost := { G with imm := fun c i => if c = b then f i else G.imm c i }
def Ghost.addTok (G : Ghost) (t ver : Nat) (x : Nat × Nat × Nat) : Ghost := { G with tok := fun u v => if u = t ∧ v = ver then some x else G.tok u v }

theorem snap_alloc {G : Ghost} {st : St} {w : World} (h : Rel G st w) (o : Obj) : ∀ id ver x, G.ents id ver = some x → ∃ o', st.heap[id]? = some o' ∧ ver ≤ o'.ver ∧ ∀ es b, o' = .map es ver → G.blk id = some b → (w.alloc o).heap[b]? = some (.map x.1 x.2) :=
  fun id ver x e => by
    obtain ⟨o', h1, h2, h3⟩ := h.snap id ver x e
    exact ⟨o', h1, h2, fun es b eo eb => (Below.heap_alloc w o b (h.blk_lt eb)).trans (h3 es b eo eb)⟩
/-- A new block that never changes again. -/
theorem step_imm {G : Ghost} {st : St} {w : World} (h : Rel G st w) (arr : Array Value) (ty : Nat) :
    Step G st w (G.addImm w.heap.size fun i => arr[i]?) st (w.alloc (.cells arr ty)) := by
  have hn : ∀ i, G.imm w.heap.size i = none := fun i => by
    cases e2 : G.imm w.heap.size i with
    | none => rfl
    | some v => have := h.imm_lt e2; omega
  have hle : G.le (G.addImm w.heap.size fun i => arr[i]?) := ⟨rfl, rfl, fun b i v e => (by
    simp only [Ghost.addImm]; rw [if_neg]; exact e
    intro hb; subst hb; rw [hn i] at e; cases e), fun _ _ e => e, fun _ _ _ e => e, fun _ _ _ e => e⟩
  refine ⟨hle, ⟨?_, h.inj, h.dom, ?_, ?_, ?_, h.tokdom, h.tokinj, below_alloc h _, by have := h.size; rw [World.size_alloc]; exact Nat.le_succ_of_le this, h.drew, h.places, snap_alloc h _⟩, .refl _, ?_⟩
  · intro id x hx
    obtain ⟨b, obj, h1, h2, h3, h4⟩ := h.objs id x hx
    exact ⟨b, obj, h1, h2, (Below.heap_alloc w _ b (h.blk_lt h1)).trans h3, h4.mono hle⟩
  · intro b i v e
    simp only [Ghost.addImm] at e
    split at e
    · rename_i e'; subst e'
      simp only [World.cell?, heap_alloc_new]; exact e
    · rw [cell_alloc_old w _ b i (h.imm_lt e)]; exact h.imm b i v e
  · intro id b i o' e ho' hl'
    simp only [Ghost.addImm]
    have hlt : b < w.heap.size := h.blk_lt e
    rw [if_neg (by omega)]
    exact h.apart id b i o' e ho' hl'
  · intro t ver e
    obtain ⟨b, x, c, ar, ty, fr, h1, h2, h3, h4, h5, h6, h7⟩ := h.toks t ver e
    have hlt := h.tok_lt e h1
    refine ⟨b, x, c, ar, ty, fr, h1, (Below.heap_alloc w _ b hlt).trans h2, h3, h4, fun i hi => ?_, h6, h7⟩
    simp only [Ghost.addImm]; rw [if_neg (by omega)]; exact h5 i hi
  · intro id b e _
    exact Below.heap_alloc w _ b (h.blk_lt e)

/-- A new block whose first n places never change again, and whoever holds the token may write behind them. 'cur': the token's number, at a version that it never had. -/
theorem step_own {G : Ghost} {st : St} {w : World} (h : Rel G st w) (arr : Array Value) (ty : Nat) (fr : Nat × Nat) (hfr : frOk fr arr.size) (n c t ver : Nat) (toks' : List Nat) (hn : n ≤ c) (hc : c ≤ arr.size)
    (hself : toks'[t]? = some ver) (hoth : ∀ u v : Nat, u ≠ t → toks'[u]? = some v → st.toks[u]? = some v) (hold : ∀ u v : Nat, st.toks[u]? = some v → ∃ v' : Nat, toks'[u]? = some v' ∧ v ≤ v') (hnew : ∀ cur : Nat, st.toks[t]? = some cur → cur < ver) :
    Step G st w ((G.addImm w.heap.size fun i => if i < n then arr[i]? else none).addTok t ver (w.heap.size, n, c)) { st with toks := toks' } (w.alloc (.cells arr ty fr)) := by
  have hni : ∀ i, G.imm w.heap.size i = none := fun i => by
    cases e2 : G.imm w.heap.size i with
    | none => rfl
    | some v => have := h.imm_lt e2; omega
  have hnt : G.tok t ver = none := by
    cases e : G.tok t ver with
    | none => rfl
    | some x => obtain ⟨cur, h1, h2⟩ := h.tokdom t ver x e; have := hnew cur h1; omega
  have hle : G.le ((G.addImm w.heap.size fun i => if i < n then arr[i]? else none).addTok t ver (w.heap.size, n, c)) := ⟨rfl, rfl, fun b i v e => (by
    simp only [Ghost.addImm, Ghost.addTok]; rw [if_neg]; exact e
    intro hb; subst hb; rw [hni i] at e; cases e), fun _ _ e => e, fun u v x e => (by
    simp only [Ghost.addTok]; rw [if_neg]; exact e
    rintro ⟨rfl, rfl⟩; rw [hnt] at e; cases e), fun _ _ _ e => e⟩
  refine ⟨hle, ⟨?_, h.inj, h.dom, ?_, ?_, ?_, ?_, ?_, below_alloc h _, by have := h.size; rw [World.size_alloc]; exact Nat.le_succ_of_le this, h.drew, h.places, snap_alloc h _⟩, ⟨fun id o ho => ⟨o, ho, .inl rfl⟩⟩, ?_⟩
  · intro id x hx
    obtain ⟨b, obj, h1, h2, h3, h4⟩ := h.objs id x hx
    exact ⟨b, obj, h1, h2, (Below.heap_alloc w _ b (h.blk_lt h1)).trans h3, h4.mono hle⟩
  · intro b i v e
    simp only [Ghost.addImm, Ghost.addTok] at e
    split at e
    · rename_i e'; subst e'
      split at e
      · simp only [World.cell?, heap_alloc_new]; exact e
      · cases e
    · rw [cell_alloc_old w _ b i (h.imm_lt e)]; exact h.imm b i v e
  · intro id b i o' e ho' hl'
    have e' : G.blk id = some b := e
    simp only [Ghost.addImm, Ghost.addTok]
    have hlt : b < w.heap.size := h.blk_lt e'
    rw [if_neg (by omega)]
    exact h.apart id b i o' e' ho' hl'
  · intro u v e
    by_cases hu : u = t
    · subst hu
      have e : toks'[u]? = some v := e
      rw [hself] at e; injection e with e; subst e
      refine ⟨w.heap.size, n, c, arr, ty, fr, by simp [Ghost.addTok], heap_alloc_new w _, hc, h.size, fun i hi => ?_, fun id e' => ?_, hfr⟩
      · simp only [Ghost.addImm, Ghost.addTok]; rw [if_pos trivial, if_neg (by omega)]
      · have e' : G.blk id = some w.heap.size := e'
        have := h.blk_lt e'; omega
    · have e1 := hoth u v hu e
      obtain ⟨b, x, y, ar, ty', fr', h1, h2, h3, h4, h5, h6, h7⟩ := h.toks u v e1
      have hlt := h.tok_lt e1 h1
      refine ⟨b, x, y, ar, ty', fr', hle.tok _ _ _ h1, (Below.heap_alloc w _ b hlt).trans h2, h3, h4, fun i hi => ?_, h6, h7⟩
      simp only [Ghost.addImm, Ghost.addTok]; rw [if_neg (by omega)]; exact h5 i hi
  · intro u v x e
    simp only [Ghost.addTok, Ghost.addImm] at e
    split at e
    · rename_i e'; obtain ⟨rfl, rfl⟩ := e'; exact ⟨v, hself, Nat.le_refl _⟩
    · obtain ⟨cur, h1, h2⟩ := h.tokdom u v x e
      obtain ⟨v', h3, h4⟩ := hold u cur h1
      exact ⟨v', h3, by omega⟩
  · intro u u' a a' x e1 c1 e2 c2 hu hu' g g'
    have hu : toks'[u]? = some a := hu
    have hu' : toks'[u']? = some a' := hu'
    simp only [Ghost.addTok, Ghost.addImm] at g g'
    by_cases k : u = t <;> by_cases k' : u' = t
    · omega
    · subst k
      rw [hself] at hu; injection hu with hu; subst hu
      rw [if_pos ⟨rfl, rfl⟩] at g; rw [if_neg (fun e => k' e.1)] at g'
      injection g with g; injection g with g _; subst g
      have := h.tok_lt (hoth u' a' k' hu') g'; omega
    · subst k'
      rw [hself] at hu'; injection hu' with hu'; subst hu'
      rw [if_pos ⟨rfl, rfl⟩] at g'; rw [if_neg (fun e => k e.1)] at g
      injection g' with g'; injection g' with g' _; subst g'
      have := h.tok_lt (hoth u a k hu) g; omega
    · rw [if_neg (fun e => k e.1)] at g; rw [if_neg (fun e => k' e.1)] at g'
      exact h.tokinj u u' a a' x e1 c1 e2 c2 (hoth u a k hu) (hoth u' a' k' hu') g g'
  · intro id b e _
    exact Below.heap_alloc w _ b (h.blk_lt e)

/-- In place behind what the token's holder has: some cells are written, and never change again. -/
theorem step_room {G : Ghost} {st : St} {w w' : World} (h : Rel G st w) {t ver b e c : Nat} {arr arr' : Array Value} {ty : Nat} {fr : Nat × Nat} (ht : st.toks[t]? = some ver) (hg : G.tok t ver = some (b, e, c))
    (harr : w.heap[b]? = some (.cells arr ty fr)) (hnew : w'.heap[b]? = some (.cells arr' ty fr)) (hsize : arr'.size = arr.size) (hsame : ∀ i, i < e → arr'[i]? = arr[i]?)
    (e' : Nat) (hle1 : e ≤ e') (hle2 : e' ≤ c)
    (hsz : w'.heap.size = w.heap.size) (hoth : ∀ k, k ≠ b → w'.heap[k]? = w.heap[k]?) (ho : w'.os = w.os) (htp : w'.tape = w.tape) (hu : w'.output = w.output) (hdr : w.drawn ≤ w'.drawn := by exact Nat.le_refl _) :
    Step G st w ({ G with imm := fun x i => if x = b ∧ e ≤ i ∧ i < e' then arr'[i]? else G.imm x i }.addTok t (ver + 1) (b, e', c)) { st with toks := st.toks.set t (ver + 1) } w' := by
  obtain ⟨b2, e2, c2, arr2, ty2, fr2, g2, harr2, hcs, hbase, himm, hblk, hfr⟩ := h.toks t ver ht
  rw [hg] at g2; injection g2 with g2; obtain ⟨rfl, rfl, rfl⟩ : b = b2 ∧ e = e2 ∧ c = c2 := by simpa using g2
  rw [harr] at harr2; obtain ⟨rfl, rfl, rfl⟩ : arr = arr2 ∧ ty = ty2 ∧ fr = fr2 := by simpa using harr2
  have htl : t < st.toks.length := (List.getElem?_eq_some_iff.1 ht).1
  have hnt : G.tok t (ver + 1) = none := by
    cases e : G.tok t (ver + 1) with
    | none => rfl
    | some x => obtain ⟨cur, h1, h2⟩ := h.tokdom t (ver + 1) x e; rw [ht] at h1; injection h1 with h1; omega
  have hle : G.le ({ G with imm := fun x i => if x = b ∧ e ≤ i ∧ i < e' then arr'[i]? else G.imm x i }.addTok t (ver + 1) (b, e', c)) := ⟨rfl, rfl, fun x i v k => (by
    simp only [Ghost.addTok]; rw [if_neg]; exact k
    rintro ⟨rfl, h1, _⟩; rw [himm i h1] at k; cases k), fun _ _ k => k, fun u v x k => (by
    simp only [Ghost.addTok]; rw [if_neg]; exact k
    rintro ⟨rfl, rfl⟩; rw [hnt] at k; cases k), fun _ _ _ k => k⟩
  refine ⟨hle, ⟨?_, h.inj, h.dom, ?_, ?_, ?_, ?_, ?_, ?_, by rw [hsz]; exact h.size, Nat.le_trans h.drew hdr, h.places, fun id v x k => by
    obtain ⟨o', k1, k2, k3⟩ := h.snap id v x k
    exact ⟨o', k1, k2, fun es c eo ec => (hoth c (fun e => hblk id (e ▸ ec))).trans (k3 es c eo ec)⟩⟩, ⟨fun id o ho => ⟨o, ho, .inl rfl⟩⟩, ?_⟩
  · intro id x hx
    obtain ⟨b2, obj, h1, h2, h3, h4⟩ := h.objs id x hx
    have : b2 ≠ b := fun k => hblk id (k ▸ h1)
    exact ⟨b2, obj, h1, h2, (hoth b2 this).trans h3, h4.mono hle⟩
  · intro x i v k
    simp only [Ghost.addTok] at k
    split at k
    · rename_i k'; obtain ⟨rfl, _, _⟩ := k'
      simp [World.cell?, hnew, k]
    · by_cases hx : x = b
      · subst hx
        have hi : i < e := by
          rcases Nat.lt_or_ge i e with h1 | h1
          · exact h1
          · rw [himm i h1] at k; cases k
        have hc := h.imm x i v k
        simp only [World.cell?, harr, hnew] at hc ⊢
        simpa [hsame i hi] using hc
      · simp only [World.cell?, hoth x hx]; exact h.imm x i v k
  · intro id x i o' k ho' hl'
    have k' : G.blk id = some x := k
    simp only [Ghost.addTok]
    have : x ≠ b := fun e => hblk id (e ▸ k')
    rw [if_neg (fun e => this e.1)]
    exact h.apart id x i o' k' ho' hl'
  · intro u v k
    simp only [List.getElem?_set] at k
    split at k
    · rename_i k'; subst k'
      injection k with k; subst k
      refine ⟨b, e', c, arr', ty, fr, by simp [Ghost.addTok], hnew, by omega, hbase, fun i hi => ?_, fun id => hblk id, by rw [hsize]; exact hfr⟩
      simp only [Ghost.addTok]; rw [if_neg (by omega)]; exact himm i (by omega)
    · rename_i k'
      obtain ⟨b3, x, y, ar, ty', fr', h1, h2, h3, h4, h5, h6, h7⟩ := h.toks u v k
      have hne : b3 ≠ b := fun k3 => k' (h.tokinj t u ver v b e c x y ht k hg (k3 ▸ h1))
      refine ⟨b3, x, y, ar, ty', fr', hle.tok _ _ _ h1, (hoth b3 hne).trans h2, h3, h4, fun i hi => ?_, fun id => h6 id, h7⟩
      simp only [Ghost.addTok]; rw [if_neg (fun k => hne k.1)]; exact h5 i hi
  · intro u v x k
    simp only [Ghost.addTok] at k
    split at k
    · rename_i k'; obtain ⟨rfl, rfl⟩ := k'; exact ⟨ver + 1, by simp [htl], Nat.le_refl _⟩
    · obtain ⟨cur, h1, h2⟩ := h.tokdom u v x k
      by_cases hu : u = t
      · subst hu; rw [ht] at h1; injection h1 with h1; exact ⟨ver + 1, by simp [htl], by omega⟩
      · exact ⟨cur, by simp only [List.getElem?_set]; rw [if_neg (fun e => hu e.symm)]; exact h1, h2⟩
  · intro u u' a a' x e1 c1 e2 c2 hu hu' g g'
    simp only [List.getElem?_set] at hu hu'
    simp only [Ghost.addTok] at g g'
    by_cases k : u = t <;> by_cases k' : u' = t
    · omega
    · subst k
      rw [if_pos rfl, if_pos htl] at hu; injection hu with hu; subst hu
      rw [if_neg (fun e => k' e.symm)] at hu'
      rw [if_pos ⟨rfl, rfl⟩] at g; rw [if_neg (fun e => k' e.1)] at g'
      injection g with g; injection g with g _; subst g
      exact h.tokinj u u' ver a' b e c e2 c2 ht hu' hg g'
    · subst k'
      rw [if_pos rfl, if_pos htl] at hu'; injection hu' with hu'; subst hu'
      rw [if_neg (fun e => k e.symm)] at hu
      rw [if_pos ⟨rfl, rfl⟩] at g'; rw [if_neg (fun e => k e.1)] at g
      injection g' with g'; injection g' with g' _; subst g'
      exact h.tokinj u u' a ver b e1 c1 e c hu ht g hg
    · rw [if_neg (fun e => k e.symm)] at hu; rw [if_neg (fun e => k' e.symm)] at hu'
      rw [if_neg (fun e => k e.1)] at g; rw [if_neg (fun e => k' e.1)] at g'
      exact h.tokinj u u' a a' x e1 c1 e2 c2 hu hu' g g'
  · refine h.below.trans ⟨ho, htp, hu, by rw [hsz]; exact Nat.le_refl _, fun k hk => hoth k (by omega)⟩
  · intro id x k _
    have : x ≠ b := fun e => hblk id (e ▸ k)
    exact hoth x this

/-- An object that isn't written any more: its cells are known for good from now on. -/
theorem step_freeze {G : Ghost} {st : St} {w : World} (h : Rel G st w) {id b ver ty : Nat} {cs : List LV} {arr : Array Value} (hid : st.heap[id]? = some (.cells ty cs ver)) (hb : G.blk id = some b)
    (harr : w.heap[b]? = some (.cells arr ty (0, 0))) : Step G st w (G.addImm b fun i => arr[i]?) (st.put id (.gone (ver + 1))) w := by
  have hlt : id < st.heap.length := h.dom id b hb
  have hn : ∀ i, G.imm b i = none := fun i => h.apart id b i _ hb hid rfl
  have hle : G.le (G.addImm b fun i => arr[i]?) := ⟨rfl, rfl, fun c i v e => (by
    simp only [Ghost.addImm]; rw [if_neg]; exact e
    intro hb; subst hb; rw [hn i] at e; cases e), fun _ _ e => e, fun _ _ _ e => e, fun _ _ _ e => e⟩
  obtain ⟨b', obj, e1, hbase, e3, _⟩ := h.objs id _ hid
  rw [hb] at e1; injection e1 with e1; subst e1
  refine ⟨hle, ⟨?_, h.inj, ?_, ?_, ?_, ?_, h.tokdom, h.tokinj, h.below, h.size, h.drew, ?_, ?_⟩, ⟨?_⟩, fun _ _ _ _ => rfl⟩
  · intro i x hx
    simp only [St.put, List.getElem?_set] at hx
    split at hx
    · rename_i e; subst e
      injection hx with hx; subst hx
      exact ⟨b, obj, hb, hbase, e3, trivial⟩
    · obtain ⟨b2, o2, h1, h2, h3, h4⟩ := h.objs i x hx
      exact ⟨b2, o2, h1, h2, h3, h4.mono hle⟩
  · intro i c e
    simp only [St.put, List.length_set]; exact h.dom i c e
  · intro c i v e
    simp only [Ghost.addImm] at e
    split at e
    · rename_i e'; subst e'
      simp only [World.cell?, harr]; exact e
    · exact h.imm c i v e
  · intro j c i o' e ho' hl'
    simp only [St.put, List.getElem?_set] at ho'
    split at ho'
    · rename_i e'; injection ho' with ho'; subst ho'; cases hl'
    · rename_i hj
      have hc : c ≠ b := fun e' => hj (h.inj id j b hb (e' ▸ e))
      simp only [Ghost.addImm]; rw [if_neg hc]
      exact h.apart j c i o' e ho' hl'
  · intro t v e
    obtain ⟨c, x, y, ar, ty', fr', h1, h2, h3, h4, h5, h6, h7⟩ := h.toks t v e
    have hc : c ≠ b := fun e' => h6 id (e' ▸ hb)
    refine ⟨c, x, y, ar, ty', fr', h1, h2, h3, h4, fun i hi => ?_, h6, h7⟩
    simp only [Ghost.addImm]; rw [if_neg hc]; exact h5 i hi
  · intro i x c hx e
    simp only [St.put, List.getElem?_set] at hx
    split at hx
    · injection hx with hx; subst hx; exact trivial
    · exact h.places i x c hx e
  · intro i v x e
    obtain ⟨o', h1, h2, h3⟩ := h.snap i v x e
    by_cases hi : i = id
    · subst hi
      rw [hid] at h1; injection h1 with h1; subst h1
      exact ⟨.gone (ver + 1), by simp [St.put, hlt], by simp only [LObj.ver] at h2 ⊢; omega, fun es c eo _ => by cases eo⟩
    · exact ⟨o', by simp only [St.put]; rw [List.getElem?_set, if_neg (fun e => hi e.symm)]; exact h1, h2, h3⟩
  · intro i x hx
    simp only [St.put, List.getElem?_set]
    split
    · rename_i e; subst e
      rw [hid] at hx; injection hx with hx; subst hx
      exact ⟨.gone (ver + 1), rfl, .inr ⟨by simp [LObj.ver], rfl⟩⟩
    · exact ⟨x, hx, .inl rfl⟩

end Go.L

set_option linter.unusedVariables false
set_option linter.unusedSimpArgs false
namespace Go.L
open Go Go.RowKit

/-- What an operation yields that only looks, and which objects it looks at. -/
def Reads (P : Program) (st : St) (regs : Fr) (o : Oper) (l : LV) (deps : List Nat) : Prop :=
  ∀ (G : Ghost) (a : Act) (w : World), Rel G st w → RepF G a.tmps.toList regs → ∃ v, Rep G v l ∧ ∀ w' : World, (∀ id ∈ deps, ∀ b, G.blk id = some b → w'.heap[b]? = w.heap[b]?) →
    (∀ (b i : Nat) (x : Value), G.imm b i = some x → w'.cell? ⟨b, i, none⟩ = some x) → (execOp a.eval o).run P w' = .ok (.value v) w'

section
variable {P : Program} {st : St} {regs : Fr} {o : Oper}

theorem reads_move {x : Operand} (h : o.op = .move x) : Reads P st regs o (opdV regs x) [] :=
  fun G a w hR hr => ⟨a.eval x, rep_opd hr x, fun w' _ _ => by simp [execOp, h]⟩
theorem reads_assign {x : Operand} (h : o.op = .assign x) : Reads P st regs o (opdV regs x) [] :=
  fun G a w hR hr => ⟨a.eval x, rep_opd hr x, fun w' _ _ => by simp [execOp, h]⟩

def pickV (c a b : LV) : LV := if c.asB then a else b
theorem reads_pick {c x y : Operand} (h : o.op = .pick c x y) (hc : (opdV regs c).isB = true) : Reads P st regs o (pickV (opdV regs c) (opdV regs x) (opdV regs y)) [] :=
  fun G a w hR hr => ⟨if (opdV regs c).asB then a.eval x else a.eval y, by
    unfold pickV; split
    · exact rep_opd hr x
    · exact rep_opd hr y, fun w' _ _ => by
    have := rep_bool (rep_opd hr c) hc
    simp [execOp, h, this, asBool]⟩

def LV.isAddr : LV → Bool
  | .ref _ _ => true
  | .imm _ _ => true
  | _ => false
def LV.isFn : LV → Bool
  | .fn (.func _) _ _ => true
  | _ => false
def offs (a : LV) (n : Nat) : LV :=
  match a with
  | .ref id off => .ref id (off + n)
  | .imm v off => .imm v (off + n)
  | _ => .und
@[simp] theorem offs_ref (id off n : Nat) : offs (.ref id off) n = .ref id (off + n) := rfl
@[simp] theorem offs_imm (v : LV) (off n : Nat) : offs (.imm v off) n = .imm v (off + n) := rfl
@[simp] theorem isAddr_ref (id off : Nat) : (LV.ref id off).isAddr = true := rfl
@[simp] theorem isAddr_imm (v : LV) (off : Nat) : (LV.imm v off).isAddr = true := rfl

theorem rep_addr {G : Ghost} {v : Value} {l : LV} (h : Rep G v l) (ha : l.isAddr = true) : ∃ b k, v = .pointer (some ⟨b, k, none⟩) ∧ ∀ n, Rep G (.pointer (some ⟨b, k + n, none⟩)) (offs l n) := by
  cases h <;> simp [LV.isAddr] at ha
  case ref id off b hb => exact ⟨b, off, rfl, fun n => .ref hb⟩
  case imm b o off v f hf hr => exact ⟨b, o + off, rfl, fun n => by rw [Nat.add_assoc]; exact .imm f hf hr⟩

theorem addr_add (b k n : Nat) : (⟨b, k, none⟩ : Addr).add n = ⟨b, k + n, none⟩ := by
  unfold Addr.add; split
  · rename_i e; subst e; rfl
  · rfl

def nilCheckOk (l : LV) : Prop := l.isAddr = true ∨ l.isFn = true
theorem reads_nilCheck {x : Operand} (h : o.op = .nilCheck x) (hx : nilCheckOk (opdV regs x)) : Reads P st regs o (opdV regs x) [] := fun G a w hR hr => by
  refine ⟨a.eval x, rep_opd hr x, fun w' _ _ => ?_⟩
  have hx' := rep_opd hr x
  rcases hx with hx | hx
  · obtain ⟨b, k, e, _⟩ := rep_addr hx' hx
    simp [execOp, h, e]
  · obtain ⟨v, hv⟩ : ∃ v, a.eval x = v := ⟨_, rfl⟩
    rw [hv] at hx' ⊢
    generalize opdV regs x = l at *
    cases hx' <;> simp [LV.isFn] at hx
    case fn f vs ws ls ms _ _ _ _ =>
      cases f <;> simp at hx
      simp [execOp, h, hv]

/-! ### Types -/
def aggDesc : TypeDesc → Bool
  | .struct _ => true
  | .array _ _ => true
  | _ => false
/-- Is a type one of several cells, and how many has it? -/
def shapeOf (P : Program) (t : Nat) : Option (Bool × Nat) :=
  match P.underlying t with
  | none => none
  | some d => match P.info? t with
    | none => none
    | some i => some (aggDesc d, i.size)
theorem run_shapeOf {t n : Nat} {ag : Bool} (h : shapeOf P t = some (ag, n)) (w : World) : (isAgg t).run P w = .ok ag w ∧ (sizeOf t).run P w = .ok n w := by
  unfold shapeOf at h
  cases hu : P.underlying t with
  | none => simp [hu] at h
  | some d =>
    cases hi : P.info? t with
    | none => simp [hu, hi] at h
    | some i =>
      simp only [hu, hi, Option.some.injEq, Prod.mk.injEq] at h
      obtain ⟨rfl, rfl⟩ := h
      constructor
      · unfold isAgg
        rw [Sem.run_bind, run_underlying hu w]
        cases d <;> rfl
      · simp [sizeOf, typeInfo, hi]

/-! ### Loads -/
def objCells (st : St) (id : Nat) : List LV :=
  match st.heap[id]? with
  | some (.cells _ cs _) => cs
  | _ => []
def cellsAt (st : St) (a : LV) : List LV :=
  match a with
  | .imm v off => v.cells.drop off
  | .ref id off => (objCells st id).drop off
  | _ => []
@[simp] theorem cellsAt_imm (st : St) (v : LV) (off : Nat) : cellsAt st (.imm v off) = v.cells.drop off := rfl
@[simp] theorem cellsAt_ref (st : St) (id off : Nat) : cellsAt st (.ref id off) = (objCells st id).drop off := rfl
def loadV (st : St) (ag : Bool) (n : Nat) (a : LV) : LV := bif ag then .agg ((cellsAt st a).take n) else (cellsAt st a).headD .und
def loadOk (st : St) (ag : Bool) (n : Nat) (a : LV) : Prop := (bif ag then n else 1) ≤ (cellsAt st a).length ∧ 0 < (cellsAt st a).length
def depsOf (a : LV) : List Nat :=
  match a with
  | .ref id _ => [id]
  | _ => []

theorem Rel.cellsAt {G : Ghost} {w : World} (hR : Rel G st w) {v : Value} {l : LV} (h : Rep G v l) (ha : 0 < (cellsAt st l).length) :
    ∃ b k, v = .pointer (some ⟨b, k, none⟩) ∧ ∃ f : Nat → Value, (∀ (j : Nat) (c : LV), (cellsAt st l)[j]? = some c → Rep G (f j) c) ∧
      ∀ w' : World, (∀ id ∈ depsOf l, ∀ b, G.blk id = some b → w'.heap[b]? = w.heap[b]?) → (∀ (b i : Nat) (x : Value), G.imm b i = some x → w'.cell? ⟨b, i, none⟩ = some x) →
        ∀ j, j < (cellsAt st l).length → w'.cell? ⟨b, k + j, none⟩ = some (f j) := by
  cases h <;> simp only [L.cellsAt, List.length_nil, Nat.lt_irrefl] at ha
  case ref id off b hb =>
    simp only [cellsAt_ref]
    unfold objCells at *
    cases hid : st.heap[id]? with
    | none => simp [hid] at ha
    | some ob =>
      cases ob with
      | map es ver => simp [hid] at ha
      | gone ver => simp [hid] at ha
      | loop b' f ps x y z u ver => simp [hid] at ha
      | iter x y z u ver => simp [hid] at ha
      | iter0 ver => simp [hid] at ha
      | siter x y ver => simp [hid] at ha
      | cells ty cs ver =>
        simp only [hid] at ha ⊢
        obtain ⟨b', obj, h1, h2, h3, arr, rfl, h4⟩ := hR.objs id _ hid
        rw [hb] at h1; injection h1 with h1; subst h1
        refine ⟨b, off, rfl, fun j => arr.toList.getD (off + j) Go.undef, fun j c hc => ?_, fun w' hd _ j hj => ?_⟩
        · rw [List.getElem?_drop] at hc
          have hl : off + j < arr.toList.length := by rw [h4.1]; exact (List.getElem?_eq_some_iff.1 hc).1
          have hl' : off + j < arr.size := by simpa using hl
          exact h4.2 (off + j) _ c (by simp [List.getD_eq_getElem?_getD, hl']) hc
        · rw [List.length_drop] at hj
          have hl : off + j < arr.toList.length := by rw [h4.1]; omega
          have hh := hd id (by simp [depsOf]) b hb
          rw [h3] at hh
          have hl' : off + j < arr.size := by simpa using hl
          simp [World.cell?, hh, List.getD_eq_getElem?_getD, hl']
  case imm b o off v f hf hr =>
    simp only [cellsAt_imm]
    refine ⟨b, o + off, rfl, fun j => f (off + j), fun j c hc => ?_, fun w' _ hi j hj => ?_⟩
    · rw [List.getElem?_drop] at hc; exact hr _ _ hc
    · rw [List.length_drop] at hj
      rw [Nat.add_assoc]; exact hi _ _ _ (hf _ (by omega))

theorem reads_load {t n : Nat} {ag : Bool} {x : Operand} (h : o.op = .load t x) (hs : shapeOf P t = some (ag, n)) (hk : loadOk st ag n (opdV regs x)) :
    Reads P st regs o (loadV st ag n (opdV regs x)) (depsOf (opdV regs x)) := fun G a w hR hr => by
  have hx := rep_opd hr x
  have hag := fun w' => (run_shapeOf hs w').1
  have hsz := fun w' => (run_shapeOf hs w').2
  cases ag with
  | false =>
    have hk : 0 < (cellsAt st (opdV regs x)).length := hk.2
    obtain ⟨b, k, e, f, h1, h2⟩ := hR.cellsAt hx hk
    refine ⟨f 0, ?_, fun w' hd hi => ?_⟩
    · show Rep G (f 0) ((cellsAt st (opdV regs x)).headD .und)
      obtain ⟨c, cs, hc⟩ : ∃ c cs, cellsAt st (opdV regs x) = c :: cs := by
        cases hq : cellsAt st (opdV regs x) with
        | nil => rw [hq] at hk; simp at hk
        | cons c cs => exact ⟨c, cs, rfl⟩
      rw [hc]; exact h1 0 c (by rw [hc]; rfl)
    · have := h2 w' hd hi 0 hk
      simp only [Nat.add_zero] at this
      simp [execOp, h, e, Instr.loadAt, Instr.sureAddr, loadVar, hag w', run_load, this]
  | true =>
    obtain ⟨h0, hk⟩ : n ≤ (cellsAt st (opdV regs x)).length ∧ 0 < (cellsAt st (opdV regs x)).length := hk
    obtain ⟨b, k, e, f, h1, h2⟩ := hR.cellsAt hx hk
    refine ⟨.agg ((List.range n).map f).toArray, ?_, fun w' hd hi => ?_⟩
    · refine .agg ?_ fun i v l hv hl => ?_
      · simp; omega
      · simp only [List.getElem?_toArray, List.getElem?_map, Option.map_eq_some_iff] at hv
        obtain ⟨j, hj, rfl⟩ := hv
        have : j = i := by
          have := List.getElem?_eq_some_iff.1 hj
          obtain ⟨hlt, e⟩ := this
          simpa using e.symm
        subst this
        rw [List.getElem?_take] at hl
        split at hl
        · exact h1 _ _ hl
        · cases hl
    · have hc : (loadCells ⟨b, k, none⟩ ((List.range n).map f).length).run P w' = .ok ((List.range n).map f).toArray w' :=
        run_loadCells_list (P := P) w' ⟨b, k, none⟩ _ fun j v hv => by
          rw [addr_add]
          simp only [List.getElem?_map, Option.map_eq_some_iff] at hv
          obtain ⟨j', hj, rfl⟩ := hv
          obtain ⟨hlt, e⟩ := List.getElem?_eq_some_iff.1 hj
          have : j' = j := by simpa using e.symm
          subst this
          exact h2 w' hd hi _ (by simp at hlt; omega)
      simp only [List.length_map, List.length_range] at hc
      simp [execOp, h, e, Instr.loadAt, Instr.sureAddr, loadVar, hag w', hsz w', hc]
end
end Go.L

set_option linter.unusedVariables false
set_option linter.unusedSimpArgs false
namespace Go.L
open Go Go.RowKit
section
variable {P : Program} {st : St} {regs : Fr} {o : Oper}

/-- An operation whose run hangs on no world. -/
theorem reads_pure {l : LV} (h : ∀ (G : Ghost) (a : Act), RepF G a.tmps.toList regs → ∃ v, Rep G v l ∧ ∀ w', (execOp a.eval o).run P w' = .ok (.value v) w') : Reads P st regs o l [] :=
  fun G a w hR hr => by
    obtain ⟨v, h1, h2⟩ := h G a hr
    exact ⟨v, h1, fun w' _ _ => h2 w'⟩

/-! ### A field's place -/
def fieldOff (P : Program) (s f : Nat) : Option Nat :=
  match P.underlying s with
  | some (.struct fs) => match fs[f]? with
    | none => none
    | some fd => match P.info? fd.type with
      | none => none
      | some i => if i.size = 0 then none else some fd.offset
  | _ => none
theorem reads_fieldAddr {s f n : Nat} {x : Operand} (h : o.op = .fieldAddr s x f) (hf : fieldOff P s f = some n) (hx : (opdV regs x).isAddr = true) :
    Reads P st regs o (offs (opdV regs x) n) [] := reads_pure fun G a hr => by
  obtain ⟨b, k, e, hp⟩ := rep_addr (rep_opd hr x) hx
  refine ⟨_, hp n, fun w' => ?_⟩
  unfold fieldOff at hf
  split at hf
  · rename_i fs hu
    cases hq : fs[f]? with
    | none => simp [hq] at hf
    | some fd =>
      cases hi : P.info? fd.type with
      | none => simp [hq, hi] at hf
      | some i =>
        simp only [hq, hi] at hf
        split at hf
        · cases hf
        · rename_i hz
          injection hf with hf; subst hf
          simp [execOp, h, e, Instr.fieldAt, run_underlying hu w', hq, Instr.sureAddr, fieldPlace, sizeOf, typeInfo, hi, hz, addr_add]
  · cases hf

/-! ### Indexes -/
def LV.isI : LV → Bool
  | .int _ _ => true
  | _ => false
def LV.asI : LV → Int
  | .int _ n => n
  | _ => 0
@[simp] theorem isI_int (k : IntKind) (n : Int) : (LV.int k n).isI = true := rfl
@[simp] theorem asI_int (k : IntKind) (n : Int) : (LV.int k n).asI = n := rfl
theorem rep_int {G : Ghost} {v : Value} {l : LV} (h : Rep G v l) (hi : l.isI = true) : ∃ k, v = .int k l.asI ∧ l = .int k l.asI := by
  cases h <;> simp [LV.isI] at hi
  exact ⟨_, rfl, rfl⟩
def LV.isSl (k : Nat) : LV → Bool
  | .sl _ k' _ => k' == k
  | .nils => true
  | _ => false
def LV.els : LV → List LV
  | .sl _ _ es => es
  | _ => []
@[simp] theorem els_sl (o : Own) (k : Nat) (es : List LV) : (LV.sl o k es).els = es := rfl
@[simp] theorem els_nils : LV.nils.els = [] := rfl
@[simp] theorem isSl_sl (o : Own) (k k' : Nat) (es : List LV) : (LV.sl o k es).isSl k' = (k == k') := rfl
@[simp] theorem isSl_nils (k : Nat) : LV.nils.isSl k = true := rfl

/-- How an index leads to a place: in a variable of array type (its length), or in a slice; and the size of an element. -/
def indexIn (P : Program) (t : Nat) : Option (Option Nat × Nat) :=
  match P.underlying t with
  | some (.array n e) => (match P.info? e with | some i => if n ≤ 1 ∨ i.size = 0 then none else some (some n, i.size) | none => none)
  | some (.slice e) => (match P.info? e with | some i => if i.size = 0 then none else some (none, i.size) | none => none)
  | _ => none

theorem reads_indexArr {t n k : Nat} {x i : Operand} (h : o.op = .indexAddr t x i) (ht : indexIn P t = some (some n, k)) (hx : (opdV regs x).isAddr = true)
    (hi : (opdV regs i).isI = true) (h0 : 0 ≤ (opdV regs i).asI) (h1 : (opdV regs i).asI < n) :
    Reads P st regs o (offs (opdV regs x) ((opdV regs i).asI.toNat * k)) [] := reads_pure fun G a hr => by
  obtain ⟨b, q, e, hp⟩ := rep_addr (rep_opd hr x) hx
  obtain ⟨ki, ei, -⟩ := rep_int (rep_opd hr i) hi
  refine ⟨_, hp _, fun w' => ?_⟩
  unfold indexIn at ht
  split at ht
  · rename_i m el hu
    cases hq : P.info? el with
    | none => simp [hq] at ht
    | some inf =>
      simp only [hq] at ht
      split at ht
      · cases ht
      · rename_i hm
        simp only [Option.some.injEq, Prod.mk.injEq] at ht
        obtain ⟨rfl, rfl⟩ := ht
        simp [execOp, h, e, ei, Instr.indexAt, asIntOf, run_underlying hu w', Instr.sureAddr, h0, h1, sizeOf, typeInfo, hq, addr_add]
  · split at ht
    · split at ht <;> simp at ht
    · cases ht
  · cases ht

theorem reads_indexSl {t k : Nat} {x i : Operand} (h : o.op = .indexAddr t x i) (ht : indexIn P t = some (none, k)) (hx : (opdV regs x).isSl k = true)
    (hi : (opdV regs i).isI = true) (h0 : 0 ≤ (opdV regs i).asI) (h1 : (opdV regs i).asI < (opdV regs x).els.length) :
    Reads P st regs o (.imm ((opdV regs x).els.getD (opdV regs i).asI.toNat .und) 0) [] := reads_pure fun G a hr => by
  obtain ⟨ki, ei, -⟩ := rep_int (rep_opd hr i) hi
  have hx' := rep_opd hr x
  obtain ⟨v, hv⟩ : ∃ v, a.eval x = v := ⟨_, rfl⟩
  rw [hv] at hx'
  generalize opdV regs x = l at *
  generalize (opdV regs i).asI = j at *
  cases hx' <;> simp [LV.isSl, LV.els] at hx h1
  case nils => omega
  case sl0 => omega
  case sl b off cap k' ow es f hk hf hr' hc ho =>
    subst hx
    have hj : j.toNat < es.length := by omega
    have hget : es[j.toNat]? = some es[j.toNat] := List.getElem?_eq_getElem hj
    have hlen := hk es[j.toNat] (List.getElem_mem hj)
    refine ⟨.pointer (some ⟨b, off + j.toNat * k' + 0, none⟩), ?_, fun w' => ?_⟩
    · simp only [els_sl, List.getD_eq_getElem?_getD, hget, Option.getD_some]
      refine .imm (fun q => f (j.toNat * k' + q)) (fun q hq => hf _ q hj (by omega)) fun q c hc => hr' _ _ q c hget hc
    · unfold indexIn at ht
      split at ht
      · split at ht
        · split at ht <;> simp at ht
        · cases ht
      · rename_i el hu
        cases hq : P.info? el with
        | none => simp [hq] at ht
        | some inf =>
          simp only [hq] at ht
          split at ht
          · cases ht
          · simp only [Option.some.injEq, Prod.mk.injEq, true_and] at ht
            subst ht
            simp [execOp, h, hv, ei, Instr.indexAt, asIntOf, run_underlying hu w', h0, h1, sizeOf, typeInfo, hq, addr_add]
      · cases ht

/-- An array by its value: its length, whether an element is of several cells, an element's size. -/
def arrIn (P : Program) (t : Nat) : Option (Nat × Bool × Nat) :=
  match P.underlying t with
  | some (.array n e) => (match shapeOf P e with | some (ag, k) => some (n, ag, k) | none => none)
  | _ => none
def partV (ag : Bool) (n off : Nat) (cs : List LV) : LV := bif ag then .agg ((cs.drop off).take n) else cs.getD off .und
def LV.isAgg (n : Nat) : LV → Bool
  | .agg cs => cs.length == n
  | _ => false
@[simp] theorem isAgg_agg (n : Nat) (cs : List LV) : (LV.agg cs).isAgg n = (cs.length == n) := rfl

theorem run_part {G : Ghost} {t n off : Nat} {ag : Bool} {vs : Array Value} {cs : List LV} (hs : shapeOf P t = some (ag, n)) (h : RepAll G vs.toList cs) (hl : off + (bif ag then n else 1) ≤ cs.length) :
    ∃ v, Rep G v (partV ag n off cs) ∧ ∀ w', (part t vs off).run P w' = .ok v w' := by
  have hsz : vs.size = cs.length := by have := h.1; rw [Array.length_toList] at this; exact this
  cases ag with
  | true =>
    refine ⟨.agg (vs.extract off (off + n)), ?_, fun w' => ?_⟩
    · refine .agg ?_ fun i v l hv hl' => ?_
      · simp at hl ⊢; omega
      · simp only [Array.getElem?_extract] at hv
        rw [List.getElem?_take] at hl'
        split at hl'
        · rw [List.getElem?_drop] at hl'
          split at hv
          · exact h.2 _ _ _ (by rw [Array.getElem?_toList]; exact hv) hl'
          · cases hv
        · cases hl'
    · have h1 := (run_shapeOf hs w').1
      have h2 := (run_shapeOf hs w').2
      simp [part, h1, h2]
  | false =>
    have hlt : off < cs.length := by simp at hl; omega
    refine ⟨vs[off]'(by omega), ?_, fun w' => ?_⟩
    · simp only [partV, cond_false, List.getD_eq_getElem?_getD, List.getElem?_eq_getElem hlt, Option.getD_some]
      exact h.2 off _ _ (by rw [Array.getElem?_toList]; simp) (List.getElem?_eq_getElem hlt)
    · have h1 := (run_shapeOf hs w').1
      have : vs[off]? = some (vs[off]'(by omega)) := by simp
      simp [part, h1, this]

theorem rep_agg {G : Ghost} {v : Value} {l : LV} {n : Nat} (h : Rep G v l) (hl : l.isAgg n = true) : ∃ vs, v = .agg vs ∧ RepAll G vs.toList l.cells ∧ l.cells.length = n ∧ l = .agg l.cells := by
  cases h <;> simp [LV.isAgg] at hl
  case agg vs ls h1 h2 => exact ⟨vs, rfl, ⟨by rw [Array.length_toList]; exact h1, fun i v l hv hl => h2 i v l (by rw [Array.getElem?_toList] at hv; exact hv) hl⟩, hl, rfl⟩

theorem reads_indexAgg {t n k : Nat} {ag : Bool} {x i : Operand} (h : o.op = .index t x i) (ht : arrIn P t = some (n, ag, k)) (hk : 0 < k) (hx : (opdV regs x).isAgg (n * k) = true)
    (hi : (opdV regs i).isI = true) (h0 : 0 ≤ (opdV regs i).asI) (h1 : (opdV regs i).asI < n) :
    Reads P st regs o (partV ag k ((opdV regs i).asI.toNat * k) (opdV regs x).cells) [] := reads_pure fun G a hr => by
  obtain ⟨ki, ei, -⟩ := rep_int (rep_opd hr i) hi
  obtain ⟨vs, ev, hvs, hlen, -⟩ := rep_agg (rep_opd hr x) hx
  generalize (opdV regs i).asI = j at *
  unfold arrIn at ht
  split at ht
  · rename_i m el hu
    split at ht
    · rename_i ag' k' hs
      simp only [Option.some.injEq, Prod.mk.injEq] at ht
      obtain ⟨rfl, rfl, rfl⟩ := ht
      have hj : j.toNat < m := by omega
      have hmul : (j.toNat + 1) * k' ≤ m * k' := Nat.mul_le_mul_right _ hj
      rw [Nat.succ_mul] at hmul
      obtain ⟨v, hv1, hv2⟩ := run_part (off := j.toNat * k') hs hvs (by rw [hlen]; have hb : (bif ag' then k' else 1) ≤ k' := (by cases ag' <;> simp <;> omega); omega)
      refine ⟨v, hv1, fun w' => ?_⟩
      have hsz := (run_shapeOf hs w').2
      simp [execOp, h, ev, ei, Instr.index, asIntOf, run_underlying hu w', h0, h1, hsz, hv2 w']
    · cases ht
  · cases ht

def LV.isS : LV → Bool
  | .str _ => true
  | _ => false
def LV.asS : LV → ByteArray
  | .str s => s
  | _ => .empty
@[simp] theorem isS_str (s : ByteArray) : (LV.str s).isS = true := rfl
@[simp] theorem asS_str (s : ByteArray) : (LV.str s).asS = s := rfl
theorem rep_str {G : Ghost} {v : Value} {l : LV} (h : Rep G v l) (hs : l.isS = true) : v = .string l.asS ∧ l = .str l.asS := by
  cases h <;> simp [LV.isS] at hs
  exact ⟨rfl, rfl⟩
def isStrTy (P : Program) (t : Nat) : Bool := match P.underlying t with | some .string => true | _ => false
theorem run_isStrTy {t : Nat} (h : isStrTy P t = true) (w : World) : (underlying t).run P w = .ok .string w := by
  unfold isStrTy at h
  split at h
  · rename_i hu; exact run_underlying hu w
  · cases h

def byteAt (s : ByteArray) (i : Int) : Int := ((s[i.toNat]?.getD 0).toNat : Int)
theorem reads_indexStr {t : Nat} {x i : Operand} (h : o.op = .index t x i) (ht : isStrTy P t = true) (hx : (opdV regs x).isS = true)
    (hi : (opdV regs i).isI = true) (h0 : 0 ≤ (opdV regs i).asI) (h1 : (opdV regs i).asI < (opdV regs x).asS.size) :
    Reads P st regs o (.int .u8 (byteAt (opdV regs x).asS (opdV regs i).asI)) [] := reads_pure fun G a hr => by
  obtain ⟨ki, ei, -⟩ := rep_int (rep_opd hr i) hi
  obtain ⟨ev, -⟩ := rep_str (rep_opd hr x) hx
  generalize (opdV regs i).asI = j at *
  generalize (opdV regs x).asS = s at *
  refine ⟨_, .int _ _, fun w' => ?_⟩
  have hj : j.toNat < s.size := by omega
  simp [execOp, h, ev, ei, Instr.index, asIntOf, run_isStrTy ht w', h0, byteAt, hj]

/-! ### A field of a value -/
def fieldIn (P : Program) (s f : Nat) : Option (Nat × Bool × Nat) :=
  match P.underlying s with
  | some (.struct fs) => match fs[f]? with
    | none => none
    | some fd => match shapeOf P fd.type with
      | none => none
      | some (ag, n) => some (fd.offset, ag, n)
  | _ => none
theorem reads_field {s f off n m : Nat} {ag : Bool} {x : Operand} (h : o.op = .field s x f) (hf : fieldIn P s f = some (off, ag, n)) (hx : (opdV regs x).isAgg m = true)
    (hl : off + (bif ag then n else 1) ≤ m) : Reads P st regs o (partV ag n off (opdV regs x).cells) [] := reads_pure fun G a hr => by
  obtain ⟨vs, ev, hvs, hlen, -⟩ := rep_agg (rep_opd hr x) hx
  unfold fieldIn at hf
  split at hf
  · rename_i fs hu
    cases hq : fs[f]? with
    | none => simp [hq] at hf
    | some fd =>
      simp only [hq] at hf
      split at hf
      · cases hf
      · rename_i ag' n' hs
        simp only [Option.some.injEq, Prod.mk.injEq] at hf
        obtain ⟨rfl, rfl, rfl⟩ := hf
        obtain ⟨v, hv1, hv2⟩ := run_part hs hvs (by rw [hlen]; exact hl)
        refine ⟨v, hv1, fun w' => ?_⟩
        simp [execOp, h, ev, Instr.field, run_underlying hu w', hq, asAgg, hv2 w']
  · cases hf

/-! ### Tuples -/
def LV.isTup (i : Nat) : LV → Bool
  | .tup vs => i < vs.length
  | _ => false
def LV.tupAt (i : Nat) : LV → LV
  | .tup vs => vs.getD i .und
  | _ => .und
@[simp] theorem isTup_tup (i : Nat) (vs : List LV) : (LV.tup vs).isTup i = decide (i < vs.length) := rfl
@[simp] theorem tupAt_tup (i : Nat) (vs : List LV) : (LV.tup vs).tupAt i = vs.getD i .und := rfl
theorem reads_extract {x : Operand} {i : Nat} (h : o.op = .extract x i) (hx : (opdV regs x).isTup i = true) : Reads P st regs o ((opdV regs x).tupAt i) [] := reads_pure fun G a hr => by
  have hx' := rep_opd hr x
  obtain ⟨v, hv⟩ : ∃ v, a.eval x = v := ⟨_, rfl⟩
  rw [hv] at hx'
  generalize opdV regs x = l at *
  cases hx' <;> simp [LV.isTup] at hx
  case tup vs ls h1 h2 =>
    have hl : i < vs.size := by omega
    refine ⟨vs[i], ?_, fun w' => ?_⟩
    · simp only [tupAt_tup, List.getD_eq_getElem?_getD, List.getElem?_eq_getElem hx, Option.getD_some]
      exact h2 i _ _ (by simp [hl]) (List.getElem?_eq_getElem hx)
    · have : vs[i]? = some vs[i] := by simp [hl]
      simp [execOp, h, hv, Instr.extract, this]

/-! ### Function values -/
theorem reads_makeFunc {f : Fn} {first captured : Array Operand} (h : o.op = .makeFunc f first captured) :
    Reads P st regs o (.fn f (first.toList.map (opdV regs)) (captured.toList.map (opdV regs))) [] := reads_pure fun G a hr => by
  refine ⟨.func f (first.map a.eval) (captured.map a.eval), .fn (by simp) (by simp) (fun i v l hv hl => ?_) (fun i v l hv hl => ?_), fun w' => by simp [execOp, h, Instr.makeFunc]⟩
  all_goals
    simp only [Array.getElem?_map, List.getElem?_map, Option.map_eq_some_iff, Array.getElem?_toList] at hv hl
    obtain ⟨x, hx, rfl⟩ := hv
    obtain ⟨y, hy, rfl⟩ := hl
    rw [hx] at hy; injection hy with hy; subst hy
    exact rep_opd hr x
end
end Go.L

set_option linter.unusedVariables false
set_option linter.unusedSimpArgs false
namespace Go.L
open Go Go.RowKit

/-! ### '==' of arrays and structs of plain cells -/
inductive CK where
  | bool | int (k : IntKind) | str
def CK.fits : CK → LV → Bool
  | .bool, .bool _ => true
  | .int k, .int k' _ => k == k'
  | .str, .str _ => true
  | _, _ => false
def fitsAll : List CK → List LV → Bool
  | [], [] => true
  | k :: ks, c :: cs => k.fits c && fitsAll ks cs
  | _, _ => false
def ckEq : LV → LV → Bool
  | .bool a, .bool b => a == b
  | .int _ a, .int _ b => a == b
  | .str a, .str b => decide (a = b)
  | _, _ => false
def flatEq : List LV → List LV → Bool
  | [], [] => true
  | a :: bs_, b :: bs => ckEq a b && flatEq bs_ bs
  | _, _ => false

theorem bytes_beq (a b : ByteArray) : (a.toList == b.toList) = decide (a = b) := by
  rw [ByteArray.toList_eq, ByteArray.toList_eq, Bool.eq_iff_iff]
  obtain ⟨⟨x⟩⟩ := a
  obtain ⟨⟨y⟩⟩ := b
  simp

theorem fitsAll_length : ∀ {ks : List CK} {cs : List LV}, fitsAll ks cs = true → cs.length = ks.length
  | [], [], _ => rfl
  | [], _ :: _, h => by simp [fitsAll] at h
  | _ :: _, [], h => by simp [fitsAll] at h
  | k :: ks, c :: cs, h => by simp only [fitsAll, Bool.and_eq_true] at h; simp [fitsAll_length h.2]
theorem fitsAll_append : ∀ {ks js : List CK} {cs : List LV}, fitsAll (ks ++ js) cs = true → fitsAll ks (cs.take ks.length) = true ∧ fitsAll js (cs.drop ks.length) = true
  | [], js, cs, h => ⟨by simp [fitsAll], by simpa using h⟩
  | k :: ks, js, [], h => by simp [fitsAll] at h
  | k :: ks, js, c :: cs, h => by
    simp only [List.cons_append, fitsAll, Bool.and_eq_true] at h
    have ih := fitsAll_append h.2
    exact ⟨by simp [fitsAll, h.1, ih.1], by simpa using ih.2⟩
theorem flatEq_split : ∀ (n : Nat) {cs ds : List LV}, cs.length = ds.length → flatEq cs ds = (flatEq (cs.take n) (ds.take n) && flatEq (cs.drop n) (ds.drop n))
  | 0, cs, ds, h => by simp [flatEq]
  | n + 1, [], [], h => by simp [flatEq]
  | n + 1, [], _ :: _, h => by simp at h
  | n + 1, _ :: _, [], h => by simp at h
  | n + 1, a :: bs_, b :: bs, h => by
    simp only [List.take_succ_cons, List.drop_succ_cons, flatEq]
    rw [flatEq_split n (by simpa using h), Bool.and_assoc]

def kindsFields (g : Nat → Option (List CK)) : Nat → List Field → Option (List CK)
  | _, [] => some []
  | off, f :: r => if f.name = "_" ∨ f.offset ≠ off then none else
    match g f.type with
    | none => none
    | some ks => match kindsFields g (off + ks.length) r with
      | none => none
      | some js => some (ks ++ js)
/-- The kinds of all cells of a type, if '==' looks at each of them, in order. -/
def kindsOf (P : Program) : Nat → Nat → Option (List CK)
  | 0, _ => none
  | m + 1, t =>
    match shapeOf P t with
    | none => none
    | some (_, n) =>
      match P.underlying t with
      | some .bool => if n = 1 then some [.bool] else none
      | some (.int k) => if n = 1 then some [.int k] else none
      | some .string => if n = 1 then some [.str] else none
      | some (.array l e) => match kindsOf P m e with
        | none => none
        | some ks => if l * ks.length = n then some (List.replicate l ks).flatten else none
      | some (.struct fs) => if P.stoodInHeld t then none else
        match kindsFields (kindsOf P m) 0 fs.toList with
        | none => none
        | some ks => if ks.length = n then some ks else none
      | _ => none

section
variable {P : Program} {st : St} {regs : Fr} {o : Oper}

theorem rep_ck {G : Ghost} {v : Value} {l : LV} {k : CK} (h : Rep G v l) (hk : k.fits l = true) :
    (∃ b, k = .bool ∧ l = .bool b ∧ v = .bool b) ∨ (∃ q n, k = .int q ∧ l = .int q n ∧ v = .int q n) ∨ (∃ s, k = .str ∧ l = .str s ∧ v = .string s) := by
  cases h <;> cases k <;> simp [CK.fits] at hk
  · exact .inl ⟨_, rfl, rfl, rfl⟩
  · subst hk; exact .inr (.inl ⟨_, _, rfl, rfl, rfl⟩)
  · exact .inr (.inr ⟨_, rfl, rfl, rfl⟩)

theorem fits_bool {l : LV} (h : CK.bool.fits l = true) : ∃ b, l = .bool b := by cases l <;> simp [CK.fits] at h; exact ⟨_, rfl⟩
theorem fits_int {k : IntKind} {l : LV} (h : (CK.int k).fits l = true) : ∃ b, l = .int k b := by cases l <;> simp [CK.fits] at h; subst h; exact ⟨_, rfl⟩
theorem fits_str {l : LV} (h : CK.str.fits l = true) : ∃ b, l = .str b := by cases l <;> simp [CK.fits] at h; exact ⟨_, rfl⟩

/-- At a type: '==' of two values that fit comes to the equality of their cells. -/
def EqOk (P : Program) (m t : Nat) (ks : List CK) : Prop :=
  ∀ (d : Nat) (w : World) (G : Ghost) (a b : Value) (la lb : LV) (ag : Bool) (n : Nat), shapeOf P t = some (ag, n) → Rep G a la → Rep G b lb → (ag = true → la.isAgg n = true ∧ lb.isAgg n = true) → (ag = false → la.cells = [la] ∧ lb.cells = [lb]) →
    fitsAll ks la.cells = true → fitsAll ks lb.cells = true → (Op.equalIn (d + m) t a b).run P w = .ok (flatEq la.cells lb.cells) w

theorem kindsOf_len {m t : Nat} {ks : List CK} (h : kindsOf P m t = some ks) : ∃ ag, shapeOf P t = some (ag, ks.length) := by
  cases m with
  | zero => simp [kindsOf] at h
  | succ m =>
    unfold kindsOf at h
    split at h
    · cases h
    · rename_i ag n hs
      refine ⟨ag, ?_⟩
      rw [hs]
      congr 2
      split at h
      · split at h <;> simp at h; subst h; simpa
      · split at h <;> simp at h; subst h; simpa
      · split at h <;> simp at h; subst h; simpa
      · split at h
        · cases h
        · split at h <;> simp at h; subst h; rename_i e; simp [← e]
      · split at h
        · cases h
        · split at h
          · cases h
          · split at h <;> simp at h; subst h; omega
      · cases h

theorem cells_one {la : LV} (h : ∀ n, la.isAgg n = false) : la.cells = [la] := by
  cases la <;> simp [LV.cells]
  rename_i cs
  have := h cs.length; simp at this

theorem partV_cells {ag : Bool} {n off : Nat} {cs : List LV} {ks : List CK} (hn : n = ks.length) (h1 : ag = false → n = 1) (hl : off + n ≤ cs.length) (hf : fitsAll ks ((cs.drop off).take n) = true) :
    (partV ag n off cs).cells = (cs.drop off).take n ∧ (ag = true → (partV ag n off cs).isAgg n = true) ∧ (ag = false → (partV ag n off cs).cells = [partV ag n off cs]) := by
  cases ag with
  | true => exact ⟨rfl, fun _ => by simp [partV]; omega, fun e => by cases e⟩
  | false =>
    have := h1 rfl; subst this
    have hlt : off < cs.length := by omega
    have e1 : (cs.drop off).take 1 = [cs[off]] := by rw [List.drop_eq_getElem_cons hlt]; rfl
    rw [e1] at hf ⊢
    have e2 : partV false 1 off cs = cs[off] := by simp only [partV, cond_false, List.getD_eq_getElem?_getD, List.getElem?_eq_getElem hlt, Option.getD_some]
    rw [e2]
    suffices hs : (cs[off]).cells = [cs[off]] from ⟨hs, fun e => (by cases e), fun _ => hs⟩
    obtain ⟨k, rfl⟩ : ∃ k, ks = [k] := by
      cases ks with
      | nil => simp at hn
      | cons k r => cases r with
        | nil => exact ⟨k, rfl⟩
        | cons _ _ => simp at hn
    simp only [fitsAll, Bool.and_true] at hf
    generalize cs[off] = c at *
    cases c <;> simp [LV.cells]
    cases k <;> simp [CK.fits] at hf

theorem one_of_shape {m t : Nat} {ks : List CK} {n : Nat} (h : kindsOf P m t = some ks) (hs : shapeOf P t = some (false, n)) : n = 1 := by
  cases m with
  | zero => simp [kindsOf] at h
  | succ m =>
    unfold kindsOf at h
    rw [hs] at h
    simp only at h
    unfold shapeOf at hs
    split at h
    · split at h <;> simp at h; assumption
    · split at h <;> simp at h; assumption
    · split at h <;> simp at h; assumption
    · rename_i hu; rw [hu] at hs; simp only at hs; split at hs <;> simp [aggDesc] at hs
    · rename_i hu; rw [hu] at hs; simp only at hs; split at hs <;> simp [aggDesc] at hs
    · cases h

theorem run_step {m t off : Nat} {ks : List CK} (IH : EqOk P m t ks) (hk : kindsOf P m t = some ks) (d : Nat) (w : World) {G : Ghost} {xs ys : Array Value} {cs ds : List LV}
    (hx : RepAll G xs.toList cs) (hy : RepAll G ys.toList ds) (hl1 : off + ks.length ≤ cs.length) (hl2 : off + ks.length ≤ ds.length)
    (f1 : fitsAll ks ((cs.drop off).take ks.length) = true) (f2 : fitsAll ks ((ds.drop off).take ks.length) = true) :
    ∃ a b, (part t xs off).run P w = .ok a w ∧ (part t ys off).run P w = .ok b w ∧ (Op.equalIn (d + m) t a b).run P w = .ok (flatEq ((cs.drop off).take ks.length) ((ds.drop off).take ks.length)) w := by
  obtain ⟨ag, hs⟩ := kindsOf_len hk
  have h1 : ag = false → ks.length = 1 := fun e => by subst e; exact one_of_shape hk hs
  have hb : (bif ag then ks.length else 1) ≤ ks.length := by cases ag <;> simp; have := h1 rfl; omega
  obtain ⟨a, ra, pa⟩ := run_part (off := off) hs hx (by omega)
  obtain ⟨b, rb, pb⟩ := run_part (off := off) hs hy (by omega)
  obtain ⟨c1, g1, q1⟩ := partV_cells (ag := ag) rfl h1 hl1 f1
  obtain ⟨c2, g2, q2⟩ := partV_cells (ag := ag) rfl h1 hl2 f2
  refine ⟨a, b, pa w, pb w, ?_⟩
  have := IH d w G a b _ _ ag _ hs ra rb (fun e => ⟨g1 e, g2 e⟩) (fun e => ⟨q1 e, q2 e⟩) (by rw [c1]; exact f1) (by rw [c2]; exact f2)
  rw [c1, c2] at this
  exact this

theorem run_fields {m : Nat} (IH : ∀ t ks, kindsOf P m t = some ks → EqOk P m t ks) (d : Nat) (w : World) {G : Ghost} {xs ys : Array Value} {cs ds : List LV} (hx : RepAll G xs.toList cs) (hy : RepAll G ys.toList ds) :
    ∀ (fs : List Field) (off : Nat) (ks : List CK), kindsFields (kindsOf P m) off fs = some ks → off + ks.length ≤ cs.length → off + ks.length ≤ ds.length →
      fitsAll ks ((cs.drop off).take ks.length) = true → fitsAll ks ((ds.drop off).take ks.length) = true →
      (Op.eqFields (d + m) xs ys fs).run P w = .ok (flatEq ((cs.drop off).take ks.length) ((ds.drop off).take ks.length)) w
  | [], off, ks, h, _, _, _, _ => by
    simp only [kindsFields, Option.some.injEq] at h; subst h
    simp [Op.eqFields, flatEq]
  | f :: fs, off, ks, h, l1, l2, f1, f2 => by
    unfold kindsFields at h
    split at h
    · cases h
    · rename_i hn
      rw [not_or, Classical.not_not] at hn
      obtain ⟨hname, hoff⟩ := hn
      split at h
      · cases h
      · rename_i k1 hk1
        split at h
        · cases h
        · rename_i k2 hk2
          injection h with h; subst h
          rw [List.length_append] at l1 l2 f1 f2 ⊢
          have A := fitsAll_append f1
          have B := fitsAll_append f2
          have e1 : (List.take (k1.length + k2.length) (cs.drop off)).take k1.length = (cs.drop off).take k1.length := by rw [List.take_take]; congr 1; omega
          have e2 : (List.take (k1.length + k2.length) (ds.drop off)).take k1.length = (ds.drop off).take k1.length := by rw [List.take_take]; congr 1; omega
          have e3 : (List.take (k1.length + k2.length) (cs.drop off)).drop k1.length = (cs.drop (off + k1.length)).take k2.length := by rw [List.drop_take, List.drop_drop]; congr 1; omega
          have e4 : (List.take (k1.length + k2.length) (ds.drop off)).drop k1.length = (ds.drop (off + k1.length)).take k2.length := by rw [List.drop_take, List.drop_drop]; congr 1; omega
          rw [e1, e3] at A; rw [e2, e4] at B
          obtain ⟨a, b, p1, p2, p3⟩ := run_step (off := off) (IH _ _ hk1) hk1 d w hx hy (by omega) (by omega) A.1 B.1
          have ih := run_fields IH d w hx hy fs (off + k1.length) k2 hk2 (by omega) (by omega) A.2 B.2
          rw [flatEq_split k1.length (by simp; omega), e1, e2, e3, e4]
          simp only [Op.eqFields, if_pos hname, Sem.run_bind, hoff, p1, p2, p3, Result.andThen_ok]
          cases flatEq (List.take k1.length (List.drop off cs)) (List.take k1.length (List.drop off ds))
          · simp
          · simpa using ih

theorem run_items {m t : Nat} {ks : List CK} (IH : EqOk P m t ks) (hk : kindsOf P m t = some ks) (d : Nat) (w : World) {G : Ghost} {xs ys : Array Value} {cs ds : List LV} (hx : RepAll G xs.toList cs) (hy : RepAll G ys.toList ds) :
    ∀ (l i : Nat), (i + l) * ks.length ≤ cs.length → (i + l) * ks.length ≤ ds.length →
      fitsAll (List.replicate l ks).flatten ((cs.drop (i * ks.length)).take (l * ks.length)) = true → fitsAll (List.replicate l ks).flatten ((ds.drop (i * ks.length)).take (l * ks.length)) = true →
      (Op.eqItems (d + m) t ks.length xs ys (List.range' i l)).run P w = .ok (flatEq ((cs.drop (i * ks.length)).take (l * ks.length)) ((ds.drop (i * ks.length)).take (l * ks.length))) w
  | 0, i, _, _, _, _ => by simp [Op.eqItems, flatEq]
  | l + 1, i, l1, l2, f1, f2 => by
    have hm : (l + 1) * ks.length = ks.length + l * ks.length := by rw [Nat.succ_mul]; omega
    have hm2 : (i + (l + 1)) * ks.length = i * ks.length + (ks.length + l * ks.length) := by rw [Nat.add_mul, hm]
    have hm3 : (i + 1 + l) * ks.length = i * ks.length + (ks.length + l * ks.length) := by rw [Nat.add_mul, Nat.add_mul]; omega
    have hm4 : (i + 1) * ks.length = i * ks.length + ks.length := Nat.succ_mul _ _
    rw [hm2] at l1 l2
    rw [hm] at f1 f2 ⊢
    rw [List.replicate_succ, List.flatten_cons] at f1 f2
    have A := fitsAll_append f1
    have B := fitsAll_append f2
    have e1 : (List.take (ks.length + l * ks.length) (cs.drop (i * ks.length))).take ks.length = (cs.drop (i * ks.length)).take ks.length := by rw [List.take_take]; congr 1; omega
    have e2 : (List.take (ks.length + l * ks.length) (ds.drop (i * ks.length))).take ks.length = (ds.drop (i * ks.length)).take ks.length := by rw [List.take_take]; congr 1; omega
    have e3 : (List.take (ks.length + l * ks.length) (cs.drop (i * ks.length))).drop ks.length = (cs.drop ((i + 1) * ks.length)).take (l * ks.length) := by rw [List.drop_take, List.drop_drop, hm4]; congr 1; omega
    have e4 : (List.take (ks.length + l * ks.length) (ds.drop (i * ks.length))).drop ks.length = (ds.drop ((i + 1) * ks.length)).take (l * ks.length) := by rw [List.drop_take, List.drop_drop, hm4]; congr 1; omega
    rw [e1, e3] at A; rw [e2, e4] at B
    obtain ⟨a, b, p1, p2, p3⟩ := run_step (off := i * ks.length) IH hk d w hx hy (by omega) (by omega) A.1 B.1
    have ih := run_items IH hk d w hx hy l (i + 1) (by omega) (by omega) A.2 B.2
    rw [flatEq_split ks.length (by simp; omega), e1, e2, e3, e4, List.range'_succ]
    simp only [Op.eqItems, Sem.run_bind, p1, p2, p3, Result.andThen_ok]
    cases flatEq (List.take ks.length (List.drop (i * ks.length) cs)) (List.take ks.length (List.drop (i * ks.length) ds))
    · simp
    · simpa using ih

theorem eqOk : ∀ (m t : Nat) (ks : List CK), kindsOf P m t = some ks → EqOk P m t ks := by
  intro m
  induction m with
  | zero => intro t ks h; simp [kindsOf] at h
  | succ m ih =>
    intro t ks h d w G a b la lb ag n hs ra rb hag hone fa fb
    have hlen := kindsOf_len h
    have plain : ∀ c : CK, ks = [c] → ag = false → c.fits la = true ∧ c.fits lb = true ∧ la.cells = [la] ∧ lb.cells = [lb] := fun c e e' => by
      obtain ⟨h1, h2⟩ := hone e'
      subst e
      rw [h1] at fa; rw [h2] at fb
      simp only [fitsAll, Bool.and_true] at fa fb
      exact ⟨fa, fb, h1, h2⟩
    have hags : ∀ x, P.underlying t = some x → ag = aggDesc x := fun x hu => by
      unfold shapeOf at hs
      rw [hu] at hs
      simp only at hs
      split at hs <;> simp at hs
      exact hs.1.symm
    unfold kindsOf at h
    rw [hs] at h
    simp only at h
    split at h
    · rename_i hu
      split at h <;> simp at h
      obtain ⟨f1, f2, c1, c2⟩ := plain .bool h.symm (hags _ hu)
      obtain ⟨x, rfl⟩ := fits_bool f1; obtain ⟨y, rfl⟩ := fits_bool f2
      cases ra; cases rb
      simp [LV.cells, flatEq, ckEq, ← Nat.add_assoc, run_equalIn_bool' w (d + m) t x y hu]
    · rename_i k hu
      split at h <;> simp at h
      obtain ⟨f1, f2, c1, c2⟩ := plain (.int k) h.symm (hags _ hu)
      obtain ⟨x, rfl⟩ := fits_int f1; obtain ⟨y, rfl⟩ := fits_int f2
      cases ra; cases rb
      simp [LV.cells, flatEq, ckEq, ← Nat.add_assoc, run_equalIn_int w (d + m) t _ _ x y hu]
    · rename_i hu
      split at h <;> simp at h
      obtain ⟨f1, f2, c1, c2⟩ := plain .str h.symm (hags _ hu)
      obtain ⟨x, rfl⟩ := fits_str f1; obtain ⟨y, rfl⟩ := fits_str f2
      cases ra; cases rb
      have := bytes_beq x y
      simp [LV.cells, flatEq, ckEq, ← Nat.add_assoc, run_equalIn_string w (d + m) t x y hu, this]
    · rename_i l e hu
      split at h
      · cases h
      · rename_i k1 hk1
        split at h <;> simp at h
        rename_i hn
        subst h
        obtain ⟨xs, rfl, hx, lx, ex⟩ := rep_agg ra (hag (hags _ hu)).1
        obtain ⟨ys, rfl, hy, ly, ey⟩ := rep_agg rb (hag (hags _ hu)).2
        obtain ⟨inf, hi⟩ := info_of_underlying (P := P) (t := e) (d := (P.underlying e).getD .bool) (by
          obtain ⟨g, hg⟩ := kindsOf_len hk1
          unfold shapeOf at hg
          split at hg
          · cases hg
          · rename_i q; simp [q])
        have hc : P.cellsOf e = k1.length := by
          obtain ⟨g, hg⟩ := kindsOf_len hk1
          unfold shapeOf at hg
          split at hg
          · cases hg
          · rw [hi] at hg; simp at hg; simp [Program.cellsOf, hi, hg.2]
        have := run_items (ih e k1 hk1) hk1 d w hx hy l 0 (by rw [lx]; simp; omega) (by rw [ly]; simp; omega)
          (by simpa [← hn, lx, List.take_of_length_le] using fa) (by simpa [← hn, ly, List.take_of_length_le] using fb)
        rw [← Nat.add_assoc, run_equalIn_array w (d + m) xs ys hu hi, hc, List.range_eq_range', this]
        congr 2 <;> (simp; rw [List.take_of_length_le (by omega)])
    · rename_i fs hu
      split at h
      · cases h
      · rename_i hst
        split at h
        · cases h
        · rename_i k1 hk1
          split at h <;> simp at h
          rename_i hn
          subst h
          obtain ⟨xs, rfl, hx, lx, ex⟩ := rep_agg ra (hag (hags _ hu)).1
          obtain ⟨ys, rfl, hy, ly, ey⟩ := rep_agg rb (hag (hags _ hu)).2
          have hfo : P.fieldsOf t = fs := by simp [Program.fieldsOf, hu]
          have := run_fields ih d w hx hy fs.toList 0 k1 hk1 (by omega) (by omega) (by simpa [hn, lx, List.take_of_length_le] using fa) (by simpa [hn, ly, List.take_of_length_le] using fb)
          rw [← Nat.add_assoc, run_equalIn_struct w (d + m) t xs ys (by rw [hfo]; exact hu) (by simpa using hst), hfo, this]
          congr 2 <;> (simp; rw [List.take_of_length_le (by omega)])
    · cases h
end
end Go.L

set_option linter.unusedVariables false
set_option linter.unusedSimpArgs false
namespace Go.L
open Go Go.RowKit

/-! ### Operations on two operands -/
def bitI (op : BinOp) (k : IntKind) (x y : Int) : Int :=
  match op with
  | .and => k.wrap (BitVec.ofInt k.bits x &&& BitVec.ofInt k.bits y).toNat
  | .or => k.wrap (BitVec.ofInt k.bits x ||| BitVec.ofInt k.bits y).toNat
  | .xor => k.wrap (BitVec.ofInt k.bits x ^^^ BitVec.ofInt k.bits y).toNat
  | _ => k.wrap (BitVec.ofInt k.bits x &&& ~~~BitVec.ofInt k.bits y).toNat
def intBin (op : BinOp) (k : IntKind) (a b : Int) : LV :=
  match op with
  | .add => .int k (k.wrap (a + b))
  | .sub => .int k (k.wrap (a - b))
  | .mul => .int k (k.wrap (a * b))
  | .quo => .int k (k.wrap (a.tdiv b))
  | .rem => .int k (a.tmod b)
  | .and => .int k (bitI .and k a b)
  | .or => .int k (bitI .or k a b)
  | .xor => .int k (bitI .xor k a b)
  | .andNot => .int k (bitI .andNot k a b)
  | .shl => .int k (k.wrap (a * 2 ^ min b.toNat k.bits))
  | .shr => .int k (a.fdiv (2 ^ min b.toNat k.bits))
  | .eql => .bool (a == b)
  | .neq => .bool (a != b)
  | .lss => .bool (decide (a < b))
  | .leq => .bool (decide (a ≤ b))
  | .gtr => .bool (decide (a > b))
  | .geq => .bool (decide (a ≥ b))
def intBinOk (op : BinOp) (k k' : IntKind) (b : Int) : Prop :=
  match op with
  | .shl => 0 ≤ b
  | .shr => 0 ≤ b
  | .quo => k = k' ∧ b ≠ 0
  | .rem => k = k' ∧ b ≠ 0
  | _ => k = k'
def strLt (a b : ByteArray) : Bool := Op.bytesLess a.toList b.toList
def strBin (op : BinOp) (a b : ByteArray) : LV :=
  match op with
  | .add => .str (a ++ b)
  | .eql => .bool (decide (a = b))
  | .neq => .bool (!decide (a = b))
  | .lss => .bool (strLt a b)
  | .leq => .bool (strLt a b || decide (a = b))
  | .gtr => .bool !(strLt a b || decide (a = b))
  | .geq => .bool !(strLt a b)
  | _ => .und
def strBinOk (op : BinOp) (a b : ByteArray) : Prop :=
  match op with
  | .add => a.size + b.size ≤ 4611686018427387904
  | .eql | .neq | .lss | .leq | .gtr | .geq => True
  | _ => False

section
variable {P : Program} {st : St} {regs : Fr} {o : Oper}

theorem reads_intBin {op : BinOp} {t t' : Nat} {x y : Operand} {k k' : IntKind} {a b : Int} (h : o.op = .binOp op t x y t') (hx : opdV regs x = .int k a) (hy : opdV regs y = .int k' b)
    (ok : intBinOk op k k' b) : Reads P st regs o (intBin op k a b) [] := reads_pure fun G A hr => by
  obtain ⟨q, e1, e1'⟩ := rep_int (rep_opd hr x) (by rw [hx]; rfl)
  obtain ⟨r, e2, e2'⟩ := rep_int (rep_opd hr y) (by rw [hy]; rfl)
  rw [hx] at e1 e1'; rw [hy] at e2 e2'
  simp only [asI_int] at e1 e2 e1' e2'
  injection e1' with e1'; injection e2' with e2'; subst e1'; subst e2'
  cases op <;> simp only [intBinOk] at ok
  case quo => obtain ⟨rfl, ok⟩ := ok; exact ⟨_, .int _ _, fun w' => by simp [execOp, h, e1, e2, eqGuard, binOp, Op.intDiv, ok]⟩
  case rem => obtain ⟨rfl, ok⟩ := ok; exact ⟨_, .int _ _, fun w' => by simp [execOp, h, e1, e2, eqGuard, binOp, Op.intDiv, ok]⟩
  case shl => exact ⟨_, .int _ _, fun w' => by simp [execOp, h, e1, e2, eqGuard, binOp, Op.shift, Int.not_lt.2 ok]⟩
  case shr => exact ⟨_, .int _ _, fun w' => by simp [execOp, h, e1, e2, eqGuard, binOp, Op.shift, Int.not_lt.2 ok]⟩
  all_goals subst ok
  case add => exact ⟨_, .int _ _, fun w' => by simp [execOp, h, e1, e2, eqGuard, binOp, Op.intArith]⟩
  case sub => exact ⟨_, .int _ _, fun w' => by simp [execOp, h, e1, e2, eqGuard, binOp, Op.intArith]⟩
  case mul => exact ⟨_, .int _ _, fun w' => by simp [execOp, h, e1, e2, eqGuard, binOp, Op.intArith]⟩
  case and => exact ⟨_, .int _ _, fun w' => by simp only [execOp, h, e1, e2, eqGuard, binOp, Op.intBits, bitI, ne_eq, not_true_eq_false, if_false, Bool.not_false, if_true]; rfl⟩
  case or => exact ⟨_, .int _ _, fun w' => by simp only [execOp, h, e1, e2, eqGuard, binOp, Op.intBits, bitI, ne_eq, not_true_eq_false, if_false, Bool.not_false, if_true]; rfl⟩
  case xor => exact ⟨_, .int _ _, fun w' => by simp only [execOp, h, e1, e2, eqGuard, binOp, Op.intBits, bitI, ne_eq, not_true_eq_false, if_false, Bool.not_false, if_true]; rfl⟩
  case andNot => exact ⟨_, .int _ _, fun w' => by simp only [execOp, h, e1, e2, eqGuard, binOp, Op.intBits, bitI, ne_eq, not_true_eq_false, if_false, Bool.not_false, if_true]; rfl⟩
  all_goals exact ⟨_, .bool _, fun w' => by simp [execOp, h, e1, e2, eqGuard, binOp, Op.intCmp]⟩

theorem reads_strBin {op : BinOp} {t t' : Nat} {x y : Operand} {a b : ByteArray} (h : o.op = .binOp op t x y t') (hx : opdV regs x = .str a) (hy : opdV regs y = .str b)
    (ok : strBinOk op a b) : Reads P st regs o (strBin op a b) [] := reads_pure fun G A hr => by
  obtain ⟨e1, -⟩ := rep_str (rep_opd hr x) (by rw [hx]; rfl)
  obtain ⟨e2, -⟩ := rep_str (rep_opd hr y) (by rw [hy]; rfl)
  rw [hx] at e1; rw [hy] at e2
  simp only [asS_str] at e1 e2
  cases op <;> simp only [strBinOk] at ok
  case add =>
    have : ¬ (((a.size + b.size : Nat) : Int) > IntKind.i64.max) := by simp [IntKind.max, IntKind.signed, IntKind.bits]; omega
    exact ⟨_, .str _, fun w' => by simp only [execOp, h, e1, e2, eqGuard, binOp, Op.stringOp, if_neg this]; rfl⟩
  all_goals exact ⟨_, .bool _, fun w' => by simp [execOp, h, e1, e2, eqGuard, binOp, Op.stringOp, strLt, bytes_beq]⟩

theorem run_boolTy {t : Nat} (h : (match P.underlying t with | some .bool => true | _ => false) = true) : P.underlying t = some .bool := by
  split at h
  · assumption
  · cases h

theorem reads_boolEq {op : BinOp} {t t' : Nat} {x y : Operand} {a b : Bool} (h : o.op = .binOp op t x y t') (hx : opdV regs x = .bool a) (hy : opdV regs y = .bool b)
    (ho : op = .eql ∨ op = .neq) (ht : (match P.underlying t with | some .bool => true | _ => false) = true) :
    Reads P st regs o (.bool (if op = .eql then a == b else !(a == b))) [] := reads_pure fun G A hr => by
  have e1 := rep_bool (rep_opd hr x) (by rw [hx]; rfl)
  have e2 := rep_bool (rep_opd hr y) (by rw [hy]; rfl)
  rw [hx] at e1; rw [hy] at e2
  simp only [LV.asB_bool] at e1 e2
  have hu := run_boolTy ht
  have he := fun w' => run_equalIn_bool' (P := P) w' 9999 t a b hu
  rcases ho with rfl | rfl
  all_goals exact ⟨_, .bool _, fun w' => by simp [execOp, h, e1, e2, eqGuard, binOp, Op.equal, Op.maxDepth, he]⟩

theorem reads_aggEq {op : BinOp} {t t' m n : Nat} {ks : List CK} {x y : Operand} (h : o.op = .binOp op t x y t') (ho : op = .eql ∨ op = .neq)
    (hs : shapeOf P t = some (true, n)) (hk : kindsOf P m t = some ks) (hm : m ≤ 10000) (hg : P.eqGuardType P.depth t = false)
    (hx : (opdV regs x).isAgg n = true) (hy : (opdV regs y).isAgg n = true) (fx : fitsAll ks (opdV regs x).cells = true) (fy : fitsAll ks (opdV regs y).cells = true) :
    Reads P st regs o (.bool (if op = .eql then flatEq (opdV regs x).cells (opdV regs y).cells else !(flatEq (opdV regs x).cells (opdV regs y).cells))) [] := reads_pure fun G A hr => by
  obtain ⟨xs, e1, hxs, -, -⟩ := rep_agg (rep_opd hr x) hx
  obtain ⟨ys, e2, hys, -, -⟩ := rep_agg (rep_opd hr y) hy
  have he := fun w' => eqOk m t ks hk (10000 - m) w' G (.agg xs) (.agg ys) _ _ true n hs (e1 ▸ rep_opd hr x) (e2 ▸ rep_opd hr y) (fun _ => ⟨hx, hy⟩) (fun e => by cases e) fx fy
  rw [Nat.sub_add_cancel hm] at he
  rcases ho with rfl | rfl
  · exact ⟨_, .bool _, fun w' => by simp [execOp, h, e1, e2, run_eqGuard_agg, hg, run_eql_struct, he]⟩
  · exact ⟨_, .bool _, fun w' => by simp [execOp, h, e1, e2, run_eqGuard_agg, hg, run_neq_struct, he]⟩

/-! ### nil -/
def LV.isNilable : LV → Bool
  | .nilp | .ref .. | .imm .. | .nils | .sl .. | .hs .. | .nilm | .mp _ | .fn .. | .nilf => true
  | _ => false
def LV.isNil : LV → Bool
  | .nilp | .nils | .nilm | .nilf => true
  | _ => false
/-- Types that nil is compared at. -/
def nilTy (P : Program) (t : Nat) (l : LV) : Bool :=
  match P.underlying t, l with
  | some (.pointer _), .nilp | some (.pointer _), .ref .. | some (.pointer _), .imm .. => true
  | some (.slice _), .nils | some (.slice _), .sl .. | some (.slice _), .hs .. => true
  | some (.map ..), .nilm | some (.map ..), .mp _ => true
  | some (.func ..), .nilf | some (.func ..), .fn .. => true
  | _, _ => false
theorem nilTy_ptr {t : Nat} (h : nilTy P t .nilp = true) : ∃ e, P.underlying t = some (.pointer e) := by
  unfold nilTy at h; split at h <;> first | exact ⟨_, ‹_›⟩ | (rename_i e; cases e) | cases h
theorem nilTy_sl {t : Nat} (h : nilTy P t .nils = true) : ∃ e, P.underlying t = some (.slice e) := by
  unfold nilTy at h; split at h <;> first | exact ⟨_, ‹_›⟩ | (rename_i e; cases e) | cases h
theorem nilTy_map {t : Nat} (h : nilTy P t .nilm = true) : ∃ k e, P.underlying t = some (.map k e) := by
  unfold nilTy at h; split at h <;> first | exact ⟨_, _, ‹_›⟩ | (rename_i e; cases e) | cases h
theorem nilTy_fn {t : Nat} (h : nilTy P t .nilf = true) : ∃ a b c, P.underlying t = some (.func a b c) := by
  unfold nilTy at h; split at h <;> first | exact ⟨_, _, _, ‹_›⟩ | (rename_i e; cases e) | cases h
theorem bin_eql_ptr (t : Nat) (a b : Option Addr) : binOp .eql t (.pointer a) (.pointer b) = (do pure (.bool ((← Op.equal t (.pointer a) (.pointer b))))) := rfl
theorem bin_neq_ptr (t : Nat) (a b : Option Addr) : binOp .neq t (.pointer a) (.pointer b) = (do pure (.bool (!(← Op.equal t (.pointer a) (.pointer b))))) := rfl
theorem bin_eql_sl (t : Nat) (a b : Option Addr) (n c m d : Nat) : binOp .eql t (.slice a n c) (.slice b m d) = (do pure (.bool ((← Op.equal t (.slice a n c) (.slice b m d))))) := rfl
theorem bin_neq_sl (t : Nat) (a b : Option Addr) (n c m d : Nat) : binOp .neq t (.slice a n c) (.slice b m d) = (do pure (.bool (!(← Op.equal t (.slice a n c) (.slice b m d))))) := rfl
theorem bin_eql_map (t : Nat) (a b : Option Nat) : binOp .eql t (.map a) (.map b) = (do pure (.bool ((← Op.equal t (.map a) (.map b))))) := rfl
theorem bin_neq_map (t : Nat) (a b : Option Nat) : binOp .neq t (.map a) (.map b) = (do pure (.bool (!(← Op.equal t (.map a) (.map b))))) := rfl
theorem bin_eql_fn (t : Nat) (f : Fn) (a b : Array Value) : binOp .eql t (.func f a b) .nilFunc = (do pure (.bool ((← Op.equal t (.func f a b) .nilFunc)))) := rfl
theorem bin_neq_fn (t : Nat) (f : Fn) (a b : Array Value) : binOp .neq t (.func f a b) .nilFunc = (do pure (.bool (!(← Op.equal t (.func f a b) .nilFunc)))) := rfl
theorem bin_eql_nf (t : Nat)  : binOp .eql t .nilFunc .nilFunc = (do pure (.bool ((← Op.equal t .nilFunc .nilFunc)))) := rfl
theorem bin_neq_nf (t : Nat)  : binOp .neq t .nilFunc .nilFunc = (do pure (.bool (!(← Op.equal t .nilFunc .nilFunc)))) := rfl
theorem equal_ptr {t e : Nat} (hd : P.underlying t = some (.pointer e)) (a : Option Addr) (w : World) : (Op.equal t (.pointer a) (.pointer none)).run P w = .ok a.isNone w := by
  refine (?_ : ∀ d : Nat, (Op.equalIn (d + 1) t _ _).run P w = _) 9999
  intro d
  cases a <;> simp [Op.equalIn, run_underlying hd w]
theorem equal_sl {t e : Nat} (hd : P.underlying t = some (.slice e)) (a : Option Addr) (n c : Nat) (w : World) : (Op.equal t (.slice a n c) (.slice none 0 0)).run P w = .ok a.isNone w := by
  refine (?_ : ∀ d : Nat, (Op.equalIn (d + 1) t _ _).run P w = _) 9999
  intro d
  cases a <;> simp [Op.equalIn, run_underlying hd w]
theorem equal_map {t k e : Nat} (hd : P.underlying t = some (.map k e)) (a : Option Nat) (w : World) : (Op.equal t (.map a) (.map none)).run P w = .ok a.isNone w := by
  refine (?_ : ∀ d : Nat, (Op.equalIn (d + 1) t _ _).run P w = _) 9999
  intro d
  cases a <;> simp [Op.equalIn, run_underlying hd w]
theorem equal_fn {t : Nat} {x y : Array TypeId} {z : Bool} (hd : P.underlying t = some (.func x y z)) (f : Fn) (a b : Array Value) (w : World) : (Op.equal t (.func f a b) .nilFunc).run P w = .ok false w := by
  refine (?_ : ∀ d : Nat, (Op.equalIn (d + 1) t _ _).run P w = _) 9999
  intro d
  simp [Op.equalIn, run_underlying hd w]
theorem equal_nf {t : Nat} {x y : Array TypeId} {z : Bool} (hd : P.underlying t = some (.func x y z)) (w : World) : (Op.equal t .nilFunc .nilFunc).run P w = .ok true w := by
  refine (?_ : ∀ d : Nat, (Op.equalIn (d + 1) t _ _).run P w = _) 9999
  intro d
  simp [Op.equalIn, run_underlying hd w]
theorem reads_nilEq {op : BinOp} {t t' : Nat} {x y : Operand} (h : o.op = .binOp op t x y t') (ho : op = .eql ∨ op = .neq) (hx : nilTy P t (opdV regs x) = true) (hn : (opdV regs y).isNil = true) (hy : nilTy P t (opdV regs y) = true) :
    Reads P st regs o (.bool (if op = .eql then (opdV regs x).isNil else !(opdV regs x).isNil)) [] := reads_pure fun G A hr => by
  have rx := rep_opd hr x
  have ry := rep_opd hr y
  obtain ⟨v, hv⟩ : ∃ v, A.eval x = v := ⟨_, rfl⟩
  obtain ⟨u, hu⟩ : ∃ u, A.eval y = u := ⟨_, rfl⟩
  rw [hv] at rx; rw [hu] at ry
  generalize opdV regs x = l at *
  generalize opdV regs y = k at *
  refine ⟨_, .bool _, fun w' => ?_⟩
  cases k <;> simp only [LV.isNil, Bool.false_eq_true] at hn <;> cases ry
  · obtain ⟨e, hd⟩ := nilTy_ptr hy
    cases l <;> simp only [nilTy, hd, Bool.false_eq_true] at hx <;> cases rx <;> rcases ho with rfl | rfl <;>
      simp only [execOp, h, hv, hu, eqGuard, bin_eql_ptr, bin_neq_ptr] <;> simp [equal_ptr hd, LV.isNil]
  · obtain ⟨e, hd⟩ := nilTy_sl hy
    cases l <;> simp only [nilTy, hd, Bool.false_eq_true] at hx <;> cases rx <;> rcases ho with rfl | rfl <;>
      simp only [execOp, h, hv, hu, eqGuard, bin_eql_sl, bin_neq_sl] <;> simp [equal_sl hd, LV.isNil]
  · obtain ⟨e, e', hd⟩ := nilTy_map hy
    cases l <;> simp only [nilTy, hd, Bool.false_eq_true] at hx <;> cases rx <;> rcases ho with rfl | rfl <;>
      simp only [execOp, h, hv, hu, eqGuard, bin_eql_map, bin_neq_map] <;> simp [equal_map hd, LV.isNil]
  · obtain ⟨e, e', e'', hd⟩ := nilTy_fn hy
    cases l <;> simp only [nilTy, hd, Bool.false_eq_true] at hx <;> cases rx <;> rcases ho with rfl | rfl <;>
      simp only [execOp, h, hv, hu, eqGuard, bin_eql_fn, bin_neq_fn, bin_eql_nf, bin_neq_nf] <;> simp [equal_fn hd, equal_nf hd, LV.isNil]

/-! ### Operations on one operand; conversions -/
theorem reads_not {t : Nat} {x : Operand} (h : o.op = .unOp .not t x) (hx : (opdV regs x).isB = true) : Reads P st regs o (.bool !(opdV regs x).asB) [] := reads_pure fun G A hr => by
  have e1 := rep_bool (rep_opd hr x) hx
  exact ⟨_, .bool _, fun w' => by simp [execOp, h, e1, Op.unary]⟩
theorem reads_neg {t : Nat} {x : Operand} {k : IntKind} {a : Int} (h : o.op = .unOp .neg t x) (hx : opdV regs x = .int k a) : Reads P st regs o (.int k (k.wrap (-a))) [] := reads_pure fun G A hr => by
  obtain ⟨q, e1, e1'⟩ := rep_int (rep_opd hr x) (by rw [hx]; rfl)
  rw [hx] at e1 e1'; simp only [asI_int] at e1 e1'; injection e1' with e1'; subst e1'
  exact ⟨_, .int _ _, fun w' => by simp [execOp, h, e1, Op.unary, Op.intArith]⟩
theorem reads_compl {t : Nat} {x : Operand} {k : IntKind} {a : Int} (h : o.op = .unOp .xor t x) (hx : opdV regs x = .int k a) : Reads P st regs o (.int k (bitI .xor k (if k.signed then -1 else k.max) a)) [] := reads_pure fun G A hr => by
  obtain ⟨q, e1, e1'⟩ := rep_int (rep_opd hr x) (by rw [hx]; rfl)
  rw [hx] at e1 e1'; simp only [asI_int] at e1 e1'; injection e1' with e1'; subst e1'
  exact ⟨_, .int _ _, fun w' => by simp only [execOp, h, e1, Op.unary, Op.intBits, bitI]; rfl⟩
def intTy (P : Program) (t : Nat) : Option IntKind := match P.underlying t with | some (.int k) => some k | _ => none
theorem reads_intConv {s d : Nat} {x : Operand} {k q : IntKind} {a : Int} (h : o.op = .convert s d x) (hs : (P.underlying s).isSome = true) (hd : intTy P d = some q) (hx : opdV regs x = .int k a) :
    Reads P st regs o (.int q (q.wrap a)) [] := reads_pure fun G A hr => by
  obtain ⟨r, e1, e1'⟩ := rep_int (rep_opd hr x) (by rw [hx]; rfl)
  rw [hx] at e1 e1'; simp only [asI_int] at e1 e1'; injection e1' with e1'; subst e1'
  unfold intTy at hd
  split at hd <;> simp at hd
  rename_i k2 hu
  subst hd
  obtain ⟨ds, hs⟩ := Option.isSome_iff_exists.1 hs
  exact ⟨_, .int _ _, fun w' => by simp [execOp, h, e1, convert, run_underlying hs w', run_underlying hu w', Conv.intToInt]⟩
theorem reads_strConv {s d : Nat} {x : Operand} {a : ByteArray} (h : o.op = .convert s d x) (hs : (P.underlying s).isSome = true) (hd : isStrTy P d = true) (hx : opdV regs x = .str a) :
    Reads P st regs o (.str a) [] := reads_pure fun G A hr => by
  obtain ⟨e1, -⟩ := rep_str (rep_opd hr x) (by rw [hx]; rfl)
  rw [hx] at e1; simp only [asS_str] at e1
  unfold isStrTy at hd
  split at hd <;> simp at hd
  rename_i hu
  obtain ⟨ds, hs⟩ := Option.isSome_iff_exists.1 hs
  exact ⟨_, .str _, fun w' => by cases ds <;> simp [execOp, h, e1, convert, run_underlying hs w', run_underlying hu w']⟩

/-! ### len; smallest and greatest -/
def lenV (l : LV) : Int :=
  match l with
  | .str s => s.size
  | .sl _ _ es => es.length
  | .hs _ _ n _ => n
  | _ => 0
@[simp] theorem lenV_str (s : ByteArray) : lenV (.str s) = s.size := rfl
@[simp] theorem lenV_sl (ow : Own) (k : Nat) (es : List LV) : lenV (.sl ow k es) = es.length := rfl
@[simp] theorem lenV_nils : lenV .nils = 0 := rfl
def lenTy (P : Program) (t : Nat) (l : LV) : Bool :=
  match P.underlying t, l with
  | some .string, .str _ => true
  | some (.slice _), .nils => true
  | some (.slice _), .sl .. => true
  | some (.slice _), .hs .. => true
  | some (.map ..), .nilm => true
  | _, _ => false
theorem reads_len {x : Operand} {t : Nat} (h : o.op = .call { callee := .builtin .len, args := #[x], argTypes := #[t] }) (hx : lenTy P t (opdV regs x) = true) :
    Reads P st regs o (.int .i64 (lenV (opdV regs x))) [] := reads_pure fun G A hr => by
  have rx := rep_opd hr x
  obtain ⟨v, hv⟩ : ∃ v, A.eval x = v := ⟨_, rfl⟩
  rw [hv] at rx
  generalize opdV regs x = l at *
  refine ⟨_, .int _ _, fun w' => ?_⟩
  have hd : ∃ d, P.underlying t = some d := by
    unfold lenTy at hx
    split at hx <;> first | exact ⟨_, ‹_›⟩ | cases hx
  obtain ⟨d, hd⟩ := hd
  have hrun := run_underlying hd w'
  cases d <;> cases l <;> simp [lenTy, hd] at hx <;> cases rx <;> simp [execOp, h, resolve, invoke, builtin, hv, Builtin.len_, hrun, lenV, goInt]

theorem reads_min {x y : Operand} {ts : Array Nat} {k k' : IntKind} {a b : Int} (h : o.op = .call { callee := .builtin .min, args := #[x, y], argTypes := ts }) (hx : opdV regs x = .int k a) (hy : opdV regs y = .int k' b) :
    Reads P st regs o (.int k (if b < a then b else a)) [] := reads_pure fun G A hr => by
  obtain ⟨q, e1, e1'⟩ := rep_int (rep_opd hr x) (by rw [hx]; rfl)
  obtain ⟨r, e2, e2'⟩ := rep_int (rep_opd hr y) (by rw [hy]; rfl)
  rw [hx] at e1 e1'; rw [hy] at e2 e2'
  simp only [asI_int] at e1 e2 e1' e2'
  injection e1' with e1'; injection e2' with e2'; subst e1'; subst e2'
  exact ⟨_, .int _ _, fun w' => by simp [execOp, h, resolve, invoke, builtin, e1, e2, Builtin.min_, Builtin.min2, List.foldlM]⟩

/-! ### A part of a text, of a slice -/
def optI (regs : Fr) (d : Int) : Option Operand → Int
  | none => d
  | some x => (opdV regs x).asI
def optOk (regs : Fr) : Option Operand → Bool
  | none => true
  | some x => (opdV regs x).isI
theorem run_bound {G : Ghost} {A : Act} (hr : RepF G A.tmps.toList regs) {x : Operand} (hx : (opdV regs x).isI = true) {y : Nat} {code : BoundsCode} (h0 : 0 ≤ (opdV regs x).asI) (h1 : (opdV regs x).asI ≤ y) (w' : World) :
    (Instr.sliceBound (A.eval x) y code).run P w' = .ok (opdV regs x).asI.toNat w' := by
  obtain ⟨k, e, -⟩ := rep_int (rep_opd hr x) hx
  simp [Instr.sliceBound, e, asIntOf, h0, h1]
theorem run_bounds {G : Ghost} {A : Act} (hr : RepF G A.tmps.toList regs) {isS : Bool} {n c : Nat} {lo hi : Option Operand} (h1 : optOk regs lo = true) (h2 : optOk regs hi = true)
    (hl : 0 ≤ optI regs 0 lo) (hlh : optI regs 0 lo ≤ optI regs n hi) (hh : optI regs n hi ≤ c) (w' : World) :
    (Instr.sliceBounds isS n c (lo.map A.eval) (hi.map A.eval) none).run P w' = .ok ((optI regs 0 lo).toNat, (optI regs n hi).toNat, c) w' := by
  cases lo with
  | none =>
    cases hi with
    | none => simp [Instr.sliceBounds, optI]
    | some y =>
      simp only [optI, optOk] at *
      have := run_bound (P := P) hr h2 (code := if isS then .sliceAcap else .sliceAlen) hlh hh w'
      simp [Instr.sliceBounds, this]
  | some x =>
    cases hi with
    | none =>
      simp only [optI, optOk] at *
      have := run_bound (P := P) hr h1 (code := .sliceB) hl hlh w'
      simp [Instr.sliceBounds, this]
    | some y =>
      simp only [optI, optOk] at *
      have a1 := run_bound (P := P) hr h2 (code := if isS then .sliceAcap else .sliceAlen) (Int.le_trans hl hlh) hh w'
      have a2 := run_bound (P := P) hr h1 (y := (opdV regs y).asI.toNat) (code := .sliceB) hl (by omega) w'
      simp [Instr.sliceBounds, a1, a2]

theorem reads_subStr {t : Nat} {x : Operand} {lo hi : Option Operand} {s : ByteArray} (h : o.op = .slice t x lo hi none) (ht : isStrTy P t = true) (hx : opdV regs x = .str s)
    (h1 : optOk regs lo = true) (h2 : optOk regs hi = true) (hl : 0 ≤ optI regs 0 lo) (hlh : optI regs 0 lo ≤ optI regs s.size hi) (hh : optI regs s.size hi ≤ s.size) :
    Reads P st regs o (.str (s.extract (optI regs 0 lo).toNat (optI regs s.size hi).toNat)) [] := reads_pure fun G A hr => by
  obtain ⟨e1, -⟩ := rep_str (rep_opd hr x) (by rw [hx]; rfl)
  rw [hx] at e1; simp only [asS_str] at e1
  refine ⟨_, .str _, fun w' => ?_⟩
  have hb := run_bounds (P := P) hr (isS := false) h1 h2 hl hlh hh w'
  simp [execOp, h, Instr.sliceAt, run_isStrTy ht w', Instr.slice, e1, hb]

def sliceTy (P : Program) (t : Nat) : Option Nat :=
  match P.underlying t with
  | some (.slice e) => match P.info? e with
    | some i => some i.size
    | none => none
  | _ => none
/-- Who cuts off an end may not append. -/
def cutOwn (o : Own) (n hi : Nat) : Own := if hi = n then o else .no
theorem reads_subSl {t k : Nat} {x : Operand} {lo hi : Option Operand} {ow : Own} {es : List LV} (h : o.op = .slice t x lo hi none) (ht : sliceTy P t = some k) (hx : opdV regs x = .sl ow k es)
    (h1 : optOk regs lo = true) (h2 : optOk regs hi = true) (hl : 0 ≤ optI regs 0 lo) (hlh : optI regs 0 lo ≤ optI regs es.length hi) (hh : optI regs es.length hi ≤ es.length) :
    Reads P st regs o (.sl (cutOwn ow es.length (optI regs es.length hi).toNat) k ((es.drop (optI regs 0 lo).toNat).take ((optI regs es.length hi).toNat - (optI regs 0 lo).toNat))) [] := reads_pure fun G A hr => by
  have rx := rep_opd hr x
  obtain ⟨v, hv⟩ : ∃ v, A.eval x = v := ⟨_, rfl⟩
  rw [hv, hx] at rx
  cases rx with
  | @sl0 a0 _ =>
    have hb := fun w' => run_bounds (P := P) hr (isS := true) (c := 0) h1 h2 hl hlh (by simpa using hh) w'
    simp only [List.length_nil] at hl hlh hh hb
    generalize (optI regs ((0 : Nat) : Int) hi) = H at *
    generalize (optI regs 0 lo) = L at *
    have e1 : H = 0 := by omega
    have e2 : L = 0 := by omega
    subst e1; subst e2
    unfold sliceTy at ht
    split at ht
    · rename_i el hu
      cases hq : P.info? el with
      | none => simp [hq] at ht
      | some inf =>
        refine ⟨.slice (some a0) 0 0, ?_, fun w' => ?_⟩
        · have e : (Own.no : Own) = cutOwn .no 0 (0 : Int).toNat := rfl
          simp only [List.drop_nil, List.take_nil]
          exact (rfl : cutOwn Own.no ([] : List LV).length (Int.toNat 0) = .no) ▸ .sl0
        · simp [execOp, h, Instr.sliceAt, run_underlying hu w', Instr.slice, hv, hb w', sizeOf, typeInfo, hq]
    · cases ht
  | @sl b off cap _ _ _ f hk hf hr' hc ho =>
  have hb := fun w' => run_bounds (P := P) hr (isS := true) (c := cap) h1 h2 hl hlh (by omega) w'
  generalize (optI regs es.length hi) = H at *
  generalize (optI regs 0 lo) = L at *
  have hLH : L.toNat ≤ H.toNat := by omega
  have hHn : H.toNat ≤ es.length := by omega
  have hlen : ((es.drop L.toNat).take (H.toNat - L.toNat)).length = H.toNat - L.toNat := by simp; omega
  unfold sliceTy at ht
  split at ht
  · rename_i el hu
    cases hq : P.info? el with
    | none => simp [hq] at ht
    | some inf =>
      simp only [hq, Option.some.injEq] at ht
      have hsz : ∀ w', (sizeOf el).run P w' = .ok k w' := fun w' => by simp [sizeOf, typeInfo, hq, ht]
      by_cases hcap : cap = L.toNat
      · -- nothing is left: the old address
        have hz : H.toNat - L.toNat = 0 := by omega
        have hnil : (es.drop L.toNat).take (H.toNat - L.toNat) = [] := by rw [hz]; rfl
        refine ⟨.slice (some ⟨b, off, none⟩) 0 0, ?_, fun w' => ?_⟩
        · rw [hnil]
          refine Rep.sl (es := []) f (fun e he => by cases he) (fun i j hi => by cases hi) (fun i e j c hi => by cases hi) (Nat.zero_le _) ?_
          unfold cutOwn; split
          · cases ow with
            | no => trivial
            | tok t ver => obtain ⟨x, h1, _⟩ := ho; exact ⟨x, h1, fun e => by simp at e⟩
          · trivial
        · have hb' := hb w'
          rw [hcap] at hb'
          simp [execOp, h, Instr.sliceAt, run_underlying hu w', Instr.slice, hv, hb', hsz w', hcap, hz]
      · refine ⟨.slice (some ⟨b, off + L.toNat * k, none⟩) ((es.drop L.toNat).take (H.toNat - L.toNat)).length (cap - L.toNat), ?_, fun w' => ?_⟩
        · refine .sl (fun i => f (L.toNat * k + i)) (fun e he => hk e (List.mem_of_mem_drop (List.mem_of_mem_take he))) (fun i j hi hj => ?_) (fun i e j c he hc' => ?_) (by rw [hlen]; omega) ?_
          · rw [hlen] at hi
            have := hf (L.toNat + i) j (by omega) hj
            rw [Nat.add_mul] at this
            rw [Nat.add_assoc off, ← Nat.add_assoc (L.toNat * k)] ; rw [← Nat.add_assoc] at this
            simpa [Nat.add_assoc] using this
          · rw [List.getElem?_take] at he
            split at he
            · rw [List.getElem?_drop] at he
              have := hr' (L.toNat + i) e j c he hc'
              rw [Nat.add_mul] at this
              simpa [Nat.add_assoc] using this
            · cases he
          · unfold cutOwn; split
            · rename_i e
              rw [hlen, e]
              have h3 : off + L.toNat * k + (es.length - L.toNat) * k = off + es.length * k := by
                rw [Nat.add_assoc, ← Nat.add_mul]; congr 2; omega
              have h4 : off + L.toNat * k + (cap - L.toNat) * k = off + cap * k := by
                rw [Nat.add_assoc, ← Nat.add_mul]; congr 2; omega
              rw [h3, h4]
              cases ow with
              | no => trivial
              | tok t ver => obtain ⟨x, h1, h2⟩ := ho; exact ⟨x, h1, fun e => h2 (by omega)⟩
            · trivial
        · simp [execOp, h, Instr.sliceAt, run_underlying hu w', Instr.slice, hv, hb w', hsz w', hcap, addr_add]
          omega
  · cases ht
end
end Go.L

set_option linter.unusedVariables false
set_option linter.unusedSimpArgs false
namespace Go.L
open Go Go.RowKit

/-- An operation that may do something: what holds of its value and of the state behind it. -/
def Does (P : Program) (st : St) (regs : Fr) (o : Oper) (K : LV → St → Prop) : Prop :=
  ∀ (G : Ghost) (a : Act) (w : World), Rel G st w → RepF G a.tmps.toList regs → ∀ (N : Act → World → Prop) (Qx : Exit → Act → World → Prop),
    (∀ v l st' w' G', Step G st w G' st' w' → Rep G' v l → K l st' → N (a.put o.dst v) w') → ∀ r, o.wpIn (fw r) 0 P a w N Qx

theorem semAt_value {P : Program} {ρ : Operand → Value} {o : Oper} {w w' : World} {v : Value} (h : (execOp ρ o).run P w = .ok (.value v) w') (r : Option Nat) : Oper.semAt r ρ o = execOp ρ o :=
  Oper.semAt_eq r ρ o fun c e => by
    unfold execOp at h
    rw [e] at h
    simp only [Sem.run_bind] at h
    revert h
    cases (resolve ρ c o.type).run P w <;> simp [Result.andThen]
theorem semAt_skip {P : Program} {ρ : Operand → Value} {o : Oper} {w w' : World} (h : (execOp ρ o).run P w = .ok .skip w') (r : Option Nat) : Oper.semAt r ρ o = execOp ρ o :=
  Oper.semAt_eq r ρ o fun c e => by
    unfold execOp at h
    rw [e] at h
    simp only [Sem.run_bind] at h
    revert h
    cases (resolve ρ c o.type).run P w <;> simp [Result.andThen]
theorem wpIn_value {P : Program} {o : Oper} {a : Act} {w w' : World} {v : Value} {N : Act → World → Prop} {Qx : Exit → Act → World → Prop} (h : (execOp a.eval o).run P w = .ok (.value v) w') (k : N (a.put o.dst v) w') (r : Option Nat) : o.wpIn (fw r) 0 P a w N Qx :=
  ⟨fun _ _ => trivial, by rw [fw_round, semAt_value h, h]; exact k⟩
theorem wpIn_none {P : Program} {o : Oper} {a : Act} {w w' : World} {N : Act → World → Prop} {Qx : Exit → Act → World → Prop} (h : (execOp a.eval o).run P w = .ok .skip w') (k : N (a.put o.dst Go.undef) w') (r : Option Nat) : o.wpIn (fw r) 0 P a w N Qx :=
  ⟨fun _ _ => trivial, by rw [fw_round, semAt_skip h, h]; exact k⟩

section
variable {P : Program} {st : St} {regs : Fr} {o : Oper} {K : LV → St → Prop}

theorem does_reads {l : LV} {deps : List Nat} (h : Reads P st regs o l deps) (k : K l st) : Does P st regs o K := fun G a w hR hr N Qx hn => by
  obtain ⟨v, hv, hrun⟩ := h G a w hR hr
  exact wpIn_value (hrun w (fun _ _ _ _ => rfl) hR.imm) (hn v l st w G (.refl hR) hv k)

/-- By the operation's run: a value. -/
theorem does_run (h : ∀ (G : Ghost) (a : Act) (w : World), Rel G st w → RepF G a.tmps.toList regs →
    ∃ v l st' w' G', (execOp a.eval o).run P w = .ok (.value v) w' ∧ Step G st w G' st' w' ∧ Rep G' v l ∧ K l st') : Does P st regs o K := fun G a w hR hr N Qx hn => by
  obtain ⟨v, l, st', w', G', hrun, hs, hv, k⟩ := h G a w hR hr
  exact wpIn_value hrun (hn v l st' w' G' hs hv k)
theorem does_skip (h : ∀ (G : Ghost) (a : Act) (w : World), Rel G st w → RepF G a.tmps.toList regs →
    ∃ st' w' G', (execOp a.eval o).run P w = .ok .skip w' ∧ Step G st w G' st' w' ∧ K .skp st') : Does P st regs o K := fun G a w hR hr N Qx hn => by
  obtain ⟨st', w', G', hrun, hs, k⟩ := h G a w hR hr
  exact wpIn_none hrun (hn Go.undef .skp st' w' G' hs .skp k)

/-! ### Cells -/
def LV.one : LV → Bool
  | .und | .skp | .agg _ | .tup _ => false
  | _ => true
def LV.solid (l : LV) : Bool := l.cells.all LV.one
theorem rep_one {G : Ghost} {v : Value} {l : LV} (h : Rep G v l) (ho : l.one = true) : v.oneCell' = true := by
  cases h <;> simp [LV.one] at ho <;> rfl
theorem one_cells {v : Value} (h : v.oneCell' = true) : v.cells = #[v] := by cases v <;> simp [Value.oneCell'] at h <;> rfl
theorem rep_cells {G : Ghost} {v : Value} {l : LV} (h : Rep G v l) (hs : l.solid = true) : RepAll G v.cells.toList l.cells ∧ ∀ x ∈ v.cells.toList, x.oneCell' = true := by
  by_cases ha : ∃ cs, l = .agg cs
  · obtain ⟨cs, rfl⟩ := ha
    cases h with | agg hl h =>
    rename_i vs
    refine ⟨⟨by simpa [Value.cells, LV.cells] using hl, fun i v l hv hl' => h i v l (by simpa [Value.cells] using hv) hl'⟩, fun x hx => ?_⟩
    simp only [Value.cells, Array.mem_toList_iff] at hx
    obtain ⟨i, hi, rfl⟩ := Array.mem_iff_getElem.1 hx
    have hi' : i < cs.length := by omega
    have hc : cs[i].one = true := by
      simp only [LV.solid, LV.cells, List.all_eq_true] at hs
      exact hs _ (List.getElem_mem hi')
    exact rep_one (h i _ _ (by simp [hi]) (List.getElem?_eq_getElem hi')) hc
  · have hc : l.cells = [l] := by
      cases l <;> simp [LV.cells]
      exact (ha ⟨_, rfl⟩).elim
    have ho : l.one = true := by simpa [LV.solid, hc] using hs
    have hv := rep_one h ho
    rw [one_cells hv, hc]
    refine ⟨⟨rfl, fun i x y hx hy => ?_⟩, fun x hx => by simp at hx; subst hx; exact hv⟩
    cases i with
    | zero => simp at hx hy; subst hx; subst hy; exact h
    | succ i => simp at hx

theorem rep_nonagg {G : Ghost} {v : Value} {l : LV} (h : Rep G v l) : True := trivial

/-! ### New variables -/
theorem does_box {t : Nat} {x : Operand} (h : o.op = .box t x) (hx : (opdV regs x).solid = true) (k : K (.ref st.heap.length 0) (st.push (.cells t (opdV regs x).cells 0))) : Does P st regs o K :=
  does_run fun G a w hR hr => by
    obtain ⟨h1, h2⟩ := rep_cells (rep_opd hr x) hx
    refine ⟨.pointer (some ⟨w.heap.size, 0, none⟩), _, _, _, _, ?_, step_new hR (o := .cells (a.eval x).cells t) (l := .cells t (opdV regs x).cells 0) ⟨_, rfl, h1⟩, .ref (by simp [Ghost.addBlk]), k⟩
    simp [execOp, h, Instr.box, newVar, newRow]

def ofZ : Value → LV
  | .agg vs => .agg (vs.toList.map ofVal)
  | v => ofVal v
theorem rep_ofZ (G : Ghost) (v : Value) : Rep G v (ofZ v) := by
  cases v <;> first
    | exact rep_ofVal G _
    | (refine .agg (by simp) fun i v l hv hl => ?_
       simp only [List.getElem?_map, Option.map_eq_some_iff, Array.getElem?_toList] at hl
       obtain ⟨x, hx, rfl⟩ := hl
       rw [hx] at hv; injection hv with hv; subst hv
       exact rep_ofVal G _)
/-- The zero value of a type. -/
def zeroOf (P : Program) (t : Nat) : Option LV :=
  match P.info? t with
  | none => none
  | some i => match i.zero with
    | none => none
    | some z => some (ofZ z)
theorem run_zeroOf {t : Nat} {l : LV} (h : zeroOf P t = some l) (G : Ghost) : ∃ z, Rep G z l ∧ ∀ w, (zeroValue t).run P w = .ok z w := by
  unfold zeroOf at h
  cases hi : P.info? t with
  | none => simp [hi] at h
  | some i =>
    cases hz : i.zero with
    | none => simp [hi, hz] at h
    | some z =>
      simp only [hi, hz, Option.some.injEq] at h
      subst h
      exact ⟨z, rep_ofZ G z, fun w => by simp [zeroValue, typeInfo, hi, hz]⟩
theorem does_alloc {t : Nat} {z : LV} (h : o.op = .alloc t) (hz : zeroOf P t = some z) (hs : z.solid = true) (k : K (.ref st.heap.length 0) (st.push (.cells t z.cells 0))) : Does P st regs o K :=
  does_run fun G a w hR hr => by
    obtain ⟨v, hv, hrun⟩ := run_zeroOf hz G
    obtain ⟨h1, h2⟩ := rep_cells hv hs
    refine ⟨.pointer (some ⟨w.heap.size, 0, none⟩), _, _, _, _, ?_, step_new hR (o := .cells v.cells t) (l := .cells t z.cells 0) ⟨_, rfl, h1⟩, .ref (by simp [Ghost.addBlk]), k⟩
    simp [execOp, h, Instr.alloc, hrun w, newVar, newRow]

/-! ### Stores -/
def splice (cs : List LV) (off : Nat) (new : List LV) : List LV := cs.take off ++ new ++ cs.drop (off + new.length)
theorem repAll_splice {G : Ghost} {vs us : List Value} {cs new : List LV} {off : Nat} (h : RepAll G vs cs) (hn : RepAll G us new) (hl : off + new.length ≤ cs.length) :
    RepAll G (vs.take off ++ us ++ vs.drop (off + us.length)) (splice cs off new) := by
  obtain ⟨h1, h2⟩ := h
  obtain ⟨n1, n2⟩ := hn
  refine ⟨by simp [splice, h1, n1], fun i v l hv hl' => ?_⟩
  have e1 : (vs.take off).length = off := by simp; omega
  have e2 : (cs.take off).length = off := by simp; omega
  unfold splice at hl'
  rw [List.append_assoc, List.getElem?_append] at hv hl'
  rw [e1] at hv; rw [e2] at hl'
  by_cases hi : i < off
  · rw [if_pos hi, List.getElem?_take, if_pos hi] at hv hl'
    exact h2 i v l hv hl'
  · rw [if_neg hi, List.getElem?_append] at hv hl'
    rw [n1] at hv
    by_cases hj : i - off < new.length
    · rw [if_pos hj] at hv hl'; exact n2 _ v l hv hl'
    · rw [if_neg hj, List.getElem?_drop] at hv hl'
      exact h2 _ v l hv hl'

def sizeOfT (P : Program) (t : Nat) : Option Nat := match P.info? t with | some i => some i.size | none => none
def storeSt (st : St) (a : LV) (x : LV) : St :=
  match a with
  | .ref id off => match st.heap[id]? with
    | some (.cells ty cs ver) => st.put id (.cells ty (splice cs off x.cells) (ver + 1))
    | _ => st
  | _ => st
def storeOk (st : St) (a : LV) (x : LV) (n : Nat) : Prop :=
  match a with
  | .ref id off => x.solid = true ∧ x.cells.length = n ∧ off + n ≤ (objCells st id).length ∧ (match st.heap[id]? with | some (.cells ..) => True | _ => False)
  | _ => False

theorem does_store {t n : Nat} {x y : Operand} (h : o.op = .store t x y) (hn : sizeOfT P t = some n) (hok : storeOk st (opdV regs x) (opdV regs y) n) (k : K .skp (storeSt st (opdV regs x) (opdV regs y))) : Does P st regs o K :=
  does_skip fun G a w hR hr => by
    have rx := rep_opd hr x
    have ry := rep_opd hr y
    obtain ⟨v, hv⟩ : ∃ v, a.eval x = v := ⟨_, rfl⟩
    rw [hv] at rx
    generalize opdV regs x = l at *
    generalize opdV regs y = m at *
    cases l <;> simp only [storeOk] at hok
    rename_i id off
    cases rx with | @ref _ _ b hb =>
    obtain ⟨hs, hlen, hl, hcell⟩ := hok
    obtain ⟨h1, h2⟩ := rep_cells ry hs
    split at hcell
    · rename_i ty cs ver hid
      simp only [objCells, hid] at hl
      obtain ⟨b', obj, e1, hbase, e3, arr, rfl, hrep⟩ := hR.objs id _ hid
      rw [hb] at e1; injection e1 with e1; subst e1
      have hsz : (a.eval y).cells.size = n := by rw [← hlen, ← h1.1, Array.length_toList]
      have hasz : arr.size = cs.length := by have := hrep.1; rwa [Array.length_toList] at this
      have hst := run_storeCells_at P b off ty (a.eval y).cells.toList 0 arr w e3 (by rw [Array.length_toList, hsz]; omega) h2
      simp only [Nat.add_zero] at hst
      have hi : (sizeOf t).run P w = .ok n w := by
        unfold sizeOfT at hn
        cases hq : P.info? t with
        | none => simp [hq] at hn
        | some i => simp only [hq, Option.some.injEq] at hn; simp [sizeOf, typeInfo, hq, hn]
      refine ⟨_, w.setRow b (arr.toList.take off ++ (a.eval y).cells.toList ++ arr.toList.drop (off + (a.eval y).cells.toList.length)).toArray, G, ?_, ?_, k⟩
      · simp [execOp, h, hv, Instr.storeAt, Instr.sureAddr, storeVar, hi, hsz, hst]
      · have hss : storeSt st (.ref id off) m = st.put id (.cells ty (splice cs off m.cells) (ver + 1)) := by simp [storeSt, hid]
        rw [hss]
        refine step_set hR hid hb rfl (by simp [LObj.ver]) (by simp [World.setRow]) (fun k hk => setRow_other w b k _ hk) (setRow_heap w b arr _ ty _ e3) ⟨_, rfl, ?_⟩ rfl rfl rfl
        have := repAll_splice (off := off) hrep h1 (by omega)
        simpa using this
    · exact hcell.elim

/-! ### Built values -/
def fillL (place : Nat → Option (Nat × Nat)) (cells : List LV) : List (Nat × LV) → List LV
  | [] => cells
  | (i, l) :: r => match place i with
    | none => cells
    | some (off, _) => fillL place (splice cells off l.cells) r
def fillOk (place : Nat → Option (Nat × Nat)) (n : Nat) : List (Nat × LV) → Prop
  | [] => True
  | (i, l) :: r => (match place i with
    | none => False
    | some (off, size) => l.solid = true ∧ l.cells.length = size ∧ off + size ≤ n) ∧ fillOk place n r

theorem fold_splice (v : List Value) (off : Nat) (cs : Array Value) (h : off + v.length ≤ cs.size) :
    (v.zipIdx 0).foldl (fun cs (x : Value × Nat) => cs.setIfInBounds (off + x.2) x.1) cs = (cs.toList.take off ++ v ++ cs.toList.drop (off + v.length)).toArray := by
  obtain ⟨h1, h2⟩ := Great.foldl_set off v 0 cs
  apply Array.ext_getElem?
  intro k
  rw [h2 k]
  simp only [Nat.add_zero, Nat.sub_zero, List.getElem?_toArray]
  rw [List.append_assoc, List.getElem?_append]
  have e1 : (cs.toList.take off).length = off := by simp; omega
  rw [e1]
  by_cases hk : k < off
  · rw [if_neg (by omega), if_pos hk, List.getElem?_take, if_pos hk, Array.getElem?_toList]
  · rw [if_neg hk, List.getElem?_append]
    by_cases hj : k - off < v.length
    · rw [if_pos (by omega), if_pos hj]
    · rw [if_neg (by omega), if_neg hj, List.getElem?_drop, Array.getElem?_toList]
      congr 1; omega

theorem run_fill {G : Ghost} (place : Nat → Option (Nat × Nat)) : ∀ (ps : List (Nat × Value)) (ls : List (Nat × LV)) (vs : Array Value) (cs : List LV), ps.length = ls.length →
    (∀ (i : Nat) (p : Nat × Value) (l : Nat × LV), ps[i]? = some p → ls[i]? = some l → p.1 = l.1 ∧ Rep G p.2 l.2) → RepAll G vs.toList cs → fillOk place cs.length ls →
    ∃ ws, Instr.fill place vs ps = some ws ∧ RepAll G ws.toList (fillL place cs ls) ∧ (fillL place cs ls).length = cs.length
  | [], [], vs, cs, _, _, h, _ => ⟨vs, rfl, h, rfl⟩
  | [], _ :: _, _, _, hl, _, _, _ => by simp at hl
  | _ :: _, [], _, _, hl, _, _, _ => by simp at hl
  | (i, v) :: ps, (j, l) :: ls, vs, cs, hl, hr, h, hok => by
    obtain ⟨e, hv⟩ := hr 0 _ _ rfl rfl
    simp only at e hv; subst e
    obtain ⟨hp, hok⟩ := hok
    cases hq : place i with
    | none => simp [hq] at hp
    | some x =>
      obtain ⟨off, size⟩ := x
      simp only [hq] at hp
      obtain ⟨hs, hlen, hb⟩ := hp
      obtain ⟨c1, c2⟩ := rep_cells hv hs
      have hsz : v.cells.size = size := by rw [← hlen, ← c1.1, Array.length_toList]
      have hvs : vs.size = cs.length := by have := h.1; rwa [Array.length_toList] at this
      have hcond : ¬ ((decide (v.cells.size ≠ size) || decide (off + v.cells.size > vs.size)) = true) := by simp [hsz]; omega
      have hfold : v.cells.zipIdx.foldl (fun cs (x : Value × Nat) => cs.setIfInBounds (off + x.2) x.1) vs = (vs.toList.take off ++ v.cells.toList ++ vs.toList.drop (off + v.cells.toList.length)).toArray := by
        rw [← fold_splice v.cells.toList off vs (by rw [Array.length_toList]; omega), ← Array.foldl_toList, Array.toList_zipIdx]
      have hsp : RepAll G (vs.toList.take off ++ v.cells.toList ++ vs.toList.drop (off + v.cells.toList.length)).toArray.toList (splice cs off l.cells) := by
        simpa using repAll_splice (off := off) h c1 (by omega)
      have hlen2 : (splice cs off l.cells).length = cs.length := by simp [splice]; omega
      obtain ⟨ws, w1, w2, w3⟩ := run_fill place ps ls _ _ (by simpa using hl) (fun i p q hp hq => hr (i + 1) p q (by simpa using hp) (by simpa using hq)) hsp (by rw [hlen2]; exact hok)
      refine ⟨ws, ?_, ?_, ?_⟩
      · simp only [Instr.fill, hq]
        rw [if_neg hcond, hfold]; exact w1
      · simp only [fillL, hq]; exact w2
      · simp only [fillL, hq]; omega

/-- Do the parts lie one behind the other, from 'm' on, and fill all? -/
def tiled (place : Nat → Option (Nat × Nat)) (n : Nat) : Nat → List Nat → Bool
  | m, [] => m == n
  | m, i :: r => match place i with
    | none => false
    | some (off, size) => off == m && tiled place n (m + size) r
theorem fillL_tiled {place : Nat → Option (Nat × Nat)} {n : Nat} : ∀ (ls : List (Nat × LV)) (m : Nat) (cs : List LV), cs.length = n → tiled place n m (ls.map (·.1)) = true → fillOk place n ls →
    fillL place cs ls = cs.take m ++ ls.flatMap (·.2.cells)
  | [], m, cs, hl, ht, _ => by
    simp only [tiled, List.map_nil, beq_iff_eq] at ht
    subst ht
    simp [fillL, List.take_of_length_le (Nat.le_of_eq hl)]
  | (i, l) :: r, m, cs, hl, ht, hok => by
    obtain ⟨hp, hok⟩ := hok
    cases hq : place i with
    | none => simp [hq] at hp
    | some x =>
      obtain ⟨off, size⟩ := x
      simp only [hq] at hp
      obtain ⟨hs, hlen, hb⟩ := hp
      simp only [tiled, List.map_cons, hq, Bool.and_eq_true, beq_iff_eq] at ht
      obtain ⟨rfl, ht⟩ := ht
      have hlen2 : (splice cs off l.cells).length = n := by simp [splice]; omega
      simp only [fillL, hq]
      rw [fillL_tiled r (off + size) _ hlen2 ht hok, List.flatMap_cons, ← List.append_assoc]
      congr 1
      unfold splice
      rw [List.take_append_of_le_length (by simp; omega), List.take_of_length_le (by simp; omega)]

/-- The places of a type's parts. -/
def placesOf (P : Program) (t : Nat) : Option (Nat → Option (Nat × Nat)) :=
  match P.underlying t with
  | some (.struct fs) => match fs.toList.mapM (fun f => (sizeOfT P f.type).map fun n => (f.offset, n)) with
    | some ps => some (fun i => ps[i]?)
    | none => none
  | some (.array _ e) => match sizeOfT P e with
    | some n => some (fun i => some (i * n, n))
    | none => none
  | _ => none
def buildV (place : Nat → Option (Nat × Nat)) (z : LV) (ps : List (Nat × LV)) : LV :=
  .agg (bif tiled place z.cells.length 0 (ps.map (·.1)) then ps.flatMap (·.2.cells) else fillL place z.cells ps)
def evalParts (regs : Fr) (ps : Array (Nat × Operand)) : List (Nat × LV) := ps.toList.map fun (i, x) => (i, opdV regs x)
theorem run_places {t : Nat} {fs : Array Field} {ps : List (Nat × Nat)} (h : fs.toList.mapM (fun f => (sizeOfT P f.type).map fun n => (f.offset, n)) = some ps) (w : World) :
    (fs.mapM fun f => do pure (f.offset, ← sizeOf f.type) : Sem (Array (Nat × Nat))).run P w = .ok ps.toArray w := by
  rw [← Array.toArray_toList (xs := fs)] 
  rw [List.mapM_toArray]
  generalize fs.toList = l at *
  have key : ∀ (l : List Field) (ps : List (Nat × Nat)), l.mapM (fun f => (sizeOfT P f.type).map fun n => (f.offset, n)) = some ps →
      (l.mapM fun f => do pure (f.offset, ← sizeOf f.type) : Sem (List (Nat × Nat))).run P w = .ok ps w := by
    intro l
    induction l with
    | nil => intro ps h; simp at h; subst h; simp
    | cons f l ih =>
      intro ps h
      rw [List.mapM_cons] at h
      simp only [bind, Option.bind_eq_some_iff, pure, Option.some.injEq, Option.map_eq_some_iff] at h
      obtain ⟨x, ⟨n, hn, rfl⟩, r, hr, rfl⟩ := h
      unfold sizeOfT at hn
      cases hq : P.info? f.type with
      | none => simp [hq] at hn
      | some i =>
        simp only [hq, Option.some.injEq] at hn
        have := ih r hr
        simp only [List.mapM_cons, Sem.run_bind, sizeOf, typeInfo, run_program, hq, Sem.run_pure, Result.andThen_ok, hn] at this ⊢
        rw [this]
        simp
  rw [Sem.run_map, key l ps h]; rfl

theorem reads_build {t : Nat} {ps : Array (Nat × Operand)} {place : Nat → Option (Nat × Nat)} {z : LV} (h : o.op = .build t ps) (hz : zeroOf P t = some z) (hzs : z.solid = true) (hp : placesOf P t = some place)
    (hok : fillOk place z.cells.length (evalParts regs ps)) : Reads P st regs o (buildV place z (evalParts regs ps)) [] := reads_pure fun G a hr => by
  obtain ⟨v, hv, hrun⟩ := run_zeroOf hz G
  obtain ⟨h1, h2⟩ := rep_cells hv hzs
  obtain ⟨ws, w1, w2, w3⟩ := run_fill (G := G) place (ps.toList.map fun (i, x) => (i, a.eval x)) (evalParts regs ps) v.cells z.cells (by simp [evalParts]) (fun i p l hp hl => by
    simp only [evalParts, List.getElem?_map, Option.map_eq_some_iff] at hp hl
    obtain ⟨x, hx, rfl⟩ := hp
    obtain ⟨y, hy, rfl⟩ := hl
    rw [hx] at hy; injection hy with hy; subst hy
    exact ⟨rfl, rep_opd hr _⟩) h1 hok
  have hval : buildV place z (evalParts regs ps) = .agg (fillL place z.cells (evalParts regs ps)) := by
    unfold buildV
    cases ht : tiled place z.cells.length 0 ((evalParts regs ps).map (·.1)) with
    | false => rfl
    | true => simp only [cond_true]; rw [fillL_tiled _ 0 z.cells rfl ht hok]; simp
  rw [hval]
  refine ⟨.agg ws, .agg (by have := w2.1; rwa [Array.length_toList] at this) (fun i v l hv hl => w2.2 i v l (by rw [Array.getElem?_toList]; exact hv) hl), fun w' => ?_⟩
  have hpe : (ps.map fun (i, x) => (i, a.eval x)).toList = ps.toList.map fun (i, x) => (i, a.eval x) := by simp
  unfold placesOf at hp
  split at hp
  · rename_i fs hu
    split at hp
    · rename_i pl hpl
      injection hp with hp; subst hp
      have := run_places (P := P) (t := t) hpl w'
      simp only [execOp, h, Instr.build, Sem.run_bind, hrun w', Result.andThen_ok, run_underlying hu w', this, hpe, List.getElem?_toArray, w1]
      rfl
    · cases hp
  · rename_i n e hu
    split at hp
    · rename_i m hm
      injection hp with hp; subst hp
      have hsz : (sizeOf e).run P w' = .ok m w' := by
        unfold sizeOfT at hm
        cases hq : P.info? e with
        | none => simp [hq] at hm
        | some i => simp only [hq, Option.some.injEq] at hm; simp [sizeOf, typeInfo, hq, hm]
      simp only [execOp, h, Instr.build, Sem.run_bind, hrun w', Result.andThen_ok, run_underlying hu w', hsz, hpe, w1]
      rfl
    · cases hp
  · cases hp
end
end Go.L

set_option linter.unusedVariables false
set_option linter.unusedSimpArgs false
namespace Go.L
open Go Go.RowKit

def flat (es : List LV) : List LV := es.flatMap LV.cells
theorem flat_len {k : Nat} : ∀ {es : List LV}, (∀ e ∈ es, e.cells.length = k) → (flat es).length = es.length * k
  | [], _ => by simp [flat]
  | e :: es, h => by
    have ih := flat_len (es := es) (fun x hx => h x (by simp [hx]))
    have := h e (by simp)
    simp only [flat, List.flatMap_cons, List.length_append, List.length_cons] at ih ⊢
    rw [ih, this, Nat.succ_mul]; omega
theorem flat_get {k : Nat} : ∀ {es : List LV} {i j : Nat} {e c : LV}, (∀ e ∈ es, e.cells.length = k) → es[i]? = some e → e.cells[j]? = some c → (flat es)[i * k + j]? = some c
  | [], i, j, e, c, _, h, _ => by simp at h
  | x :: es, 0, j, e, c, hk, h, hc => by
    simp at h; subst h
    simp only [flat, List.flatMap_cons]
    rw [List.getElem?_append_left (by have := (List.getElem?_eq_some_iff.1 hc).1; omega)]
    simpa using hc
  | x :: es, i + 1, j, e, c, hk, h, hc => by
    have ih := flat_get (es := es) (i := i) (fun y hy => hk y (by simp [hy])) (by simpa using h) hc
    have := hk x (by simp)
    simp only [flat, List.flatMap_cons] at ih ⊢
    rw [List.getElem?_append_right (by rw [this, Nat.succ_mul]; omega), this]
    have e1 : (i + 1) * k + j - k = i * k + j := by rw [Nat.succ_mul]; omega
    rw [e1]; exact ih

/-- A slice over memory that is known for good. -/
theorem rep_sl {G : Ghost} {b off cap k : Nat} {o : Own} {es : List LV} {vs : List Value} (hk : ∀ e ∈ es, e.cells.length = k) (hf : ∀ i, i < es.length * k → G.imm b (off + i) = vs[i]?)
    (hr : RepAll G (vs.take (es.length * k)) (flat es)) (hl : es.length * k ≤ vs.length) (hc : es.length ≤ cap) (ho : OwnOk G o es.length cap b (off + es.length * k) (off + cap * k)) :
    Rep G (.slice (some ⟨b, off, none⟩) es.length cap) (.sl o k es) := by
  refine .sl (fun i => vs.getD i Go.undef) hk (fun i j hi hj => ?_) (fun i e j c he hc' => ?_) hc ho
  · have h1 : (i + 1) * k ≤ es.length * k := Nat.mul_le_mul_right _ hi
    rw [Nat.succ_mul] at h1
    have h2 : i * k + j < es.length * k := by omega
    have := hf (i * k + j) h2
    rw [← Nat.add_assoc] at this
    rw [this, List.getD_eq_getElem?_getD, List.getElem?_eq_getElem (by omega)]
    rfl
  · have := flat_get hk he hc'
    have hlt : i * k + j < (flat es).length := (List.getElem?_eq_some_iff.1 this).1
    rw [flat_len hk] at hlt
    refine hr.2 (i * k + j) _ _ ?_ this
    rw [List.getElem?_take, if_pos hlt, List.getD_eq_getElem?_getD, List.getElem?_eq_getElem (by omega)]
    rfl

section
variable {P : Program} {st : St} {regs : Fr} {o : Oper} {K : LV → St → Prop}

/-- A new row, whose holder may write behind it. -/
theorem new_ownF {G : Ghost} {w : World} (hR : Rel G st w) {arr : Array Value} {fr : Nat × Nat} (hfr : frOk fr arr.size) {ty k cap t ver : Nat} {es : List LV} (toks' : List Nat) (hk : ∀ e ∈ es, e.cells.length = k)
    (hr : RepAll G (arr.toList.take (es.length * k)) (flat es)) (hc : es.length ≤ cap) (hsz : cap * k ≤ arr.size)
    (hself : toks'[t]? = some ver) (hoth : ∀ u v : Nat, u ≠ t → toks'[u]? = some v → st.toks[u]? = some v) (hold : ∀ u v : Nat, st.toks[u]? = some v → ∃ v' : Nat, toks'[u]? = some v' ∧ v ≤ v') (hnew : ∀ cur : Nat, st.toks[t]? = some cur → cur < ver) :
    ∃ G', Step G st w G' { st with toks := toks' } (w.alloc (.cells arr ty fr)) ∧ Rep G' (.slice (some ⟨w.heap.size, 0, none⟩) es.length cap) (.sl (.tok t ver) k es) := by
  have hm : es.length * k ≤ cap * k := Nat.mul_le_mul_right _ hc
  have hs := step_own hR arr ty fr hfr (es.length * k) (cap * k) t ver toks' hm hsz hself hoth hold hnew
  refine ⟨_, hs, ?_⟩
  refine rep_sl (es := es) (vs := arr.toList) hk (fun i hi => ?_) (hr.mono hs.le) ?_ hc ⟨(w.heap.size, es.length * k, cap * k), ?_, fun _ => ?_⟩
  · simp [Ghost.addTok, Ghost.addImm, hi]
  · have e : arr.toList.length = arr.size := Array.length_toList
    omega
  · simp [Ghost.addTok]
  · simp

theorem new_own {G : Ghost} {w : World} (hR : Rel G st w) {arr : Array Value} {ty k cap t ver : Nat} {es : List LV} (toks' : List Nat) (hk : ∀ e ∈ es, e.cells.length = k)
    (hr : RepAll G (arr.toList.take (es.length * k)) (flat es)) (hc : es.length ≤ cap) (hsz : cap * k ≤ arr.size)
    (hself : toks'[t]? = some ver) (hoth : ∀ u v : Nat, u ≠ t → toks'[u]? = some v → st.toks[u]? = some v) (hold : ∀ u v : Nat, st.toks[u]? = some v → ∃ v' : Nat, toks'[u]? = some v' ∧ v ≤ v') (hnew : ∀ cur : Nat, st.toks[t]? = some cur → cur < ver) :
    ∃ G', Step G st w G' { st with toks := toks' } (w.alloc (.cells arr ty)) ∧ Rep G' (.slice (some ⟨w.heap.size, 0, none⟩) es.length cap) (.sl (.tok t ver) k es) :=
  new_ownF hR (.inl rfl) toks' hk hr hc hsz hself hoth hold hnew
/-- Cells are stored, none of which is barred. -/
theorem run_storeCells_fr {P : Program} (g o : Nat) (t : Nat) (fr : Nat × Nat) : ∀ (vs : List Value) (i : Nat) (cur : Array Value) (w : World), w.heap[g]? = some (.cells cur t fr) → frOk fr cur.size → o + i + vs.length ≤ cur.size → (∀ v ∈ vs, v.oneCell' = true) →
    (storeCells ⟨g, o, none⟩ vs i).run P w = .ok () (w.setRow g (cur.toList.take (o + i) ++ vs ++ cur.toList.drop (o + i + vs.length)).toArray)
  | [], i, cur, w, hg, hf, hl, _ => by
    have hlt : g < w.heap.size := (Array.getElem?_eq_some_iff.1 hg).1
    have hv : w.heap[g] = .cells cur t fr := (Array.getElem?_eq_some_iff.1 hg).2
    simp only [storeCells, List.append_nil, List.length_nil, Nat.add_zero, List.take_append_drop, Array.toArray_toList]
    show Result.ok () w = _
    congr 1
    unfold World.setRow
    cases w with
    | mk heap tape drawn os output =>
      congr 1
      apply Array.ext
      · simp
      · intro k h1 h2
        simp only [Array.getElem_modify]
        split
        · rename_i hk; subst hk; simp only at hv; rw [hv]
        · rfl
  | v :: rest, i, cur, w, hg, hf, hl, h1 => by
    have hi : o + i < cur.size := by simp at hl; omega
    have hadd : (⟨g, o, none⟩ : Addr).add i = ⟨g, o + i, none⟩ := by unfold Addr.add; split <;> simp_all
    have hcell : w.cell? ⟨g, o + i, none⟩ = some cur[o + i] := by simp [World.cell?, hg, hi]
    have hfro : w.frozen? ⟨g, o + i, none⟩ = false := by
      obtain ⟨lo, hi'⟩ := fr
      simp only [World.frozen?, hg]
      rcases hf with hf | hf
      · injection hf with e1 e2; subst e1; subst e2; simp
      · simp only at hf; simp; omega
    have hst : (store ((⟨g, o, none⟩ : Addr).add i) v).run P w = .ok () (w.setRow g (cur.setIfInBounds (o + i) v)) := by
      rw [hadd, run_store P w _ v _ (h1 v (by simp)), hcell]
      simp [hfro, setCell_eq_setRow w g (o + i) cur t fr v hg]
    have ih := run_storeCells_fr (P := P) g o t fr rest (i + 1) (cur.setIfInBounds (o + i) v) (w.setRow g (cur.setIfInBounds (o + i) v)) (setRow_heap w g cur _ t _ hg) (by simpa using hf) (by simp at hl ⊢; omega) (fun x hx => h1 x (by simp [hx]))
    simp only [storeCells, Sem.run_bind, hst, Result.andThen_ok, ih, setRow_setRow]
    congr 3
    have e := list_seg_step cur.toList (o + i) v rest (by simp at hl ⊢; omega)
    simpa [Array.toList_setIfInBounds, Nat.add_assoc] using e

theorem toks_push_self (st : St) : (st.toks ++ [0])[st.toks.length]? = some 0 := by simp
theorem toks_push_oth {st : St} {u v : Nat} (h : u ≠ st.toks.length) (e : (st.toks ++ [0])[u]? = some v) : st.toks[u]? = some v := by
  rw [List.getElem?_append] at e
  split at e
  · exact e
  · rw [List.getElem?_eq_none (by simp; omega)] at e; cases e
theorem toks_push_old {st : St} {u v : Nat} (e : st.toks[u]? = some v) : ∃ v', (st.toks ++ [0])[u]? = some v' ∧ v ≤ v' :=
  ⟨v, by rw [List.getElem?_append_left (List.getElem?_eq_some_iff.1 e).1]; exact e, Nat.le_refl _⟩
theorem toks_push_new {st : St} {cur v : Nat} (e : st.toks[st.toks.length]? = some cur) : cur < v := by
  rw [List.getElem?_eq_none (Nat.le_refl _)] at e; cases e
def St.newTok (st : St) : St := { st with toks := st.toks ++ [0] }
def St.bump (st : St) (t ver : Nat) : St := { st with toks := st.toks.set t (ver + 1) }

/-! ### A slice of given elements -/
def sliceElem (P : Program) (t : Nat) : Option (Nat × Nat) :=
  match P.underlying t with
  | some (.slice e) => match P.info? e with
    | some i => some (e, i.size)
    | none => none
  | _ => none
def inOrder : Nat → List Nat → Bool
  | _, [] => true
  | i, j :: r => j == i && inOrder (i + 1) r
theorem tiled_inOrder (k : Nat) : ∀ (l : List Nat) (i : Nat), inOrder i l = true → tiled (fun i => some (i * k, k)) ((i + l.length) * k) (i * k) l = true
  | [], i, _ => by simp [tiled]
  | j :: r, i, h => by
    simp only [inOrder, Bool.and_eq_true, beq_iff_eq] at h
    obtain ⟨rfl, h⟩ := h
    have := tiled_inOrder k r (j + 1) h
    simp only [tiled, List.length_cons, beq_self_eq_true, Bool.true_and]
    rw [Nat.succ_mul] at this
    rw [show j + (r.length + 1) = j + 1 + r.length by omega]
    exact this
def allCells (k : Nat) (es : List LV) : Prop := ∀ e ∈ es, e.solid = true ∧ e.cells.length = k
theorem fillOk_inOrder (k : Nat) : ∀ (ps : List (Nat × LV)) (i : Nat), inOrder i (ps.map (·.1)) = true → allCells k (ps.map (·.2)) → fillOk (fun i => some (i * k, k)) ((i + ps.length) * k) ps
  | [], _, _, _ => trivial
  | (j, l) :: r, i, h, hc => by
    simp only [List.map_cons, inOrder, Bool.and_eq_true, beq_iff_eq] at h
    obtain ⟨rfl, h⟩ := h
    have ih := fillOk_inOrder k r (j + 1) h (fun e he => hc e (by simp at he ⊢; exact .inr he))
    rw [show j + 1 + r.length = j + (r.length + 1) by omega] at ih
    refine ⟨?_, ih⟩
    obtain ⟨h1, h2⟩ := hc l (by simp)
    refine ⟨h1, h2, ?_⟩
    have : (j + 1) * k ≤ (j + (r.length + 1)) * k := Nat.mul_le_mul_right _ (by omega)
    rw [Nat.succ_mul] at this
    simpa using this

theorem does_buildSlice {t e n k : Nat} {ps : Array (Nat × Operand)} (h : o.op = .buildSlice t n ps) (ht : sliceElem P t = some (e, k)) (hz : (zeroOf P e).isSome = true) (hn : ps.size = n) (h24 : n * k ≤ 16777216)
    (hord : inOrder 0 (ps.toList.map (·.1)) = true) (hall : allCells k ((evalParts regs ps).map (·.2)))
    (hk : K (.sl (.tok st.toks.length 0) k ((evalParts regs ps).map (·.2))) st.newTok) : Does P st regs o K :=
  does_run fun G a w hR hr => by
    obtain ⟨z, hz⟩ := Option.isSome_iff_exists.1 hz
    obtain ⟨zv, _, hzr⟩ := run_zeroOf hz G
    have hl1 : (evalParts regs ps).length = n := by simp [evalParts, hn]
    have hord' : inOrder 0 ((evalParts regs ps).map (·.1)) = true := by
      have : (evalParts regs ps).map (·.1) = ps.toList.map (·.1) := by simp [evalParts, List.map_map]
      rw [this]; exact hord
    obtain ⟨zs, hzs⟩ : ∃ zs : Array Value, zs = if n * k = 0 then #[] else zv.cells := ⟨_, rfl⟩
    obtain ⟨ws, w1, w2, w3⟩ := run_fill (G := G) (fun i => some (i * k, k)) (ps.toList.map fun (i, x) => (i, a.eval x)) (evalParts regs ps) ((Array.range (n * k)).map (zs[· % zs.size]!)) (List.replicate (n * k) .und)
      (by simp [evalParts]) (fun i p l hp hl => by
        simp only [evalParts, List.getElem?_map, Option.map_eq_some_iff] at hp hl
        obtain ⟨x, hx, rfl⟩ := hp
        obtain ⟨y, hy, rfl⟩ := hl
        rw [hx] at hy; injection hy with hy; subst hy
        exact ⟨rfl, rep_opd hr _⟩)
      ⟨by simp, fun i v l _ hl => by
        rw [List.getElem?_replicate] at hl
        split at hl
        · injection hl with hl; subst hl; exact .und _
        · cases hl⟩
      (by have := fillOk_inOrder k (evalParts regs ps) 0 hord' hall; rw [List.length_replicate]; simpa [hl1] using this)
    have hfl : fillL (fun i => some (i * k, k)) (List.replicate (n * k) .und) (evalParts regs ps) = flat ((evalParts regs ps).map (·.2)) := by
      rw [fillL_tiled (n := n * k) _ 0 _ (by simp) (by have := tiled_inOrder k _ 0 hord'; simpa [hl1] using this) (by have := fillOk_inOrder k (evalParts regs ps) 0 hord' hall; simpa [hl1] using this)]
      simp [flat, List.flatMap_map]
    rw [hfl] at w2
    have hkk : ∀ e ∈ (evalParts regs ps).map (·.2), e.cells.length = k := fun e he => (hall e he).2
    have hlen : ((evalParts regs ps).map (·.2)).length = n := by simp [hl1]
    have hws : ws.size = n * k := by have := w2.1; rw [Array.length_toList, flat_len hkk, hlen] at this; exact this
    obtain ⟨G', hs, hrep⟩ := new_own hR (arr := ws) (ty := e) (k := k) (cap := n) (t := st.toks.length) (ver := 0) (es := (evalParts regs ps).map (·.2)) (st.toks ++ [0]) hkk
      (by rw [hlen, List.take_of_length_le (by rw [Array.length_toList]; omega)]; exact w2) (by omega) (by omega) (toks_push_self st) (fun u v hu e => toks_push_oth hu e) (fun u v e => toks_push_old e) (fun cur e => toks_push_new e)
    refine ⟨.slice (some ⟨w.heap.size, 0, none⟩) n n, _, _, _, G', ?_, hs, by rw [← hlen]; rw [hlen] ; simpa [hlen] using hrep, hk⟩
    unfold sliceElem at ht
    split at ht
    · rename_i e' hu
      cases hq : P.info? e' with
      | none => simp [hq] at ht
      | some inf =>
        simp only [hq, Option.some.injEq, Prod.mk.injEq] at ht
        obtain ⟨rfl, rfl⟩ := ht
        have hsz : (sizeOf e').run P w = .ok inf.size w := by simp [sizeOf, typeInfo, hq]
        have h24' : ¬ (n * inf.size > 2 ^ 24) := by omega
        have hpe : (ps.map fun (i, x) => (i, a.eval x)).toList = ps.toList.map fun (i, x) => (i, a.eval x) := by simp
        by_cases h0 : n * inf.size = 0
        · rw [if_pos h0] at hzs; subst hzs
          simp only [execOp, h, Instr.buildSlice, Sem.run_bind, run_underlying hu w, Result.andThen_ok, hsz, if_neg h24', if_pos h0, Sem.run_pure, hpe, w1, newRow, run_newObj]
          rfl
        · rw [if_neg h0] at hzs; subst hzs
          simp only [execOp, h, Instr.buildSlice, Sem.run_bind, run_underlying hu w, Result.andThen_ok, hsz, if_neg h24', if_neg h0, Sem.run_pure, hzr w, hpe, w1, newRow, run_newObj]
          rfl
    · cases ht

/-! ### append -/
def appV (st : St) (k : Nat) (s x : LV) : LV :=
  bif x.els.isEmpty then s else
  match s with
  | .sl (.tok t ver) k es => .sl (.tok t (ver + 1)) k (es ++ x.els)
  | .nils => .sl (.tok st.toks.length 0) k x.els
  | _ => .und
def appSt (st : St) (s x : LV) : St :=
  bif x.els.isEmpty then st else
  match s with
  | .sl (.tok t ver) _ _ => st.bump t ver
  | .nils => st.newTok
  | _ => st
/-- May it be appended to? -/
def canApp (st : St) (k : Nat) (s : LV) : Prop :=
  match s with
  | .nils => True
  | .sl (.tok t ver) k' _ => k' = k ∧ st.toks[t]? = some ver
  | _ => False
def elemIn (P : Program) (t : Nat) : Option (Nat × Nat × Nat) :=
  match P.underlying t with
  | some (.slice e) => match P.info? e with
    | some i => match i.zero with
      | some z => if z.cells.size = i.size then some (e, i.size, i.bytes) else none
      | none => none
    | none => none
  | _ => none
/-- What is appended, cell by cell. -/
def srcTy (P : Program) (t : Nat) : Bool := match P.underlying t with | some (.slice _) => true | _ => false

theorem run_append_in {t tx ty e : Nat} {i : TypeInfo} {w : World} (ht : P.underlying t = some (.slice e)) (htx : ∃ d, P.underlying tx = some (.slice d)) (hi : P.info? e = some i)
    {g off sLen sCap m c ty' : Nat} {cur : Array Value} {b : Addr} {news : List Value} {fr : Nat × Nat} (hg : w.heap[g]? = some (.cells cur ty' fr)) (hfr : frOk fr cur.size) (hl : news.length = m * i.size)
    (hnews : ∀ j u, news[j]? = some u → w.cell? (b.add j) = some u) (h1 : ∀ u ∈ news, u.oneCell' = true) (hroom : sLen + m ≤ sCap) (hfit : off + sLen * i.size + news.length ≤ cur.size) :
    (Builtin.append_ #[t, tx] ty #[.slice (some ⟨g, off, none⟩) sLen sCap, .slice (some b) m c]).run P w =
      .ok (.slice (some ⟨g, off, none⟩) (sLen + m) sCap) (w.setRow g (cur.toList.take (off + sLen * i.size) ++ news ++ cur.toList.drop (off + sLen * i.size + news.length)).toArray) := by
  obtain ⟨d, htx⟩ := htx
  have hf := run_firstCells_some (P := P) w i.size m b m c news hl hnews
  have hst := run_storeCells_fr (P := P) g (off + sLen * i.size) ty' fr news 0 cur w hg hfr (by simpa using hfit) h1
  simp only [Nat.add_zero] at hst
  simp [Builtin.append_, run_underlying ht, run_underlying htx, sizeOf, typeInfo, hi, Builtin.lenOf, hroom, hf, addr_add, hst]

theorem run_append_new {t tx ty e : Nat} {i : TypeInfo} {z : Value} {w : World} (ht : P.underlying t = some (.slice e)) (htx : ∃ d, P.underlying tx = some (.slice d)) (hi : P.info? e = some i) (hz : i.zero = some z)
    {s : Value} {sLen sCap m c : Nat} {b : Addr} {olds news : List Value} (hs : (s = .slice none 0 0 ∧ sLen = 0 ∧ sCap = 0 ∧ olds = []) ∨ ∃ a, s = .slice (some a) sLen sCap ∧ ∀ j u, olds[j]? = some u → w.cell? (a.add j) = some u)
    (hlo : olds.length = sLen * i.size) (hl : news.length = m * i.size)
    (hnews : ∀ j u, news[j]? = some u → w.cell? (b.add j) = some u) (hgr : sCap < sLen + m) (h63 : ((sLen + m : Nat) : Int) ≤ 9223372036854775807) (hfit : Builtin.nextslicecap (sLen + m) sCap * i.bytes ≤ 281474976710656) :
    (Builtin.append_ #[t, tx] ty #[s, .slice (some b) m c]).run P w =
      .ok (.slice (some ⟨w.heap.size, 0, none⟩) (sLen + m) (grownCap w (sLen + m) sCap e)) (w.drew.alloc (.cells (olds.toArray ++ news.toArray ++ Builtin.zeroCells z.cells (grownCap w (sLen + m) sCap e - (sLen + m))) e)) := by
  obtain ⟨d, htx⟩ := htx
  have hn : ¬ (sLen + m ≤ sCap) := by omega
  have h63' : ¬ (9223372036854775807 < ((sLen : Int) + (m : Int))) := by omega
  have h48' : ¬ (281474976710656 < Builtin.nextslicecap (sLen + m) sCap * i.bytes) := by omega
  have hf := run_firstCells_some (P := P) w.drew i.size m b m c news hl (by simpa using hnews)
  rcases hs with ⟨rfl, rfl, rfl, rfl⟩ | ⟨a, rfl, holds⟩
  · have hm0 : m ≠ 0 := by omega
    simp only [Nat.zero_add] at *
    have h63'' : ¬ (9223372036854775807 < (m : Int)) := by omega
    simp [Builtin.append_, run_underlying ht, run_underlying htx, sizeOf, typeInfo, zeroValue, hi, hz, Builtin.lenOf, hm0, h63'', h48', Question.forced, run_firstCells_none, hf, newRow, grownCap]
  · have hfo := run_firstCells_some (P := P) w.drew i.size sLen a sLen sCap olds hlo (by simpa using holds)
    simp [Builtin.append_, run_underlying ht, run_underlying htx, sizeOf, typeInfo, zeroValue, hi, hz, Builtin.lenOf, hn, h63', h48', Question.forced, hf, hfo, newRow, grownCap]
    congr 2
    apply Array.ext'
    simp [List.append_assoc]
end
end Go.L

set_option linter.unusedVariables false
set_option linter.unusedSimpArgs false
namespace Go.L
open Go Go.RowKit

theorem flat_inv {k : Nat} (hk0 : 0 < k) : ∀ {es : List LV} {p : Nat} {c : LV}, (∀ e ∈ es, e.cells.length = k) → (flat es)[p]? = some c → ∃ e, es[p / k]? = some e ∧ e.cells[p % k]? = some c
  | [], p, c, _, h => by simp [flat] at h
  | x :: es, p, c, hk, h => by
    have hx := hk x (by simp)
    simp only [flat, List.flatMap_cons, List.getElem?_append] at h
    by_cases hp : p < k
    · rw [if_pos (by omega)] at h
      exact ⟨x, by rw [Nat.div_eq_of_lt hp]; rfl, by rw [Nat.mod_eq_of_lt hp]; exact h⟩
    · rw [if_neg (by omega), hx] at h
      obtain ⟨e, h1, h2⟩ := flat_inv hk0 (es := es) (fun y hy => hk y (by simp [hy])) h
      have e1 : p / k = (p - k) / k + 1 := by
        have : p = (p - k) + k := by omega
        conv => lhs; rw [this, Nat.add_div_right _ hk0]
      have e2 : p % k = (p - k) % k := by
        have : p = (p - k) + k := by omega
        conv => lhs; rw [this, Nat.add_mod_right]
      exact ⟨e, by rw [e1]; exact h1, by rw [e2]; exact h2⟩

/-- A slice's cells as one row. -/
theorem sl_flat {G : Ghost} {b off k : Nat} {es : List LV} (f : Nat → Value) (hk : ∀ e ∈ es, e.cells.length = k)
    (hf : ∀ i j, i < es.length → j < k → G.imm b (off + i * k + j) = some (f (i * k + j)))
    (hr : ∀ (i : Nat) (e : LV) (j : Nat) (c : LV), es[i]? = some e → e.cells[j]? = some c → Rep G (f (i * k + j)) c) :
    ∃ olds : List Value, olds.length = es.length * k ∧ (∀ i, i < es.length * k → G.imm b (off + i) = olds[i]?) ∧ RepAll G olds (flat es) := by
  refine ⟨(List.range (es.length * k)).map f, by simp, fun p hp => ?_, by simp [flat_len hk], fun p v c hv hc => ?_⟩
  · have hk0 : 0 < k := by
      rcases Nat.eq_zero_or_pos k with h | h
      · subst h; simp at hp
      · exact h
    have h1 : p / k < es.length := Nat.div_lt_of_lt_mul (by rw [Nat.mul_comm]; exact hp)
    have h2 := hf (p / k) (p % k) h1 (Nat.mod_lt _ hk0)
    have h3 : p / k * k + p % k = p := by rw [Nat.mul_comm]; exact Nat.div_add_mod p k
    rw [Nat.add_assoc, h3] at h2
    rw [h2]; simp [hp]
  · have hlt := (List.getElem?_eq_some_iff.1 hc).1
    rw [flat_len hk] at hlt
    have hk0 : 0 < k := by
      rcases Nat.eq_zero_or_pos k with h | h
      · subst h; simp at hlt
      · exact h
    obtain ⟨e, h1, h2⟩ := flat_inv hk0 hk hc
    have h3 : p / k * k + p % k = p := by rw [Nat.mul_comm]; exact Nat.div_add_mod p k
    have := hr (p / k) e (p % k) c h1 h2
    rw [h3] at this
    have hv' : v = f p := by simp [hlt] at hv; exact hv.symm
    rw [hv']; exact this

theorem RepAll.append {G : Ghost} {a b : List Value} {c d : List LV} (h : RepAll G a c) (k : RepAll G b d) : RepAll G (a ++ b) (c ++ d) := by
  refine ⟨by simp [h.1, k.1], fun i v l hv hl => ?_⟩
  rw [List.getElem?_append] at hv hl
  rw [h.1] at hv
  split at hv
  · rename_i hi; rw [if_pos hi] at hl; exact h.2 i v l hv hl
  · rename_i hi; rw [if_neg hi] at hl; exact k.2 _ v l hv hl

theorem flat_append (a b : List LV) : flat (a ++ b) = flat a ++ flat b := by simp [flat]

theorem repAll_one {G : Ghost} {vs : List Value} {es : List LV} (h : RepAll G vs (flat es)) (hs : ∀ e ∈ es, e.solid = true) : ∀ u ∈ vs, u.oneCell' = true := fun u hu => by
  obtain ⟨i, hi, rfl⟩ := List.mem_iff_getElem.1 hu
  have hi' : i < (flat es).length := by rw [← h.1]; exact hi
  have hm : (flat es)[i] ∈ flat es := List.getElem_mem hi'
  simp only [flat, List.mem_flatMap] at hm
  obtain ⟨e, he, hc⟩ := hm
  have := hs e he
  simp only [LV.solid, List.all_eq_true] at this
  exact rep_one (h.2 i _ _ (List.getElem?_eq_getElem hi) (List.getElem?_eq_getElem hi')) (this _ hc)

theorem arr_get (X : List Value) (i : Nat) : (X.toArray)[i]? = X[i]? := by simp

section
variable {P : Program} {st : St} {regs : Fr} {o : Oper} {K : LV → St → Prop}

theorem elemIn_spec {t e k bytes : Nat} (h : elemIn P t = some (e, k, bytes)) : ∃ i z, P.underlying t = some (.slice e) ∧ P.info? e = some i ∧ i.zero = some z ∧ i.size = k ∧ i.bytes = bytes ∧ z.cells.size = k := by
  unfold elemIn at h
  split at h
  · rename_i e' hu
    cases hq : P.info? e' with
    | none => simp [hq] at h
    | some i =>
      cases hz : i.zero with
      | none => simp [hq, hz] at h
      | some z =>
        simp only [hq, hz] at h
        split at h
        · rename_i hzc
          simp only [Option.some.injEq, Prod.mk.injEq] at h
          obtain ⟨rfl, rfl, rfl⟩ := h
          exact ⟨i, z, hu, hq, hz, rfl, rfl, hzc⟩
        · cases h
  · cases h

theorem does_append {t tx e k bytes : Nat} {s x : Operand} (h : o.op = .call { callee := .builtin .append, args := #[s, x], argTypes := #[t, tx] }) (ht : elemIn P t = some (e, k, bytes)) (htx : srcTy P tx = true)
    (hcan : canApp st k (opdV regs s)) (hx : (opdV regs x).isSl k = true) (hsol : ∀ e ∈ (opdV regs x).els, e.solid = true)
    (hsz : ((opdV regs s).els.length + (opdV regs x).els.length) * bytes ≤ 140737488355328) (h63 : (opdV regs s).els.length + (opdV regs x).els.length ≤ 140737488355328)
    (hk : K (appV st k (opdV regs s) (opdV regs x)) (appSt st (opdV regs s) (opdV regs x))) : Does P st regs o K :=
  does_run fun G a w hR hr => by
    obtain ⟨inf, z, hu, hi, hz, rfl, rfl, hzc⟩ := elemIn_spec ht
    have htx' : ∃ d, P.underlying tx = some (.slice d) := by
      unfold srcTy at htx; split at htx
      · exact ⟨_, ‹_›⟩
      · cases htx
    have rs := rep_opd hr s
    have rx := rep_opd hr x
    have hexec : ∀ w', (execOp a.eval o).run P w' = ((Builtin.append_ #[t, tx] o.type #[a.eval s, a.eval x]).run P w').andThen fun v w'' => .ok (.value v) w'' := fun w' => by
      simp [execOp, h, resolve, invoke, builtin]
    simp only [hexec]
    obtain ⟨vs, hvs⟩ : ∃ v, a.eval s = v := ⟨_, rfl⟩
    obtain ⟨vx, hvx⟩ : ∃ v, a.eval x = v := ⟨_, rfl⟩
    rw [hvs] at rs ⊢; rw [hvx] at rx ⊢
    generalize opdV regs s = ls at *
    generalize opdV regs x = lx at *
    -- what is appended
    by_cases hemp : lx.els = []
    · -- nothing: the slice itself
      have happ : appV st inf.size ls lx = ls := by simp [appV, hemp]
      have hast : appSt st ls lx = st := by simp [appSt, hemp]
      rw [happ, hast] at hk
      refine ⟨vs, ls, st, w, G, ?_, .refl hR, rs, hk⟩
      obtain ⟨d, htx'⟩ := htx'
      have hf0 : ∃ bx cx, vx = .slice bx 0 cx := by
        cases rx <;> simp [LV.isSl] at hx
        · exact ⟨_, _, rfl⟩
        · simp at hemp; subst hemp; exact ⟨_, _, rfl⟩
        · exact ⟨_, _, rfl⟩
      obtain ⟨bx, cx, rfl⟩ := hf0
      have hfc : (Builtin.firstCells inf.size 0 (.slice bx 0 cx)).run P w = .ok #[] w := by
        cases bx <;> simp [Builtin.firstCells, loadCells, loadCellsFrom]
      cases rs <;> simp only [canApp] at hcan
      · simp [Builtin.append_, run_underlying hu, run_underlying htx', sizeOf, typeInfo, hi, Builtin.lenOf, hfc]
      · rename_i b off cap k' ow es f hk' hf hr' hc ho
        simp [Builtin.append_, run_underlying hu, run_underlying htx', sizeOf, typeInfo, hi, Builtin.lenOf, hfc, hc, storeCells]
    · cases rx <;> simp [LV.isSl] at hx
      case nils => simp at hemp
      case sl0 => simp at hemp
      case sl b2 off2 cap2 k2 ow2 xs f2 hk2 hf2 hr2 hc2 ho2 =>
      subst hx
      simp only [els_sl] at hsol hsz h63 hemp
      obtain ⟨news, n1, n2, n3⟩ := sl_flat f2 hk2 hf2 hr2
      have hnews : ∀ w' : World, (∀ (b i : Nat) (x : Value), G.imm b i = some x → w'.cell? ⟨b, i, none⟩ = some x) → ∀ (j : Nat) (u : Value), news[j]? = some u → w'.cell? ((⟨b2, off2, none⟩ : Addr).add j) = some u := fun w' hw j u hj => by
        rw [addr_add]
        have hlt := (List.getElem?_eq_some_iff.1 hj).1
        exact hw _ _ _ ((n2 j (by omega)).trans hj)
      have hone := repAll_one n3 hsol
      have hpos : 0 < xs.length := List.length_pos_iff.2 hemp
      have hne : xs.isEmpty = false := by cases xs with | nil => simp at hemp | cons _ _ => rfl
      have hzlen : ∀ (need old : Nat) (olds : List Value), olds.length + news.length = need * inf.size → grownCap w need old e * inf.size ≤ (olds.toArray ++ news.toArray ++ Builtin.zeroCells z.cells (grownCap w need old e - need)).size := fun need old olds hl => by
        have h1 : need ≤ grownCap w need old e := grownCap_ge w need old e
        have h2 : need * inf.size + (grownCap w need old e - need) * inf.size = grownCap w need old e * inf.size := by rw [← Nat.add_mul]; congr 1; omega
        simp only [Array.size_append, List.size_toArray, size_zeroCells, hzc]
        omega
      have hgc : ∀ (need old : Nat), need ≤ grownCap w need old e := fun need old => grownCap_ge w need old e
      cases rs <;> simp only [canApp] at hcan
      case nils =>
        simp only [els_nils, List.length_nil, Nat.zero_add] at hsz h63
        have hrun := run_append_new (P := P) (w := w) (t := t) (tx := tx) (ty := o.type) hu htx' hi hz (s := .slice none 0 0) (sLen := 0) (sCap := 0) (m := xs.length) (c := cap2) (b := ⟨b2, off2, none⟩) (olds := []) (news := news)
          (.inl ⟨rfl, rfl, rfl, rfl⟩) (by simp) n1 (hnews w hR.imm) (by omega) (by omega) (by rw [Nat.zero_add, nextslicecap_zero hpos]; omega)
        have hd := step_drew hR
        have htake : (([] : List Value).toArray ++ news.toArray ++ Builtin.zeroCells z.cells (grownCap w (0 + xs.length) 0 e - (0 + xs.length))).toList.take (xs.length * inf.size) = news := by
          rw [← n1]; simp
        have hz2 := hzlen (0 + xs.length) 0 [] (by simp [n1])
        have hcapge := hgc (0 + xs.length) 0
        obtain ⟨G', hs, hrep⟩ := new_own (st := st) (w := w.drew) hd.rel (ty := e) (k := inf.size) (cap := grownCap w (0 + xs.length) 0 e) (t := st.toks.length) (ver := 0) (es := xs) (st.toks ++ [0]) hk2
          (htake.symm ▸ n3) (by omega) hz2 (toks_push_self st) (fun u v hu e => toks_push_oth hu e) (fun u v e => toks_push_old e) (fun cur e => toks_push_new e)
        have e1 : appV st inf.size .nils (.sl ow2 inf.size xs) = .sl (.tok st.toks.length 0) inf.size xs := by simp [appV, hne]
        have e2 : appSt st .nils (.sl ow2 inf.size xs) = st.newTok := by simp [appSt, hne]
        rw [e1, e2] at hk
        refine ⟨.slice (some ⟨w.heap.size, 0, none⟩) xs.length (grownCap w (0 + xs.length) 0 e), _, _, _, G', ?_, hd.trans hR hs, hrep, hk⟩
        rw [hrun]; simp
      case sl b off cap k' ow es f hk' hf hr' hc ho =>
        cases ow with
        | no => simp at hcan
        | tok tk ver =>
          obtain ⟨rfl, htk⟩ := hcan
          simp only [els_sl] at hsz h63
          obtain ⟨olds, o1, o2, o3⟩ := sl_flat f hk' hf hr'
          obtain ⟨x0, hx0, hx1⟩ := ho
          have e1 : appV st inf.size (.sl (.tok tk ver) inf.size es) (.sl ow2 inf.size xs) = .sl (.tok tk (ver + 1)) inf.size (es ++ xs) := by simp [appV, hne]
          have e2 : appSt st (.sl (.tok tk ver) inf.size es) (.sl ow2 inf.size xs) = st.bump tk ver := by simp [appSt, hne]
          rw [e1, e2] at hk
          have hallk : ∀ e ∈ es ++ xs, e.cells.length = inf.size := fun e he => (List.mem_append.1 he).elim (hk' e) (hk2 e)
          by_cases hroom : es.length + xs.length ≤ cap
          · -- in place
            have hx0' := hx1 (by omega)
            subst hx0'
            obtain ⟨b', e', c', arr, ty, fr, g1, g2, g3, g4, g5, g6, g7⟩ := hR.toks tk ver htk
            rw [hx0] at g1; injection g1 with g1; obtain ⟨rfl, rfl, rfl⟩ : b = b' ∧ off + es.length * inf.size = e' ∧ off + cap * inf.size = c' := by simpa using g1
            have hxk : xs.length * inf.size ≤ (cap - es.length) * inf.size := Nat.mul_le_mul_right _ (by omega)
            have hck : es.length * inf.size + (cap - es.length) * inf.size = cap * inf.size := by rw [← Nat.add_mul]; congr 1; omega
            have hrun := run_append_in (P := P) (w := w) (t := t) (tx := tx) (ty := o.type) (m := xs.length) (c := cap2) (b := ⟨b2, off2, none⟩) (news := news) hu htx' hi (off := off) (sLen := es.length) (sCap := cap) g2 g7 n1 (hnews w hR.imm) hone hroom (by rw [n1]; omega)
            have hlen3 : (arr.toList.take (off + es.length * inf.size) ++ news ++ arr.toList.drop (off + es.length * inf.size + news.length)).length = arr.size := by
              have e : arr.toList.length = arr.size := Array.length_toList
              simp; omega
            have harl : arr.toList.length = arr.size := Array.length_toList
            obtain ⟨X, hX⟩ : ∃ X, X = arr.toList.take (off + es.length * inf.size) ++ news ++ arr.toList.drop (off + es.length * inf.size + news.length) := ⟨_, rfl⟩
            rw [← hX] at hrun hlen3
            have hXold : ∀ q, q < off + es.length * inf.size → X.toArray[q]? = arr[q]? := fun q hq => by
              have h1 : X.toArray[q]? = X[q]? := arr_get X q
              rw [h1, hX, List.append_assoc, List.getElem?_append_left (by simp; omega), List.getElem?_take, if_pos hq, Array.getElem?_toList]
            have hXnew : ∀ q, q < news.length → X.toArray[off + es.length * inf.size + q]? = news[q]? := fun q hq => by
              have h1 : X.toArray[off + es.length * inf.size + q]? = X[off + es.length * inf.size + q]? := arr_get X _
              rw [h1, hX, List.append_assoc, List.getElem?_append_right (by simp; omega), List.getElem?_append_left (by simp; omega)]
              congr 1
              simp; omega
            have hs := step_room hR htk hx0 g2 (arr' := X.toArray) (setRow_heap w b arr _ ty _ g2) (by rw [List.size_toArray]; exact hlen3) hXold
              (off + es.length * inf.size + xs.length * inf.size) (by omega) (by omega) (by simp [World.setRow]) (fun k hk => setRow_other w b k _ hk) rfl rfl rfl
            have hl3 : (es ++ xs).length * inf.size = es.length * inf.size + xs.length * inf.size := by rw [List.length_append, Nat.add_mul]
            have hl4 : (olds ++ news).length = es.length * inf.size + xs.length * inf.size := by rw [List.length_append, o1, n1]
            have hrr : RepAll G (olds ++ news) (flat (es ++ xs)) := by rw [flat_append]; exact o3.append n3
            have hrep := rep_sl (b := b) (off := off) (cap := cap) (k := inf.size) (o := .tok tk (ver + 1)) (es := es ++ xs) (vs := olds ++ news) hallk (fun q hq => ?_) (((show (olds ++ news).take ((es ++ xs).length * inf.size) = olds ++ news from List.take_of_length_le (by rw [hl3, hl4]; exact Nat.le_refl _)).symm ▸ hrr).mono hs.le)
              (by rw [hl3, hl4]; exact Nat.le_refl _) (by rw [List.length_append]; exact hroom) ⟨(b, off + es.length * inf.size + xs.length * inf.size, off + cap * inf.size), by simp [Ghost.addTok], fun _ => by rw [hl3]; simp [Nat.add_assoc]⟩
            · rw [List.length_append] at hrep
              refine ⟨.slice (some ⟨b, off, none⟩) (es.length + xs.length) cap, _, _, _, _, ?_, hs, hrep, hk⟩
              rw [hrun]; rfl
            · rw [hl3] at hq
              simp only [Ghost.addTok]
              rw [List.getElem?_append]
              by_cases hq1 : q < es.length * inf.size
              · rw [if_neg (by omega), if_pos (by omega)]; exact o2 q hq1
              · rw [if_pos ⟨trivial, by omega, by omega⟩, if_neg (by omega)]
                have h1 := hXnew (q - es.length * inf.size) (by omega)
                rw [show off + es.length * inf.size + (q - es.length * inf.size) = off + q by omega] at h1
                rw [h1, o1]
          · -- a new row
            have hrun := run_append_new (P := P) (w := w) (t := t) (tx := tx) (ty := o.type) hu htx' hi hz (s := .slice (some ⟨b, off, none⟩) es.length cap) (sLen := es.length) (sCap := cap) (m := xs.length) (c := cap2) (b := ⟨b2, off2, none⟩) (olds := olds) (news := news)
              (.inr ⟨⟨b, off, none⟩, rfl, fun j u hj => by
                rw [addr_add]
                have hlt := (List.getElem?_eq_some_iff.1 hj).1
                exact hR.imm _ _ _ ((o2 j (by omega)).trans hj)⟩) o1 n1 (hnews w hR.imm) (by omega) (by omega) (growslice_fits (by omega) hsz)
            have hd := step_drew hR
            have htl : tk < st.toks.length := (List.getElem?_eq_some_iff.1 htk).1
            have htake : (olds.toArray ++ news.toArray ++ Builtin.zeroCells z.cells (grownCap w (es.length + xs.length) cap e - (es.length + xs.length))).toList.take ((es ++ xs).length * inf.size) = olds ++ news := by
              have hl : (es ++ xs).length * inf.size = (olds ++ news).length := by rw [List.length_append, List.length_append, o1, n1, Nat.add_mul]
              have hcat : (olds.toArray ++ news.toArray ++ Builtin.zeroCells z.cells (grownCap w (es.length + xs.length) cap e - (es.length + xs.length))).toList = (olds ++ news) ++ (Builtin.zeroCells z.cells (grownCap w (es.length + xs.length) cap e - (es.length + xs.length))).toList := by simp
              rw [hl, hcat, List.take_append_of_le_length (Nat.le_refl _), List.take_length]
            have hz2 := hzlen (es.length + xs.length) cap olds (by rw [o1, n1, Nat.add_mul])
            have hcapge := hgc (es.length + xs.length) cap
            have hrr : RepAll G (olds ++ news) (flat (es ++ xs)) := by rw [flat_append]; exact o3.append n3
            obtain ⟨G', hs, hrep⟩ := new_own (st := st) (w := w.drew) hd.rel (ty := e) (k := inf.size) (cap := grownCap w (es.length + xs.length) cap e) (t := tk) (ver := ver + 1) (es := es ++ xs) (st.toks.set tk (ver + 1)) hallk
              (htake.symm ▸ hrr) (by rw [List.length_append]; exact hcapge) hz2 (by simp [htl])
              (fun u v hu e => by rw [List.getElem?_set, if_neg (fun e => hu e.symm)] at e; exact e)
              (fun u v e => by
                by_cases hu : u = tk
                · subst hu; rw [htk] at e; injection e with e; exact ⟨ver + 1, by simp [htl], by omega⟩
                · exact ⟨v, by rw [List.getElem?_set, if_neg (fun e => hu e.symm)]; exact e, Nat.le_refl _⟩)
              (fun cur e => by rw [htk] at e; injection e with e; omega)
            refine ⟨.slice (some ⟨w.heap.size, 0, none⟩) (es.length + xs.length) (grownCap w (es.length + xs.length) cap e), _, _, _, G', by rw [hrun]; simp, hd.trans hR hs, ?_, hk⟩
            rw [List.length_append] at hrep
            simpa [appV, hne] using hrep
end
end Go.L

set_option linter.unusedVariables false
set_option linter.unusedSimpArgs false
namespace Go.L
open Go Go.RowKit

/-! ### Regions that draw their order -/
/-- Whom an operation waits for, as bits. -/
def rowBits (acc : List Nat) (o : Oper) : Nat := o.after.toList.foldl (fun s e => bif Region.binds .any e then s ||| 2 ^ e.on ||| acc.getD e.on 0 else s) 0
def closureAux (acc : List Nat) : List Oper → List Nat
  | [] => acc
  | o :: r => closureAux (acc ++ [rowBits acc o]) r
def closure (ops : List Oper) : List Nat := closureAux [] ops
def waitsFor (cl : List Nat) (j i : Nat) : Bool := (cl.getD j 0).testBit i

theorem row_spec (acc : List Nat) (i : Nat) : ∀ (l : List Edge) (s : Nat), (l.foldl (fun s e => bif Region.binds .any e then s ||| 2 ^ e.on ||| acc.getD e.on 0 else s) s).testBit i = true →
    s.testBit i = true ∨ ∃ e ∈ l, Region.binds .any e = true ∧ (e.on = i ∨ (acc.getD e.on 0).testBit i = true)
  | [], s, h => .inl h
  | e :: l, s, h => by
    simp only [List.foldl_cons] at h
    rcases row_spec acc i l _ h with h1 | ⟨e', he', hb⟩
    · cases hb : Region.binds .any e with
      | false => simp only [hb, cond_false] at h1; exact .inl h1
      | true =>
        simp only [hb, cond_true, Nat.testBit_or, Bool.or_eq_true, Nat.testBit_two_pow, decide_eq_true_eq] at h1
        rcases h1 with (h1 | h1) | h1
        · exact .inl h1
        · exact .inr ⟨e, by simp, hb, .inl h1⟩
        · exact .inr ⟨e, by simp, hb, .inr h1⟩
    · exact .inr ⟨e', by simp [he'], hb⟩

theorem getD_app {a b : List Nat} {j : Nat} (h : j < a.length) : (a ++ b).getD j 0 = a.getD j 0 := by
  simp only [List.getD_eq_getElem?_getD, List.getElem?_append_left h]

def ClOk (ops : List Oper) (cl : List Nat) : Prop :=
  ∀ j i, waitsFor cl j i = true → ∃ o, ops[j]? = some o ∧ ∃ e ∈ o.after.toList, Region.binds .any e = true ∧ (e.on = i ∨ (e.on < j ∧ waitsFor cl e.on i = true))
theorem closureAux_ok : ∀ (r : List Oper) (done : List Oper) (acc : List Nat), acc.length = done.length → ClOk done acc → ClOk (done ++ r) (closureAux acc r)
  | [], done, acc, _, h => by simpa [closureAux] using h
  | o :: r, done, acc, hl, h => by
    have := closureAux_ok r (done ++ [o]) (acc ++ [rowBits acc o]) (by simp [hl]) (fun j i hw => by
      unfold waitsFor at hw ⊢
      by_cases hj : j < acc.length
      · rw [getD_app hj] at hw
        obtain ⟨o', h1, e, he, hb, h2⟩ := h j i hw
        refine ⟨o', by rw [List.getElem?_append_left (by omega)]; exact h1, e, he, hb, h2.imp id fun ⟨h3, h4⟩ => ⟨h3, ?_⟩⟩
        rw [getD_app (by omega)]; exact h4
      · by_cases hj' : j = acc.length
        · subst hj'
          have e1 : (acc ++ [rowBits acc o]).getD acc.length 0 = rowBits acc o := by simp
          rw [e1] at hw
          rcases row_spec acc i _ _ hw with h1 | ⟨e, he, hb, h2⟩
          · simp at h1
          · refine ⟨o, by rw [hl]; simp, e, he, hb, h2.imp id fun h3 => ?_⟩
            have hlt : e.on < acc.length := by
              rcases Nat.lt_or_ge e.on acc.length with h4 | h4
              · exact h4
              · rw [List.getD_eq_getElem?_getD, List.getElem?_eq_none h4] at h3; simp at h3
            exact ⟨hlt, by rw [getD_app hlt]; exact h3⟩
        · rw [List.getD_eq_getElem?_getD, List.getElem?_eq_none (by simp; omega)] at hw; simp at hw)
    simpa [closureAux] using this
theorem closure_ok (ops : List Oper) : ClOk ops (closure ops) := by
  have := closureAux_ok ops [] [] rfl (fun j i h => by simp [waitsFor] at h)
  simpa [closure] using this

def Closed (ops : Array Oper) (listed : Array Bool) : Prop := ∀ j o, ops[j]? = some o → listed.getD j false = true → ∀ e ∈ o.after, Region.binds .any e = true → listed.getD e.on false = true
theorem closed_waits {ops : Array Oper} {listed : Array Bool} (hc : Closed ops listed) : ∀ (j i : Nat) (o : Oper), ops[j]? = some o → (∀ e ∈ o.after, Region.binds .any e = true → listed.getD e.on false = true) →
    waitsFor (closure ops.toList) j i = true → listed.getD i false = true := by
  intro j
  induction j using Nat.strongRecOn with
  | _ j ih =>
    intro i o ho hall hw
    obtain ⟨o', h1, e, he, hb, h2⟩ := closure_ok ops.toList j i hw
    rw [Array.getElem?_toList, ho] at h1; injection h1 with h1; subst h1
    have he' : e ∈ o.after := Array.mem_toList_iff.1 he
    rcases h2 with rfl | ⟨hlt, h2⟩
    · exact hall e he' hb
    · obtain ⟨o2, h3, _⟩ := closure_ok ops.toList e.on i h2
      rw [Array.getElem?_toList] at h3
      exact ih e.on hlt i o2 h3 (hc e.on o2 h3 (hall e he' hb)) h2

section
variable {P : Program} {ops : Array Oper} {Q : Exit → Act → World → Prop} {eff : Nat → Bool}

theorem yieldsIf_op {S : World → Prop} {i : Nat} {o : Oper} {v : Value} {a : Act} (hi : ops[i]? = some o) (hy : YieldsIf P ops S o v a)
    {K : Act → World → Prop} {w : World} (hS : S w) (h : K (a.put o.dst v) w) (r : Option Nat) : wpOpIn (fw r) 0 P ops Q i K a w := by
  unfold Go.wpOpIn
  simp only [hi]
  rcases hy with ⟨hw, hv⟩ | ⟨hw, rfl⟩
  · simp only [hw, if_true]; exact wpIn_value (hv w hS) h r
  · simp only [hw, Bool.false_eq_true, if_false]; exact ⟨fun _ _ => trivial, h⟩
/-- One operation, apart from another one that only looks: the other's value may be there already. -/
theorem op_putIf {S : World → Prop} {j : Nat} {oi oj : Oper} {v : Value} (hj : ops[j]? = some oj) (hap : oi.apart ops oj = true)
    (hsi : ∀ cs b, oi.op ≠ .select cs b) (hsj : ∀ cs b, oj.op ≠ .select cs b) (hdj : ∀ c, oj.op ≠ .defer c)
    (hQ : ∀ c a w, Q (.panic c) (a.put oi.dst v) w → Q (.panic c) a w) {K : Act → World → Prop} {a : Act} {w : World} {r : Option Nat}
    (hy : YieldsIf P ops S oi v a) (h : wpOpIn (fw r) 0 P ops Q j K (a.put oi.dst v) w) :
    wpOpIn (fw r) 0 P ops Q j (fun a' w' => YieldsIf P ops S oi v a' ∧ K (a'.put oi.dst v) w') a w := by
  obtain ⟨n1, n2, n3⟩ := Oper.apart_spec hap
  have stays : ∀ u, YieldsIf P ops S oi v (a.put oj.dst u) := fun u => hy.of_same (execOp_put oi hsi a oj.dst u n3) (wanted_put oi a oj.dst u n3)
  unfold wpOpIn at h ⊢
  simp only [hj] at h ⊢
  rw [wanted_put oj a oi.dst v n1] at h
  cases hw : Region.wanted oj (yielded ops a.tmps) with
  | false =>
    simp only [hw, Bool.false_eq_true, if_false] at h ⊢
    exact ⟨fun _ _ => trivial, stays _, by rw [← Act.put_comm a v undef n2]; exact h.2⟩
  | true =>
    simp only [hw, if_true] at h ⊢
    refine ⟨fun _ _ => trivial, ?_⟩
    have h := h.2
    rw [Oper.semAt_eq _ _ _ hdj, execOp_put oj hsj a oi.dst v n1] at h
    rw [Oper.semAt_eq _ _ _ hdj]
    cases hrun : (execOp a.eval oj).run P w with
    | halt x w' =>
      rw [hrun] at h
      cases x <;> simp only [Oper.uponIn] at h ⊢
      exact hQ _ _ _ h
    | ok x w' =>
      rw [hrun] at h
      have back : ∀ u, (a.put oi.dst v).put oj.dst u = (a.put oj.dst u).put oi.dst v := fun u => Act.put_comm a v u n2
      cases x <;> simp only [Oper.uponIn] at h ⊢
      case value u => exact ⟨stays u, by rw [← back]; exact h⟩
      case skip => exact ⟨stays _, by rw [← back]; exact h⟩
      case defer d =>
        refine ⟨YieldsIf.of_same (a := a.put oj.dst undef) (stays undef) ?_ ?_, ?_⟩
        · rw [← Act.put_defers]; rfl
        · rw [← Act.put_defers]
        · rw [← Act.put_comm _ v undef n2, ← Act.put_defers]
          exact h
      case enter f args => exact ⟨h.1, CallsIn.mono h.2 fun e w2 he => by
        cases e with
        | returned u => exact ⟨stays u, by rw [← back]; exact he⟩
        | panicked c => exact hQ _ _ _ he
        | outgrown => exact he⟩
      case row row args => exact ⟨h.1, RowsIn.mono h.2 fun u w2 he => ⟨stays u, by rw [← back]; exact he⟩⟩
      case round l f tmps assign body => exact ⟨h.1, RoundIn.mono h.2 fun e w2 he => by
        cases e with
        | returned u => exact ⟨stays u, by rw [← back]; exact he⟩
        | panicked c => exact hQ _ _ _ he
        | outgrown => exact he⟩

/-- What was looked at, and by which operation. -/
abbrev Pend := List (Nat × (World → Prop))
def Kept (ops : Array Oper) (j : Nat) (pend : Pend) (w : World) : Prop := ∀ p ∈ pend, waitsFor (closure ops.toList) j p.1 = false → p.2 w
/-- Who comes up now leaves those behind that it waits for. -/
def after (ops : Array Oper) (j : Nat) (pend : Pend) : Pend := pend.filter fun p => !waitsFor (closure ops.toList) j p.1
theorem mem_after {j : Nat} {pend : Pend} {p : Nat × (World → Prop)} : p ∈ after ops j pend ↔ p ∈ pend ∧ waitsFor (closure ops.toList) j p.1 = false := by
  simp [after]
/-- Whatever order is picked; behind an operation that acts, what was looked at and need not have been looked at ahead of it is as it was. -/
def wpX (r : Option Nat) (P : Program) (ops : Array Oper) (Q : Exit → Act → World → Prop) (eff : Nat → Bool) : Pend → Nat → Array Bool → Act → World → Prop
  | _, 0, listed, a, w => Region.ready .any ops listed = [] ∧ Q .normal a w
  | pend, fuel + 1, listed, a, w =>
    (Region.ready .any ops listed = [] → Q .normal a w) ∧
    ∀ j ∈ Region.ready .any ops listed, wpOpIn (fw r) 0 P ops Q j (fun a' w' => (eff j = true → Kept ops j pend w') ∧ (eff j = false → w' = w) ∧
      wpX r P ops Q eff (after ops j pend) fuel (listed.setIfInBounds j true) a' w') a w

theorem wpAny_of_X {r : Option Nat} : ∀ (fuel : Nat) (pend : Pend) (listed : Array Bool) (a : Act) (w : World), wpX r P ops Q eff pend fuel listed a w → wpAnyIn (fw r) 0 P .any ops Q fuel listed a w
  | 0, _, _, _, _, h => h
  | fuel + 1, _, _, _, _, h => ⟨h.1, fun i hi => wpOpIn_mono (fun a' w' h' => wpAny_of_X fuel _ _ a' w' h'.2.2) (h.2 i hi)⟩
theorem wpX_less {r : Option Nat} : ∀ (fuel : Nat) (pend pend' : Pend) (listed : Array Bool) (a : Act) (w : World), (∀ p ∈ pend', p ∈ pend) → wpX r P ops Q eff pend fuel listed a w → wpX r P ops Q eff pend' fuel listed a w
  | 0, _, _, _, _, _, _, h => h
  | fuel + 1, pend, pend', _, _, _, hp, h => ⟨h.1, fun i hi => wpOpIn_mono (fun a' w' h' => ⟨fun e q hq => h'.1 e q (hp q hq), h'.2.1,
      wpX_less fuel _ _ _ a' w' (fun q hq => mem_after.2 ⟨hp q (mem_after.1 hq).1, (mem_after.1 hq).2⟩) h'.2.2⟩) (h.2 i hi)⟩

theorem closed_set {listed : Array Bool} (hc : Closed ops listed) {j : Nat} (hj : j ∈ Region.ready .any ops listed) : Closed ops (listed.setIfInBounds j true) := by
  obtain ⟨h0, o, ho, hall⟩ := mem_ready.1 hj
  intro k ok hk hl e he hb
  by_cases hkj : k = j
  · subst hkj
    rw [ho] at hk; injection hk with hk; subst hk
    exact getD_set_true (hall e he hb)
  · rw [getD_set_ne _ (fun e => hkj e.symm)] at hl
    exact getD_set_true (hc k ok hk hl e he hb)

theorem wpX_first {r : Option Nat} {i : Nat} {oi : Oper} {v : Value} {c : World → Prop} (hi : ops[i]? = some oi) (hsel : ∀ (j : Nat) (o : Oper) cs b, ops[j]? = some o → o.op ≠ .select cs b) (hdef : ∀ (j : Nat) (o : Oper) c, ops[j]? = some o → o.op ≠ .defer c) (heff : eff i = false)
    (hQ : ∀ c a w, Q (.panic c) (a.put oi.dst v) w → Q (.panic c) a w) :
    ∀ (fuel : Nat) (pend : Pend) (listed : Array Bool) (a : Act) (w : World), Closed ops listed →
      (∀ j oj, ops[j]? = some oj → j ≠ i → listed.getD j true = false → (∀ e ∈ oj.after, Region.binds .any e = true → e.on ≠ i) → oi.apart ops oj = true) →
      i ∈ Region.ready .any ops listed → YieldsIf P ops c oi v a → c w →
      wpX r P ops Q eff ((i, c) :: pend) fuel (listed.setIfInBounds i true) (a.put oi.dst v) w → wpX r P ops Q eff pend (fuel + 1) listed a w := by
  intro fuel
  induction fuel with
  | zero =>
    intro pend listed a w _ _ hr hy hS H
    refine ⟨fun h => (by rw [h] at hr; cases hr), fun j hj => ?_⟩
    by_cases hji : j = i
    · subst hji; exact yieldsIf_op hi hy hS ⟨fun e => (by rw [heff] at e; cases e), fun _ => rfl, wpX_less _ _ _ _ _ _ (fun p hp => List.mem_cons_of_mem _ (mem_after.1 hp).1) H⟩ r
    · have := ready_mono hj hji
      rw [H.1] at this
      cases this
  | succ fuel ih =>
    intro pend listed a w hc hfree hr hy hS H
    refine ⟨fun h => (by rw [h] at hr; cases hr), fun j hj => ?_⟩
    by_cases hji : j = i
    · subst hji; exact yieldsIf_op hi hy hS ⟨fun e => (by rw [heff] at e; cases e), fun _ => rfl, wpX_less _ _ _ _ _ _ (fun p hp => List.mem_cons_of_mem _ (mem_after.1 hp).1) H⟩ r
    · have h1 := H.2 j (ready_mono hj hji)
      obtain ⟨hjun, oj, hoj, hall⟩ := mem_ready.1 hj
      have hnot : ∀ e ∈ oj.after, Region.binds .any e = true → e.on ≠ i := fun e he hb heq => by
        have h1 := hall e he hb
        have h0 := (mem_ready.1 hr).1
        rw [heq] at h1
        rcases Nat.lt_or_ge i listed.size with h' | h'
        · simp [h'] at h0 h1; rw [h0] at h1; cases h1
        · simp [Array.getElem?_eq_none h'] at h1
      have h2 := op_putIf hoj (hfree j oj hoj hji hjun hnot) (fun cs b => hsel i oi cs b hi) (fun cs b => hsel j oj cs b hoj) (fun c => hdef j oj c hoj) hQ hy h1
      have hil : listed.getD i false = false := by
        have h0 := (mem_ready.1 hr).1
        rcases Nat.lt_or_ge i listed.size with h' | h'
        · simp [h'] at h0 ⊢; exact h0
        · simp [Array.getElem?_eq_none h']
      have hwf : waitsFor (closure ops.toList) j i = false := by
        cases hw : waitsFor (closure ops.toList) j i with
        | false => rfl
        | true => rw [closed_waits hc j i oj hoj hall hw] at hil; cases hil
      have hfree' : ∀ k ok, ops[k]? = some ok → k ≠ i → (listed.setIfInBounds j true).getD k true = false →
          (∀ e ∈ ok.after, Region.binds .any e = true → e.on ≠ i) → oi.apart ops ok = true := fun k ok hk hki hun hno => by
        by_cases hkj : j = k
        · subst hkj
          rcases Nat.lt_or_ge j listed.size with h' | h'
          · simp [h'] at hun
          · exact hfree j ok hk hki (by simp [Array.getElem?_eq_none h'] at hun) hno
        · rw [getD_set_ne _ hkj] at hun
          exact hfree k ok hk hki hun hno
      have hswap : (listed.setIfInBounds i true).setIfInBounds j true = (listed.setIfInBounds j true).setIfInBounds i true := by
        rw [Array.setIfInBounds_comm]; exact fun e => hji e.symm
      have hni : i ∈ Region.ready .any ops (listed.setIfInBounds j true) := ready_mono hr (fun e => hji e.symm)
      have haf : after ops j ((i, c) :: pend) = (i, c) :: after ops j pend := by simp [after, hwf]
      refine wpOpIn_mono (fun a' w' ⟨hy', hob, hsame, hx⟩ => ?_) h2
      have hCi : c w' := by
        cases he : eff j with
        | true => exact hob he (i, c) (by simp) hwf
        | false => rw [hsame he]; exact hS
      refine ⟨fun he q hq => hob he q (List.mem_cons_of_mem _ hq), hsame, ?_⟩
      rw [hswap, haf] at hx
      exact ih _ _ a' w' (closed_set hc hj) hfree' hni hy' hCi hx
end
end Go.L

set_option linter.unusedVariables false
set_option linter.unusedSimpArgs false
namespace Go.L
open Go Go.RowKit

/-! ### What is known of a state: some objects, some tokens -/
abbrev Hp := List (Nat × LObj)
abbrev Tk := List (Nat × Nat)
structure Has (st : St) (L : Hp) (T : Tk) : Prop where
  obj : ∀ p ∈ L, st.heap[p.1]? = some p.2
  tok : ∀ p ∈ T, st.toks[p.1]? = some p.2
  nd : (L.map (·.1)).Nodup
  nt : (T.map (·.1)).Nodup

abbrev HQ := Exit → Fr → Hp → Tk → Prop
def notPanic : Exit → Prop
  | .panic _ => False
  | _ => True
def lift (Q : HQ) : Exit → Fr → St → Prop := fun e r s => notPanic e ∧ ∃ L' T', Has s L' T' ∧ Q e r L' T'

/-- Does the guard let an operation be carried out, or not? -/
def guardReg (ops : Array Oper) (g : Nat) (regs : Fr) : Option LV := ((ops[g]?).bind (·.dst)).bind fun d => opdO regs (.tmp d)
def Taken (ops : Array Oper) (o : Oper) (regs : Fr) : Prop :=
  match o.guard with
  | none => True
  | some (g, b) => guardReg ops g regs = some (.bool b)
def Left (ops : Array Oper) (o : Oper) (regs : Fr) : Prop :=
  match o.guard with
  | none => False
  | some (g, b) => guardReg ops g regs = some .skp ∨ guardReg ops g regs = some (.bool !b)

theorem guardReg_rep {G : Ghost} {ops : Array Oper} {g : Nat} {tmps : Array Value} {regs : Fr} {l : LV} (h : RepF G tmps.toList regs) (hg : guardReg ops g regs = some l) :
    ∃ d v, (ops[g]?).bind (·.dst) = some d ∧ tmps[d]? = some v ∧ Rep G v l := by
  unfold guardReg at hg
  cases hd : (ops[g]?).bind (·.dst) with
  | none => simp [hd] at hg
  | some d =>
    simp only [hd, Option.bind_some, opdO] at hg
    cases hb : Nat.blt d regs.n with
    | false => rw [hb] at hg; cases hg
    | true =>
      rw [hb] at hg
      have hlt : d < regs.n := by rw [Nat.blt_eq] at hb; exact hb
      have hlt' : d < tmps.size := by rw [← h.1, Array.length_toList] at hlt; exact hlt
      exact ⟨d, tmps[d], rfl, by simp [hlt'], h.2 d l hg _ (by simp [hlt'])⟩
theorem wanted_taken {G : Ghost} {ops : Array Oper} {o : Oper} {tmps : Array Value} {regs : Fr} (h : RepF G tmps.toList regs) (ht : Taken ops o regs) : Region.wanted o (yielded ops tmps) = true := by
  unfold Taken at ht
  unfold Region.wanted
  split
  · rfl
  · rename_i g b hg
    rw [hg] at ht
    obtain ⟨d, v, h1, h2, h3⟩ := guardReg_rep h ht
    cases h3
    simp [yielded, h1, h2]
theorem wanted_left {G : Ghost} {ops : Array Oper} {o : Oper} {tmps : Array Value} {regs : Fr} (h : RepF G tmps.toList regs) (ht : Left ops o regs) : Region.wanted o (yielded ops tmps) = false := by
  unfold Left at ht
  unfold Region.wanted
  split
  · rename_i hg; rw [hg] at ht; exact ht.elim
  · rename_i g b hg
    rw [hg] at ht
    rcases ht with ht | ht
    · obtain ⟨d, v, h1, h2, h3⟩ := guardReg_rep h ht
      cases h3
      simp [yielded, h1, h2, Go.undef]
    · obtain ⟨d, v, h1, h2, h3⟩ := guardReg_rep h ht
      cases h3
      simp [yielded, h1, h2]

/-! ### In which order a region is gone through -/
inductive Plan where
  | done
  | rd (i : Nat) (p : Plan)
  | act (j : Nat) (U : List Nat) (p : Plan)
  | alt (p q : Plan)

def depOp (o : Op) : Bool :=
  match o with
  | .load .. | .lookup .. | .call _ | .convert .. => true
  | _ => false
def depAt (ops : Array Oper) (j : Nat) : Bool := match ops[j]? with | some o => depOp o.op | none => false

abbrev Pends := List (Nat × List Nat)
/-- What was looked at, and may be looked at later, is as it was. -/
def keptH (U : List Nat) (pend : Pends) (L L' : Hp) : Prop := ∀ i ∈ U, ∀ p ∈ pend, p.1 = i → ∀ id ∈ p.2, ∃ o, (id, o) ∈ L ∧ (id, o) ∈ L'

def HReads (P : Program) (regs : Fr) (L : Hp) (T : Tk) (o : Oper) (l : LV) (deps : List Nat) : Prop := ∀ st, Has st L T → Reads P st regs o l deps
def HDoes (P : Program) (regs : Fr) (L : Hp) (T : Tk) (o : Oper) (K : LV → Hp → Tk → Prop) : Prop :=
  ∀ st, Has st L T → Does P st regs o (fun l st' => ∃ L' T', Has st' L' T' ∧ K l L' T')

def HPlan (P : Program) (ops : Array Oper) (Q : HQ) : Plan → Pends → Fr → Hp → Tk → Prop
  | .done, _, regs, L, T => Q .normal regs L T
  | .rd i p, pend, regs, L, T => ∃ o, ops[i]? = some o ∧
      ((Left ops o regs ∧ HPlan P ops Q p pend (setR o.dst .skp regs) L T) ∨
       (Taken ops o regs ∧ ∃ l deps, (depOp o.op = false → deps = []) ∧ HReads P regs L T o l deps ∧ HPlan P ops Q p (if depOp o.op then (i, deps) :: pend else pend) (setR o.dst l regs) L T))
  | .act j U p, pend, regs, L, T => ∃ o, ops[j]? = some o ∧
      ((Left ops o regs ∧ HPlan P ops Q p pend (setR o.dst .skp regs) L T) ∨
       (Taken ops o regs ∧ HDoes P regs L T o (fun l L' T' => keptH U pend L L' ∧ HPlan P ops Q p pend (setR o.dst l regs) L' T')))
  | .alt p q, pend, regs, L, T => HPlan P ops Q p pend regs L T ∧ HPlan P ops Q q pend regs L T

def Plan.heads : Plan → List Nat
  | .act j _ _ => [j]
  | .alt p q => p.heads ++ q.heads
  | _ => []
def freeOp (ops : Array Oper) (i : Nat) (listed : Array Bool) : Bool :=
  match ops[i]? with
  | none => false
  | some oi => (List.range ops.size).all fun j => j == i || listed.getD j true || (match ops[j]? with | none => true | some oj => (oj.after.toList.any fun e => Region.binds .any e && e.on == i) || oi.apart ops oj)
def Plan.acts : Plan → List Nat
  | .done => []
  | .rd _ p => p.acts
  | .act j _ p => j :: p.acts
  | .alt p q => p.acts ++ q.acts
def okPlan (ops : Array Oper) (acts : List Nat) (cl : List Nat) : Bool → Plan → Nat → Array Bool → List Nat → Bool
  | _, .done, _, listed, _ => (Region.ready .any ops listed).isEmpty
  | top, .rd i p, f, listed, done => match f with
    | 0 => false
    | f + 1 => top && (Region.ready .any ops listed).contains i && !acts.contains i && freeOp ops i listed && okPlan ops acts cl true p f (listed.setIfInBounds i true) (if depAt ops i then i :: done else done)
  | top, .act j U p, f, listed, done => match f with
    | 0 => false
    | f + 1 => (!top || (!(Region.ready .any ops listed).isEmpty && (Region.ready .any ops listed).all (· == j))) && acts.contains j && done.all (fun i => waitsFor cl j i || U.contains i) && okPlan ops acts cl true p f (listed.setIfInBounds j true) done
  | top, .alt p q, f, listed, done => (!top || (!(Region.ready .any ops listed).isEmpty && (Region.ready .any ops listed).all fun i => (p.heads ++ q.heads).contains i)) && okPlan ops acts cl false p f listed done && okPlan ops acts cl false q f listed done
def noSelect (ops : Array Oper) : Bool := ops.toList.all fun o => match o.op with | .select .. => false | .defer .. => false | _ => true
def drawOk (ops : Array Oper) (p : Plan) : Bool := noSelect ops && okPlan ops p.acts (closure ops.toList) true p ops.size (Array.replicate ops.size false) []
def textOk : Nat → Nat → Plan → Bool
  | i, n, .done => i == n
  | i, n, .rd j p => i == j && textOk (i + 1) n p
  | i, n, .act j _ p => i == j && textOk (i + 1) n p
  | _, _, .alt _ _ => false

section
variable {P : Program} {ops : Array Oper} {Q : HQ}

theorem noSelect_spec (h : noSelect ops = true) : ∀ (j : Nat) (o : Oper) cs b, ops[j]? = some o → o.op ≠ .select cs b := by
  intro j o cs b ho e
  unfold noSelect at h
  rw [List.all_eq_true] at h
  have hm : o ∈ ops.toList := Array.mem_toList_iff.2 (Array.mem_of_getElem? ho)
  have := h o hm
  rw [e] at this
  cases this

theorem noDefer_spec (h : noSelect ops = true) : ∀ (j : Nat) (o : Oper) c, ops[j]? = some o → o.op ≠ .defer c := by
  intro j o c ho e
  unfold noSelect at h
  rw [List.all_eq_true] at h
  have hm : o ∈ ops.toList := Array.mem_toList_iff.2 (Array.mem_of_getElem? ho)
  have := h o hm
  rw [e] at this
  cases this

/-! ### In the order of the text -/
theorem put_defers (a : Act) (d : Option Tmp) (v : Value) : (a.put d v).defers = a.defers := by cases d <;> rfl

theorem drop_cons {ops : Array Oper} {i : Nat} {o : Oper} (h : ops[i]? = some o) : ops.toList.drop i = o :: ops.toList.drop (i + 1) := by
  have hlt : i < ops.toList.length := by
    rw [Array.length_toList]
    rcases Nat.lt_or_ge i ops.size with h' | h'
    · exact h'
    · rw [Array.getElem?_eq_none h'] at h; cases h
  rw [List.drop_eq_getElem_cons hlt]
  congr 1
  have : ops.toList[i]? = some o := by rw [Array.getElem?_toList]; exact h
  rw [List.getElem?_eq_getElem hlt] at this
  exact Option.some.inj this

theorem DefOk.put {G : Ghost} {st : St} {w : World} {n : Nat} {a : Act} (h : DefOk G st w n a.defers) (d : Option Tmp) (v : Value) : DefOk G st w n (a.put d v).defers := by rw [put_defers]; exact h
theorem text_sound {G0 : Ghost} {st0 : St} {w0 : World} {n : Nat} {ro : Option Nat} (h0 : Rel G0 st0 w0) : ∀ (p : Plan) (i : Nat) (pend : Pends) (regs : Fr) (L : Hp) (T : Tk) (st : St) (G : Ghost) (a : Act) (w : World),
    textOk i ops.size p = true → HPlan P ops Q p pend regs L T → Has st L T → Step G0 st0 w0 G st w → RepF G a.tmps.toList regs → DefOk G st w n a.defers →
    wpListIn (fw ro) 0 P ops (Post G0 st0 w0 n (lift Q)) (ops.toList.drop i) a w
  | .done, i, pend, regs, L, T, st, G, a, w, hp, H, hh, hs, hr, hd => by
    simp only [textOk, beq_iff_eq] at hp
    subst hp
    have : ops.toList.drop ops.size = [] := by rw [← Array.length_toList]; exact List.drop_length
    rw [this]
    exact ⟨regs, st, G, hs, hr, hd, trivial, L, T, hh, H⟩
  | .rd j p, i, pend, regs, L, T, st, G, a, w, hp, H, hh, hs, hr, hd => by
    simp only [textOk, Bool.and_eq_true, beq_iff_eq] at hp
    obtain ⟨rfl, hp⟩ := hp
    obtain ⟨o, ho, H⟩ := H
    rw [drop_cons ho]
    simp only [wpListIn]
    rcases H with ⟨hl, H⟩ | ⟨ht, l, deps, _, hrd, H⟩
    · rw [wanted_left hr hl]
      simp only [Bool.false_eq_true, if_false]
      exact ⟨fun _ _ => trivial, text_sound h0 p _ pend _ L T st G _ w hp H hh hs (repF_put hr o.dst .skp) (hd.put _ _)⟩
    · rw [wanted_taken hr ht]
      simp only [if_true]
      refine does_reads (K := fun l' s => l' = l ∧ s = st) (hrd st hh) ⟨rfl, rfl⟩ G a w hs.rel hr _ _ (fun v l' st' w' G' hs' hv ⟨e1, e2⟩ => ?_) ro
      subst e1; subst e2
      exact text_sound h0 p _ _ _ L T _ G' _ w' hp H hh (hs.trans h0 hs') (repF_put (hr.mono hs'.le) o.dst hv) ((hd.step hs').put _ _)
  | .act j U p, i, pend, regs, L, T, st, G, a, w, hp, H, hh, hs, hr, hd => by
    simp only [textOk, Bool.and_eq_true, beq_iff_eq] at hp
    obtain ⟨rfl, hp⟩ := hp
    obtain ⟨o, ho, H⟩ := H
    rw [drop_cons ho]
    simp only [wpListIn]
    rcases H with ⟨hl, H⟩ | ⟨ht, H⟩
    · rw [wanted_left hr hl]
      simp only [Bool.false_eq_true, if_false]
      exact ⟨fun _ _ => trivial, text_sound h0 p _ pend _ L T st G _ w hp H hh hs (repF_put hr o.dst .skp) (hd.put _ _)⟩
    · rw [wanted_taken hr ht]
      simp only [if_true]
      refine H st hh G a w hs.rel hr _ _ (fun v l st' w' G' hs' hv ⟨L', T', hh', _, H'⟩ => ?_) ro
      exact text_sound h0 p _ pend _ L' T' st' G' _ w' hp H' hh' (hs.trans h0 hs') (repF_put (hr.mono hs'.le) o.dst hv) ((hd.step hs').put _ _)
  | .alt p q, i, pend, regs, L, T, st, G, a, w, hp, H, hh, hs, hr, hd => by simp [textOk] at hp

/-! ### In whichever order -/
def PendOk (pend : Pends) (pw : Pend) (G : Ghost) (st : St) (w : World) : Prop :=
  ∀ q ∈ pw, ∃ ids : List Nat, (ids = [] ∨ (q.1, ids) ∈ pend) ∧ ∀ G' st' w', Step G st w G' st' w' → (∀ id ∈ ids, st'.heap[id]? = st.heap[id]?) → q.2 w'

theorem free_spec {i : Nat} {oi : Oper} (hi : ops[i]? = some oi) {listed : Array Bool} (h : freeOp ops i listed = true) :
    ∀ j oj, ops[j]? = some oj → j ≠ i → listed.getD j true = false → (∀ e ∈ oj.after, Region.binds .any e = true → e.on ≠ i) → oi.apart ops oj = true := by
  intro j oj hj hji hun hno
  unfold freeOp at h
  simp only [hi, List.all_eq_true, List.mem_range] at h
  have hlt : j < ops.size := by
    rcases Nat.lt_or_ge j ops.size with h' | h'
    · exact h'
    · rw [Array.getElem?_eq_none h'] at hj; cases hj
  have := h j hlt
  simp only [hj, hun, Bool.or_false, Bool.or_eq_true, beq_iff_eq, hji, false_or, List.any_eq_true, Bool.and_eq_true] at this
  rcases this with ⟨e, he, h1, h2⟩ | h2
  · exact (hno e (Array.mem_toList_iff.1 he) h1 h2).elim
  · exact h2

theorem cell_heap {w w' : World} {b : Nat} (h : w'.heap[b]? = w.heap[b]?) (i : Nat) : w'.cell? ⟨b, i, none⟩ = w.cell? ⟨b, i, none⟩ := by
  unfold World.cell?; simp only [h]

theorem has_same {st st' : St} {L L' : Hp} {T T' : Tk} (h : Has st L T) (h' : Has st' L' T') {id : Nat} {o : LObj} (m : (id, o) ∈ L) (m' : (id, o) ∈ L') : st'.heap[id]? = st.heap[id]? :=
  (h'.obj _ m').trans (h.obj _ m).symm

/-- One that comes up now, of those that a plan begins with. -/
def ActOk (ro : Option Nat) (P : Program) (ops : Array Oper) (acts : List Nat) (pw : Pend) (fuel : Nat) (listed : Array Bool) (Qw : Exit → Act → World → Prop) (j : Nat) (a : Act) (w : World) : Prop :=
  wpOpIn (fw ro) 0 P ops Qw j (fun a' w' => (acts.contains j = true → Kept ops j pw w') ∧ (acts.contains j = false → w' = w) ∧ wpX ro P ops Qw (fun j => acts.contains j) (after ops j pw) fuel (listed.setIfInBounds j true) a' w') a w

theorem draw_sound {G0 : Ghost} {st0 : St} {w0 : World} {n : Nat} {ro : Option Nat} (h0 : Rel G0 st0 w0) (hns : noSelect ops = true) {acts : List Nat} : ∀ (p : Plan) (top : Bool) (fuel : Nat) (listed : Array Bool) (done : List Nat) (pend : Pends) (regs : Fr) (L : Hp) (T : Tk) (st : St) (G : Ghost) (a : Act) (w : World) (pw : Pend),
    okPlan ops acts (closure ops.toList) top p fuel listed done = true → HPlan P ops Q p pend regs L T → Has st L T → Step G0 st0 w0 G st w → RepF G a.tmps.toList regs → DefOk G st w n a.defers → Closed ops listed →
    (∀ q ∈ pend, q.1 ∈ done) → PendOk pend pw G st w →
    (top = true → wpX ro P ops (Post G0 st0 w0 n (lift Q)) (fun j => acts.contains j) pw fuel listed a w) ∧
    (∀ j ∈ p.heads, j ∈ Region.ready .any ops listed → ∃ f, fuel = f + 1 ∧ ActOk ro P ops acts pw f listed (Post G0 st0 w0 n (lift Q)) j a w)
  | .done, top, fuel, listed, done, pend, regs, L, T, st, G, a, w, pw, hp, H, hh, hs, hr, hd, hc, hpd, hpk => by
    simp only [okPlan, List.isEmpty_iff] at hp
    have hq : Post G0 st0 w0 n (lift Q) .normal a w := ⟨regs, st, G, hs, hr, hd, trivial, L, T, hh, H⟩
    refine ⟨fun _ => ?_, fun j hj => (by cases hj)⟩
    cases fuel with
    | zero => exact ⟨hp, hq⟩
    | succ f => exact ⟨fun _ => hq, fun j hj => (by rw [hp] at hj; cases hj)⟩
  | .rd i p, top, fuel, listed, done, pend, regs, L, T, st, G, a, w, pw, hp, H, hh, hs, hr, hd, hc, hpd, hpk => by
    refine ⟨fun _ => ?_, fun j hj => (by cases hj)⟩
    cases fuel with
    | zero => simp [okPlan] at hp
    | succ f =>
      simp only [okPlan, Bool.and_eq_true, Bool.not_eq_true', List.contains_iff_mem] at hp
      obtain ⟨⟨⟨⟨_, hrdy⟩, heff⟩, hfree⟩, hp⟩ := hp
      obtain ⟨o, ho, H⟩ := H
      have hda : depAt ops i = depOp o.op := by simp [depAt, ho]
      have hQ : ∀ (v : Value) (c : List PanicEntry) (a' : Act) (w' : World), Post G0 st0 w0 n (lift Q) (.panic c) (a'.put o.dst v) w' → Post G0 st0 w0 n (lift Q) (.panic c) a' w' :=
        fun v c a' w' ⟨_, _, _, _, _, _, hn, _⟩ => hn.elim
      rcases H with ⟨hl, H⟩ | ⟨ht, l, deps, hdp, hrd, H⟩
      · refine wpX_first (v := Go.undef) (c := fun _ => True) ho (noSelect_spec hns) (noDefer_spec hns) heff (hQ _) f pw listed a w hc (free_spec ho hfree) hrdy (.inr ⟨wanted_left hr hl, rfl⟩) trivial ?_
        refine (draw_sound h0 hns p true f _ _ pend _ L T st G _ w ((i, fun _ => True) :: pw) hp H hh hs (repF_put hr o.dst .skp) (hd.put _ _) (closed_set hc hrdy) (fun q hq => ?_) (fun q hq => ?_)).1 rfl
        · split
          · exact List.mem_cons_of_mem _ (hpd q hq)
          · exact hpd q hq
        · rcases List.mem_cons.1 hq with rfl | hq
          · exact ⟨[], .inl rfl, fun _ _ _ _ _ => trivial⟩
          · exact hpk q hq
      · obtain ⟨v, hv, hrun⟩ := hrd st hh G a w hs.rel hr
        refine wpX_first (v := v) (c := fun w' => (∀ id ∈ deps, ∀ b, G.blk id = some b → w'.heap[b]? = w.heap[b]?) ∧ (∀ (b i : Nat) (x : Value), G.imm b i = some x → w'.cell? ⟨b, i, none⟩ = some x)) ho (noSelect_spec hns) (noDefer_spec hns) heff (hQ _) f pw listed a w hc (free_spec ho hfree) hrdy
          (.inl ⟨wanted_taken hr ht, fun w' hw' => hrun w' hw'.1 hw'.2⟩) ⟨fun _ _ _ _ => rfl, hs.rel.imm⟩ ?_
        refine (draw_sound h0 hns p true f _ _ _ _ L T st G _ w _ hp H hh hs (repF_put hr o.dst hv) (hd.put _ _) (closed_set hc hrdy) (fun q hq => ?_) (fun q hq => ?_)).1 rfl
        · rw [hda]
          split at hq
          · rename_i e
            rw [if_pos e]
            rcases List.mem_cons.1 hq with rfl | hq
            · exact List.mem_cons_self
            · exact List.mem_cons_of_mem _ (hpd q hq)
          · rename_i e
            rw [if_neg e]
            exact hpd q hq
        · rcases List.mem_cons.1 hq with rfl | hq
          · refine ⟨deps, ?_, fun G' st' w' hs' hk => ⟨fun id hid b hb => hs'.keep id b hb (hk id hid), fun b k x hx => hs'.rel.imm b k x (hs'.le.imm b k x hx)⟩⟩
            cases hdo : depOp o.op with
            | false => exact .inl (hdp hdo)
            | true => exact .inr (by simp)
          · obtain ⟨ids, h1, h2⟩ := hpk q hq
            refine ⟨ids, h1.imp id fun h => ?_, h2⟩
            split
            · exact List.mem_cons_of_mem _ h
            · exact h
  | .act j U p, top, fuel, listed, done, pend, regs, L, T, st, G, a, w, pw, hp, H, hh, hs, hr, hd, hc, hpd, hpk => by
    cases fuel with
    | zero => simp [okPlan] at hp
    | succ f =>
      simp only [okPlan, Bool.and_eq_true, Bool.or_eq_true, Bool.not_eq_true', List.all_eq_true, beq_iff_eq, List.contains_iff_mem] at hp
      obtain ⟨⟨⟨htop, heff'⟩, hU⟩, hp⟩ := hp
      have heff : acts.contains j = true := List.contains_iff_mem.2 heff'
      obtain ⟨o, ho, H⟩ := H
      have key : j ∈ Region.ready .any ops listed → ActOk ro P ops acts pw f listed (Post G0 st0 w0 n (lift Q)) j a w := fun hj => by
        unfold ActOk wpOpIn
        simp only [ho]
        rcases H with ⟨hl, H⟩ | ⟨ht, H⟩
        · rw [wanted_left hr hl]
          simp only [Bool.false_eq_true, if_false]
          have hk0 : ∀ q ∈ pw, q.2 w := fun q hq => by
            obtain ⟨ids, _, h2⟩ := hpk q hq
            exact h2 G st w (.refl hs.rel) (fun _ _ => rfl)
          refine ⟨fun _ _ => trivial, fun _ q hq _ => hk0 q hq, fun e => (by rw [heff] at e; cases e), ?_⟩
          exact (draw_sound h0 hns p true f _ _ pend _ L T st G _ w _ hp H hh hs (repF_put hr o.dst .skp) (hd.put _ _) (closed_set hc hj) hpd
            (fun q hq => hpk q (mem_after.1 hq).1)).1 rfl
        · rw [wanted_taken hr ht]
          simp only [if_true]
          refine H st hh G a w hs.rel hr _ _ (fun v l st' w' G' hs' hv ⟨L', T', hh', hkept, H'⟩ => ?_) ro
          have hun : ∀ q ∈ pw, waitsFor (closure ops.toList) j q.1 = false → ∃ ids : List Nat, (ids = [] ∨ (q.1, ids) ∈ pend) ∧ (∀ id ∈ ids, st'.heap[id]? = st.heap[id]?) ∧
              ∀ G' st' w', Step G st w G' st' w' → (∀ id ∈ ids, st'.heap[id]? = st.heap[id]?) → q.2 w' := fun q hq hw => by
            obtain ⟨ids, h1, h2⟩ := hpk q hq
            refine ⟨ids, h1, fun id hid => ?_, h2⟩
            rcases h1 with rfl | h1
            · cases hid
            · have hm : q.1 ∈ U := by
                rcases hU q.1 (hpd _ h1) with h3 | h3
                · rw [hw] at h3; cases h3
                · exact h3
              obtain ⟨ob, m1, m2⟩ := hkept q.1 hm _ h1 rfl id hid
              exact has_same hh hh' m1 m2
          refine ⟨fun _ q hq hw => ?_, fun e => (by rw [heff] at e; cases e), ?_⟩
          · obtain ⟨ids, _, h2, h3⟩ := hun q hq hw
            exact h3 G' st' w' hs' h2
          · refine (draw_sound h0 hns p true f _ _ pend _ L' T' st' G' _ w' _ hp H' hh' (hs.trans h0 hs') (repF_put (hr.mono hs'.le) o.dst hv) ((hd.step hs').put _ _) (closed_set hc hj) hpd (fun q hq => ?_)).1 rfl
            obtain ⟨hq, hw⟩ := mem_after.1 hq
            obtain ⟨ids, h1, h2, h3⟩ := hun q hq hw
            exact ⟨ids, h1, fun G2 st2 w2 hs2 hk => h3 G2 st2 w2 (hs'.trans hs.rel hs2) (fun id hid => (hk id hid).trans (h2 id hid))⟩
      refine ⟨fun ht => ⟨fun e => ?_, fun k hk => ?_⟩, fun k hk hk' => ?_⟩
      · rcases htop with h | h
        · rw [ht] at h; cases h
        · rw [e] at h; simp at h
      · have : k = j := by
          rcases htop with h | h
          · rw [ht] at h; cases h
          · exact h.2 k hk
        subst this
        exact key hk
      · simp only [Plan.heads, List.mem_singleton] at hk
        subst hk
        exact ⟨f, rfl, key hk'⟩
  | .alt p q, top, fuel, listed, done, pend, regs, L, T, st, G, a, w, pw, hp, H, hh, hs, hr, hd, hc, hpd, hpk => by
    simp only [okPlan, Bool.and_eq_true, Bool.or_eq_true, Bool.not_eq_true', List.all_eq_true, List.contains_iff_mem, List.mem_append] at hp
    obtain ⟨⟨htop, hp1⟩, hp2⟩ := hp
    have i1 := (draw_sound (ro := ro) h0 hns p false fuel listed done pend regs L T st G a w pw hp1 H.1 hh hs hr hd hc hpd hpk).2
    have i2 := (draw_sound (ro := ro) h0 hns q false fuel listed done pend regs L T st G a w pw hp2 H.2 hh hs hr hd hc hpd hpk).2
    have both : ∀ j ∈ (Plan.alt p q).heads, j ∈ Region.ready .any ops listed → ∃ f, fuel = f + 1 ∧ ActOk ro P ops acts pw f listed (Post G0 st0 w0 n (lift Q)) j a w := fun j hj hr' => by
      simp only [Plan.heads, List.mem_append] at hj
      rcases hj with hj | hj
      · exact i1 j hj hr'
      · exact i2 j hj hr'
    refine ⟨fun ht => ?_, both⟩
    rcases htop with h | ⟨hne, hall⟩
    · rw [ht] at h; cases h
    · cases hrdy : Region.ready .any ops listed with
      | nil => rw [hrdy] at hne; simp at hne
      | cons k ks =>
        have hk : k ∈ Region.ready .any ops listed := by rw [hrdy]; simp
        obtain ⟨f, rfl, _⟩ := both k (by simp only [Plan.heads, List.mem_append]; exact hall k hk) hk
        refine ⟨fun e => (by rw [hrdy] at e; cases e), fun j hj => ?_⟩
        obtain ⟨f', e, hact⟩ := both j (by simp only [Plan.heads, List.mem_append]; exact hall j hj) hj
        injection e with e; subst e
        exact hact
end
end Go.L

set_option linter.unusedVariables false
set_option linter.unusedSimpArgs false
namespace Go.L
open Go Go.RowKit

def HWp (P : Program) (c : Code) (regs : Fr) (L : Hp) (T : Tk) (Q : HQ) : Prop := ∀ st, Has st L T → LWp P c regs st (lift Q)
def HCalls (P : Program) (f : FuncId) (args : List LV) (L : Hp) (T : Tk) (K : LV → Hp → Tk → Prop) : Prop :=
  ∀ st, Has st L T → LCalls P f args st (fun r st' => ∃ L' T', Has st' L' T' ∧ K r L' T')

/-- The one list is a part of the other, in whatever order. -/
def Part {α : Type} (A B : List α) : Prop := ∃ M, B.Perm (A ++ M)
theorem Part.refl {α : Type} (A : List α) : Part A A := ⟨[], by simp⟩
theorem Part.of_perm {α : Type} {A B : List α} (h : B.Perm A) : Part A B := ⟨[], by simpa using h⟩
theorem Part.tail {α : Type} (a : α) (A : List α) : Part A (a :: A) := ⟨[a], (List.perm_append_singleton a A).symm⟩
theorem Part.trans {α : Type} {A B C : List α} (h : Part A B) (k : Part B C) : Part A C := by
  obtain ⟨M, h⟩ := h
  obtain ⟨N, k⟩ := k
  exact ⟨M ++ N, (k.trans (h.append_right N)).trans (by rw [List.append_assoc])⟩
theorem Part.mem {α : Type} {A B : List α} (h : Part A B) {x : α} (hx : x ∈ A) : x ∈ B := by
  obtain ⟨M, h⟩ := h
  exact h.mem_iff.2 (List.mem_append_left _ hx)
theorem Part.nodup {A B : List (Nat × LObj)} (h : Part A B) (n : (B.map (·.1)).Nodup) : (A.map (·.1)).Nodup := by
  obtain ⟨M, h⟩ := h
  have := (h.map (·.1)).nodup_iff.1 n
  rw [List.map_append] at this
  exact (List.nodup_append.1 this).1
theorem Part.nodupT {A B : List (Nat × Nat)} (h : Part A B) (n : (B.map (·.1)).Nodup) : (A.map (·.1)).Nodup := by
  obtain ⟨M, h⟩ := h
  have := (h.map (·.1)).nodup_iff.1 n
  rw [List.map_append] at this
  exact (List.nodup_append.1 this).1
theorem Has.sub {st : St} {L L' : Hp} {T T' : Tk} (h : Has st L T) (hl : Part L' L) (ht : Part T' T) : Has st L' T' :=
  ⟨fun p hp => h.obj p (hl.mem hp), fun p hp => h.tok p (ht.mem hp), hl.nodup h.nd, ht.nodupT h.nt⟩

section
variable {P : Program} {regs : Fr} {L L' : Hp} {T T' : Tk} {Q Q' : HQ}

theorem HWp.mono {c : Code} (h : HWp P c regs L T Q) (hq : ∀ e r L T, Q e r L T → Q' e r L T) : HWp P c regs L T Q' :=
  fun st hs => (h st hs).mono fun e r s ⟨n, L1, T1, h1, q⟩ => ⟨n, L1, T1, h1, hq _ _ _ _ q⟩
theorem HWp.sub {c : Code} (hl : Part L' L) (ht : Part T' T) (h : HWp P c regs L' T' Q) : HWp P c regs L T Q := fun st hs => h st (hs.sub hl ht)
theorem HWp.perm {c : Code} (hl : L.Perm L') (h : HWp P c regs L' T Q) : HWp P c regs L T Q := h.sub (.of_perm hl) (.refl _)
theorem HWp.less {c : Code} {r' : Fr} (k : Less regs r') (h : HWp P c r' L T Q) : HWp P c regs L T Q := fun st hs => (h st hs).less k
theorem HCalls.mono {f : FuncId} {args : List LV} {K K' : LV → Hp → Tk → Prop} (h : HCalls P f args L T K) (hq : ∀ r L T, K r L T → K' r L T) : HCalls P f args L T K' :=
  fun st hs => (h st hs).mono fun r s ⟨L1, T1, h1, q⟩ => ⟨L1, T1, h1, hq _ _ _ q⟩
theorem HCalls.sub {f : FuncId} {args : List LV} {K : LV → Hp → Tk → Prop} (hl : Part L' L) (ht : Part T' T) (h : HCalls P f args L' T' K) : HCalls P f args L T K := fun st hs => h st (hs.sub hl ht)
theorem HCalls.perm {f : FuncId} {args : List LV} {K : LV → Hp → Tk → Prop} (hl : L.Perm L') (h : HCalls P f args L' T K) : HCalls P f args L T K := h.sub (.of_perm hl) (.refl _)

theorem HWp.skip (h : Q .normal regs L T) : HWp P .skip regs L T Q := fun st hs => LWp.skip ⟨trivial, L, T, hs, h⟩
theorem HWp.exit {id : Nat} (h : Q (.exit id) regs L T) : HWp P (.exit id) regs L T Q := fun st hs => LWp.exit ⟨trivial, L, T, hs, h⟩
theorem HWp.ret (h : Q .ret regs L T) : HWp P .ret regs L T Q := fun st hs => LWp.ret ⟨trivial, L, T, hs, h⟩

def onNorm (N : Fr → Hp → Tk → Prop) (Q : HQ) : HQ
  | .normal => N
  | e => Q e
theorem HWp.seq {x y : Code} (h : HWp P x regs L T (onNorm (fun r L T => HWp P y r L T Q) Q)) : HWp P (.seq x y) regs L T Q := fun st hs =>
  LWp.seq ((h st hs).mono fun e r s ⟨n, L1, T1, h1, q⟩ => by
    cases e with
    | normal => exact q s h1
    | exit id => exact ⟨n, L1, T1, h1, q⟩
    | goto l => exact ⟨n, L1, T1, h1, q⟩
    | ret => exact ⟨n, L1, T1, h1, q⟩
    | panic c => exact ⟨n, L1, T1, h1, q⟩
    | outgrown => exact ⟨n, L1, T1, h1, q⟩)
/-- With what holds between the two. -/
theorem HWp.seq_cut {x y : Code} (M : Fr → Hp → Tk → Prop) (h : HWp P x regs L T (onNorm M Q)) (k : ∀ r L T, M r L T → HWp P y r L T Q) : HWp P (.seq x y) regs L T Q :=
  HWp.seq (h.mono fun e r L T q => by cases e <;> first | exact k r L T q | exact q)
theorem HWp.cond {c : Operand} {x y : Code} {b : Bool} (hc : opdO regs c = some (.bool b)) (ht : b = true → HWp P x regs L T Q) (hf : b = false → HWp P y regs L T Q) : HWp P (.cond c x y) regs L T Q := fun st hs =>
  have hb := opdV_of hc
  LWp.cond (by rw [hb]; rfl) (fun h => ht (by rw [hb] at h; exact h) st hs) (fun h => hf (by rw [hb] at h; exact h) st hs)
theorem HWp.cond_t {c : Operand} {x y : Code} (hb : opdO regs c = some (.bool true)) (ht : HWp P x regs L T Q) : HWp P (.cond c x y) regs L T Q := HWp.cond hb (fun _ => ht) (fun h => by cases h)
theorem HWp.cond_f {c : Operand} {x y : Code} (hb : opdO regs c = some (.bool false)) (hf : HWp P y regs L T Q) : HWp P (.cond c x y) regs L T Q := HWp.cond hb (fun h => by cases h) (fun _ => hf)
def onExitH (id : Nat) (Q : HQ) : HQ
  | .exit id' => if id' = id then Q .normal else Q (.exit id')
  | e => Q e
theorem HWp.block {id : Nat} {c : Code} (h : HWp P c regs L T (onExitH id Q)) : HWp P (.block id c) regs L T Q := fun st hs =>
  LWp.block ((h st hs).mono fun e r s ⟨n, L1, T1, h1, q⟩ => by
    cases e with
    | exit id' =>
      simp only [onExit, onExitH] at *
      split
      · rename_i e; rw [if_pos e] at q; exact ⟨trivial, L1, T1, h1, q⟩
      · rename_i e; rw [if_neg e] at q; exact ⟨n, L1, T1, h1, q⟩
    | normal => exact ⟨n, L1, T1, h1, q⟩
    | goto l => exact ⟨n, L1, T1, h1, q⟩
    | ret => exact ⟨n, L1, T1, h1, q⟩
    | panic c => exact ⟨n, L1, T1, h1, q⟩
    | outgrown => exact ⟨n, L1, T1, h1, q⟩)
theorem HWp.loop {c : Code} (I : Nat → Fr → Hp → Tk → Prop) (h₀ : ∃ n, I n regs L T)
    (round : ∀ n r L T, I n r L T → HWp P c r L T (onNorm (fun r' L' T' => ∃ m, m < n ∧ I m r' L' T') Q)) : HWp P (.loop c) regs L T Q := fun st hs =>
  LWp.loop (fun n r s => ∃ L T, Has s L T ∧ I n r L T) (h₀.imp fun n h => ⟨L, T, hs, h⟩) fun n r s ⟨L1, T1, h1, hI⟩ => (round n r L1 T1 hI s h1).mono fun e r s ⟨nn, L1, T1, h1, q⟩ => by
    cases e with
    | normal => obtain ⟨m, hm, hI⟩ := q; exact ⟨m, hm, L1, T1, h1, hI⟩
    | exit id => exact ⟨nn, L1, T1, h1, q⟩
    | goto l => exact ⟨nn, L1, T1, h1, q⟩
    | ret => exact ⟨nn, L1, T1, h1, q⟩
    | panic c => exact ⟨nn, L1, T1, h1, q⟩
    | outgrown => exact ⟨nn, L1, T1, h1, q⟩

theorem HWp.text {id : Nat} {ops : Array Oper} (p : Plan) (hp : textOk 0 ops.size p = true) (h : HPlan P ops Q p [] regs L T) : HWp P (.region id ops false) regs L T Q := fun st hs G a w ro n hR hr hd hn _ =>
  wpIn_region_list (by have := text_sound (n := n) (ro := ro) hR p 0 [] regs L T st G a w hp h hs (.refl hR) hr hd; simpa using this)
theorem HWp.draw {id : Nat} {ops : Array Oper} (hm : P.follows .mixedOrders = true) (p : Plan) (hp : drawOk ops p = true) (h : HPlan P ops Q p [] regs L T) : HWp P (.region id ops true) regs L T Q := fun st hs G a w ro n hR hr hd hn _ => by
  unfold drawOk at hp
  rw [Bool.and_eq_true] at hp
  refine wpIn_region_any hm (wpAny_of_X (eff := fun j => p.acts.contains j) _ [] _ _ _ ?_)
  have hk := step_drew hR
  refine (draw_sound (n := n) (ro := ro) hR hp.1 (acts := p.acts) p true _ _ [] [] regs L T st G a _ [] hp.2 h hs hk hr (hd.step hk) (fun j o ho hl => ?_) (fun q hq => by cases hq) (fun q hq => by cases hq)).1 rfl
  simp [Array.getD_eq_getD_getElem?, Array.getElem?_replicate] at hl
  split at hl <;> simp at hl

/-! ### Marks taken at a function's end -/
theorem step_unmark {G0 G : Ghost} {st0 st : St} {w0 w : World} (hd0 : ∀ id b, G0.blk id = some b → id < st0.heap.length) (h : Step G0 st0 w0 G st w) {id b : Nat} {x : Option (List Deferred)} (hid : st.heap[id]? = some (.gone 0)) (hb : G.blk id = some b) (hn : st0.heap.length ≤ id)
    (hw : w.heap[b]? = some (.deferred x)) : Step G0 st0 w0 G st (w.putObj b (.deferred none)) := by
  have hR := h.rel
  have hlt := hR.blk_lt hb
  have hoth : ∀ k, k ≠ b → (w.putObj b (.deferred none)).heap[k]? = w.heap[k]? := fun k hk => World.putObj_heap_other hk
  have hbase : G.base ≤ b := by
    obtain ⟨b', _, e1, h2, _, _⟩ := hR.objs id _ hid
    rw [hb] at e1; injection e1 with e1; subst e1; exact h2
  have himm : ∀ c i v, G.imm c i = some v → c ≠ b := fun c i v e e' => by
    subst e'
    have := hR.imm c i v e
    simp [World.cell?, hw] at this
  refine ⟨h.le, ⟨fun i o ho => ?_, hR.inj, hR.dom, fun c i v e => ?_, hR.apart, fun t ver e => ?_, hR.tokdom, hR.tokinj, ?_, ?_, hR.drew, hR.places, fun i v x e => ?_⟩, h.ver, fun i c hi he => ?_⟩
  · obtain ⟨c, obj, h1, h2, h3, h4⟩ := hR.objs i o ho
    by_cases hc : c = b
    · subst hc
      have := hR.inj i id c h1 hb
      subst this
      rw [hid] at ho; injection ho with ho; subst ho
      exact ⟨c, _, h1, h2, World.putObj_heap_same hlt, trivial⟩
    · exact ⟨c, obj, h1, h2, (hoth c hc).trans h3, h4⟩
  · simp only [World.cell?, hoth c (himm c i v e)]; exact hR.imm c i v e
  · obtain ⟨c, x, y, arr, ty, fr, h1, h2, h3, h4, h5, h6, h7⟩ := hR.toks t ver e
    exact ⟨c, x, y, arr, ty, fr, h1, (hoth c (fun e' => h6 id (e' ▸ hb))).trans h2, h3, h4, h5, h6, h7⟩
  · exact hR.below.trans ⟨rfl, rfl, rfl, by simp, fun k hk => hoth k (by omega)⟩
  · simpa using hR.size
  · obtain ⟨o', k1, k2, k3⟩ := hR.snap i v x e
    refine ⟨o', k1, k2, fun es c eo ec => (hoth c fun e' => ?_).trans (k3 es c eo ec)⟩
    subst e'
    have := hR.inj i id c ec hb
    subst this
    rw [hid] at k1; injection k1 with k1; subst k1; cases eo
  · have hne : c ≠ b := fun e => by
      subst e
      have := hR.inj i id c (h.le.blk _ _ hi) hb
      subst this
      have := hd0 i c hi
      omega
    exact (hoth c hne).trans (h.keep i c hi he)

theorem leave_marks {G0 G : Ghost} {st0 st : St} {w0 : World} {fn : Func} {tmps : Array Value} {R : Ending → World → Prop} (hd0 : ∀ id b, G0.blk id = some b → id < st0.heap.length)
    (fin : ∀ w, Step G0 st0 w0 G st w → ∃ v, (results fn tmps).run P w = .ok v w ∧ R (.returned v) w) : ∀ (ms : List (Nat × Nat)) (w : World), (ms.map (·.1)).Nodup →
      (∀ m ∈ ms, st0.heap.length ≤ m.1 ∧ G.blk m.1 = some m.2 ∧ st.heap[m.1]? = some (.gone 0) ∧ w.heap[m.2]? = some (.deferred (some []))) → Step G0 st0 w0 G st w →
      LeavesInM (fw none) 0 P fn tmps R (ms.map fun m => ⟨.collected m.2, #[]⟩) .returning w
  | [], w, _, _, hs => fin w hs
  | m :: ms, w, hnd, hall, hs => by
    obtain ⟨h1, h2, h3, h4⟩ := hall m List.mem_cons_self
    simp only [List.map_cons, List.nodup_cons] at hnd
    refine ⟨(by simp), .inl ⟨m.2, _, rfl, run_takeDeferred h4, ?_⟩⟩
    refine leave_marks hd0 fin ms _ hnd.2 (fun q hq => ?_) (step_unmark hd0 hs h3 h2 h1 h4)
    obtain ⟨k1, k2, k3, k4⟩ := hall q (List.mem_cons_of_mem _ hq)
    refine ⟨k1, k2, k3, (World.putObj_heap_other fun e => hnd.1 ?_).trans k4⟩
    rw [← hs.rel.inj q.1 m.1 m.2 (e ▸ k2) h2]
    exact List.mem_map.2 ⟨q, hq, rfl⟩

/-! ### A call's end -/
inductive ResOk (P : Program) (L : Hp) (regs : Fr) : List ResultVar → List LV → Prop where
  | nil : ResOk P L regs [] []
  | tmp {t : Nat} {l : LV} {rs : List ResultVar} {ls : List LV} (h : opdO regs (.tmp t) = some l) (k : ResOk P L regs rs ls) : ResOk P L regs (.tmp t :: rs) (l :: ls)
  | cell {a t id ty ver n : Nat} {ag : Bool} {cs : List LV} {l : LV} {rs : List ResultVar} {ls : List LV} (hs : shapeOf P t = some (ag, n)) (ha : opdO regs (.tmp a) = some (.ref id 0)) (hm : (id, .cells ty cs ver) ∈ L)
      (hn : (bif ag then n else 1) ≤ cs.length ∧ 0 < cs.length) (hl : (bif ag then .agg (cs.take n) else cs.headD .und) = l) (k : ResOk P L regs rs ls) : ResOk P L regs (.cell a t :: rs) (l :: ls)
def resV : List LV → LV
  | [l] => l
  | ls => .tup ls
def retQ (P : Program) (rs : List ResultVar) (K : LV → Hp → Tk → Prop) : HQ
  | .normal, r, L, T | .ret, r, L, T => ∃ ls, ResOk P L r rs ls ∧ K (resV ls) L T
  | _, _, _, _ => False

theorem run_loadVar {st : St} {G : Ghost} {w : World} (hR : Rel G st w) {t n id ty ver : Nat} {ag : Bool} {cs : List LV} {v : Value} (hv : Rep G v (.ref id 0)) (hs : shapeOf P t = some (ag, n)) (hid : st.heap[id]? = some (.cells ty cs ver))
    (hn : (bif ag then n else 1) ≤ cs.length ∧ 0 < cs.length) : ∃ b u, v = .pointer (some b) ∧ (loadVar t b).run P w = .ok u w ∧ Rep G u (bif ag then .agg (cs.take n) else cs.headD .und) := by
  have hat : cellsAt st (.ref id 0) = cs := by simp [objCells, hid]
  obtain ⟨u, hu, hrun⟩ := reads_load (P := P) (st := st) (regs := ⟨1, [(0, .ref id 0)]⟩) (o := { dst := none, op := .load t (.tmp 0), type := 0, pos := "", after := #[], guard := none }) (t := t) (n := n) (ag := ag) (x := .tmp 0) rfl hs
    (show loadOk st ag n (.ref id 0) by unfold loadOk; rw [hat]; exact hn) G { tmps := #[v], defers := [] } w hR ⟨rfl, fun i l hl x hx => by cases i with | zero => simp [lookE] at hx hl; subst hx; subst hl; exact hv | succ i => simp at hx⟩
  have h1 := hrun w (fun _ _ _ _ => rfl) hR.imm
  cases hv with | @ref _ _ b hb =>
  refine ⟨⟨b, 0, none⟩, u, rfl, ?_, ?_⟩
  · simp only [execOp, Instr.loadAt, Instr.sureAddr, Act.eval] at h1
    simp only [Sem.run_bind, List.getD_eq_getElem?_getD, Array.getD_eq_getD_getElem?, List.getElem?_toArray, List.getElem?_cons_zero, Option.getD_some, Sem.run_pure, Result.andThen_ok] at h1
    cases hl : (loadVar t ⟨b, 0, none⟩).run P w with
    | ok x w' => rw [hl] at h1; simp at h1; obtain ⟨rfl, rfl⟩ := h1; rfl
    | halt x w' => rw [hl] at h1; simp at h1
  · show Rep G u _
    have : loadV st ag n (opdV ⟨1, [(0, .ref id 0)]⟩ (.tmp 0)) = (bif ag then .agg (cs.take n) else cs.headD .und) := by
      show loadV st ag n (.ref id 0) = _
      simp [loadV, hat]
    rw [← this]; exact hu

/-- One result. -/
def resStep (tmps : Array Value) : ResultVar → Sem Value
  | .tmp t => pure (tmps.getD t undef)
  | .cell a t => do loadVar t (← asAddr (tmps.getD a undef))
theorem results_eq (fn : Func) (tmps : Array Value) : results fn tmps = (do let vs ← fn.results.mapM (resStep tmps); pure (if h : vs.size = 1 then vs[0] else .tuple vs)) := rfl
theorem rep_reg {G : Ghost} {tmps : Array Value} {regs : Fr} (h : RepF G tmps.toList regs) (t : Nat) : Rep G (tmps.getD t undef) (opdV regs (.tmp t)) :=
  rep_opd (a := { tmps := tmps, defers := [] }) h (.tmp t)
theorem run_res {st : St} {G : Ghost} {w : World} {tmps : Array Value} (hs : Has st L T) (hR : Rel G st w) (hr : RepF G tmps.toList regs) :
    ∀ {rs : List ResultVar} {ls : List LV}, ResOk P L regs rs ls → ∃ vs : List Value, (rs.mapM (resStep tmps)).run P w = .ok vs w ∧ RepAll G vs ls
  | _, _, .nil => ⟨[], by simp, rfl, fun i v l h => by simp at h⟩
  | _, _, .tmp (t := t) h k => by
    obtain ⟨vs, h1, h2, h3⟩ := run_res hs hR hr k
    have hv := rep_reg hr t
    rw [opdV_of h] at hv
    refine ⟨tmps.getD t undef :: vs, by rw [List.mapM_cons]; simp only [resStep, Sem.run_bind, Sem.run_pure, Result.andThen_ok, h1], by simp [h2], fun i v l hx hy => ?_⟩
    cases i with
    | zero => simp only [List.getElem?_cons_zero, Option.some.injEq] at hx hy; subst hx; subst hy; exact hv
    | succ i => exact h3 i v l (by simpa using hx) (by simpa using hy)
  | _, _, .cell (a := a) hsh ha hm hn hl k => by
    obtain ⟨vs, h1, h2, h3⟩ := run_res hs hR hr k
    have hv := rep_reg hr a
    rw [opdV_of ha] at hv
    obtain ⟨b, u, e, hrun, hu⟩ := run_loadVar (P := P) hR hv hsh (hs.obj _ hm) hn
    rw [hl] at hu
    refine ⟨u :: vs, by rw [List.mapM_cons]; simp only [resStep, e, asAddr, Sem.run_bind, Sem.run_pure, Result.andThen_ok, hrun, h1], by simp [h2], fun i v l hx hy => ?_⟩
    cases i with
    | zero => simp at hx hy; subst hx; subst hy; exact hu
    | succ i => exact h3 i v l (by simpa using hx) (by simpa using hy)

theorem run_results {fn : Func} {st : St} {G : Ghost} {w : World} {tmps : Array Value} {ls : List LV} (hs : Has st L T) (hR : Rel G st w) (hr : RepF G tmps.toList regs) (h : ResOk P L regs fn.results.toList ls) :
    ∃ v, (results fn tmps).run P w = .ok v w ∧ Rep G v (resV ls) := by
  obtain ⟨vs, h1, h2, h3⟩ := run_res hs hR hr h
  have hm : (fn.results.mapM (resStep tmps)).run P w = .ok vs.toArray w := by
    rw [← Array.toArray_toList (xs := fn.results), List.mapM_toArray, Sem.run_map, h1]; rfl
  have hlen : vs.toArray.size = ls.length := by simpa using h2
  refine ⟨_, by rw [results_eq, Sem.run_bind, hm]; rfl, ?_⟩
  cases ls with
  | nil => simp at h2; subst h2; exact .tup rfl (fun i v l hx => by simp at hx)
  | cons l ls =>
    cases ls with
    | nil =>
      cases vs with
      | nil => simp at h2
      | cons v vs =>
        have : vs = [] := by simpa using h2
        subst this
        exact h3 0 v l rfl rfl
    | cons m ls =>
      have h1' : ¬ vs.toArray.size = 1 := by rw [hlen]; simp
      rw [dif_neg h1']
      exact .tup hlen (fun i v l hx hy => h3 i v l (by simpa using hx) hy)

/-- The frame at a call's start. -/
def enumF : Nat → List LV → List (Nat × LV)
  | _, [] => []
  | i, l :: r => (i, l) :: enumF (i + 1) r
theorem lookE_enumF : ∀ (i : Nat) (args : List LV) (t : Nat) (l : LV), lookE (enumF i args) t = some l → ∃ j, t = i + j ∧ args[j]? = some l
  | i, [], t, l, h => by simp [enumF, lookE] at h
  | i, a :: r, t, l, h => by
    simp only [enumF, lookE] at h
    cases hb : Nat.beq i t with
    | true =>
      rw [hb] at h
      have e : i = t := Nat.eq_of_beq_eq_true hb
      subst e
      exact ⟨0, rfl, by simpa using h⟩
    | false =>
      rw [hb] at h
      obtain ⟨j, e, hj⟩ := lookE_enumF (i + 1) r t l h
      exact ⟨j + 1, by omega, by simpa using hj⟩
theorem HCalls.enter {f : FuncId} {fn : Func} {c : Code} {args : List LV} {K : LV → Hp → Tk → Prop} (hf : P.funcs[f]? = some fn) (hb : fn.body = some c)
    (h : HWp P c ⟨args.length + (fn.ntmps - args.length), enumF 0 args⟩ L T (retQ P fn.results.toList K)) : HCalls P f args L T K := fun st hs G vs w hR hr => by
  refine (callsIn_fw (r := none) (n := 0)).1 (callsIn_of_wp_marks hf hb trivial ?_)
  have hlen : vs.toArray.size = args.length := by simpa using hr.1
  have hl0 : vs.length = args.length := hr.1
  have hregs : RepF G (vs.toArray ++ Array.replicate (fn.ntmps - vs.toArray.size) undef).toList ⟨args.length + (fn.ntmps - args.length), enumF 0 args⟩ := by
    rw [hlen]
    refine ⟨by simp [hl0], fun t l hl v hv => ?_⟩
    obtain ⟨j, e, hj⟩ := lookE_enumF 0 args t l hl
    have e' : t = j := by omega
    subst e'
    have hlt := (List.getElem?_eq_some_iff.1 hj).1
    simp only [Array.toList_append] at hv
    rw [List.getElem?_append_left (by omega)] at hv
    exact hr.2 t v l hv hj
  refine wpIn_mono (h st hs G { tmps := vs.toArray ++ Array.replicate (fn.ntmps - vs.toArray.size) undef, defers := [] } w none st.heap.length hR hregs .nil (Nat.le_refl _) (.inl rfl)) fun e a' w' ⟨r, s, G', k, hr', hd, hn, L1, T1, h1, q⟩ => ?_
  have fin : (∃ ls, ResOk P L1 r fn.results.toList ls ∧ K (resV ls) L1 T1) → LeavesInM (fw none) 0 P fn a'.tmps (fun e w' => ∃ v, ∃ (r : LV) (st' : St) (G' : Ghost), e = .returned v ∧ Step G st w G' st' w' ∧ Rep G' v r ∧ ∃ L' T', Has st' L' T' ∧ K r L' T') a'.defers .returning w' := fun ⟨ls, h2, h3⟩ => by
    obtain ⟨ms, e1, e2, e3⟩ := hd
    rw [e1]
    refine leave_marks hR.dom (fun w2 hs2 => ?_) ms w' e2 e3 k
    obtain ⟨v, h4, h5⟩ := run_results h1 hs2.rel hr' h2
    exact ⟨v, h4, v, _, s, G', rfl, hs2, h5, L1, T1, h1, h3⟩
  cases e with
  | normal => exact fin q
  | ret => exact fin q
  | exit id => exact q.elim
  | goto l => exact q.elim
  | panic c => exact q.elim
  | outgrown => exact q.elim
end
end Go.L
