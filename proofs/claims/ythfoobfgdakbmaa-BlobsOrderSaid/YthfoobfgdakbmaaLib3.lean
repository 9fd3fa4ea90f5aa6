/- WHAT THE WALKS STAND ON, part of a proof: L30 L31. No condition beyond what each theorem states. -/
import GoSem.ClaimJoined
import GoSem.ClaimChange
import Derived.ChangeArms
import Derived.SizedLaws
import Derived.WalkKit
import Derived.ProofKit
import Derived.OpenShut
import Derived.ShutString
import Derived.ChangeOld
import Derived.Below
import Derived.Carry
import Derived.Test.YthfoobfgdakbmaaLib1
import Derived.Test.YthfoobfgdakbmaaLib2
set_option linter.unusedVariables false
set_option linter.unusedSimpArgs false
namespace Go.L
open Go Go.RowKit

/-! ### What is handed in, read as values -/
/-- What a type's values are made of. -/
inductive Ty where
  | bool
  | u8
  | int (k : IntKind)
  | str
  | sl (b : Nat) (e : Ty)
  | arr (n : Nat) (e : Ty)
  | one
  | pair (a r : Ty)
def Ty.Dec : Ty → Type
  | .bool => Bool
  | .u8 => UInt8
  | .int _ => Int
  | .str => ByteArray
  | .sl _ e => Option (List e.Dec)
  | .arr _ e => List e.Dec
  | .one => Unit
  | .pair a r => a.Dec × r.Dec
def Ty.size : Ty → Nat
  | .arr n e => n * e.size
  | .one => 0
  | .pair a r => a.size + r.size
  | _ => 1
def Ty.agg : Ty → Bool
  | .arr .. | .one | .pair .. => true
  | _ => false
def Ty.enc : (t : Ty) → t.Dec → List LV
  | .bool, b => [.bool b]
  | .u8, b => [.int .u8 (b.toNat : Int)]
  | .int k, n => [.int k n]
  | .str, s => [.str s]
  | .sl _ _, none => [.nils]
  | .sl _ e, some l => [.sl .no e.size (l.map fun d => if e.agg then .agg (e.enc d) else (e.enc d).headD .und)]
  | .arr _ e, l => l.flatMap e.enc
  | .one, _ => []
  | .pair a r, d => a.enc d.1 ++ r.enc d.2
/-- A value as a whole. -/
def Ty.val (t : Ty) (d : t.Dec) : LV := if t.agg then .agg (t.enc d) else (t.enc d).headD .und
/-- What is known of it. -/
def Ty.ok : (t : Ty) → t.Dec → Prop
  | .bool, _ => True
  | .u8, _ => True
  | .int k, (n : Int) => k.min ≤ n ∧ n ≤ k.max
  | .str, (s : ByteArray) => s.size ≤ reachBytes
  | .sl _ _, none => True
  | .sl b e, some l => l.length * b ≤ reachBytes ∧ ∀ d ∈ l, e.ok d
  | .arr n e, (l : List e.Dec) => l.length = n ∧ ∀ d ∈ l, e.ok d
  | .one, _ => True
  | .pair a r, d => a.ok d.1 ∧ r.ok d.2
theorem flatMap_size {α : Type} {f : α → List LV} {k : Nat} : ∀ l : List α, (∀ d ∈ l, (f d).length = k) → (l.flatMap f).length = l.length * k
  | [], _ => by simp
  | x :: l, h => by
    simp only [List.flatMap_cons, List.length_append, List.length_cons, Nat.succ_mul, flatMap_size l (fun d hd => h d (List.mem_cons_of_mem _ hd)), h x List.mem_cons_self]; omega
theorem Ty.enc_len : ∀ (t : Ty) (d : t.Dec), t.ok d → (t.enc d).length = t.size
  | .bool, _, _ | .u8, _, _ | .int _, _, _ | .str, _, _ | .sl _ _, none, _ | .sl _ _, some _, _ | .one, _, _ => rfl
  | .arr n e, (l : List e.Dec), h => by
    have h : l.length = n ∧ ∀ d ∈ l, e.ok d := h
    show (List.flatMap e.enc l).length = n * e.size
    rw [flatMap_size l (fun d hd => Ty.enc_len e d (h.2 d hd)), h.1]
  | .pair a r, d, h => by
    show (a.enc d.1 ++ r.enc d.2).length = a.size + r.size
    rw [List.length_append, Ty.enc_len a d.1 h.1, Ty.enc_len r d.2 h.2]

/-- Is a type of the program made so (as a type; as the fields of a struct from an offset on)? -/
def tyBoth (P : Program) : Ty → (Nat → Bool) × (List Field → Nat → Bool)
  | .bool => (fun t => match P.underlying t with | some .bool => true | _ => false, fun _ _ => false)
  | .u8 => (fun t => match P.underlying t with | some (.int .u8) => true | _ => false, fun _ _ => false)
  | .int k => (fun t => match P.underlying t with | some (.int k') => k == k' | _ => false, fun _ _ => false)
  | .str => (fun t => match P.underlying t with | some .string => true | _ => false, fun _ _ => false)
  | .sl b e => (fun t => match P.underlying t with | some (.slice u) => (tyBoth P e).1 u && P.cellsOf u == e.size && decide (0 < e.size) && (P.bytesOf u == b) | _ => false, fun _ _ => false)
  | .arr n e => (fun t => match P.underlying t with | some (.array m u) => m == n && (tyBoth P e).1 u && P.cellsOf u == e.size && P.cellsOf t == n * e.size | _ => false, fun _ _ => false)
  | .one => (fun _ => false, fun fs _ => fs.isEmpty)
  | .pair a r =>
    let fs (l : List Field) (off : Nat) : Bool := match l with
      | [] => false
      | x :: l => x.offset == off && (tyBoth P a).1 x.type && P.cellsOf x.type == a.size && (tyBoth P r).2 l (off + a.size)
    (fun t => match P.underlying t with | some (.struct l) => P.cellsOf t == a.size + r.size && fs l.toList 0 | _ => false, fs)

theorem mapM_some {α β : Type} {f : α → Option β} : ∀ {l : List α} {r : List β}, l.mapM f = some r → ∀ x ∈ l, ∃ y, f x = some y
  | [], _, _, x, hx => by cases hx
  | a :: l, r, h, x, hx => by
    rw [List.mapM_cons] at h
    cases ha : f a with
    | none => rw [ha] at h; cases h
    | some b =>
      rw [ha] at h
      cases hl : l.mapM f with
      | none => rw [hl] at h; cases h
      | some bs =>
        rcases List.mem_cons.1 hx with rfl | hx
        · exact ⟨b, ha⟩
        · exact mapM_some hl x hx
theorem choose_list {α : Type} {Q : Nat → α → Prop} : ∀ n, (∀ i, i < n → ∃ d, Q i d) → ∃ l : List α, l.length = n ∧ ∀ i d, l[i]? = some d → Q i d
  | 0, _ => ⟨[], rfl, fun i d h => by simp at h⟩
  | n + 1, h => by
    obtain ⟨l, h1, h2⟩ := choose_list n (fun i hi => h i (by omega))
    obtain ⟨d, hd⟩ := h n (by omega)
    refine ⟨l ++ [d], by simp [h1], fun i x hx => ?_⟩
    rw [List.getElem?_append] at hx
    split at hx
    · exact h2 i x hx
    · rename_i hi
      have : i = n := by
        have := (List.getElem?_eq_some_iff.1 hx).1
        simp at this; omega
      subst this
      simp [h1] at hx; subst hx; exact hd

section
variable {P : Program} {H : Type} {enc : TypeId × Value → H} {w : World} {spare : Nat → Bool} {held : Bool}

def DecOk (w : World) (ty : Ty) (cs : List Value) : Prop := ∃ d : ty.Dec, RepAll (freshG w) cs (ty.enc d) ∧ ty.ok d

theorem repAll_nil {G : Ghost} : RepAll G [] [] := ⟨rfl, fun i v l h => by simp at h⟩
theorem repAll_append {G : Ghost} {a b : List Value} {l m : List LV} (h : RepAll G a l) (k : RepAll G b m) : RepAll G (a ++ b) (l ++ m) := by
  refine ⟨by rw [List.length_append, List.length_append, h.1, k.1], fun i v x hv hx => ?_⟩
  rw [List.getElem?_append] at hv hx
  by_cases hi : i < a.length
  · rw [if_pos hi] at hv; rw [if_pos (by rw [← h.1]; exact hi)] at hx; exact h.2 _ _ _ hv hx
  · rw [if_neg hi] at hv; rw [if_neg (by rw [← h.1]; exact hi)] at hx; rw [← h.1] at hx; exact k.2 _ _ _ hv hx
theorem repAll_sing {G : Ghost} {v : Value} {l : LV} (h : Rep G v l) : RepAll G [v] [l] := ⟨rfl, fun i a b ha hb => by
  cases i with
  | zero => simp at ha hb; subst ha; subst hb; exact h
  | succ i => simp at ha⟩

theorem Ty.val_cells : ∀ (t : Ty) (d : t.Dec), (t.val d).cells = t.enc d
  | .bool, _ | .u8, _ | .int _, _ | .str, _ | .sl _ _, none | .sl _ _, some _ => rfl
  | .one, _ => rfl
  | .arr _ _, _ => rfl
  | .pair _ _, _ => rfl
theorem rep_slice {a : Addr} {len cap : Nat} {e : Ty} (hpos : 0 < e.size) (hl : len ≤ cap) (hx : ∀ i, i < cap → ∃ cs, w.cells? 0 (a.add (i * e.size)) e.size = some cs ∧ DecOk w e cs) :
    ∃ l : List e.Dec, l.length = len ∧ (∀ d ∈ l, e.ok d) ∧ Rep (freshG w) (.slice (some a) len cap) (.sl .no e.size (l.map e.val)) := by
  obtain ⟨l, h1, h2⟩ := choose_list (Q := fun i (d : e.Dec) => ∃ cs, w.cells? 0 (a.add (i * e.size)) e.size = some cs ∧ RepAll (freshG w) cs (e.enc d) ∧ e.ok d) len
    (fun i hi => by obtain ⟨cs, h1, d, h2, h3⟩ := hx i (by omega); exact ⟨d, cs, h1, h2, h3⟩)
  have hok : ∀ d ∈ l, e.ok d := fun d hd => by
    obtain ⟨i, hi⟩ := List.mem_iff_getElem?.1 hd
    obtain ⟨_, _, _, h3⟩ := h2 i d hi
    exact h3
  refine ⟨l, h1, hok, ?_⟩
  by_cases hc : cap = 0
  · subst hc
    have : len = 0 := by omega
    subst this
    have : l = [] := List.eq_nil_of_length_eq_zero h1
    subst this
    exact .sl0
  obtain ⟨cs0, k1, -⟩ := hx 0 (by omega)
  obtain ⟨_, k2, k3⟩ := World.cells?_some k1
  have k4 := k3 0 hpos
  obtain ⟨c0, hc0⟩ : ∃ c0, cs0[0]? = some c0 := ⟨_, List.getElem?_eq_getElem (by omega)⟩
  rw [hc0] at k4
  have hspot : a.spot = none := by simpa [Addr.add] using World.cell?_spot k4
  obtain ⟨b, off, spot⟩ := a
  simp only at hspot
  subst hspot
  have hlen : (l.map e.val).length = len := by simp [h1]
  have hcell : ∀ i j, i < len → j < e.size → ∃ cs d x, l[i]? = some d ∧ RepAll (freshG w) cs (e.enc d) ∧ cs[j]? = some x ∧ w.cell? ⟨b, off + i * e.size + j, none⟩ = some x := fun i j hi hj => by
    have hd : l[i]? = some (l[i]'(by omega)) := List.getElem?_eq_getElem (by omega)
    obtain ⟨cs, c1, c2, -⟩ := h2 i _ hd
    obtain ⟨_, c3, c4⟩ := World.cells?_some c1
    obtain ⟨x, hx⟩ : ∃ x, cs[j]? = some x := ⟨_, List.getElem?_eq_getElem (by omega)⟩
    refine ⟨cs, _, x, hd, c2, hx, ?_⟩
    have := c4 j hj
    rw [hx, addr_add, addr_add] at this
    exact this
  have key : Rep (freshG w) (.slice (some ⟨b, off, none⟩) (l.map e.val).length cap) (.sl .no e.size (l.map e.val)) := by
    refine .sl (fun j => (w.cell? ⟨b, off + j, none⟩).getD Go.undef) ?_ ?_ ?_ (by omega) trivial
    · intro x hx
      obtain ⟨d, hd, rfl⟩ := List.mem_map.1 hx
      rw [Ty.val_cells, Ty.enc_len e d (hok d hd)]
    · intro i j hi hj
      rw [hlen] at hi
      obtain ⟨cs, d, x, _, _, _, h⟩ := hcell i j hi hj
      show w.cell? _ = _
      rw [h, show off + (i * e.size + j) = off + i * e.size + j by omega, h]; rfl
    · intro i x j c hi hj
      rw [List.getElem?_map] at hi
      cases hd : l[i]? with
      | none => rw [hd] at hi; cases hi
      | some d =>
        rw [hd] at hi
        simp only [Option.map_some, Option.some.injEq] at hi
        subst hi
        rw [Ty.val_cells] at hj
        have hjl : j < e.size := by
          rw [← Ty.enc_len e d (hok d (List.mem_of_getElem? hd))]
          exact (List.getElem?_eq_some_iff.1 hj).1
        have hil : i < len := by rw [← h1]; exact (List.getElem?_eq_some_iff.1 hd).1
        obtain ⟨cs, d', y, e1, e2, e3, e4⟩ := hcell i j hil hjl
        rw [hd] at e1
        cases e1
        have := e2.2 j _ _ e3 hj
        simp only [show off + (i * e.size + j) = off + i * e.size + j by omega, e4]
        exact this
  rw [hlen] at key
  exact key

theorem weights_all {e : TypeId} : ∀ {ds : List (DataW H)} {j : Nat} {d : DataW H}, ds[j]? = some d → ∀ n ∈ d.weights P e, n ∈ DataW.weightsAll P e ds
  | d0 :: ds, 0, d, hd, n, hn => by
    simp only [List.getElem?_cons_zero, Option.some.injEq] at hd
    subst hd
    simp only [DataW.weightsAll, List.mem_append]
    exact .inl hn
  | d0 :: ds, j + 1, d, hd, n, hn => by
    simp only [List.getElem?_cons_succ] at hd
    simp only [DataW.weightsAll, List.mem_append]
    exact .inr (weights_all hd n hn)
  | [], _, _, hd, _, _ => by simp at hd
theorem mapM_get {α β : Type} {f : α → Option β} : ∀ {l : List α} {r : List β}, l.mapM f = some r → ∀ (i : Nat) (x : α), l[i]? = some x → ∃ y, f x = some y ∧ r[i]? = some y
  | [], _, _, i, x, hx => by simp at hx
  | a :: l, r, h, i, x, hx => by
    rw [List.mapM_cons] at h
    cases ha : f a with
    | none => rw [ha] at h; cases h
    | some b =>
      rw [ha] at h
      cases hl : l.mapM f with
      | none => rw [hl] at h; cases h
      | some bs =>
        rw [hl] at h
        cases h
        cases i with
        | zero => simp at hx; subst hx; exact ⟨b, ha, rfl⟩
        | succ i =>
          simp only [List.getElem?_cons_succ] at hx ⊢
          exact mapM_get hl i x hx
theorem trod_array {u : TypeId} {m fuel : Nat} {t : TypeId} {cs : List Value} {x : DataW H × List MemPlace} (ht : P.underlying t = some (.array m u)) (h : DataW.trod enc P w 0 spare held fuel t cs = some x) :
    ∃ n, cs.length = P.cellsOf t ∧ ∀ i, i < m → ∃ y, DataW.trod enc P w 0 spare held n u ((cs.drop (i * P.cellsOf u)).take (P.cellsOf u)) = some y ∧ ∀ k ∈ y.1.weights P u, k ∈ x.1.weights P t := by
  cases fuel with
  | zero => simp [DataW.trod] at h
  | succ n =>
    unfold DataW.trod at h
    rw [ht] at h
    split at h <;> simp_all
    obtain ⟨hl, xs, hp, hd⟩ := h
    subst hd
    refine ⟨n, fun i hi => ?_⟩
    obtain ⟨y, hy, hy2⟩ := mapM_get hp i i (by simp [hi])
    refine ⟨y.1, ⟨y.2, hy⟩, fun k hk => ?_⟩
    simp only [DataW.weights, ht]
    exact weights_all (j := i) (d := y.1) (by rw [List.getElem?_map, hy2]; rfl) k hk
theorem chunks {e : Ty} : ∀ (m : Nat) (cs : List Value), cs.length = m * e.size → (∀ i, i < m → DecOk w e ((cs.drop (i * e.size)).take e.size)) →
    ∃ l : List e.Dec, l.length = m ∧ (∀ d ∈ l, e.ok d) ∧ RepAll (freshG w) cs (l.flatMap e.enc)
  | 0, cs, h, _ => by
    have : cs = [] := List.eq_nil_of_length_eq_zero (by omega)
    subst this
    exact ⟨[], rfl, by simp, repAll_nil⟩
  | m + 1, cs, h, k => by
    rw [Nat.succ_mul] at h
    obtain ⟨d, r, o⟩ := k 0 (by omega)
    obtain ⟨l, l1, l2, l3⟩ := chunks (e := e) m (cs.drop e.size) (by rw [List.length_drop]; omega) (fun i hi => by
      rw [List.drop_drop]
      have := k (i + 1) (by omega)
      rwa [Nat.succ_mul, Nat.add_comm] at this)
    refine ⟨d :: l, by simp [l1], fun x hx => ?_, ?_⟩
    · rcases List.mem_cons.1 hx with rfl | hx
      · exact o
      · exact l2 x hx
    · rw [← List.take_append_drop e.size cs, List.flatMap_cons]
      simp only [Nat.zero_mul, List.drop_zero] at r
      exact repAll_append r l3

theorem trod_dec (hsp : ∀ b, spare b = true) : ∀ (ty : Ty) (fuel : Nat) (t : TypeId) (cs : List Value) (x : DataW H × List MemPlace), (tyBoth P ty).1 t = true → DataW.trod enc P w 0 spare held fuel t cs = some x → (∀ n ∈ x.1.weights P t, n ≤ reachBytes) → DecOk w ty cs := by
  have both : ∀ (ty : Ty), (∀ (fuel : Nat) (t : TypeId) (cs : List Value) (x : DataW H × List MemPlace), (tyBoth P ty).1 t = true → DataW.trod enc P w 0 spare held fuel t cs = some x → (∀ n ∈ x.1.weights P t, n ≤ reachBytes) → DecOk w ty cs) ∧
      (∀ (n : Nat) (l : List Field) (off : Nat) (cs : List Value), (tyBoth P ty).2 l off = true → cs.length = off + ty.size →
        (∀ f ∈ l, ∃ y, DataW.trod enc P w 0 spare held n f.type ((cs.drop f.offset).take (P.cellsOf f.type)) = some y ∧ ∀ n ∈ y.1.weights P f.type, n ≤ reachBytes) → DecOk w ty (cs.drop off)) := by
    intro ty
    induction ty with
    | bool =>
      refine ⟨fun fuel t cs x ht h hw => ?_, fun n l off cs ht => by cases ht⟩
      have hu : P.underlying t = some .bool := by
        simp only [tyBoth] at ht; split at ht
        · assumption
        · cases ht
      obtain ⟨b, rfl, -⟩ := DataW.trod_bool hu h
      exact ⟨b, repAll_sing (.bool b), trivial⟩
    | u8 =>
      refine ⟨fun fuel t cs x ht h hw => ?_, fun n l off cs ht => by cases ht⟩
      have hu : P.underlying t = some (.int .u8) := by
        simp only [tyBoth] at ht; split at ht
        · assumption
        · cases ht
      obtain ⟨n, rfl, -, hw⟩ := DataW.trod_int hu h
      have hn : 0 ≤ n ∧ n < 256 := by
        have h1 : IntKind.u8.min ≤ n ∧ n ≤ IntKind.u8.max := by simpa [Lit.wf] using hw
        have e1 : IntKind.u8.min = 0 := rfl
        have e2 : IntKind.u8.max = 255 := rfl
        omega
      refine ⟨(UInt8.ofNat n.toNat : UInt8), repAll_sing ?_, trivial⟩
      show Rep _ _ (.int .u8 ((UInt8.ofNat n.toNat).toNat : Int))
      rw [show ((UInt8.ofNat n.toNat).toNat : Int) = n by rw [UInt8.toNat_ofNat']; omega]
      exact .int _ _
    | int k =>
      refine ⟨fun fuel t cs x ht h hw => ?_, fun n l off cs ht => by cases ht⟩
      have hu : P.underlying t = some (.int k) := by
        simp only [tyBoth] at ht; split at ht
        · rename_i k' hk'
          rw [hk', eq_of_beq ht]
        · cases ht
      obtain ⟨n, rfl, -, hw⟩ := DataW.trod_int hu h
      refine ⟨(n : Int), repAll_sing (.int _ _), ?_⟩
      show k.min ≤ n ∧ n ≤ k.max
      simpa [Lit.wf] using hw
    | str =>
      refine ⟨fun fuel t cs x ht h hw => ?_, fun n l off cs ht => by cases ht⟩
      have hu : P.underlying t = some .string := by
        simp only [tyBoth] at ht; split at ht
        · assumption
        · cases ht
      obtain ⟨s, rfl, rfl, -⟩ := DataW.trod_string hu h
      exact ⟨(s : ByteArray), repAll_sing (.str _), Nat.le_trans (Nat.le_of_eq Array.length_toList.symm) (hw _ (by simp [DataW.weights]))⟩
    | sl b e ih =>
      refine ⟨fun fuel t cs x ht h hw => ?_, fun n l off cs ht => by cases ht⟩
      obtain ⟨u, hu, hue, hus, hpos, hbp⟩ : ∃ u, P.underlying t = some (.slice u) ∧ (tyBoth P e).1 u = true ∧ P.cellsOf u = e.size ∧ 0 < e.size ∧ P.bytesOf u = b := by
        simp only [tyBoth] at ht; split at ht
        · rename_i u hu
          simp only [Bool.and_eq_true, decide_eq_true_eq, beq_iff_eq] at ht
          exact ⟨u, hu, ht.1.1.1, ht.1.1.2, ht.1.2, ht.2⟩
        · cases ht
      rcases DataW.trod_slice hu h with ⟨rfl, -⟩ | ⟨a, len, cap, elems, rest, n, -, rfl, hx, -, hle, hmax, h1, h2, h3, -⟩
      · exact ⟨(none : Option (List e.Dec)), repAll_sing .nils, trivial⟩
      · obtain ⟨h4, h5⟩ := h3 (hsp _)
        obtain ⟨l, l1, l2, l3⟩ := rep_slice (w := w) (a := a) (len := len) (cap := cap) hpos hle (fun i hi => by
          have : ∃ y, (w.cells? 0 (a.add (i * P.cellsOf u)) (P.cellsOf u)).bind (DataW.trod enc P w 0 spare held n u) = some y ∧ ∀ k ∈ y.1.weights P u, k ≤ reachBytes := by
            by_cases hil : i < len
            · refine ⟨_, (h2 i hil).trans (List.getElem?_eq_getElem (by omega)), fun k hk => hw k ?_⟩
              rw [hx]; simp only [DataW.weights, hu]
              exact List.mem_cons_of_mem _ (List.mem_append_left _ (weights_all (j := i) (by rw [List.getElem?_map, List.getElem?_eq_getElem (by omega)]; rfl) k hk))
            · have := h5 (i - len) (by omega)
              rw [show len + (i - len) = i by omega] at this
              refine ⟨_, this.trans (List.getElem?_eq_getElem (by omega)), fun k hk => hw k ?_⟩
              rw [hx]; simp only [DataW.weights, hu]
              exact List.mem_cons_of_mem _ (List.mem_append_right _ (weights_all (j := i - len) (by rw [List.getElem?_map, List.getElem?_eq_getElem (by omega)]; rfl) k hk))
          obtain ⟨y, hy, hyw⟩ := this
          obtain ⟨cs, c1, c2⟩ := Option.bind_eq_some_iff.1 hy
          rw [hus] at c1
          exact ⟨cs, c1, ih.1 n u cs y hue c2 hyw⟩)
        have hb := hw ((elems.length + rest.length) * P.bytesOf u) (by rw [hx]; simp [DataW.weights, hu])
        exact ⟨(some l : Option (List e.Dec)), repAll_sing l3, Nat.le_trans (Nat.le_of_eq (by rw [l1, h1, hbp])) (Nat.le_trans (Nat.mul_le_mul_right _ (Nat.le_add_right _ _)) hb), l2⟩
    | arr m e ih =>
      refine ⟨fun fuel t cs x ht h hw => ?_, fun n l off cs ht => by cases ht⟩
      obtain ⟨u, hu, h1, h2, h3⟩ : ∃ u, P.underlying t = some (.array m u) ∧ (tyBoth P e).1 u = true ∧ P.cellsOf u = e.size ∧ P.cellsOf t = m * e.size := by
        simp only [tyBoth] at ht; split at ht
        · rename_i m' u hu
          simp only [Bool.and_eq_true, beq_iff_eq] at ht
          obtain ⟨⟨⟨t1, t2⟩, t3⟩, t4⟩ := ht
          subst t1
          exact ⟨u, hu, t2, t3, t4⟩
        · cases ht
      obtain ⟨n, hl, hall⟩ := trod_array hu h
      rw [h2] at hall
      obtain ⟨l, l1, l2, l3⟩ := chunks (w := w) m cs (by rw [hl, h3]) (fun i hi => by
        obtain ⟨y, hy, hyw⟩ := hall i hi
        exact ih.1 n u _ y h1 hy (fun k hk => hw k (hyw k hk)))
      exact ⟨(l : List e.Dec), l3, l1, l2⟩
    | one =>
      refine ⟨fun fuel t cs x ht => (nomatch ht), fun n l off cs ht hl _ => ?_⟩
      have : cs.drop off = [] := by rw [List.drop_eq_nil_iff]; simp [Ty.size] at hl; omega
      rw [this]
      exact ⟨(), repAll_nil, trivial⟩
    | pair a r ia ir =>
      have flds : ∀ (n : Nat) (l : List Field) (off : Nat) (cs : List Value), (tyBoth P (.pair a r)).2 l off = true → cs.length = off + (Ty.pair a r).size →
        (∀ f ∈ l, ∃ y, DataW.trod enc P w 0 spare held n f.type ((cs.drop f.offset).take (P.cellsOf f.type)) = some y ∧ ∀ n ∈ y.1.weights P f.type, n ≤ reachBytes) → DecOk w (.pair a r) (cs.drop off) := by
        intro n l off cs ht hl hf
        cases l with
        | nil => cases ht
        | cons x l =>
          simp only [tyBoth, Bool.and_eq_true, beq_iff_eq] at ht
          obtain ⟨⟨⟨t1, t2⟩, t3⟩, t4⟩ := ht
          obtain ⟨y, hy, hyw⟩ := hf x List.mem_cons_self
          rw [t1, t3] at hy
          obtain ⟨d1, r1, o1⟩ := ia.1 _ _ _ _ t2 hy hyw
          obtain ⟨d2, r2, o2⟩ := ir.2 n l (off + a.size) cs t4 (by simp only [Ty.size] at hl; omega) (fun f hf' => hf f (List.mem_cons_of_mem _ hf'))
          refine ⟨(d1, d2), ?_, o1, o2⟩
          rw [← List.drop_drop] at r2
          rw [← List.take_append_drop a.size (cs.drop off)]
          exact repAll_append r1 r2
      refine ⟨fun fuel t cs x ht h hw => ?_, flds⟩
      obtain ⟨fs, hu, h1, h2⟩ : ∃ fs : Array Field, P.underlying t = some (.struct fs) ∧ P.cellsOf t = a.size + r.size ∧ (tyBoth P (.pair a r)).2 fs.toList 0 = true := by
        simp only [tyBoth] at ht; split at ht
        · rename_i l hl
          simp only [Bool.and_eq_true, beq_iff_eq] at ht
          exact ⟨l, hl, ht.1, ht.2⟩
        · cases ht
      obtain ⟨xs, n, -, hx, hlen, hxs, hall⟩ := DataW.trod_struct hu h
      have := flds n fs.toList 0 cs h2 (by rw [hlen, h1]; simp [Ty.size]) (fun f hf => by
        obtain ⟨i, hi⟩ := List.mem_iff_getElem?.1 hf
        have hi' : fs[i]? = some f := by simpa using hi
        have hil := (Array.getElem?_eq_some_iff.1 hi').1
        refine ⟨_, (hall i f hi').trans (List.getElem?_eq_getElem (by omega)), fun k hk => hw k ?_⟩
        rw [hx]; simp only [DataW.weights, hu]
        exact DataW.weights_mem_each (j := i) (by rw [List.getElem?_map, hi]; rfl) (by rw [List.getElem?_map, List.getElem?_eq_getElem (by omega)]; rfl) k hk)
      simpa using this
  exact fun ty => (both ty).1
end
end Go.L

set_option linter.unusedVariables false
set_option linter.unusedSimpArgs false
namespace Go.L
open Go Go.RowKit Go.ChangeShapes

section
variable {P : Program} {H : Type} {enc : TypeId × Value → H} {w : World}

theorem Ty.enc_one : ∀ (t : Ty) (d : t.Dec), t.agg = false → t.enc d = [t.val d]
  | .bool, _, _ | .u8, _, _ | .int _, _, _ | .str, _, _ | .sl _ _, none, _ | .sl _ _, some _, _ => rfl
theorem Ty.val_agg : ∀ (t : Ty) (d : t.Dec), t.agg = true → t.val d = .agg (t.enc d)
  | .arr _ _, _, _ | .one, _, _ | .pair _ _, _, _ => rfl
theorem agg_under {ty : Ty} {t : TypeId} (h : (tyBoth P ty).1 t = true) : match P.underlying t with
    | some (.struct _) | some (.array _ _) => ty.agg = true
    | some .bool | some (.int _) | some .string | some (.slice _) => ty.agg = false
    | _ => False := by
  cases ty <;> simp only [tyBoth] at h <;> first | (split at h <;> rename_i e <;> first | (rw [e]; rfl) | cases h) | cases h

/-- What is handed in, as a value with its reading. -/
theorem rep_in {base : Nat} {ty : Ty} {t : TypeId} {v : Value} {d : DataW H} {ps : List MemPlace} (ht : (tyBoth P ty).1 t = true)
    (hv : Value.okWide P w .any base t v) (h : DataW.Trod enc P w 0 (fun _ => true) true t v d ps) (hw : ∀ n ∈ d.weights P t, n ≤ reachBytes) : ∃ x : ty.Dec, ty.ok x ∧ Rep (freshG w) v (ty.val x) := by
  obtain ⟨fuel, hf⟩ := h
  obtain ⟨x, hr, hok⟩ := trod_dec (fun _ => rfl) ty fuel t _ _ ht hf hw
  refine ⟨x, hok, ?_⟩
  have hu := agg_under ht
  unfold Value.okWide at hv
  split at hv
  · rename_i e
    rw [e] at hu
    obtain ⟨cs, rfl, -⟩ := hv
    rw [Ty.val_agg ty x hu]
    simp only [Value.cells] at hr
    exact .agg (by simpa using hr.1) (fun i v l a b => hr.2 i v l (by simpa using a) b)
  · rename_i e
    rw [e] at hu
    obtain ⟨cs, rfl, -⟩ := hv
    rw [Ty.val_agg ty x hu]
    simp only [Value.cells] at hr
    exact .agg (by simpa using hr.1) (fun i v l a b => hr.2 i v l (by simpa using a) b)
  · have hg : ty.agg = false := by
      revert hu
      split <;> simp_all
    have hcells : v.cells = #[v] := by
      cases v <;> first | rfl | skip
      exfalso
      revert hu
      simp only [Cell.okWide, Cell.ok] at hv
      split <;> simp_all
    rw [hcells, Ty.enc_one ty x hg] at hr
    exact hr.2 0 _ _ rfl rfl

/-- What is handed in is no more than a machine reaches. -/
theorem sized_in {ts : List TypeId} {ds : List (DataW H)} {j : Nat} {t : TypeId} {d : DataW H} (hsz : (DataW.weightsEach P ts ds).all (· ≤ reachBytes) = true) (ht : ts[j]? = some t) (hd : ds[j]? = some d) : ∀ n ∈ d.weights P t, n ≤ reachBytes := fun n hn => by
  simpa using List.all_eq_true.1 hsz n (DataW.weights_mem_each ht hd n hn)
/-- What was handed in reads on as it read. -/
theorem trodAll_stays (hl : laidOutB P = true) : ∀ {ts : List TypeId} {vs : List Value} {ds : List (DataW H)} {ps : List MemPlace} {w' : World}, ts.all (fun t => P.readableRec t && decide (t < P.types.size)) = true →
    DataW.TrodAll enc P w 0 (fun _ => true) true ts vs ds ps → Below w.heap.size w w' → DataW.TrodAll enc P w' 0 (fun b => decide (b < w.heap.size)) true ts vs ds ps
  | [], _, _, _, _, _, h, _ => by
    obtain ⟨rfl, rfl, rfl⟩ := trodAll_nil h
    exact trodAll_mk0
  | t :: ts, _, _, _, w', ht, h, hb => by
    obtain ⟨v, vs, d, ds, p, q, rfl, rfl, rfl, h1, h2⟩ := trodAll_cons h
    rw [List.all_cons, Bool.and_eq_true, Bool.and_eq_true, decide_eq_true_eq] at ht
    exact trodAll_cons_mk (Below.trod hl ht.1.1 ht.1.2 h1 hb (by obtain ⟨m, hm⟩ := h1; exact DataW.trod_lt m _ _ _ hm)) (trodAll_stays hl ht.2 h2 hb)

/-- A call that gives one certain value, from a world that is there. -/
theorem HPure.base {f : FuncId} {args : List LV} {b : Bool} (h : HPure P f args (.bool b)) {vs : List Value} (hv : RepAll (freshG w) vs args) :
    Calls P f vs.toArray w fun e w' => e = .returned (.bool b) ∧ Below w.heap.size w w' :=
  (h [] [] _ freshHas (freshG w) vs w (freshRel w) hv).mono fun e w' ⟨v, r, st', G', e1, hs, hr, L', T', hh, hk⟩ => by
    have e2 := hs.le.base
    have e3 := hs.le.w0
    have hb := hs.rel.below
    rw [e2, e3] at hb
    obtain ⟨rfl, -, -⟩ := hk
    cases hr
    exact ⟨e1, hb⟩
end
end Go.L
