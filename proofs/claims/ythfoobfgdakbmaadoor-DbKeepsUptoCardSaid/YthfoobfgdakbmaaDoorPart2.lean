/- WHAT THE WALKS STAND ON, part of a proof: D8 D9 D10 D11 D12 D13 D14 D15 D16. No condition beyond what each theorem states. -/
import Derived.Test.YthfoobfgdakbmaaDoorLib3
import Derived.Test.YthfoobfgdakbmaaDoorPart1
set_option linter.unusedVariables false
set_option linter.unusedSimpArgs false
set_option maxRecDepth 100000
namespace Go.Proofs.YthfoobfgdakbmaaDoor
open Go Go.RowKit Go.L
theorem q_en_56 : enterable Tryd.prog 56 = true := by kernel_rfl
theorem q_en_57 : enterable Tryd.prog 57 = true := by kernel_rfl
theorem q_f_31 : Tryd.prog.funcs[31]? = some Tryd.f31 := by kernel_rfl

theorem parts_sl (s : ByteArray) (hs : s.size < 1073741824) (F : Hp) (T : Tk) : HCalls Tryd.prog 56 [.str s] F T (fun r L' T' => IsSl 1 ((pieces s.data.toList).map pieceV) r ∧ L' = F ∧ T' = T) := by
  have h := HCalls.freeze (k := 1) (K := fun es L' T' => es = (pieces s.data.toList).map pieceV ∧ L' = F ∧ T' = T) (HCalls.mono (parts_spec s hs F T) fun r L' T' ⟨row, h1, h2, h3, h4⟩ => ⟨_, [row.o _], F, by rw [h2]; exact h1.own, h3, rfl, rfl, h4⟩)
  refine HCalls.mono h fun r L' T' ⟨es, h1, h2, h3, h4⟩ => ⟨?_, h3, h4⟩
  subst h2
  rcases h1 with ⟨e, -⟩ | e
  · exact (pieces_ne _ e).elim
  · rw [e]; exact .sl
theorem piece_load (p : List UInt8) : (bif false then LV.agg (((pieceV p).cells.drop 0).take 1) else ((pieceV p).cells.drop 0).headD .und) = .str ⟨p.toArray⟩ := rfl
def mayF (s : ByteArray) : Bool := decide ((∀ p ∈ pieces s.data.toList, partF ⟨p.toArray⟩ = true) ∧ (pieces s.data.toList).length ≤ 16)
theorem may_no {s : ByteArray} {k : Nat} (hk : k < (pieces s.data.toList).length) (h : partF ⟨((pieces s.data.toList)[k]).toArray⟩ = false) : mayF s = false := by
  rw [mayF, decide_eq_false_iff_not]
  intro ⟨h1, _⟩
  rw [h1 _ (List.getElem_mem hk)] at h; cases h

theorem rmay_spec (s : ByteArray) (hs : s.size < 1073741824) : HPure Tryd.prog 31 [.str s] (.bool (mayF s)) := by
 have hpl := pieces_len s.data.toList
 have hsz : s.data.toList.length = s.size := by simp
 intro L T
 refine HCalls.enterG q_f_31 rfl ?_
 refine HWp.frame (r' := ⟨22, [(0, .str s)]⟩) rfl ?_
 refine HWp.seq ?_
 refine HWp.text (.rd 0 .done) rfl ?_
 refine HPlan.assign rfl rfl rfl ?_
 refine HPlan.fin ?_
 refine onNorm_n ?_
 refine HWp.seq ?_
 refine HWp.text (.rd 0 (.act 1 [] (.rd 2 .done))) rfl ?_
 refine HPlan.move rfl rfl rfl ?_
 refine HPlan.callS rfl rfl rfl q_en_56 (parts_sl s hs L T) (List.Perm.refl _) (List.Perm.refl _) ?_
 rintro r_R1_1 L_R1_1 T1 ⟨hsl, rfl, rfl⟩
 refine ⟨keptH_nil, ?_⟩
 refine HPlan.assign rfl rfl rfl ?_
 refine HPlan.fin ?_
 refine onNorm_n ?_
 refine HWp.seq ?_
 refine HWp.seq ?_
 refine HWp.text (.rd 0 .done) rfl ?_
 refine HPlan.assign rfl rfl rfl ?_
 refine HPlan.fin ?_
 refine onNorm_n ?_
 refine HWp.block ?_
 refine HWp.loopF (α := Nat) (fun k => (pieces s.data.toList).length - k) (fun k => k ≤ (pieces s.data.toList).length ∧ ∀ i (h : i < (pieces s.data.toList).length), i < k → partF ⟨((pieces s.data.toList)[i]).toArray⟩ = true) (fun k => ⟨22, [(3, r_R1_1), (4, .int .i64 (k : Int))]⟩) (fun k => L_R1_1) (fun k => T1) ?_ ?_
 ·
  refine ⟨0, ⟨Nat.zero_le _, fun i _ h => absurd h (Nat.not_lt_zero _)⟩, (LessE.less (by repeat (first | exact LessE.nil | refine LessE.same rfl ?_ | refine LessE.own rfl ?_ | refine LessE.eq rfl ?_ (by first | rfl | (congr 1; omega) | simp))) rfl), (by repeat (first | exact Part.refl _ | refine Part.pull (by repeat (first | exact Pull.here | apply Pull.there)) ?_ | refine Part.skip _ ?_ | exact Part.nil _ | exact Part.app _ _ | exact Part.appL _ _ | refine Part.appR _ ?_)), (by repeat (first | exact Part.refl _ | refine Part.pull (by repeat (first | exact Pull.here | apply Pull.there)) ?_ | refine Part.skip _ ?_ | exact Part.nil _ | exact Part.app _ _ | exact Part.appL _ _ | refine Part.appR _ ?_))⟩
 ·
  rintro k ⟨hk1, hall⟩
  refine HWp.seq ?_
  refine HWp.seq ?_
  refine HWp.text (.rd 0 (.rd 1 (.rd 2 (.rd 3 .done)))) rfl ?_
  refine HPlan.move rfl rfl rfl ?_
  refine HPlan.move rfl rfl rfl ?_
  refine HPlan.lenS rfl rfl rfl q_tk_54 (by first | exact IsSl.sl | exact IsSl.nils | assumption | exact growV_isSl (by assumption) | exact SlD.ok _) (by first | rw [List.length_map] | rfl) ?_
  refine HPlan.intBin rfl rfl rfl rfl rfl rfl ?_
  refine HPlan.fin ?_
  refine onNorm_n ?_
  refine HWp.cond rfl ?_ ?_
  ·
   intro hc10
   first
   | exact PrN hc10
   | ((try simp only [Pr] at hc10); exfalso; omega)
   | (try simp only [Pr] at hc10)
     refine HWp.skip ?_
     refine onNorm_n ?_
     refine HWp.seq ?_
     refine HWp.block ?_
     refine HWp.seq ?_
     refine HWp.text (.rd 0 (.rd 1 (.rd 2 (.rd 3 (.act 4 [] (.rd 5 .done)))))) rfl ?_
     refine HPlan.move rfl rfl rfl ?_
     refine HPlan.move rfl rfl rfl ?_
     refine HPlan.indexS rfl rfl rfl rfl q_ix_54 (by first | exact IsSl.sl | exact IsSl.nils | assumption | exact growV_isSl (by assumption) | exact SlD.ok _) (by omega) (by simp only [List.length_map]; omega) (by first | exact at_map (by omega) | rfl) ?_
     first
     | refine HPlan.loadI rfl rfl rfl q_sh_9 (by constructor <;> first | rfl | decide | omega | exact Nat.le_refl _ | (simp [digC_len, dgV, LV.cells, readDC_len, readDV, madeDC_len, madeDV, traceDC_len, traceDV]; done) | (simp [digC_len, dgV, LV.cells, readDC_len, readDV, madeDC_len, madeDV, traceDC_len, traceDV]; omega)) (by first | exact (readD_path _) | exact (madeD_path _) | exact (piece_load _) | rfl) ?_
     | refine HPlan.load rfl rfl rfl q_sh_9 (by repeat (first | exact List.Mem.head _ | apply List.Mem.tail | assumption)) (by constructor <;> first | rfl | decide | omega | exact Nat.le_refl _ | (simp [digC_len, dgV, LV.cells, readDC_len, readDV, madeDC_len, madeDV, traceDC_len, traceDV]; done) | (simp [digC_len, dgV, LV.cells, readDC_len, readDV, madeDC_len, madeDV, traceDC_len, traceDV]; omega)) (by first | exact (readD_path _) | exact (madeD_path _) | exact (piece_load _) | rfl) ?_
     refine HPlan.callPure rfl rfl rfl q_en_57 (rpart_spec _) keptH_nil ?_
     refine HPlan.not rfl rfl rfl rfl ?_
     refine HPlan.fin ?_
     refine onNorm_n ?_
     refine HWp.cond rfl ?_ ?_
     ·
      intro hc18
      first
      | exact PrN hc18
      | ((try simp only [Pr] at hc18); exfalso; omega)
      | (try simp only [Pr] at hc18)
        refine HWp.seq ?_
        refine HWp.text (.rd 0 .done) rfl ?_
        refine HPlan.assign rfl rfl rfl ?_
        refine HPlan.fin ?_
        refine onNorm_n ?_
        refine HWp.ret ?_
        refine onExitH_r ?_
        refine onNorm_r ?_
        refine onNorm_r ?_
        refine onExitH_r ?_
        refine onNorm_r ?_
        refine retQ_r (.tmp rfl .nil) ?_
        refine endK_of ⟨?_, rfl, rfl⟩ (by repeat (first | exact Part.refl _ | refine Part.pull (by repeat (first | exact Pull.here | apply Pull.there)) ?_ | refine Part.skip _ ?_ | exact Part.nil _ | exact Part.app _ _ | exact Part.appL _ _ | refine Part.appR _ ?_)) (by repeat (first | exact Part.refl _ | refine Part.pull (by repeat (first | exact Pull.here | apply Pull.there)) ?_ | refine Part.skip _ ?_ | exact Part.nil _ | exact Part.app _ _ | exact Part.appL _ _ | refine Part.appR _ ?_))
        refine congrArg LV.bool ?_
        first
        | exact (may_no (by omega) hc18).symm
        | (unfold mayF; refine decide_eq_decide.2 ⟨fun h => ⟨fun p hp => ?_, by omega⟩, fun h => by have := h.2; omega⟩; obtain ⟨i, hi, rfl⟩ := List.mem_iff_getElem.1 hp; exact hall i hi (by omega))
     ·
      intro hc18
      first
      | exact PrN hc18
      | ((try simp only [Pr] at hc18); exfalso; omega)
      | (try simp only [Pr] at hc18)
        refine HWp.skip ?_
        refine onExitH_n ?_
        refine onNorm_n ?_
        refine HWp.text (.rd 0 (.rd 1 (.rd 2 .done))) rfl ?_
        refine HPlan.move rfl rfl rfl ?_
        refine HPlan.intBin rfl rfl rfl rfl rfl (by first | exact add_i64 (by omega) (by omega) | rfl) ?_
        refine HPlan.assign rfl rfl rfl ?_
        refine HPlan.fin ?_
        refine onNorm_n ?_
        refine ⟨(k + 1), (by omega), ⟨by omega, fun i h h1 => (by by_cases e : i = k; (subst e; exact hc18); exact hall i h (by omega))⟩, (LessE.less (by repeat (first | exact LessE.nil | refine LessE.same rfl ?_ | refine LessE.own rfl ?_ | refine LessE.eq rfl ?_ (by first | rfl | (congr 1; omega) | simp))) rfl), (by repeat (first | exact Part.refl _ | refine Part.pull (by repeat (first | exact Pull.here | apply Pull.there)) ?_ | refine Part.skip _ ?_ | exact Part.nil _ | exact Part.app _ _ | exact Part.appL _ _ | refine Part.appR _ ?_)), (by repeat (first | exact Part.refl _ | refine Part.pull (by repeat (first | exact Pull.here | apply Pull.there)) ?_ | refine Part.skip _ ?_ | exact Part.nil _ | exact Part.app _ _ | exact Part.appL _ _ | refine Part.appR _ ?_))⟩
  ·
   intro hc10
   first
   | exact PrN hc10
   | ((try simp only [Pr] at hc10); exfalso; omega)
   | (try simp only [Pr] at hc10)
     refine HWp.exit ?_
     refine onNorm_e ?_
     refine onNorm_e ?_
     refine onExitH_hit ?_
     refine onNorm_n ?_
     refine HWp.seq ?_
     refine HWp.text (.rd 0 (.rd 1 (.rd 2 (.rd 3 .done)))) rfl ?_
     refine HPlan.move rfl rfl rfl ?_
     refine HPlan.lenS rfl rfl rfl q_tk_54 (by first | exact IsSl.sl | exact IsSl.nils | assumption | exact growV_isSl (by assumption) | exact SlD.ok _) (by first | rw [List.length_map] | rfl) ?_
     refine HPlan.intBin rfl rfl rfl rfl rfl rfl ?_
     refine HPlan.assign rfl rfl rfl ?_
     refine HPlan.fin ?_
     refine onNorm_n ?_
     refine HWp.ret ?_
     refine retQ_r (.tmp rfl .nil) ?_
     refine endK_of ⟨?_, rfl, rfl⟩ (by repeat (first | exact Part.refl _ | refine Part.pull (by repeat (first | exact Pull.here | apply Pull.there)) ?_ | refine Part.skip _ ?_ | exact Part.nil _ | exact Part.app _ _ | exact Part.appL _ _ | refine Part.appR _ ?_)) (by repeat (first | exact Part.refl _ | refine Part.pull (by repeat (first | exact Pull.here | apply Pull.there)) ?_ | refine Part.skip _ ?_ | exact Part.nil _ | exact Part.app _ _ | exact Part.appL _ _ | refine Part.appR _ ?_))
     refine congrArg LV.bool ?_
     first
     | exact (may_no (by omega) hc18).symm
     | (unfold mayF; refine decide_eq_decide.2 ⟨fun h => ⟨fun p hp => ?_, by omega⟩, fun h => by have := h.2; omega⟩; obtain ⟨i, hi, rfl⟩ := List.mem_iff_getElem.1 hp; exact hall i hi (by omega))
end Go.Proofs.YthfoobfgdakbmaaDoor

set_option linter.unusedVariables false
set_option linter.unusedSimpArgs false
set_option maxRecDepth 100000
namespace Go.Proofs.YthfoobfgdakbmaaDoor
open Go Go.RowKit Go.L
theorem q_en_31 : enterable Tryd.prog 31 = true := by kernel_rfl
theorem q_f_58 : Tryd.prog.funcs[58]? = some Tryd.f58 := by kernel_rfl

def joinP : List (List UInt8) → List UInt8
  | [] => []
  | [x] => x
  | x :: y :: r => x ++ 47 :: joinP (y :: r)
theorem joinP_cons {x : List UInt8} {r : List (List UInt8)} (h : r ≠ []) : joinP (x :: r) = x ++ 47 :: joinP r := by
  cases r with
  | nil => exact (h rfl).elim
  | cons y r => rfl
theorem join_pieces : ∀ l, joinP (pieces l) = l
  | [] => rfl
  | b :: r => by
    have ih := join_pieces r
    have hp := pieces_pos r
    simp only [pieces]
    cases hq : pieces r with
    | nil => rw [hq] at hp; simp at hp
    | cons x y =>
      rw [hq] at ih
      split
      · rename_i e; rw [joinP_cons (by simp), ih, e]; rfl
      · cases y with
        | nil => simp only [List.headD_cons, List.tail_cons, joinP] at ih ⊢; rw [ih]
        | cons z w =>
          rw [joinP_cons (by simp)] at ih
          simp only [List.headD_cons, List.tail_cons]
          rw [joinP_cons (by simp), List.cons_append, ih]
theorem pieces_no : ∀ l, ∀ p ∈ pieces l, (47 : UInt8) ∉ p
  | [], p, h => by simp [pieces] at h; subst h; simp
  | b :: r, p, h => by
    have ih := pieces_no r
    have hp := pieces_pos r
    simp only [pieces] at h
    cases hq : pieces r with
    | nil => rw [hq] at hp; simp at hp
    | cons x y =>
      rw [hq] at ih h
      split at h
      · rcases List.mem_cons.1 h with rfl | h
        · simp
        · exact ih p h
      · rename_i e
        rcases List.mem_cons.1 h with rfl | h
        · simp only [List.headD_cons, List.mem_cons, not_or]
          exact ⟨fun e2 => e e2.symm, ih x List.mem_cons_self⟩
        · exact ih p (List.mem_cons_of_mem _ h)
theorem pieces_free : ∀ {p : List UInt8}, (47 : UInt8) ∉ p → pieces p = [p]
  | [], _ => rfl
  | b :: r, h => by
    rw [List.mem_cons, not_or] at h
    simp only [pieces, pieces_free h.2]
    rw [if_neg (fun e => h.1 e.symm)]; rfl
theorem pieces_cut {p : List UInt8} (h : (47 : UInt8) ∉ p) (l : List UInt8) : pieces (p ++ 47 :: l) = p :: pieces l := by
  induction p with
  | nil => simp [pieces]
  | cons b r ih =>
    rw [List.mem_cons, not_or] at h
    simp only [List.cons_append, pieces, ih h.2]
    rw [if_neg (fun e => h.1 e.symm)]; rfl
theorem pieces_join : ∀ {ps : List (List UInt8)}, ps ≠ [] → (∀ p ∈ ps, (47 : UInt8) ∉ p) → pieces (joinP ps) = ps
  | [], h, _ => (h rfl).elim
  | [x], _, h => pieces_free (h x List.mem_cons_self)
  | x :: y :: r, _, h => by
    rw [joinP_cons (by simp), pieces_cut (h x List.mem_cons_self), pieces_join (by simp) (fun p hp => h p (List.mem_cons_of_mem _ hp))]
theorem joinP_snoc {q : List UInt8} : ∀ {ps : List (List UInt8)}, ps ≠ [] → joinP (ps ++ [q]) = joinP ps ++ 47 :: q
  | [], h => (h rfl).elim
  | [x], _ => rfl
  | x :: y :: r, _ => by
    have h := joinP_snoc (q := q) (ps := y :: r) (by simp)
    show x ++ 47 :: joinP ((y :: r) ++ [q]) = (x ++ 47 :: joinP (y :: r)) ++ 47 :: q
    rw [h]; simp
theorem prefix_step {d u q : List UInt8} (hq : (47 : UInt8) ∉ q) : d ++ [47] <+: u ++ 47 :: q ↔ (u = d ∨ d ++ [47] <+: u) := by
  constructor
  · rintro ⟨t, ht⟩
    rw [List.append_assoc] at ht
    rcases List.append_eq_append_iff.1 ht with ⟨a, h1, h2⟩ | ⟨a, h1, h2⟩
    · -- u = d ++ a
      cases a with
      | nil => left; simpa using h1
      | cons c a =>
        simp only [List.cons_append, List.nil_append, List.cons.injEq] at h2
        obtain ⟨rfl, h2⟩ := h2
        right
        exact ⟨a, by rw [h1]; simp⟩
    · cases a with
      | nil => left; simpa using h1.symm
      | cons c a =>
        simp only [List.cons_append, List.nil_append, List.cons.injEq] at h2
        obtain ⟨-, h2⟩ := h2
        exfalso
        apply hq
        rw [h2]; simp
  · rintro (rfl | ⟨t, ht⟩)
    · exact ⟨q, by simp⟩
    · exact ⟨t ++ 47 :: q, by rw [← ht]; simp⟩
def upP (s : ByteArray) : List UInt8 := joinP (pieces s.data.toList).dropLast
def dirF (s : ByteArray) : ByteArray := if mayF s = true ∧ (pieces s.data.toList).length ≠ 1 then ⟨(upP s).toArray⟩ else ⟨#[]⟩
def underF (s d : ByteArray) : Bool := decide (mayF s = true ∧ d.data.toList ++ [47] <+: s.data.toList)
theorem last_split {s : ByteArray} (h : (pieces s.data.toList).length ≠ 1) : ∃ q, s.data.toList = upP s ++ 47 :: q ∧ (47 : UInt8) ∉ q ∧ (pieces s.data.toList).dropLast ≠ [] := by
  have hp := pieces_pos s.data.toList
  have hne : pieces s.data.toList ≠ [] := fun e => by rw [e] at hp; simp at hp
  have h2 : (pieces s.data.toList).dropLast ≠ [] := fun e => by
    have := congrArg List.length e
    rw [List.length_dropLast] at this
    simp at this; omega
  refine ⟨(pieces s.data.toList).getLast hne, ?_, pieces_no _ _ (List.getLast_mem hne), h2⟩
  rw [upP, ← joinP_snoc h2, List.dropLast_concat_getLast hne, join_pieces]
theorem joinP_take {l : List (List UInt8)} {k : Nat} (hk : k < l.length) (h0 : 0 < k) : joinP (l.take (k + 1)) = joinP (l.take k) ++ 47 :: l[k] := by
  rw [List.take_add_one, List.getElem?_eq_getElem hk]
  refine joinP_snoc (fun e => ?_)
  have := congrArg List.length e
  rw [List.length_take] at this
  simp only [List.length_nil] at this
  omega
theorem joinP_le : ∀ (ps : List (List UInt8)) (k : Nat), (joinP (ps.take k)).length ≤ (joinP ps).length
  | [], k => by simp
  | x :: r, 0 => by simp [joinP]
  | [x], k + 1 => by simp
  | x :: y :: r, 1 => by rw [joinP_cons (by simp)]; simp [joinP]
  | x :: y :: r, k + 2 => by
    have := joinP_le (y :: r) (k + 1)
    rw [List.take_succ_cons, joinP_cons (by simp), joinP_cons (by simp)]
    simp only [List.length_append, List.length_cons]
    omega
theorem joinP_size (s : ByteArray) (k : Nat) : (joinP ((pieces s.data.toList).take k)).length ≤ s.size := by
  have := joinP_le (pieces s.data.toList) k
  rw [join_pieces] at this
  simpa using this
theorem piece_le : ∀ (ps : List (List UInt8)) {p : List UInt8}, p ∈ ps → p.length ≤ (joinP ps).length
  | [], p, h => by cases h
  | [x], p, h => by simp at h; subst h; exact Nat.le_refl _
  | x :: y :: r, p, h => by
    rw [joinP_cons (by simp), List.length_append, List.length_cons]
    rcases List.mem_cons.1 h with rfl | h
    · omega
    · have := piece_le (y :: r) h; omega
theorem piece_size {s : ByteArray} {k : Nat} (h : k < (pieces s.data.toList).length) : ((pieces s.data.toList)[k]).length ≤ s.size := by
  have := piece_le _ (List.getElem_mem h)
  rw [join_pieces] at this
  simpa using this
theorem first_join {l : List (List UInt8)} (h : 0 < l.length) : l[0] = joinP (l.take 1) := by
  cases l with
  | nil => simp at h
  | cons x r => rfl
theorem slash_add {x y : List UInt8} : (⟨x.toArray⟩ : ByteArray) ++ ⟨#[47]⟩ ++ ⟨y.toArray⟩ = ⟨(x ++ 47 :: y).toArray⟩ := by
  apply ByteArray.ext
  rw [ByteArray.data_append, ByteArray.data_append]
  apply Array.ext'
  simp

theorem rdir_spec (s : ByteArray) (hs : s.size < 1073741824) : HPure Tryd.prog 58 [.str s] (.str (dirF s)) := by
 have hpl := pieces_len s.data.toList
 have hpp := pieces_pos s.data.toList
 have hsz : s.data.toList.length = s.size := by simp
 intro L T
 refine HCalls.enterG q_f_58 rfl ?_
 refine HWp.frame (r' := ⟨34, [(0, .str s)]⟩) rfl ?_
 refine HWp.seq ?_
 refine HWp.text (.rd 0 .done) rfl ?_
 refine HPlan.assign rfl rfl rfl ?_
 refine HPlan.fin ?_
 refine onNorm_n ?_
 refine HWp.seq ?_
 refine HWp.text (.rd 0 (.act 1 [] (.rd 2 .done))) rfl ?_
 refine HPlan.move rfl rfl rfl ?_
 refine HPlan.callS rfl rfl rfl q_en_56 (parts_sl s hs L T) (List.Perm.refl _) (List.Perm.refl _) ?_
 rintro r_R1_1 L_R1_1 T1 ⟨hsl, rfl, rfl⟩
 refine ⟨keptH_nil, ?_⟩
 refine HPlan.assign rfl rfl rfl ?_
 refine HPlan.fin ?_
 refine onNorm_n ?_
 refine HWp.seq ?_
 refine HWp.seq ?_
 refine HWp.text (.rd 0 (.act 1 [] (.rd 2 (.rd 3 (.rd 4 (.rd 5 (.rd 6 (.rd 7 .done)))))))) rfl ?_
 refine HPlan.move rfl rfl rfl ?_
 refine HPlan.callPure rfl rfl rfl q_en_31 (rmay_spec _ (by assumption)) keptH_nil ?_
 refine HPlan.not rfl rfl rfl rfl ?_
 refine HPlan.move rfl rfl rfl ?_
 refine HPlan.split ?_ ?_
 ·
  intro hb2_3
  first
  | exact PrN hb2_3
  | ((try simp only [Pr] at hb2_3); exfalso; omega)
  | (try simp only [Pr] at hb2_3)
    refine HPlan.leftR rfl rfl ?_
    refine HPlan.leftR rfl rfl ?_
    refine HPlan.leftR rfl rfl ?_
    refine HPlan.pickT rfl rfl rfl rfl ?_
    refine HPlan.fin ?_
    refine onNorm_n ?_
    refine HWp.cond_t rfl ?_
    refine HWp.seq ?_
    refine HWp.text (.rd 0 .done) rfl ?_
    refine HPlan.assign rfl rfl rfl ?_
    refine HPlan.fin ?_
    refine onNorm_n ?_
    refine HWp.ret ?_
    refine onNorm_r ?_
    refine retQ_r (.tmp rfl .nil) ?_
    refine endK_of ⟨?_, rfl, rfl⟩ (by repeat (first | exact Part.refl _ | refine Part.pull (by repeat (first | exact Pull.here | apply Pull.there)) ?_ | refine Part.skip _ ?_ | exact Part.nil _ | exact Part.app _ _ | exact Part.appL _ _ | refine Part.appR _ ?_)) (by repeat (first | exact Part.refl _ | refine Part.pull (by repeat (first | exact Pull.here | apply Pull.there)) ?_ | refine Part.skip _ ?_ | exact Part.nil _ | exact Part.app _ _ | exact Part.appL _ _ | refine Part.appR _ ?_))
    refine congrArg LV.str ?_
    unfold dirF
    first
    | (rw [if_neg (fun h => absurd (hb2_3.symm.trans h.1) Bool.false_ne_true)]; done)
    | (rw [if_neg (fun h => h.2 (by omega))]; done)
    | (rw [if_pos ⟨by simpa using hb2_3, by omega⟩, upP, List.dropLast_eq_take, hkl]; done)
 ·
  intro hb2_3
  first
  | exact PrN hb2_3
  | ((try simp only [Pr] at hb2_3); exfalso; omega)
  | (try simp only [Pr] at hb2_3)
    refine HPlan.move rfl rfl rfl ?_
    refine HPlan.lenS rfl rfl rfl q_tk_54 (by first | exact IsSl.sl | exact IsSl.nils | assumption | exact growV_isSl (by assumption) | exact SlD.ok _) (by first | rw [List.length_map] | rfl) ?_
    refine HPlan.intBin rfl rfl rfl rfl rfl rfl ?_
    refine HPlan.pickF rfl rfl rfl rfl ?_
    refine HPlan.fin ?_
    refine onNorm_n ?_
    refine HWp.cond rfl ?_ ?_
    ·
     intro hc15
     first
     | exact PrN hc15
     | ((try simp only [Pr] at hc15); exfalso; omega)
     | (try simp only [Pr] at hc15)
       refine HWp.seq ?_
       refine HWp.text (.rd 0 .done) rfl ?_
       refine HPlan.assign rfl rfl rfl ?_
       refine HPlan.fin ?_
       refine onNorm_n ?_
       refine HWp.ret ?_
       refine onNorm_r ?_
       refine retQ_r (.tmp rfl .nil) ?_
       refine endK_of ⟨?_, rfl, rfl⟩ (by repeat (first | exact Part.refl _ | refine Part.pull (by repeat (first | exact Pull.here | apply Pull.there)) ?_ | refine Part.skip _ ?_ | exact Part.nil _ | exact Part.app _ _ | exact Part.appL _ _ | refine Part.appR _ ?_)) (by repeat (first | exact Part.refl _ | refine Part.pull (by repeat (first | exact Pull.here | apply Pull.there)) ?_ | refine Part.skip _ ?_ | exact Part.nil _ | exact Part.app _ _ | exact Part.appL _ _ | refine Part.appR _ ?_))
       refine congrArg LV.str ?_
       unfold dirF
       first
       | (rw [if_neg (fun h => absurd (hb2_3.symm.trans h.1) Bool.false_ne_true)]; done)
       | (rw [if_neg (fun h => h.2 (by omega))]; done)
       | (rw [if_pos ⟨by simpa using hb2_3, by omega⟩, upP, List.dropLast_eq_take, hkl]; done)
    ·
     intro hc15
     first
     | exact PrN hc15
     | ((try simp only [Pr] at hc15); exfalso; omega)
     | (try simp only [Pr] at hc15)
       refine HWp.skip ?_
       refine onNorm_n ?_
       refine HWp.seq ?_
       refine HWp.text (.rd 0 (.rd 1 (.rd 2 (.rd 3 .done)))) rfl ?_
       refine HPlan.move rfl rfl rfl ?_
       refine HPlan.indexS rfl rfl rfl rfl q_ix_54 (by first | exact IsSl.sl | exact IsSl.nils | assumption | exact growV_isSl (by assumption) | exact SlD.ok _) (by omega) (by simp only [List.length_map]; omega) (at_map (k := 0) (by omega)) ?_
       refine HPlan.loadI rfl rfl rfl q_sh_9 ⟨Nat.le_refl 1, Nat.one_pos⟩ ((piece_load _).trans (congrArg (fun z : List UInt8 => LV.str ⟨z.toArray⟩) (first_join (by omega)))) ?_
       refine HPlan.assign rfl rfl rfl ?_
       refine HPlan.fin ?_
       refine onNorm_n ?_
       refine HWp.seq ?_
       refine HWp.seq ?_
       refine HWp.text (.rd 0 .done) rfl ?_
       refine HPlan.assign rfl rfl rfl ?_
       refine HPlan.fin ?_
       refine onNorm_n ?_
       refine HWp.block ?_
       refine HWp.loopF (α := Nat) (fun k => (pieces s.data.toList).length - 1 - k) (fun k => 1 ≤ k ∧ k ≤ (pieces s.data.toList).length - 1) (fun k => ⟨34, [(3, r_R1_1), (4, .str ⟨(joinP ((pieces s.data.toList).take k)).toArray⟩), (5, .int .i64 (k : Int))]⟩) (fun k => L_R1_1) (fun k => T1) ?_ ?_
       ·
        refine ⟨1, ⟨Nat.le_refl _, by omega⟩, (LessE.less (by repeat (first | exact LessE.nil | refine LessE.same rfl ?_ | refine LessE.own rfl ?_ | refine LessE.eq rfl ?_ (by first | rfl | (congr 1; omega) | simp))) rfl), (by repeat (first | exact Part.refl _ | refine Part.pull (by repeat (first | exact Pull.here | apply Pull.there)) ?_ | refine Part.skip _ ?_ | exact Part.nil _ | exact Part.app _ _ | exact Part.appL _ _ | refine Part.appR _ ?_)), (by repeat (first | exact Part.refl _ | refine Part.pull (by repeat (first | exact Pull.here | apply Pull.there)) ?_ | refine Part.skip _ ?_ | exact Part.nil _ | exact Part.app _ _ | exact Part.appL _ _ | refine Part.appR _ ?_))⟩
       ·
        rintro k ⟨hk0, hk1⟩
        have hjs := joinP_size s k
        refine HWp.seq ?_
        refine HWp.seq ?_
        refine HWp.text (.rd 0 (.rd 1 (.rd 2 (.rd 3 (.rd 4 .done))))) rfl ?_
        refine HPlan.move rfl rfl rfl ?_
        refine HPlan.move rfl rfl rfl ?_
        refine HPlan.lenS rfl rfl rfl q_tk_54 (by first | exact IsSl.sl | exact IsSl.nils | assumption | exact growV_isSl (by assumption) | exact SlD.ok _) (by first | rw [List.length_map] | rfl) ?_
        refine HPlan.intBin rfl rfl rfl rfl rfl (by first | exact sub_i64 (by omega) (by omega) | rfl) ?_
        refine HPlan.intBin rfl rfl rfl rfl rfl rfl ?_
        refine HPlan.fin ?_
        refine onNorm_n ?_
        refine HWp.cond rfl ?_ ?_
        ·
         intro hc23
         first
         | exact PrN hc23
         | ((try simp only [Pr] at hc23); exfalso; omega)
         | (try simp only [Pr] at hc23)
           refine HWp.skip ?_
           refine onNorm_n ?_
           refine HWp.seq ?_
           refine HWp.block ?_
           refine HWp.text (.rd 0 (.rd 1 (.rd 2 (.rd 3 (.rd 4 (.rd 5 (.rd 6 (.rd 7 .done)))))))) rfl ?_
           refine HPlan.move rfl rfl rfl ?_
           refine HPlan.strBin rfl rfl rfl rfl (by show _ ≤ _; rw [ba_len]; exact Nat.le_trans (Nat.add_le_add_right hjs 1) (by omega)) rfl ?_
           refine HPlan.move rfl rfl rfl ?_
           refine HPlan.move rfl rfl rfl ?_
           refine HPlan.indexS rfl rfl rfl rfl q_ix_54 (by first | exact IsSl.sl | exact IsSl.nils | assumption | exact growV_isSl (by assumption) | exact SlD.ok _) (by omega) (by simp only [List.length_map]; omega) (by first | exact at_map (by omega) | rfl) ?_
           first
           | refine HPlan.loadI rfl rfl rfl q_sh_9 (by constructor <;> first | rfl | decide | omega | exact Nat.le_refl _ | (simp [digC_len, dgV, LV.cells, readDC_len, readDV, madeDC_len, madeDV, traceDC_len, traceDV]; done) | (simp [digC_len, dgV, LV.cells, readDC_len, readDV, madeDC_len, madeDV, traceDC_len, traceDV]; omega)) (by first | exact (readD_path _) | exact (madeD_path _) | exact (piece_load _) | rfl) ?_
           | refine HPlan.load rfl rfl rfl q_sh_9 (by repeat (first | exact List.Mem.head _ | apply List.Mem.tail | assumption)) (by constructor <;> first | rfl | decide | omega | exact Nat.le_refl _ | (simp [digC_len, dgV, LV.cells, readDC_len, readDV, madeDC_len, madeDV, traceDC_len, traceDV]; done) | (simp [digC_len, dgV, LV.cells, readDC_len, readDV, madeDC_len, madeDV, traceDC_len, traceDV]; omega)) (by first | exact (readD_path _) | exact (madeD_path _) | exact (piece_load _) | rfl) ?_
           refine HPlan.strBin rfl rfl rfl rfl (by show _ ≤ _; have := piece_size (s := s) (k := k) (by omega); simp only [ByteArray.size_append, ba_len, List.length_cons, List.length_nil]; omega) ((congrArg LV.str slash_add).trans (congrArg (fun z : List UInt8 => LV.str ⟨z.toArray⟩) (joinP_take (by omega) (by omega)).symm)) ?_
           refine HPlan.assign rfl rfl rfl ?_
           refine HPlan.fin ?_
           refine onExitH_n ?_
           refine onNorm_n ?_
           refine HWp.text (.rd 0 (.rd 1 (.rd 2 .done))) rfl ?_
           refine HPlan.move rfl rfl rfl ?_
           refine HPlan.intBin rfl rfl rfl rfl rfl (by first | exact add_i64 (by omega) (by omega) | rfl) ?_
           refine HPlan.assign rfl rfl rfl ?_
           refine HPlan.fin ?_
           refine onNorm_n ?_
           refine ⟨(k + 1), (by omega), ⟨by omega, by omega⟩, (LessE.less (by repeat (first | exact LessE.nil | refine LessE.same rfl ?_ | refine LessE.own rfl ?_ | refine LessE.eq rfl ?_ (by first | rfl | (congr 1; omega) | simp))) rfl), (by repeat (first | exact Part.refl _ | refine Part.pull (by repeat (first | exact Pull.here | apply Pull.there)) ?_ | refine Part.skip _ ?_ | exact Part.nil _ | exact Part.app _ _ | exact Part.appL _ _ | refine Part.appR _ ?_)), (by repeat (first | exact Part.refl _ | refine Part.pull (by repeat (first | exact Pull.here | apply Pull.there)) ?_ | refine Part.skip _ ?_ | exact Part.nil _ | exact Part.app _ _ | exact Part.appL _ _ | refine Part.appR _ ?_))⟩
        ·
         intro hc23
         first
         | exact PrN hc23
         | ((try simp only [Pr] at hc23); exfalso; omega)
         | (try simp only [Pr] at hc23)
           refine HWp.exit ?_
           refine onNorm_e ?_
           refine onNorm_e ?_
           have hkl : k = (pieces s.data.toList).length - 1 := by omega
           refine onExitH_hit ?_
           refine onNorm_n ?_
           refine HWp.seq ?_
           refine HWp.text (.rd 0 (.rd 1 .done)) rfl ?_
           refine HPlan.move rfl rfl rfl ?_
           refine HPlan.assign rfl rfl rfl ?_
           refine HPlan.fin ?_
           refine onNorm_n ?_
           refine HWp.ret ?_
           refine retQ_r (.tmp rfl .nil) ?_
           refine endK_of ⟨?_, rfl, rfl⟩ (by repeat (first | exact Part.refl _ | refine Part.pull (by repeat (first | exact Pull.here | apply Pull.there)) ?_ | refine Part.skip _ ?_ | exact Part.nil _ | exact Part.app _ _ | exact Part.appL _ _ | refine Part.appR _ ?_)) (by repeat (first | exact Part.refl _ | refine Part.pull (by repeat (first | exact Pull.here | apply Pull.there)) ?_ | refine Part.skip _ ?_ | exact Part.nil _ | exact Part.app _ _ | exact Part.appL _ _ | refine Part.appR _ ?_))
           refine congrArg LV.str ?_
           unfold dirF
           first
           | (rw [if_neg (fun h => absurd (hb2_3.symm.trans h.1) Bool.false_ne_true)]; done)
           | (rw [if_neg (fun h => h.2 (by omega))]; done)
           | (rw [if_pos ⟨by simpa using hb2_3, by omega⟩, upP, List.dropLast_eq_take, hkl]; done)
end Go.Proofs.YthfoobfgdakbmaaDoor

set_option linter.unusedVariables false
set_option linter.unusedSimpArgs false
set_option maxRecDepth 100000
namespace Go.Proofs.YthfoobfgdakbmaaDoor
open Go Go.RowKit Go.L
theorem q_en_58 : enterable Tryd.prog 58 = true := by kernel_rfl
theorem q_en_32 : enterable Tryd.prog 32 = true := by kernel_rfl
theorem q_f_32 : Tryd.prog.funcs[32]? = some Tryd.f32 := by kernel_rfl

theorem may_pieces {s : ByteArray} (h : mayF s = true) : (∀ p ∈ pieces s.data.toList, partF ⟨p.toArray⟩ = true) ∧ (pieces s.data.toList).length ≤ 16 := by
  simpa [mayF] using h
theorem part_ne {p : List UInt8} (h : partF ⟨p.toArray⟩ = true) : p ≠ [] := fun e => by
  subst e
  simp [partF] at h
theorem up_may {s : ByteArray} (h : mayF s = true) (h1 : (pieces s.data.toList).length ≠ 1) : pieces (upP s) = (pieces s.data.toList).dropLast ∧ mayF ⟨(upP s).toArray⟩ = true ∧ upP s ≠ [] := by
  obtain ⟨q, h2, h3, h4⟩ := last_split h1
  obtain ⟨h5, h6⟩ := may_pieces h
  have hno : ∀ p ∈ (pieces s.data.toList).dropLast, (47 : UInt8) ∉ p := fun p hp => pieces_no _ p (List.dropLast_subset _ hp)
  have e : pieces (upP s) = (pieces s.data.toList).dropLast := pieces_join h4 hno
  refine ⟨e, ?_, fun h0 => ?_⟩
  · rw [mayF, decide_eq_true_eq]
    show (∀ p ∈ pieces (upP s), partF ⟨p.toArray⟩ = true) ∧ (pieces (upP s)).length ≤ 16
    rw [e]
    exact ⟨fun p hp => h5 p (List.dropLast_subset _ hp), by rw [List.length_dropLast]; omega⟩
  · rw [h0] at e
    have hm : ([] : List UInt8) ∈ pieces s.data.toList := List.dropLast_subset _ (by rw [← e]; simp [pieces])
    exact part_ne (h5 _ hm) rfl
theorem under_up {s d : ByteArray} (h : mayF s = true) (h1 : (pieces s.data.toList).length ≠ 1) : underF s d = (decide ((⟨(upP s).toArray⟩ : ByteArray) = d) || underF ⟨(upP s).toArray⟩ d) := by
  obtain ⟨q, h2, h3, h4⟩ := last_split h1
  obtain ⟨e, hm, hn⟩ := up_may h h1
  rw [underF, underF, Bool.eq_iff_iff, decide_eq_true_eq, Bool.or_eq_true, decide_eq_true_eq, decide_eq_true_eq]
  constructor
  · rintro ⟨-, hp⟩
    rw [h2] at hp
    rcases (prefix_step h3).1 hp with hu | hu
    · left
      rw [hu]
    · right; exact ⟨hm, hu⟩
  · intro hh
    refine ⟨h, ?_⟩
    rw [h2]
    refine (prefix_step h3).2 ?_
    rcases hh with hu | ⟨-, hu⟩
    · left; rw [← hu]
    · right; exact hu
theorem under_one {s d : ByteArray} (h1 : (pieces s.data.toList).length = 1) : underF s d = false := by
  rw [underF, decide_eq_false_iff_not]
  rintro ⟨-, t, ht⟩
  have e := join_pieces s.data.toList
  obtain ⟨x, hx⟩ := List.length_eq_one_iff.1 h1
  have hno := pieces_no s.data.toList x (by rw [hx]; simp)
  rw [hx] at e
  have e : x = s.data.toList := e
  apply hno
  rw [e, ← ht]; simp
theorem under_no {s d : ByteArray} (h : mayF s = false) : underF s d = false := by
  rw [underF, decide_eq_false_iff_not]
  rintro ⟨h', -⟩
  rw [h] at h'; cases h'
theorem dir_one {s : ByteArray} (h1 : (pieces s.data.toList).length = 1) : dirF s = ⟨#[]⟩ := by
  unfold dirF; rw [if_neg (fun h => h.2 h1)]
theorem dir_up {s : ByteArray} (h : mayF s = true) (h1 : (pieces s.data.toList).length ≠ 1) : dirF s = ⟨(upP s).toArray⟩ := by
  unfold dirF; rw [if_pos ⟨h, h1⟩]
theorem up_size {s : ByteArray} (h1 : (pieces s.data.toList).length ≠ 1) : (⟨(upP s).toArray⟩ : ByteArray).size ≤ s.size := by
  rw [ba_len, upP, List.dropLast_eq_take]; exact joinP_size s _
theorem up_ne {s : ByteArray} (h : upP s ≠ []) : (⟨(upP s).toArray⟩ : ByteArray) ≠ ⟨#[]⟩ := fun e => h (by
  have := congrArg (fun b : ByteArray => b.data.toList) e
  simpa using this)

theorem runder_step (n : Nat) (s d : ByteArray) (hs : s.size < 1073741824) (hd : d ≠ ⟨#[]⟩) (hn : (pieces s.data.toList).length ≤ n + 1) (ih : ∀ s : ByteArray, s.size < 1073741824 → (pieces s.data.toList).length ≤ n → HPure Tryd.prog 32 [.str s, .str d] (.bool (underF s d))) : HPure Tryd.prog 32 [.str s, .str d] (.bool (underF s d)) := by
 intro L T
 refine HCalls.enterG q_f_32 rfl ?_
 refine HWp.frame (r' := ⟨25, [(0, .str s), (1, .str d)]⟩) rfl ?_
 refine HWp.seq ?_
 refine HWp.text (.rd 0 .done) rfl ?_
 refine HPlan.assign rfl rfl rfl ?_
 refine HPlan.fin ?_
 refine onNorm_n ?_
 refine HWp.seq ?_
 refine HWp.seq ?_
 refine HWp.text (.rd 0 (.act 1 [] (.rd 2 .done))) rfl ?_
 refine HPlan.move rfl rfl rfl ?_
 refine HPlan.callPure rfl rfl rfl q_en_31 (rmay_spec _ (by assumption)) keptH_nil ?_
 refine HPlan.not rfl rfl rfl rfl ?_
 refine HPlan.fin ?_
 refine onNorm_n ?_
 refine HWp.cond rfl ?_ ?_
 ·
  intro hc8
  first
  | exact PrN hc8
  | ((try simp only [Pr] at hc8); exfalso; omega)
  | (try simp only [Pr] at hc8)
    refine HWp.seq ?_
    refine HWp.text (.rd 0 .done) rfl ?_
    refine HPlan.assign rfl rfl rfl ?_
    refine HPlan.fin ?_
    refine onNorm_n ?_
    refine HWp.ret ?_
    refine onNorm_r ?_
    refine retQ_r (.tmp rfl .nil) ?_
    refine endK_of ⟨?_, rfl, rfl⟩ (by repeat (first | exact Part.refl _ | refine Part.pull (by repeat (first | exact Pull.here | apply Pull.there)) ?_ | refine Part.skip _ ?_ | exact Part.nil _ | exact Part.app _ _ | exact Part.appL _ _ | refine Part.appR _ ?_)) (by repeat (first | exact Part.refl _ | refine Part.pull (by repeat (first | exact Pull.here | apply Pull.there)) ?_ | refine Part.skip _ ?_ | exact Part.nil _ | exact Part.app _ _ | exact Part.appL _ _ | refine Part.appR _ ?_))
    refine congrArg LV.bool ?_
    first
    | exact (under_no (by simpa using hc8)).symm
    | (rw [under_up hmay hl1]; simp only [hb6_6, decide_true, decide_false, Bool.true_or, Bool.false_or]; done)
    | (refine (under_one ?_).symm; apply Classical.byContradiction; intro hl1; have hmay : mayF s = true := (by simpa using hc8); rw [dir_up hmay hl1] at hb6_2; exact up_ne (up_may hmay hl1).2.2 hb6_2)
 ·
  intro hc8
  first
  | exact PrN hc8
  | ((try simp only [Pr] at hc8); exfalso; omega)
  | (try simp only [Pr] at hc8)
    refine HWp.skip ?_
    refine onNorm_n ?_
    refine HWp.seq ?_
    refine HWp.seq ?_
    refine HWp.text (.rd 0 (.rd 1 .done)) rfl ?_
    refine HPlan.move rfl rfl rfl ?_
    refine HPlan.strBin rfl rfl rfl rfl trivial (congrArg LV.bool (decide_eq_false hd)) ?_
    refine HPlan.fin ?_
    refine onNorm_n ?_
    refine HWp.cond_f rfl ?_
    refine HWp.skip ?_
    refine onNorm_n ?_
    refine HWp.seq ?_
    refine HWp.text (.rd 0 (.act 1 [] (.rd 2 .done))) rfl ?_
    refine HPlan.move rfl rfl rfl ?_
    refine HPlan.callPure rfl rfl rfl q_en_58 (rdir_spec s hs) keptH_nil ?_
    refine HPlan.assign rfl rfl rfl ?_
    refine HPlan.fin ?_
    refine onNorm_n ?_
    refine HWp.seq ?_
    refine HWp.text (.rd 0 (.rd 1 (.rd 2 (.rd 3 (.rd 4 (.rd 5 (.rd 6 (.rd 7 (.rd 8 (.act 9 [] (.rd 10 (.rd 11 (.rd 12 .done))))))))))))) rfl ?_
    refine HPlan.move rfl rfl rfl ?_
    refine HPlan.strBin rfl rfl rfl rfl trivial rfl ?_
    refine HPlan.move rfl rfl rfl ?_
    refine HPlan.split ?_ ?_
    ·
     intro hb6_2
     first
     | exact PrN hb6_2
     | ((try simp only [Pr] at hb6_2); exfalso; omega)
     | (try simp only [Pr] at hb6_2)
       have hl1 : (pieces s.data.toList).length ≠ 1 := fun e => hb6_2 (dir_one e)
       have hmay : mayF s = true := by simpa using hc8
       rw [dir_up hmay hl1] at hb6_2 ⊢
       have hus : (⟨(upP s).toArray⟩ : ByteArray).size < 1073741824 := Nat.lt_of_le_of_lt (up_size hl1) hs
       have hup : (pieces (⟨(upP s).toArray⟩ : ByteArray).data.toList).length ≤ n := by show (pieces (upP s)).length ≤ n; rw [(up_may hmay hl1).1, List.length_dropLast]; omega
       refine HPlan.move rfl rfl rfl ?_
       refine HPlan.move rfl rfl rfl ?_
       refine HPlan.strBin rfl rfl rfl rfl trivial rfl ?_
       refine HPlan.move rfl rfl rfl ?_
       refine HPlan.split ?_ ?_
       ·
        intro hb6_6
        first
        | exact PrN hb6_6
        | ((try simp only [Pr] at hb6_6); exfalso; omega)
        | (try simp only [Pr] at hb6_6)
          refine HPlan.leftR rfl rfl ?_
          refine HPlan.leftR rfl rfl ?_
          refine HPlan.leftA rfl rfl ?_
          refine HPlan.pickT rfl rfl rfl rfl ?_
          refine HPlan.pickT rfl rfl rfl rfl ?_
          refine HPlan.assign rfl rfl rfl ?_
          refine HPlan.fin ?_
          refine onNorm_n ?_
          refine HWp.ret ?_
          refine retQ_r (.tmp rfl .nil) ?_
          refine endK_of ⟨?_, rfl, rfl⟩ (by repeat (first | exact Part.refl _ | refine Part.pull (by repeat (first | exact Pull.here | apply Pull.there)) ?_ | refine Part.skip _ ?_ | exact Part.nil _ | exact Part.app _ _ | exact Part.appL _ _ | refine Part.appR _ ?_)) (by repeat (first | exact Part.refl _ | refine Part.pull (by repeat (first | exact Pull.here | apply Pull.there)) ?_ | refine Part.skip _ ?_ | exact Part.nil _ | exact Part.app _ _ | exact Part.appL _ _ | refine Part.appR _ ?_))
          refine congrArg LV.bool ?_
          first
          | exact (under_no (by simpa using hc8)).symm
          | (rw [under_up hmay hl1]; simp only [hb6_6, decide_true, decide_false, Bool.true_or, Bool.false_or]; done)
          | (refine (under_one ?_).symm; apply Classical.byContradiction; intro hl1; have hmay : mayF s = true := (by simpa using hc8); rw [dir_up hmay hl1] at hb6_2; exact up_ne (up_may hmay hl1).2.2 hb6_2)
       ·
        intro hb6_6
        first
        | exact PrN hb6_6
        | ((try simp only [Pr] at hb6_6); exfalso; omega)
        | (try simp only [Pr] at hb6_6)
          refine HPlan.move rfl rfl rfl ?_
          refine HPlan.move rfl rfl rfl ?_
          refine HPlan.callPure rfl rfl rfl q_en_32 (ih _ hus hup) keptH_nil ?_
          refine HPlan.pickF rfl rfl rfl rfl ?_
          refine HPlan.pickT rfl rfl rfl rfl ?_
          refine HPlan.assign rfl rfl rfl ?_
          refine HPlan.fin ?_
          refine onNorm_n ?_
          refine HWp.ret ?_
          refine retQ_r (.tmp rfl .nil) ?_
          refine endK_of ⟨?_, rfl, rfl⟩ (by repeat (first | exact Part.refl _ | refine Part.pull (by repeat (first | exact Pull.here | apply Pull.there)) ?_ | refine Part.skip _ ?_ | exact Part.nil _ | exact Part.app _ _ | exact Part.appL _ _ | refine Part.appR _ ?_)) (by repeat (first | exact Part.refl _ | refine Part.pull (by repeat (first | exact Pull.here | apply Pull.there)) ?_ | refine Part.skip _ ?_ | exact Part.nil _ | exact Part.app _ _ | exact Part.appL _ _ | refine Part.appR _ ?_))
          refine congrArg LV.bool ?_
          first
          | exact (under_no (by simpa using hc8)).symm
          | (rw [under_up hmay hl1]; simp only [hb6_6, decide_true, decide_false, Bool.true_or, Bool.false_or]; done)
          | (refine (under_one ?_).symm; apply Classical.byContradiction; intro hl1; have hmay : mayF s = true := (by simpa using hc8); rw [dir_up hmay hl1] at hb6_2; exact up_ne (up_may hmay hl1).2.2 hb6_2)
    ·
     intro hb6_2
     first
     | exact PrN hb6_2
     | ((try simp only [Pr] at hb6_2); exfalso; omega)
     | (try simp only [Pr] at hb6_2)
       refine HPlan.leftR rfl rfl ?_
       refine HPlan.leftR rfl rfl ?_
       refine HPlan.leftR rfl rfl ?_
       refine HPlan.leftR rfl rfl ?_
       refine HPlan.leftR rfl rfl ?_
       refine HPlan.leftR rfl rfl ?_
       refine HPlan.leftA rfl rfl ?_
       refine HPlan.leftR rfl rfl ?_
       refine HPlan.pickF rfl rfl rfl rfl ?_
       refine HPlan.assign rfl rfl rfl ?_
       refine HPlan.fin ?_
       refine onNorm_n ?_
       refine HWp.ret ?_
       refine retQ_r (.tmp rfl .nil) ?_
       refine endK_of ⟨?_, rfl, rfl⟩ (by repeat (first | exact Part.refl _ | refine Part.pull (by repeat (first | exact Pull.here | apply Pull.there)) ?_ | refine Part.skip _ ?_ | exact Part.nil _ | exact Part.app _ _ | exact Part.appL _ _ | refine Part.appR _ ?_)) (by repeat (first | exact Part.refl _ | refine Part.pull (by repeat (first | exact Pull.here | apply Pull.there)) ?_ | refine Part.skip _ ?_ | exact Part.nil _ | exact Part.app _ _ | exact Part.appL _ _ | refine Part.appR _ ?_))
       refine congrArg LV.bool ?_
       first
       | exact (under_no (by simpa using hc8)).symm
       | (rw [under_up hmay hl1]; simp only [hb6_6, decide_true, decide_false, Bool.true_or, Bool.false_or]; done)
       | (refine (under_one ?_).symm; apply Classical.byContradiction; intro hl1; have hmay : mayF s = true := (by simpa using hc8); rw [dir_up hmay hl1] at hb6_2; exact up_ne (up_may hmay hl1).2.2 hb6_2)
end Go.Proofs.YthfoobfgdakbmaaDoor

set_option linter.unusedVariables false
set_option linter.unusedSimpArgs false
set_option maxRecDepth 100000
namespace Go.Proofs.YthfoobfgdakbmaaDoor
open Go Go.RowKit Go.L
theorem q_f_95 : Tryd.prog.funcs[95]? = some Tryd.f95 := by kernel_rfl
theorem q_en_95 : enterable Tryd.prog 95 = true := by kernel_rfl
theorem q_f_94 : Tryd.prog.funcs[94]? = some Tryd.f94 := by kernel_rfl
theorem q_f_137 : Tryd.prog.funcs[137]? = some Tryd.f137 := by kernel_rfl
theorem q_en_137 : enterable Tryd.prog 137 = true := by kernel_rfl
theorem q_f_116 : Tryd.prog.funcs[116]? = some Tryd.f116 := by kernel_rfl

theorem runder_all {d : ByteArray} (hd : d ≠ ⟨#[]⟩) : ∀ (n : Nat) (s : ByteArray), s.size < 1073741824 → (pieces s.data.toList).length ≤ n → HPure Tryd.prog 32 [.str s, .str d] (.bool (underF s d))
  | 0, s, _, h => by have := pieces_pos s.data.toList; omega
  | n + 1, s, hs, h => runder_step n s d hs hd h (runder_all hd n)
theorem runder_spec {d : ByteArray} (hd : d ≠ ⟨#[]⟩) (s : ByteArray) (hs : s.size < 1073741824) : HPure Tryd.prog 32 [.str s, .str d] (.bool (underF s d)) := runder_all hd _ s hs (Nat.le_refl _)
theorem idx_free : ∀ {p : List UInt8}, (47 : UInt8) ∉ p → Lib.indexByte p 47 = -1
  | [], _ => rfl
  | b :: r, h => by
    rw [List.mem_cons, not_or] at h
    have hb : (b == 47) = false := beq_eq_false_iff_ne.2 (fun e => h.1 e.symm)
    simp [Lib.indexByte, hb, idx_free h.2]
theorem idx_cut {p : List UInt8} (h : (47 : UInt8) ∉ p) (r : List UInt8) : Lib.indexByte (p ++ 47 :: r) 47 = p.length := by
  induction p with
  | nil => simp [Lib.indexByte]
  | cons b q ih =>
    rw [List.mem_cons, not_or] at h
    have hb : (b == 47) = false := beq_eq_false_iff_ne.2 (fun e => h.1 e.symm)
    have := ih h.2
    simp only [List.cons_append, Lib.indexByte, hb, this]
    rw [if_neg (by simp), if_neg (by simp only [beq_iff_eq]; omega)]
    simp

theorem idx_spec (s : ByteArray) : HPure Tryd.prog 95 [.str s, .str ⟨#[47]⟩] (.int .i64 (Lib.indexByte s.data.toList 47)) := by
 intro L T
 refine HCalls.enterG q_f_95 rfl ?_
 refine HWp.frame (r' := ⟨143, [(0, .str s), (1, .str ⟨#[47]⟩)]⟩) rfl ?_
 refine HWp.seq ?_
 refine HWp.text (.rd 0 .done) rfl ?_
 refine HPlan.assign rfl rfl rfl ?_
 refine HPlan.fin ?_
 refine onNorm_n ?_
 refine HWp.seq ?_
 refine HWp.text (.rd 0 (.rd 1 (.rd 2 .done))) rfl ?_
 refine HPlan.move rfl rfl rfl ?_
 refine HPlan.lenStr rfl rfl rfl q_tk_9 (rfl : _ = LV.int .i64 1) ?_
 refine HPlan.assign rfl rfl rfl ?_
 refine HPlan.fin ?_
 refine onNorm_n ?_
 refine HWp.seq ?_
 refine HWp.block ?_
 refine HWp.seq ?_
 refine HWp.text (.rd 0 (.rd 1 (.rd 2 (.rd 3 (.rd 4 (.rd 5 (.rd 6 (.rd 7 .done)))))))) rfl ?_
 refine HPlan.move rfl rfl rfl ?_
 refine HPlan.intBin rfl rfl rfl rfl rfl (rfl : _ = LV.bool false) ?_
 refine HPlan.move rfl rfl rfl ?_
 refine HPlan.move rfl rfl rfl ?_
 refine HPlan.move rfl rfl rfl ?_
 refine HPlan.strBin rfl rfl rfl rfl trivial rfl ?_
 refine HPlan.pickF rfl rfl rfl rfl ?_
 refine HPlan.assign rfl rfl rfl ?_
 refine HPlan.fin ?_
 refine onNorm_n ?_
 refine HWp.cond rfl ?_ ?_
 ·
  intro hc16
  first
  | exact PrN hc16
  | ((try simp only [Pr] at hc16); exfalso; omega)
  | (try simp only [Pr] at hc16)
    refine HWp.seq ?_
    refine HWp.text (.rd 0 .done) rfl ?_
    refine HPlan.assign rfl rfl rfl ?_
    refine HPlan.fin ?_
    refine onNorm_n ?_
    refine HWp.ret ?_
    refine onExitH_r ?_
    refine onNorm_r ?_
    refine retQ_r (.tmp rfl .nil) ?_
    first
    | exact endK_of ⟨rfl, rfl, rfl⟩ (by repeat (first | exact Part.refl _ | refine Part.pull (by repeat (first | exact Pull.here | apply Pull.there)) ?_ | refine Part.skip _ ?_ | exact Part.nil _ | exact Part.app _ _ | exact Part.appL _ _ | refine Part.appR _ ?_)) (by repeat (first | exact Part.refl _ | refine Part.pull (by repeat (first | exact Pull.here | apply Pull.there)) ?_ | refine Part.skip _ ?_ | exact Part.nil _ | exact Part.app _ _ | exact Part.appL _ _ | refine Part.appR _ ?_))
    | (refine endK_of ⟨?_, rfl, rfl⟩ (by repeat (first | exact Part.refl _ | refine Part.pull (by repeat (first | exact Pull.here | apply Pull.there)) ?_ | refine Part.skip _ ?_ | exact Part.nil _ | exact Part.app _ _ | exact Part.appL _ _ | refine Part.appR _ ?_)) (by repeat (first | exact Part.refl _ | refine Part.pull (by repeat (first | exact Pull.here | apply Pull.there)) ?_ | refine Part.skip _ ?_ | exact Part.nil _ | exact Part.app _ _ | exact Part.appL _ _ | refine Part.appR _ ?_)); subst hc16; rfl)
    | (refine endK_of ⟨?_, rfl, rfl⟩ (by repeat (first | exact Part.refl _ | refine Part.pull (by repeat (first | exact Pull.here | apply Pull.there)) ?_ | refine Part.skip _ ?_ | exact Part.nil _ | exact Part.app _ _ | exact Part.appL _ _ | refine Part.appR _ ?_)) (by repeat (first | exact Part.refl _ | refine Part.pull (by repeat (first | exact Pull.here | apply Pull.there)) ?_ | refine Part.skip _ ?_ | exact Part.nil _ | exact Part.app _ _ | exact Part.appL _ _ | refine Part.appR _ ?_)); rw [← hc16]; rfl)
 ·
  intro hc16
  first
  | exact PrN hc16
  | ((try simp only [Pr] at hc16); exfalso; omega)
  | (try simp only [Pr] at hc16)
    refine HWp.seq ?_
    refine HWp.text (.rd 0 (.rd 1 (.rd 2 .done))) rfl ?_
    refine HPlan.move rfl rfl rfl ?_
    refine HPlan.intBin rfl rfl rfl rfl rfl (rfl : _ = LV.bool true) ?_
    refine HPlan.assign rfl rfl rfl ?_
    refine HPlan.fin ?_
    refine onNorm_n ?_
    refine HWp.cond_t rfl ?_
    refine HWp.seq ?_
    refine HWp.text (.rd 0 (.rd 1 (.rd 2 (.act 3 [] (.rd 4 .done))))) rfl ?_
    refine HPlan.move rfl rfl rfl ?_
    refine HPlan.move rfl rfl rfl ?_
    refine HPlan.indexStr rfl rfl rfl rfl q_st_9 (by decide) (by decide) (rfl : _ = LV.int .u8 47) ?_
    refine HPlan.callPure rfl rfl rfl q_en_98 (idx1_spec _ _) keptH_nil ?_
    refine HPlan.assign rfl rfl rfl ?_
    refine HPlan.fin ?_
    refine onNorm_n ?_
    refine HWp.ret ?_
    refine onExitH_r ?_
    refine onNorm_r ?_
    refine retQ_r (.tmp rfl .nil) ?_
    first
    | exact endK_of ⟨rfl, rfl, rfl⟩ (by repeat (first | exact Part.refl _ | refine Part.pull (by repeat (first | exact Pull.here | apply Pull.there)) ?_ | refine Part.skip _ ?_ | exact Part.nil _ | exact Part.app _ _ | exact Part.appL _ _ | refine Part.appR _ ?_)) (by repeat (first | exact Part.refl _ | refine Part.pull (by repeat (first | exact Pull.here | apply Pull.there)) ?_ | refine Part.skip _ ?_ | exact Part.nil _ | exact Part.app _ _ | exact Part.appL _ _ | refine Part.appR _ ?_))
    | (refine endK_of ⟨?_, rfl, rfl⟩ (by repeat (first | exact Part.refl _ | refine Part.pull (by repeat (first | exact Pull.here | apply Pull.there)) ?_ | refine Part.skip _ ?_ | exact Part.nil _ | exact Part.app _ _ | exact Part.appL _ _ | refine Part.appR _ ?_)) (by repeat (first | exact Part.refl _ | refine Part.pull (by repeat (first | exact Pull.here | apply Pull.there)) ?_ | refine Part.skip _ ?_ | exact Part.nil _ | exact Part.app _ _ | exact Part.appL _ _ | refine Part.appR _ ?_)); subst hc16; rfl)
    | (refine endK_of ⟨?_, rfl, rfl⟩ (by repeat (first | exact Part.refl _ | refine Part.pull (by repeat (first | exact Pull.here | apply Pull.there)) ?_ | refine Part.skip _ ?_ | exact Part.nil _ | exact Part.app _ _ | exact Part.appL _ _ | refine Part.appR _ ?_)) (by repeat (first | exact Part.refl _ | refine Part.pull (by repeat (first | exact Pull.here | apply Pull.there)) ?_ | refine Part.skip _ ?_ | exact Part.nil _ | exact Part.app _ _ | exact Part.appL _ _ | refine Part.appR _ ?_)); rw [← hc16]; rfl)
theorem index_spec (s : ByteArray) : HPure Tryd.prog 94 [.str s, .str ⟨#[47]⟩] (.int .i64 (Lib.indexByte s.data.toList 47)) := by
 intro L T
 refine HCalls.enterG q_f_94 rfl ?_
 refine HWp.frame (r' := ⟨8, [(0, .str s), (1, .str ⟨#[47]⟩)]⟩) rfl ?_
 refine HWp.seq ?_
 refine HWp.text (.rd 0 .done) rfl ?_
 refine HPlan.assign rfl rfl rfl ?_
 refine HPlan.fin ?_
 refine onNorm_n ?_
 refine HWp.seq ?_
 refine HWp.text (.rd 0 (.rd 1 (.act 2 [] (.rd 3 .done)))) rfl ?_
 refine HPlan.move rfl rfl rfl ?_
 refine HPlan.move rfl rfl rfl ?_
 refine HPlan.callPure rfl rfl rfl q_en_95 (idx_spec s) keptH_nil ?_
 refine HPlan.assign rfl rfl rfl ?_
 refine HPlan.fin ?_
 refine onNorm_n ?_
 refine HWp.ret ?_
 refine retQ_r (.tmp rfl .nil) ?_
 exact endK_of ⟨rfl, rfl, rfl⟩ (by repeat (first | exact Part.refl _ | refine Part.pull (by repeat (first | exact Pull.here | apply Pull.there)) ?_ | refine Part.skip _ ?_ | exact Part.nil _ | exact Part.app _ _ | exact Part.appL _ _ | refine Part.appR _ ?_)) (by repeat (first | exact Part.refl _ | refine Part.pull (by repeat (first | exact Pull.here | apply Pull.there)) ?_ | refine Part.skip _ ?_ | exact Part.nil _ | exact Part.app _ _ | exact Part.appL _ _ | refine Part.appR _ ?_))
theorem index_list (p : List UInt8) : HPure Tryd.prog 94 [.str ⟨p.toArray⟩, .str ⟨#[47]⟩] (.int .i64 (Lib.indexByte p 47)) := index_spec ⟨p.toArray⟩
theorem splitseq_spec (s : ByteArray) (F : Hp) (T : Tk) : HCalls Tryd.prog 137 [.str s, .str ⟨#[47]⟩, .int .i64 0] F T (fun r L' T' => ∃ a b c, r = .fn (.func 145) [] [.ref b 0, .ref a 0, .ref c 0] ∧ L' = [(a, .cells 9 [.str s] 0), (b, .cells 9 [.str ⟨#[47]⟩] 0), (c, .cells 3 [.int .i64 0] 0)] ++ F ∧ T' = T) := by
 refine HCalls.enterG q_f_137 rfl ?_
 refine HWp.frame (r' := ⟨8, [(0, .str s), (1, .str ⟨#[47]⟩), (2, .int .i64 0)]⟩) rfl ?_
 refine HWp.seq ?_
 refine HWp.text (.act 0 [] (.act 1 [] (.act 2 [] (.rd 3 .done)))) rfl ?_
 refine HPlan.box rfl rfl rfl (by first | rfl | (simp; done)) (fun i3 => ⟨keptH_nil, ?_⟩)
 refine HPlan.box rfl rfl rfl (by first | rfl | (simp; done)) (fun i4 => ⟨keptH_nil, ?_⟩)
 refine HPlan.box rfl rfl rfl (by first | rfl | (simp; done)) (fun i5 => ⟨keptH_nil, ?_⟩)
 refine HPlan.assign rfl rfl rfl ?_
 refine HPlan.fin ?_
 refine onNorm_n ?_
 refine HWp.seq ?_
 refine HWp.text (.rd 0 (.rd 1 .done)) rfl ?_
 refine HPlan.makeFunc rfl rfl rfl rfl ?_
 refine HPlan.assign rfl rfl rfl ?_
 refine HPlan.fin ?_
 refine onNorm_n ?_
 refine HWp.ret ?_
 refine retQ_r (.tmp rfl .nil) ?_
 exact endK_of ⟨i3, i4, i5, rfl, rfl, rfl⟩ (by repeat (first | exact Part.refl _ | refine Part.pull (by repeat (first | exact Pull.here | apply Pull.there)) ?_ | refine Part.skip _ ?_ | exact Part.nil _ | exact Part.app _ _ | exact Part.appL _ _ | refine Part.appR _ ?_)) (by repeat (first | exact Part.refl _ | refine Part.pull (by repeat (first | exact Pull.here | apply Pull.there)) ?_ | refine Part.skip _ ?_ | exact Part.nil _ | exact Part.app _ _ | exact Part.appL _ _ | refine Part.appR _ ?_))
theorem split_spec (s : ByteArray) (F : Hp) (T : Tk) : HCalls Tryd.prog 116 [.str s, .str ⟨#[47]⟩] F T (fun r L' T' => ∃ a b c, r = .fn (.func 145) [] [.ref b 0, .ref a 0, .ref c 0] ∧ L' = [(a, .cells 9 [.str s] 0), (b, .cells 9 [.str ⟨#[47]⟩] 0), (c, .cells 3 [.int .i64 0] 0)] ++ F ∧ T' = T) := by
 refine HCalls.enterG q_f_116 rfl ?_
 refine HWp.frame (r' := ⟨8, [(0, .str s), (1, .str ⟨#[47]⟩)]⟩) rfl ?_
 refine HWp.seq ?_
 refine HWp.text (.rd 0 .done) rfl ?_
 refine HPlan.assign rfl rfl rfl ?_
 refine HPlan.fin ?_
 refine onNorm_n ?_
 refine HWp.seq ?_
 refine HWp.text (.rd 0 (.rd 1 (.act 2 [] (.rd 3 .done)))) rfl ?_
 refine HPlan.move rfl rfl rfl ?_
 refine HPlan.move rfl rfl rfl ?_
 refine HPlan.callS rfl rfl rfl q_en_137 (splitseq_spec s F T) (List.Perm.refl _) (List.Perm.refl _) ?_
 rintro r_R1_2 L_R1_2 T1 ⟨a, b, c, rfl, rfl, rfl⟩
 refine ⟨keptH_nil, ?_⟩
 refine HPlan.assign rfl rfl rfl ?_
 refine HPlan.fin ?_
 refine onNorm_n ?_
 refine HWp.ret ?_
 refine retQ_r (.tmp rfl .nil) ?_
 exact endK_of ⟨a, b, c, rfl, rfl, rfl⟩ (by repeat (first | exact Part.refl _ | refine Part.pull (by repeat (first | exact Pull.here | apply Pull.there)) ?_ | refine Part.skip _ ?_ | exact Part.nil _ | exact Part.app _ _ | exact Part.appL _ _ | refine Part.appR _ ?_)) (by repeat (first | exact Part.refl _ | refine Part.pull (by repeat (first | exact Pull.here | apply Pull.there)) ?_ | refine Part.skip _ ?_ | exact Part.nil _ | exact Part.app _ _ | exact Part.appL _ _ | refine Part.appR _ ?_))
end Go.Proofs.YthfoobfgdakbmaaDoor

set_option linter.unusedVariables false
set_option linter.unusedSimpArgs false
set_option maxRecDepth 100000
namespace Go.Proofs.YthfoobfgdakbmaaDoor
open Go Go.RowKit Go.L
theorem q_en_94 : enterable Tryd.prog 94 = true := by kernel_rfl
theorem q_sh_3 : shapeOf Tryd.prog 3 = some (false, 1) := by kernel_rfl
theorem q_f_145 : Tryd.prog.funcs[145]? = some Tryd.f145 := by kernel_rfl

def SplitP (s : ByteArray) (pre : List (List LV)) (x : List LV) : Prop := ∃ h : pre.length < (pieces s.data.toList).length, x = [pieceV ((pieces s.data.toList)[pre.length])]
def SplitS (s : ByteArray) (xs : List (List LV)) : Prop := xs = (pieces s.data.toList).map fun p => [pieceV p]
theorem rest_join {l : List (List UInt8)} {k : Nat} (h : k + 1 < l.length) : joinP (l.drop k) = l[k] ++ 47 :: joinP (l.drop (k + 1)) := by
  rw [List.drop_eq_getElem_cons (by omega), joinP_cons (fun e => by have := congrArg List.length e; rw [List.length_drop] at this; simp only [List.length_nil] at this; omega)]
theorem rest_last {l : List (List UInt8)} {k : Nat} (h : k + 1 = l.length) : joinP (l.drop k) = l[k]'(by omega) := by
  rw [List.drop_eq_getElem_cons (by omega), List.drop_of_length_le (by omega)]; rfl
theorem idx_rest {s : ByteArray} {k : Nat} (h : k + 1 < (pieces s.data.toList).length) : Lib.indexByte (joinP ((pieces s.data.toList).drop k)) 47 = (((pieces s.data.toList)[k]).length : Nat) := by
  rw [rest_join h, idx_cut (pieces_no _ _ (List.getElem_mem _))]
theorem idx_last {s : ByteArray} {k : Nat} (h : k + 1 = (pieces s.data.toList).length) : Lib.indexByte (joinP ((pieces s.data.toList).drop k)) 47 = -1 := by
  rw [rest_last h, idx_free (pieces_no _ _ (List.getElem_mem _))]
theorem ba_take {p r : List UInt8} : (⟨(p ++ r).toArray⟩ : ByteArray).extract 0 p.length = ⟨p.toArray⟩ := by
  apply ByteArray.ext
  rw [ByteArray.data_extract]
  apply Array.ext'
  simp
theorem ba_drop {p r : List UInt8} {c : UInt8} : (⟨(p ++ c :: r).toArray⟩ : ByteArray).extract (p.length + 1) (⟨(p ++ c :: r).toArray⟩ : ByteArray).size = ⟨r.toArray⟩ := by
  rw [ba_len]
  apply ByteArray.ext
  rw [ByteArray.data_extract]
  apply Array.ext'
  simp
  exact List.take_of_length_le (by omega)

theorem add_none {n : Nat} (h : n < 4611686018427387904) : intBin .add .i64 (n : Int) 0 = .int .i64 (n : Int) := by
  rw [add_i64 (by omega) (by omega), Int.add_zero]
theorem split_at {s : ByteArray} {k : Nat} (h : k < (pieces s.data.toList).length) : SplitP s (((pieces s.data.toList).take k).map fun p => [pieceV p]) [pieceV ((pieces s.data.toList)[k])] := by
  have hl : (((pieces s.data.toList).take k).map fun p => [pieceV p]).length = k := by rw [List.length_map, List.length_take]; omega
  exact ⟨by omega, by simp only [hl]⟩
theorem split_take {s : ByteArray} {k : Nat} (h : k < (pieces s.data.toList).length) : ((pieces s.data.toList).take (k + 1)).map (fun p => [pieceV p]) = ((pieces s.data.toList).take k).map (fun p => [pieceV p]) ++ [[pieceV ((pieces s.data.toList)[k])]] := by
  rw [List.take_add_one, List.getElem?_eq_getElem h, List.map_append]; rfl
theorem split_next (a b c l : Nat) (s : ByteArray) (hs : s.size < 1073741824) (J : List (List LV) → Hp → Tk → Prop) (E : Hp → Tk → Prop) (hY : ∀ pre x L T F FT, SplitP s pre x → J pre L T → HYield Tryd.prog l x (F ++ ([] ++ L)) (FT ++ ([] ++ T)) (YieldQ (F ++ []) (FT ++ []) (J (pre ++ [x])) E)) (L : Hp) (T : Tk) (hJ : J [] L T) : HCalls Tryd.prog 145 [.fn (.yield l) [] [], .ref b 0, .ref a 0, .ref c 0] ((a, .cells 9 [.str s] 0) :: (b, .cells 9 [.str ⟨#[47]⟩] 0) :: (c, .cells 3 [.int .i64 0] 0) :: L) T (fun r L' T' => ∃ L1 T1, Part ([] ++ L1) L' ∧ Part ([] ++ T1) T' ∧ ((∃ xs, SplitS s xs ∧ J xs L1 T1) ∨ E L1 T1)) := by
 refine HCalls.enterG q_f_145 rfl ?_
 refine HWp.frame (r' := ⟨52, [(0, .fn (.yield l) [] []), (1, .ref b 0), (2, .ref a 0), (3, .ref c 0)]⟩) rfl ?_
 refine HWp.seq ?_
 refine HWp.seq ?_
 refine HWp.text (.rd 0 (.rd 1 (.rd 2 .done))) rfl ?_
 first
 | refine HPlan.loadI rfl rfl rfl q_sh_9 (by constructor <;> first | rfl | decide | omega | exact Nat.le_refl _ | (simp [digC_len, dgV, LV.cells, readDC_len, readDV, madeDC_len, madeDV, traceDC_len, traceDV]; done) | (simp [digC_len, dgV, LV.cells, readDC_len, readDV, madeDC_len, madeDV, traceDC_len, traceDV]; omega)) (by first | exact (readD_path _) | exact (madeD_path _) | exact (piece_load _) | rfl) ?_
 | refine HPlan.load rfl rfl rfl q_sh_9 (by repeat (first | exact List.Mem.head _ | apply List.Mem.tail | assumption)) (by constructor <;> first | rfl | decide | omega | exact Nat.le_refl _ | (simp [digC_len, dgV, LV.cells, readDC_len, readDV, madeDC_len, madeDV, traceDC_len, traceDV]; done) | (simp [digC_len, dgV, LV.cells, readDC_len, readDV, madeDC_len, madeDV, traceDC_len, traceDV]; omega)) (by first | exact (readD_path _) | exact (madeD_path _) | exact (piece_load _) | rfl) ?_
 refine HPlan.lenStr rfl rfl rfl q_tk_9 (rfl : _ = LV.int .i64 1) ?_
 refine HPlan.intBin rfl rfl rfl rfl rfl (rfl : _ = LV.bool false) ?_
 refine HPlan.fin ?_
 refine onNorm_n ?_
 refine HWp.cond_f rfl ?_
 refine HWp.skip ?_
 refine onNorm_n ?_
 refine HWp.seq ?_
 refine HWp.block ?_
 refine HWp.loopF (α := Nat × Nat × Hp × Tk) (fun q => (pieces s.data.toList).length - q.1) (fun q => q.1 < (pieces s.data.toList).length ∧ J (((pieces s.data.toList).take q.1).map fun p => [pieceV p]) q.2.2.1 q.2.2.2) (fun q => ⟨52, [(0, .fn (.yield l) [] []), (1, .ref b 0), (2, .ref a 0), (3, .ref c 0)]⟩) (fun q => (a, .cells 9 [.str ⟨(joinP ((pieces s.data.toList).drop q.1)).toArray⟩] q.2.1) :: (b, .cells 9 [.str ⟨#[47]⟩] 0) :: (c, .cells 3 [.int .i64 0] 0) :: q.2.2.1) (fun q => q.2.2.2) ?_ ?_
 ·
  have hs0 : s = ⟨(joinP ((pieces s.data.toList).drop 0)).toArray⟩ := by rw [List.drop_zero, join_pieces]
  have hp0 := pieces_pos s.data.toList
  rw [show LV.str s = LV.str ⟨(joinP ((pieces s.data.toList).drop 0)).toArray⟩ from congrArg LV.str hs0]
  refine ⟨(0, 0, L, T), ⟨hp0, by simpa using hJ⟩, (LessE.less (by repeat (first | exact LessE.nil | refine LessE.same rfl ?_ | refine LessE.own rfl ?_ | refine LessE.eq rfl ?_ (by first | rfl | (congr 1; omega) | simp))) rfl), (by repeat (first | exact Part.refl _ | refine Part.pull (by repeat (first | exact Pull.here | apply Pull.there)) ?_ | refine Part.skip _ ?_ | exact Part.nil _ | exact Part.app _ _ | exact Part.appL _ _ | refine Part.appR _ ?_)), (by repeat (first | exact Part.refl _ | refine Part.pull (by repeat (first | exact Pull.here | apply Pull.there)) ?_ | refine Part.skip _ ?_ | exact Part.nil _ | exact Part.app _ _ | exact Part.appL _ _ | refine Part.appR _ ?_))⟩
 ·
  rintro q ⟨hk1, hJq⟩
  obtain ⟨k, ver, Lx, Tx⟩ := q
  simp only at hk1 hJq ⊢
  refine HWp.block ?_
  refine HWp.seq ?_
  refine HWp.text (.rd 0 (.rd 1 (.act 2 [] (.rd 3 .done)))) rfl ?_
  first
  | refine HPlan.loadI rfl rfl rfl q_sh_9 (by constructor <;> first | rfl | decide | omega | exact Nat.le_refl _ | (simp [digC_len, dgV, LV.cells, readDC_len, readDV, madeDC_len, madeDV, traceDC_len, traceDV]; done) | (simp [digC_len, dgV, LV.cells, readDC_len, readDV, madeDC_len, madeDV, traceDC_len, traceDV]; omega)) (by first | exact (readD_path _) | exact (madeD_path _) | exact (piece_load _) | rfl) ?_
  | refine HPlan.load rfl rfl rfl q_sh_9 (by repeat (first | exact List.Mem.head _ | apply List.Mem.tail | assumption)) (by constructor <;> first | rfl | decide | omega | exact Nat.le_refl _ | (simp [digC_len, dgV, LV.cells, readDC_len, readDV, madeDC_len, madeDV, traceDC_len, traceDV]; done) | (simp [digC_len, dgV, LV.cells, readDC_len, readDV, madeDC_len, madeDV, traceDC_len, traceDV]; omega)) (by first | exact (readD_path _) | exact (madeD_path _) | exact (piece_load _) | rfl) ?_
  first
  | refine HPlan.loadI rfl rfl rfl q_sh_9 (by constructor <;> first | rfl | decide | omega | exact Nat.le_refl _ | (simp [digC_len, dgV, LV.cells, readDC_len, readDV, madeDC_len, madeDV, traceDC_len, traceDV]; done) | (simp [digC_len, dgV, LV.cells, readDC_len, readDV, madeDC_len, madeDV, traceDC_len, traceDV]; omega)) (by first | exact (readD_path _) | exact (madeD_path _) | exact (piece_load _) | rfl) ?_
  | refine HPlan.load rfl rfl rfl q_sh_9 (by repeat (first | exact List.Mem.head _ | apply List.Mem.tail | assumption)) (by constructor <;> first | rfl | decide | omega | exact Nat.le_refl _ | (simp [digC_len, dgV, LV.cells, readDC_len, readDV, madeDC_len, madeDV, traceDC_len, traceDV]; done) | (simp [digC_len, dgV, LV.cells, readDC_len, readDV, madeDC_len, madeDV, traceDC_len, traceDV]; omega)) (by first | exact (readD_path _) | exact (madeD_path _) | exact (piece_load _) | rfl) ?_
  refine HPlan.callPure rfl rfl rfl q_en_94 (index_list _) keptH_nil ?_
  refine HPlan.assign rfl rfl rfl ?_
  refine HPlan.fin ?_
  refine onNorm_n ?_
  refine HWp.seq ?_
  refine HWp.seq ?_
  refine HWp.text (.rd 0 (.rd 1 .done)) rfl ?_
  refine HPlan.move rfl rfl rfl ?_
  refine HPlan.intBin rfl rfl rfl rfl rfl rfl ?_
  refine HPlan.fin ?_
  refine onNorm_n ?_
  refine HWp.cond rfl ?_ ?_
  ·
   intro hc33
   first
   | exact PrN hc33
   | ((try simp only [Pr] at hc33); exfalso; omega)
   | (try simp only [Pr] at hc33)
     have hk2 : k + 1 = (pieces s.data.toList).length := by
       apply Classical.byContradiction
       intro hne
       rw [idx_rest (by omega)] at hc33; omega
     rw [rest_last hk2]
     refine HWp.exit ?_
     refine onNorm_e ?_
     refine onExitH_miss rfl ?_
     refine onNorm_e ?_
     refine onExitH_hit ?_
     refine onNorm_n ?_
     refine HWp.text (.rd 0 (.rd 1 (.act 2 [] .done))) rfl ?_
     refine HPlan.move rfl rfl rfl ?_
     first
     | refine HPlan.loadI rfl rfl rfl q_sh_9 (by constructor <;> first | rfl | decide | omega | exact Nat.le_refl _ | (simp [digC_len, dgV, LV.cells, readDC_len, readDV, madeDC_len, madeDV, traceDC_len, traceDV]; done) | (simp [digC_len, dgV, LV.cells, readDC_len, readDV, madeDC_len, madeDV, traceDC_len, traceDV]; omega)) (by first | exact (readD_path _) | exact (madeD_path _) | exact (piece_load _) | rfl) ?_
     | refine HPlan.load rfl rfl rfl q_sh_9 (by repeat (first | exact List.Mem.head _ | apply List.Mem.tail | assumption)) (by constructor <;> first | rfl | decide | omega | exact Nat.le_refl _ | (simp [digC_len, dgV, LV.cells, readDC_len, readDV, madeDC_len, madeDV, traceDC_len, traceDV]; done) | (simp [digC_len, dgV, LV.cells, readDC_len, readDV, madeDC_len, madeDV, traceDC_len, traceDV]; omega)) (by first | exact (readD_path _) | exact (madeD_path _) | exact (piece_load _) | rfl) ?_
     refine HPlan.callYU rfl rfl rfl rfl (hY (((pieces s.data.toList).take k).map fun p => [pieceV p]) [pieceV ((pieces s.data.toList)[k])] Lx Tx [_, _, _] [] (split_at (by omega)) hJq) (by repeat (first | exact Part.refl _ | refine Part.pull (by repeat (first | exact Pull.here | apply Pull.there)) ?_ | refine Part.skip _ ?_ | exact Part.nil _ | exact Part.app _ _ | exact Part.appL _ _ | refine Part.appR _ ?_)) (by repeat (first | exact Part.refl _ | refine Part.pull (by repeat (first | exact Pull.here | apply Pull.there)) ?_ | refine Part.skip _ ?_ | exact Part.nil _ | exact Part.app _ _ | exact Part.appL _ _ | refine Part.appR _ ?_)) ?_
     rintro r_R10_2 L_R10_2 T_R10_2 ⟨bb, L1, T1, rfl, p1, p2, hJ2, hE2⟩
     refine ⟨_, _, p1, p2, keptH_nil, ?_⟩
     refine HPlan.fin ?_
     refine retQ_n .nil ?_
     first
     | exact endK_of ⟨L1, T1, (by repeat (first | exact Part.refl _ | refine Part.pull (by repeat (first | exact Pull.here | apply Pull.there)) ?_ | refine Part.skip _ ?_ | exact Part.nil _ | exact Part.app _ _ | exact Part.appL _ _ | refine Part.appR _ ?_)), (by repeat (first | exact Part.refl _ | refine Part.pull (by repeat (first | exact Pull.here | apply Pull.there)) ?_ | refine Part.skip _ ?_ | exact Part.nil _ | exact Part.app _ _ | exact Part.appL _ _ | refine Part.appR _ ?_)), .inr (hE2 (by simpa using hc42))⟩ (by repeat (first | exact Part.refl _ | refine Part.pull (by repeat (first | exact Pull.here | apply Pull.there)) ?_ | refine Part.skip _ ?_ | exact Part.nil _ | exact Part.app _ _ | exact Part.appL _ _ | refine Part.appR _ ?_)) (by repeat (first | exact Part.refl _ | refine Part.pull (by repeat (first | exact Pull.here | apply Pull.there)) ?_ | refine Part.skip _ ?_ | exact Part.nil _ | exact Part.app _ _ | exact Part.appL _ _ | refine Part.appR _ ?_))
     | (cases bb; exact endK_of ⟨L1, T1, (by repeat (first | exact Part.refl _ | refine Part.pull (by repeat (first | exact Pull.here | apply Pull.there)) ?_ | refine Part.skip _ ?_ | exact Part.nil _ | exact Part.app _ _ | exact Part.appL _ _ | refine Part.appR _ ?_)), (by repeat (first | exact Part.refl _ | refine Part.pull (by repeat (first | exact Pull.here | apply Pull.there)) ?_ | refine Part.skip _ ?_ | exact Part.nil _ | exact Part.app _ _ | exact Part.appL _ _ | refine Part.appR _ ?_)), .inr (hE2 rfl)⟩ (by repeat (first | exact Part.refl _ | refine Part.pull (by repeat (first | exact Pull.here | apply Pull.there)) ?_ | refine Part.skip _ ?_ | exact Part.nil _ | exact Part.app _ _ | exact Part.appL _ _ | refine Part.appR _ ?_)) (by repeat (first | exact Part.refl _ | refine Part.pull (by repeat (first | exact Pull.here | apply Pull.there)) ?_ | refine Part.skip _ ?_ | exact Part.nil _ | exact Part.app _ _ | exact Part.appL _ _ | refine Part.appR _ ?_)); exact endK_of ⟨L1, T1, (by repeat (first | exact Part.refl _ | refine Part.pull (by repeat (first | exact Pull.here | apply Pull.there)) ?_ | refine Part.skip _ ?_ | exact Part.nil _ | exact Part.app _ _ | exact Part.appL _ _ | refine Part.appR _ ?_)), (by repeat (first | exact Part.refl _ | refine Part.pull (by repeat (first | exact Pull.here | apply Pull.there)) ?_ | refine Part.skip _ ?_ | exact Part.nil _ | exact Part.app _ _ | exact Part.appL _ _ | refine Part.appR _ ?_)), .inl ⟨_, rfl, (by rw [← List.take_of_length_le (l := pieces s.data.toList) (i := k + 1) (by omega), split_take (by omega)]; exact hJ2 rfl)⟩⟩ (by repeat (first | exact Part.refl _ | refine Part.pull (by repeat (first | exact Pull.here | apply Pull.there)) ?_ | refine Part.skip _ ?_ | exact Part.nil _ | exact Part.app _ _ | exact Part.appL _ _ | refine Part.appR _ ?_)) (by repeat (first | exact Part.refl _ | refine Part.pull (by repeat (first | exact Pull.here | apply Pull.there)) ?_ | refine Part.skip _ ?_ | exact Part.nil _ | exact Part.app _ _ | exact Part.appL _ _ | refine Part.appR _ ?_)))
  ·
   intro hc33
   first
   | exact PrN hc33
   | ((try simp only [Pr] at hc33); exfalso; omega)
   | (try simp only [Pr] at hc33)
     have hk2 : k + 1 < (pieces s.data.toList).length := by
       apply Classical.byContradiction
       intro hne
       rw [idx_last (by omega)] at hc33; omega
     rw [idx_rest hk2, rest_join hk2]
     have hps := piece_size hk1
     refine HWp.skip ?_
     refine onNorm_n ?_
     refine HWp.seq ?_
     refine HWp.text (.rd 0 (.rd 1 (.rd 2 (.rd 3 (.rd 4 (.rd 5 .done)))))) rfl ?_
     first
     | refine HPlan.loadI rfl rfl rfl q_sh_9 (by constructor <;> first | rfl | decide | omega | exact Nat.le_refl _ | (simp [digC_len, dgV, LV.cells, readDC_len, readDV, madeDC_len, madeDV, traceDC_len, traceDV]; done) | (simp [digC_len, dgV, LV.cells, readDC_len, readDV, madeDC_len, madeDV, traceDC_len, traceDV]; omega)) (by first | exact (readD_path _) | exact (madeD_path _) | exact (piece_load _) | rfl) ?_
     | refine HPlan.load rfl rfl rfl q_sh_9 (by repeat (first | exact List.Mem.head _ | apply List.Mem.tail | assumption)) (by constructor <;> first | rfl | decide | omega | exact Nat.le_refl _ | (simp [digC_len, dgV, LV.cells, readDC_len, readDV, madeDC_len, madeDV, traceDC_len, traceDV]; done) | (simp [digC_len, dgV, LV.cells, readDC_len, readDV, madeDC_len, madeDV, traceDC_len, traceDV]; omega)) (by first | exact (readD_path _) | exact (madeD_path _) | exact (piece_load _) | rfl) ?_
     refine HPlan.move rfl rfl rfl ?_
     first
     | refine HPlan.loadI rfl rfl rfl q_sh_3 (by constructor <;> first | rfl | decide | omega | exact Nat.le_refl _ | (simp [digC_len, dgV, LV.cells, readDC_len, readDV, madeDC_len, madeDV, traceDC_len, traceDV]; done) | (simp [digC_len, dgV, LV.cells, readDC_len, readDV, madeDC_len, madeDV, traceDC_len, traceDV]; omega)) (by first | rfl) ?_
     | refine HPlan.load rfl rfl rfl q_sh_3 (by repeat (first | exact List.Mem.head _ | apply List.Mem.tail | assumption)) (by constructor <;> first | rfl | decide | omega | exact Nat.le_refl _ | (simp [digC_len, dgV, LV.cells, readDC_len, readDV, madeDC_len, madeDV, traceDC_len, traceDV]; done) | (simp [digC_len, dgV, LV.cells, readDC_len, readDV, madeDC_len, madeDV, traceDC_len, traceDV]; omega)) (by first | rfl) ?_
     refine HPlan.intBin rfl rfl rfl rfl rfl (add_none (by omega)) ?_
     refine HPlan.subStr rfl rfl rfl rfl rfl q_st_9 (by omega) (by omega) (by rw [ba_len, List.length_append]; omega) (congrArg LV.str ba_take) ?_
     refine HPlan.assign rfl rfl rfl ?_
     refine HPlan.fin ?_
     refine onNorm_n ?_
     refine HWp.seq ?_
     refine HWp.seq ?_
     refine HWp.text (.rd 0 (.rd 1 (.act 2 [] (.rd 3 .done)))) rfl ?_
     refine HPlan.move rfl rfl rfl ?_
     refine HPlan.move rfl rfl rfl ?_
     refine HPlan.callYU rfl rfl rfl rfl (hY (((pieces s.data.toList).take k).map fun p => [pieceV p]) [pieceV ((pieces s.data.toList)[k])] Lx Tx [_, _, _] [] (split_at (by omega)) hJq) (by repeat (first | exact Part.refl _ | refine Part.pull (by repeat (first | exact Pull.here | apply Pull.there)) ?_ | refine Part.skip _ ?_ | exact Part.nil _ | exact Part.app _ _ | exact Part.appL _ _ | refine Part.appR _ ?_)) (by repeat (first | exact Part.refl _ | refine Part.pull (by repeat (first | exact Pull.here | apply Pull.there)) ?_ | refine Part.skip _ ?_ | exact Part.nil _ | exact Part.app _ _ | exact Part.appL _ _ | refine Part.appR _ ?_)) ?_
     rintro r_R8_2 L_R8_2 T_R8_2 ⟨bb, L1, T1, rfl, p1, p2, hJ2, hE2⟩
     refine ⟨_, _, p1, p2, keptH_nil, ?_⟩
     refine HPlan.not rfl rfl rfl rfl ?_
     refine HPlan.fin ?_
     refine onNorm_n ?_
     refine HWp.cond rfl ?_ ?_
     ·
      intro hc42
      first
      | exact PrN hc42
      | ((try simp only [Pr] at hc42); exfalso; omega)
      | (try simp only [Pr] at hc42)
        refine HWp.ret ?_
        refine onNorm_r ?_
        refine onExitH_r ?_
        refine onNorm_r ?_
        refine onExitH_r ?_
        refine onNorm_r ?_
        refine retQ_r .nil ?_
        first
        | exact endK_of ⟨L1, T1, (by repeat (first | exact Part.refl _ | refine Part.pull (by repeat (first | exact Pull.here | apply Pull.there)) ?_ | refine Part.skip _ ?_ | exact Part.nil _ | exact Part.app _ _ | exact Part.appL _ _ | refine Part.appR _ ?_)), (by repeat (first | exact Part.refl _ | refine Part.pull (by repeat (first | exact Pull.here | apply Pull.there)) ?_ | refine Part.skip _ ?_ | exact Part.nil _ | exact Part.app _ _ | exact Part.appL _ _ | refine Part.appR _ ?_)), .inr (hE2 (by simpa using hc42))⟩ (by repeat (first | exact Part.refl _ | refine Part.pull (by repeat (first | exact Pull.here | apply Pull.there)) ?_ | refine Part.skip _ ?_ | exact Part.nil _ | exact Part.app _ _ | exact Part.appL _ _ | refine Part.appR _ ?_)) (by repeat (first | exact Part.refl _ | refine Part.pull (by repeat (first | exact Pull.here | apply Pull.there)) ?_ | refine Part.skip _ ?_ | exact Part.nil _ | exact Part.app _ _ | exact Part.appL _ _ | refine Part.appR _ ?_))
        | (cases bb; exact endK_of ⟨L1, T1, (by repeat (first | exact Part.refl _ | refine Part.pull (by repeat (first | exact Pull.here | apply Pull.there)) ?_ | refine Part.skip _ ?_ | exact Part.nil _ | exact Part.app _ _ | exact Part.appL _ _ | refine Part.appR _ ?_)), (by repeat (first | exact Part.refl _ | refine Part.pull (by repeat (first | exact Pull.here | apply Pull.there)) ?_ | refine Part.skip _ ?_ | exact Part.nil _ | exact Part.app _ _ | exact Part.appL _ _ | refine Part.appR _ ?_)), .inr (hE2 rfl)⟩ (by repeat (first | exact Part.refl _ | refine Part.pull (by repeat (first | exact Pull.here | apply Pull.there)) ?_ | refine Part.skip _ ?_ | exact Part.nil _ | exact Part.app _ _ | exact Part.appL _ _ | refine Part.appR _ ?_)) (by repeat (first | exact Part.refl _ | refine Part.pull (by repeat (first | exact Pull.here | apply Pull.there)) ?_ | refine Part.skip _ ?_ | exact Part.nil _ | exact Part.app _ _ | exact Part.appL _ _ | refine Part.appR _ ?_)); exact endK_of ⟨L1, T1, (by repeat (first | exact Part.refl _ | refine Part.pull (by repeat (first | exact Pull.here | apply Pull.there)) ?_ | refine Part.skip _ ?_ | exact Part.nil _ | exact Part.app _ _ | exact Part.appL _ _ | refine Part.appR _ ?_)), (by repeat (first | exact Part.refl _ | refine Part.pull (by repeat (first | exact Pull.here | apply Pull.there)) ?_ | refine Part.skip _ ?_ | exact Part.nil _ | exact Part.app _ _ | exact Part.appL _ _ | refine Part.appR _ ?_)), .inl ⟨_, rfl, (by rw [← List.take_of_length_le (l := pieces s.data.toList) (i := k + 1) (by omega), split_take (by omega)]; exact hJ2 rfl)⟩⟩ (by repeat (first | exact Part.refl _ | refine Part.pull (by repeat (first | exact Pull.here | apply Pull.there)) ?_ | refine Part.skip _ ?_ | exact Part.nil _ | exact Part.app _ _ | exact Part.appL _ _ | refine Part.appR _ ?_)) (by repeat (first | exact Part.refl _ | refine Part.pull (by repeat (first | exact Pull.here | apply Pull.there)) ?_ | refine Part.skip _ ?_ | exact Part.nil _ | exact Part.app _ _ | exact Part.appL _ _ | refine Part.appR _ ?_)))
     ·
      intro hc42
      first
      | exact PrN hc42
      | ((try simp only [Pr] at hc42); exfalso; omega)
      | (try simp only [Pr] at hc42)
        refine HWp.skip ?_
        refine onNorm_n ?_
        refine HWp.text (.rd 0 (.rd 1 (.rd 2 (.rd 3 (.rd 4 (.rd 5 (.act 6 [] .done))))))) rfl ?_
        first
        | refine HPlan.loadI rfl rfl rfl q_sh_9 (by constructor <;> first | rfl | decide | omega | exact Nat.le_refl _ | (simp [digC_len, dgV, LV.cells, readDC_len, readDV, madeDC_len, madeDV, traceDC_len, traceDV]; done) | (simp [digC_len, dgV, LV.cells, readDC_len, readDV, madeDC_len, madeDV, traceDC_len, traceDV]; omega)) (by first | exact (readD_path _) | exact (madeD_path _) | exact (piece_load _) | rfl) ?_
        | refine HPlan.load rfl rfl rfl q_sh_9 (by repeat (first | exact List.Mem.head _ | apply List.Mem.tail | assumption)) (by constructor <;> first | rfl | decide | omega | exact Nat.le_refl _ | (simp [digC_len, dgV, LV.cells, readDC_len, readDV, madeDC_len, madeDV, traceDC_len, traceDV]; done) | (simp [digC_len, dgV, LV.cells, readDC_len, readDV, madeDC_len, madeDV, traceDC_len, traceDV]; omega)) (by first | exact (readD_path _) | exact (madeD_path _) | exact (piece_load _) | rfl) ?_
        refine HPlan.move rfl rfl rfl ?_
        first
        | refine HPlan.loadI rfl rfl rfl q_sh_9 (by constructor <;> first | rfl | decide | omega | exact Nat.le_refl _ | (simp [digC_len, dgV, LV.cells, readDC_len, readDV, madeDC_len, madeDV, traceDC_len, traceDV]; done) | (simp [digC_len, dgV, LV.cells, readDC_len, readDV, madeDC_len, madeDV, traceDC_len, traceDV]; omega)) (by first | exact (readD_path _) | exact (madeD_path _) | exact (piece_load _) | rfl) ?_
        | refine HPlan.load rfl rfl rfl q_sh_9 (by repeat (first | exact List.Mem.head _ | apply List.Mem.tail | assumption)) (by constructor <;> first | rfl | decide | omega | exact Nat.le_refl _ | (simp [digC_len, dgV, LV.cells, readDC_len, readDV, madeDC_len, madeDV, traceDC_len, traceDV]; done) | (simp [digC_len, dgV, LV.cells, readDC_len, readDV, madeDC_len, madeDV, traceDC_len, traceDV]; omega)) (by first | exact (readD_path _) | exact (madeD_path _) | exact (piece_load _) | rfl) ?_
        refine HPlan.lenStr rfl rfl rfl q_tk_9 (rfl : _ = LV.int .i64 1) ?_
        refine HPlan.intBin rfl rfl rfl rfl rfl (by first | exact add_i64 (by omega) (by omega) | rfl) ?_
        refine HPlan.subStr rfl rfl rfl rfl rfl q_st_9 (by omega) (by rw [ba_len, List.length_append, List.length_cons]; omega) (by omega) (congrArg LV.str ba_drop) ?_
        refine HPlan.store rfl rfl rfl rfl q_sz_9 (by first | rfl | (simp; done)) (by first | rfl | decide | omega | (simp [digC_len, dgV, LV.cells, readDC_len, readDV, madeDC_len, madeDV, traceDC_len, traceDV]; done) | (simp [digC_len, dgV, LV.cells, readDC_len, readDV, madeDC_len, madeDV, traceDC_len, traceDV]; omega)) (by repeat (first | exact List.Mem.head _ | apply List.Mem.tail | assumption)) (by first | rfl) (by repeat (first | exact Upd.here | apply Upd.there)) (by first | rfl | decide | omega | (simp [digC_len, dgV, LV.cells, readDC_len, readDV, madeDC_len, madeDV, traceDC_len, traceDV]; done) | (simp [digC_len, dgV, LV.cells, readDC_len, readDV, madeDC_len, madeDV, traceDC_len, traceDV]; omega)) keptH_nil ?_
        refine HPlan.fin ?_
        refine onExitH_n ?_
        refine onNorm_n ?_
        refine ⟨(k + 1, ver + 1, L1, T1), (by show (pieces s.data.toList).length - (k + 1) < (pieces s.data.toList).length - k; omega), ⟨by show k + 1 < _; omega, by show J (((pieces s.data.toList).take (k + 1)).map fun p => [pieceV p]) L1 T1; rw [split_take (by omega)]; exact hJ2 (by simpa using hc42)⟩, (LessE.less (by repeat (first | exact LessE.nil | refine LessE.same rfl ?_ | refine LessE.own rfl ?_ | refine LessE.eq rfl ?_ (by first | rfl | (congr 1; omega) | simp))) rfl), (by repeat (first | exact Part.refl _ | refine Part.pull (by repeat (first | exact Pull.here | apply Pull.there)) ?_ | refine Part.skip _ ?_ | exact Part.nil _ | exact Part.app _ _ | exact Part.appL _ _ | refine Part.appR _ ?_)), (by repeat (first | exact Part.refl _ | refine Part.pull (by repeat (first | exact Pull.here | apply Pull.there)) ?_ | refine Part.skip _ ?_ | exact Part.nil _ | exact Part.app _ _ | exact Part.appL _ _ | refine Part.appR _ ?_))⟩
end Go.Proofs.YthfoobfgdakbmaaDoor

set_option linter.unusedVariables false
set_option linter.unusedSimpArgs false
set_option maxRecDepth 100000
namespace Go.Proofs.YthfoobfgdakbmaaDoor
open Go Go.RowKit Go.L
theorem q_zo_4 : zeroOf Tryd.prog 4 = some (LV.bool false) := by kernel_rfl
theorem q_zo_3 : zeroOf Tryd.prog 3 = some (LV.int .i64 0) := by kernel_rfl
theorem q_sz_3 : sizeOfT Tryd.prog 3 = some 1 := by kernel_rfl
theorem q_en_116 : enterable Tryd.prog 116 = true := by kernel_rfl
theorem q_en_145 : enterable Tryd.prog 145 = true := by kernel_rfl
theorem q_sz_4 : sizeOfT Tryd.prog 4 = some 1 := by kernel_rfl
theorem q_en_117 : enterable Tryd.prog 117 = true := by kernel_rfl
theorem q_sh_4 : shapeOf Tryd.prog 4 = some (false, 1) := by kernel_rfl
theorem q_f_88 : Tryd.prog.funcs[88]? = some Tryd.f88 := by kernel_rfl

theorem perm_two {α : Type} (a b : α) (A B : List α) : (a :: b :: (A ++ B)).Perm (B ++ (a :: b :: A)) := by
  have : (a :: b :: (A ++ B)) = (a :: b :: A) ++ B := rfl
  rw [this]; exact List.perm_append_comm
theorem split_iter (a b c : Nat) (s : ByteArray) (hs : s.size < 1073741824) : IterP Tryd.prog 145 [] [.ref b 0, .ref a 0, .ref c 0] 1 [(a, .cells 9 [.str s] 0), (b, .cells 9 [.str ⟨#[47]⟩] 0), (c, .cells 3 [.int .i64 0] 0)] [] [] (SplitP s) (SplitS s) :=
  ⟨fun pre x h => by obtain ⟨_, rfl⟩ := h; rfl, fun l J E hY L T hJ => split_next a b c l s hs J E hY L T hJ⟩
def OkTo (s : ByteArray) (n : Nat) : Prop := ∀ i (h : i < (pieces s.data.toList).length), i < n → partF ⟨((pieces s.data.toList)[i]).toArray⟩ = true
theorem OkTo.step {s : ByteArray} {n : Nat} (h : OkTo s n) (hn : n < (pieces s.data.toList).length) (hp : partF ⟨((pieces s.data.toList)[n]).toArray⟩ = true) : OkTo s (n + 1) := fun i hi h1 => by
  by_cases e : i = n
  · subst e; exact hp
  · exact h i hi (by omega)
theorem may_all {s : ByteArray} (h : OkTo s (pieces s.data.toList).length) (h16 : (pieces s.data.toList).length ≤ 16) : mayF s = true := by
  rw [mayF, decide_eq_true_eq]
  refine ⟨fun p hp => ?_, h16⟩
  obtain ⟨i, hi, rfl⟩ := List.mem_iff_getElem.1 hp
  exact h i hi hi
theorem may_long {s : ByteArray} (h : 16 < (pieces s.data.toList).length) : mayF s = false := by
  rw [mayF, decide_eq_false_iff_not]; intro hh; omega
theorem split_len {s : ByteArray} {xs : List (List LV)} (h : SplitS s xs) : xs.length = (pieces s.data.toList).length := by
  rw [h, List.length_map]

theorem may_spec (s : ByteArray) (hs : s.size < 1073741824) : HPure Tryd.prog 88 [.str s] (.bool (mayF s)) := by
 have hpl := pieces_len s.data.toList
 have hsz : s.data.toList.length = s.size := by simp
 intro L0 T
 refine HCalls.enterG q_f_88 rfl ?_
 refine HWp.frame (r' := ⟨17, [(0, .str s)]⟩) rfl ?_
 refine HWp.seq ?_
 refine HWp.text (.act 0 [] .done) rfl ?_
 refine HPlan.alloc rfl rfl q_zo_4 (by first | rfl | (simp; done)) (fun i2 => ⟨keptH_nil, ?_⟩)
 refine HPlan.fin ?_
 refine onNorm_n ?_
 refine HWp.seq ?_
 refine HWp.text (.act 0 [] (.act 1 [] .done)) rfl ?_
 refine HPlan.alloc rfl rfl q_zo_3 (by first | rfl | (simp; done)) (fun i3 => ⟨keptH_nil, ?_⟩)
 refine HPlan.store rfl rfl rfl rfl q_sz_3 (by first | rfl | (simp; done)) (by first | rfl | decide | omega | (simp [digC_len, dgV, LV.cells, readDC_len, readDV, madeDC_len, madeDV, traceDC_len, traceDV]; done) | (simp [digC_len, dgV, LV.cells, readDC_len, readDV, madeDC_len, madeDV, traceDC_len, traceDV]; omega)) (by repeat (first | exact List.Mem.head _ | apply List.Mem.tail | assumption)) (by first | rfl) (by repeat (first | exact Upd.here | apply Upd.there)) (by first | rfl | decide | omega | (simp [digC_len, dgV, LV.cells, readDC_len, readDV, madeDC_len, madeDV, traceDC_len, traceDV]; done) | (simp [digC_len, dgV, LV.cells, readDC_len, readDV, madeDC_len, madeDV, traceDC_len, traceDV]; omega)) keptH_nil ?_
 refine HPlan.fin ?_
 refine onNorm_n ?_
 refine HWp.seq ?_
 refine HWp.seq ?_
 refine HWp.text (.rd 0 (.act 1 [] .done)) rfl ?_
 refine HPlan.move rfl rfl rfl ?_
 refine HPlan.callS rfl rfl rfl q_en_116 (split_spec s _ T) (List.Perm.refl _) (List.Perm.refl _) ?_
 rintro r_R2_1 L_R2_1 T1 ⟨a, b, c, rfl, rfl, rfl⟩
 refine ⟨keptH_nil, ?_⟩
 refine HPlan.fin ?_
 refine onNorm_n ?_
 refine HWp.block ?_
 refine HWp.rangeFuncP (Lp := [(a, .cells 9 [.str s] 0), (b, .cells 9 [.str ⟨#[47]⟩] 0), (c, .cells 3 [.int .i64 0] 0)]) (L0 := []) (T0 := []) (L1 := (i3, .cells 3 [.int .i64 0] 1) :: (i2, .cells 4 [.bool false] 0) :: L0) (T1 := T1) (fun pre Lx Tx => OkTo s pre.length ∧ pre.length ≤ 16 ∧ ∃ v, Lx = (i3, .cells 3 [.int .i64 (pre.length : Int)] v) :: (i2, .cells 4 [.bool false] 0) :: L0 ∧ Tx = T1) (fun e Lx Tx => e = .ret ∧ mayF s = false ∧ ∃ n v w, Lx = (i3, .cells 3 [.int .i64 n] v) :: (i2, .cells 4 [.bool false] w) :: L0 ∧ Tx = T1) (fun pre x r Lx Tx => ∃ h : pre.length < (pieces s.data.toList).length, x = [pieceV ((pieces s.data.toList)[pre.length])] ∧ r = ⟨17, [(2, .ref i2 0), (3, .ref i3 0), (4, pieceV ((pieces s.data.toList)[pre.length]))]⟩ ∧ OkTo s pre.length ∧ pre.length ≤ 16 ∧ ∃ v, Lx = (i3, .cells 3 [.int .i64 (pre.length : Int)] v) :: (i2, .cells 4 [.bool false] 0) :: L0 ∧ Tx = T1) rfl q_en_145 rfl rfl (split_iter a b c s hs) (by repeat (first | exact Part.refl _ | refine Part.pull (by repeat (first | exact Pull.here | apply Pull.there)) ?_ | refine Part.skip _ ?_ | exact Part.nil _ | exact Part.app _ _ | exact Part.appL _ _ | refine Part.appR _ ?_)) (by repeat (first | exact Part.refl _ | refine Part.pull (by repeat (first | exact Pull.here | apply Pull.there)) ?_ | refine Part.skip _ ?_ | exact Part.nil _ | exact Part.app _ _ | exact Part.appL _ _ | refine Part.appR _ ?_)) ⟨fun i _ h => absurd h (Nat.not_lt_zero _), Nat.zero_le _, 1, rfl, rfl⟩ ?_ ?_ ?_ ?_
 ·
  rintro pre x L1 T2 F1 FT ⟨hx, rfl⟩ ⟨hO, h16, v, rfl, rfl⟩
  refine HWp.perm (perm_rot _ _ _) ?_
  rw [List.cons_append, List.cons_append]
  refine HWp.frame (r' := setR (some 7) (pieceV ((pieces s.data.toList)[pre.length])) _) rfl ?_
  refine HWp.text (.rd 0 .done) rfl ?_
  refine HPlan.assign rfl rfl rfl ?_
  refine HPlan.fin ?_
  refine ⟨⟨17, [(2, .ref i2 0), (3, .ref i3 0), (4, pieceV ((pieces s.data.toList)[pre.length]))]⟩, (i3, .cells 3 [.int .i64 (pre.length : Int)] v) :: (i2, .cells 4 [.bool false] 0) :: L0, T2, (LessE.less (by repeat (first | exact LessE.nil | refine LessE.same rfl ?_ | refine LessE.own rfl ?_ | refine LessE.eq rfl ?_ (by first | rfl | (congr 1; omega) | simp))) rfl), (.of_perm (perm_two _ _ _ _)), (.of_perm (.of_eq (by simp))), ⟨hx, rfl, rfl, hO, h16, v, rfl, rfl⟩⟩
 ·
  rintro pre x r La Ta F1 FT ⟨hx, rfl⟩ ⟨_, _, rfl, hO, h16, v, rfl, rfl⟩
  refine HWp.perm (perm_rot _ _ _) ?_
  rw [List.cons_append, List.cons_append]
  refine HWp.block ?_
  refine HWp.seq ?_
  refine HWp.text (.rd 0 (.rd 1 (.act 2 [] .done))) rfl ?_
  first
  | refine HPlan.loadI rfl rfl rfl q_sh_3 (by constructor <;> first | rfl | decide | omega | exact Nat.le_refl _ | (simp [digC_len, dgV, LV.cells, readDC_len, readDV, madeDC_len, madeDV, traceDC_len, traceDV]; done) | (simp [digC_len, dgV, LV.cells, readDC_len, readDV, madeDC_len, madeDV, traceDC_len, traceDV]; omega)) (by first | rfl) ?_
  | refine HPlan.load rfl rfl rfl q_sh_3 (by repeat (first | exact List.Mem.head _ | apply List.Mem.tail | assumption)) (by constructor <;> first | rfl | decide | omega | exact Nat.le_refl _ | (simp [digC_len, dgV, LV.cells, readDC_len, readDV, madeDC_len, madeDV, traceDC_len, traceDV]; done) | (simp [digC_len, dgV, LV.cells, readDC_len, readDV, madeDC_len, madeDV, traceDC_len, traceDV]; omega)) (by first | rfl) ?_
  refine HPlan.intBin rfl rfl rfl rfl rfl (by first | exact add_i64 (by omega) (by omega) | rfl) ?_
  refine HPlan.store rfl rfl rfl rfl q_sz_3 (by first | rfl | (simp; done)) (by first | rfl | decide | omega | (simp [digC_len, dgV, LV.cells, readDC_len, readDV, madeDC_len, madeDV, traceDC_len, traceDV]; done) | (simp [digC_len, dgV, LV.cells, readDC_len, readDV, madeDC_len, madeDV, traceDC_len, traceDV]; omega)) (by repeat (first | exact List.Mem.head _ | apply List.Mem.tail | assumption)) (by first | rfl) (by repeat (first | exact Upd.here | apply Upd.there)) (by first | rfl | decide | omega | (simp [digC_len, dgV, LV.cells, readDC_len, readDV, madeDC_len, madeDV, traceDC_len, traceDV]; done) | (simp [digC_len, dgV, LV.cells, readDC_len, readDV, madeDC_len, madeDV, traceDC_len, traceDV]; omega)) keptH_nil ?_
  refine HPlan.fin ?_
  refine onNorm_n ?_
  refine HWp.seq ?_
  refine HWp.text (.rd 0 (.rd 1 (.rd 2 (.rd 3 (.act 4 [] (.rd 5 (.rd 6 .done))))))) rfl ?_
  first
  | refine HPlan.loadI rfl rfl rfl q_sh_3 (by constructor <;> first | rfl | decide | omega | exact Nat.le_refl _ | (simp [digC_len, dgV, LV.cells, readDC_len, readDV, madeDC_len, madeDV, traceDC_len, traceDV]; done) | (simp [digC_len, dgV, LV.cells, readDC_len, readDV, madeDC_len, madeDV, traceDC_len, traceDV]; omega)) (by first | rfl) ?_
  | refine HPlan.load rfl rfl rfl q_sh_3 (by repeat (first | exact List.Mem.head _ | apply List.Mem.tail | assumption)) (by constructor <;> first | rfl | decide | omega | exact Nat.le_refl _ | (simp [digC_len, dgV, LV.cells, readDC_len, readDV, madeDC_len, madeDV, traceDC_len, traceDV]; done) | (simp [digC_len, dgV, LV.cells, readDC_len, readDV, madeDC_len, madeDV, traceDC_len, traceDV]; omega)) (by first | rfl) ?_
  refine HPlan.intBin rfl rfl rfl rfl rfl rfl ?_
  refine HPlan.move rfl rfl rfl ?_
  refine HPlan.split ?_ ?_
  ·
   intro hb5_2
   first
   | exact PrN hb5_2
   | ((try simp only [Pr] at hb5_2); exfalso; omega)
   | (try simp only [Pr] at hb5_2)
     refine HPlan.leftR rfl rfl ?_
     refine HPlan.leftA rfl rfl ?_
     refine HPlan.leftR rfl rfl ?_
     refine HPlan.pickT rfl rfl rfl rfl ?_
     refine HPlan.fin ?_
     refine onNorm_n ?_
     refine HWp.cond_t rfl ?_
     refine HWp.seq ?_
     refine HWp.text (.act 0 [] .done) rfl ?_
     refine HPlan.store rfl rfl rfl rfl q_sz_4 (by first | rfl | (simp; done)) (by first | rfl | decide | omega | (simp [digC_len, dgV, LV.cells, readDC_len, readDV, madeDC_len, madeDV, traceDC_len, traceDV]; done) | (simp [digC_len, dgV, LV.cells, readDC_len, readDV, madeDC_len, madeDV, traceDC_len, traceDV]; omega)) (by repeat (first | exact List.Mem.head _ | apply List.Mem.tail | assumption)) (by first | rfl) (by repeat (first | exact Upd.here | apply Upd.there)) (by first | rfl | decide | omega | (simp [digC_len, dgV, LV.cells, readDC_len, readDV, madeDC_len, madeDV, traceDC_len, traceDV]; done) | (simp [digC_len, dgV, LV.cells, readDC_len, readDV, madeDC_len, madeDV, traceDC_len, traceDV]; omega)) keptH_nil ?_
     refine HPlan.fin ?_
     refine onNorm_n ?_
     refine HWp.ret ?_
     refine onExitH_r ?_
     refine ⟨(i3, .cells 3 [.int .i64 ((pre.length : Int) + 1)] (v + 1)) :: (i2, .cells 4 [.bool false] 1) :: L0, _, .of_perm (perm_two _ _ _ _), .of_perm (.of_eq (by simp)), ⟨rfl, (by first | exact may_long (by omega) | exact may_no hx (by simpa using hc16)), _, _, _, rfl, rfl⟩⟩
  ·
   intro hb5_2
   first
   | exact PrN hb5_2
   | ((try simp only [Pr] at hb5_2); exfalso; omega)
   | (try simp only [Pr] at hb5_2)
     refine HPlan.move rfl rfl rfl ?_
     refine HPlan.callPure rfl rfl rfl q_en_117 (part_spec _) keptH_nil ?_
     refine HPlan.not rfl rfl rfl rfl ?_
     refine HPlan.pickF rfl rfl rfl rfl ?_
     refine HPlan.fin ?_
     refine onNorm_n ?_
     refine HWp.cond rfl ?_ ?_
     ·
      intro hc16
      first
      | exact PrN hc16
      | ((try simp only [Pr] at hc16); exfalso; omega)
      | (try simp only [Pr] at hc16)
        refine HWp.seq ?_
        refine HWp.text (.act 0 [] .done) rfl ?_
        refine HPlan.store rfl rfl rfl rfl q_sz_4 (by first | rfl | (simp; done)) (by first | rfl | decide | omega | (simp [digC_len, dgV, LV.cells, readDC_len, readDV, madeDC_len, madeDV, traceDC_len, traceDV]; done) | (simp [digC_len, dgV, LV.cells, readDC_len, readDV, madeDC_len, madeDV, traceDC_len, traceDV]; omega)) (by repeat (first | exact List.Mem.head _ | apply List.Mem.tail | assumption)) (by first | rfl) (by repeat (first | exact Upd.here | apply Upd.there)) (by first | rfl | decide | omega | (simp [digC_len, dgV, LV.cells, readDC_len, readDV, madeDC_len, madeDV, traceDC_len, traceDV]; done) | (simp [digC_len, dgV, LV.cells, readDC_len, readDV, madeDC_len, madeDV, traceDC_len, traceDV]; omega)) keptH_nil ?_
        refine HPlan.fin ?_
        refine onNorm_n ?_
        refine HWp.ret ?_
        refine onExitH_r ?_
        refine ⟨(i3, .cells 3 [.int .i64 ((pre.length : Int) + 1)] (v + 1)) :: (i2, .cells 4 [.bool false] 1) :: L0, _, .of_perm (perm_two _ _ _ _), .of_perm (.of_eq (by simp)), ⟨rfl, (by first | exact may_long (by omega) | exact may_no hx (by simpa using hc16)), _, _, _, rfl, rfl⟩⟩
     ·
      intro hc16
      first
      | exact PrN hc16
      | ((try simp only [Pr] at hc16); exfalso; omega)
      | (try simp only [Pr] at hc16)
        refine HWp.skip ?_
        refine onExitH_n ?_
        refine ⟨(i3, .cells 3 [.int .i64 ((pre.length : Int) + 1)] (v + 1)) :: (i2, .cells 4 [.bool false] 0) :: L0, _, .of_perm (perm_two _ _ _ _), .of_perm (.of_eq (by simp)), ⟨by rw [List.length_append]; exact hO.step hx (by simpa using hc16), by rw [List.length_append, List.length_singleton]; omega, v + 1, by rw [List.length_append, List.length_singleton]; rfl, rfl⟩⟩
 ·
  rintro xs L1 T2 hS ⟨hO, h16, v, rfl, rfl⟩
  simp only [List.nil_append]
  refine onExitH_n ?_
  refine onNorm_n ?_
  refine HWp.seq ?_
  refine HWp.text (.act 0 [] .done) rfl ?_
  refine HPlan.store rfl rfl rfl rfl q_sz_4 (by first | rfl | (simp; done)) (by first | rfl | decide | omega | (simp [digC_len, dgV, LV.cells, readDC_len, readDV, madeDC_len, madeDV, traceDC_len, traceDV]; done) | (simp [digC_len, dgV, LV.cells, readDC_len, readDV, madeDC_len, madeDV, traceDC_len, traceDV]; omega)) (by repeat (first | exact List.Mem.head _ | apply List.Mem.tail | assumption)) (by first | rfl) (by repeat (first | exact Upd.here | apply Upd.there)) (by first | rfl | decide | omega | (simp [digC_len, dgV, LV.cells, readDC_len, readDV, madeDC_len, madeDV, traceDC_len, traceDV]; done) | (simp [digC_len, dgV, LV.cells, readDC_len, readDV, madeDC_len, madeDV, traceDC_len, traceDV]; omega)) keptH_nil ?_
  refine HPlan.fin ?_
  refine onNorm_n ?_
  refine HWp.ret ?_
  refine retQ_r (.cell q_sh_4 rfl (by repeat (first | exact List.Mem.head _ | apply List.Mem.tail | assumption)) (by constructor <;> first | rfl | decide | omega | exact Nat.le_refl _ | (simp; done) | (simp; omega)) rfl .nil) ?_
  refine endK_of ⟨?_, rfl, rfl⟩ (by repeat (first | exact Part.refl _ | refine Part.pull (by repeat (first | exact Pull.here | apply Pull.there)) ?_ | refine Part.skip _ ?_ | exact Part.nil _ | exact Part.app _ _ | exact Part.appL _ _ | refine Part.appR _ ?_)) (by repeat (first | exact Part.refl _ | refine Part.pull (by repeat (first | exact Pull.here | apply Pull.there)) ?_ | refine Part.skip _ ?_ | exact Part.nil _ | exact Part.app _ _ | exact Part.appL _ _ | refine Part.appR _ ?_))
  first
  | (rw [hmf]; rfl)
  | (rw [may_all (by rw [← split_len hS]; exact hO) (by rw [← split_len hS]; exact h16)]; rfl)
 ·
  rintro e c L1 T2 hj ⟨rfl, hmf, n, v, w, rfl, rfl⟩
  simp only [List.nil_append]
  refine onExitH_r ?_
  refine onNorm_r ?_
  refine retQ_r (.cell q_sh_4 rfl (by repeat (first | exact List.Mem.head _ | apply List.Mem.tail | assumption)) (by constructor <;> first | rfl | decide | omega | exact Nat.le_refl _ | (simp; done) | (simp; omega)) rfl .nil) ?_
  refine endK_of ⟨?_, rfl, rfl⟩ (by repeat (first | exact Part.refl _ | refine Part.pull (by repeat (first | exact Pull.here | apply Pull.there)) ?_ | refine Part.skip _ ?_ | exact Part.nil _ | exact Part.app _ _ | exact Part.appL _ _ | refine Part.appR _ ?_)) (by repeat (first | exact Part.refl _ | refine Part.pull (by repeat (first | exact Pull.here | apply Pull.there)) ?_ | refine Part.skip _ ?_ | exact Part.nil _ | exact Part.app _ _ | exact Part.appL _ _ | refine Part.appR _ ?_))
  first
  | (rw [hmf]; rfl)
  | (rw [may_all (by rw [← split_len hS]; exact hO) (by rw [← split_len hS]; exact h16)]; rfl)
end Go.Proofs.YthfoobfgdakbmaaDoor

set_option linter.unusedVariables false
set_option linter.unusedSimpArgs false
set_option maxRecDepth 100000
namespace Go.Proofs.YthfoobfgdakbmaaDoor
open Go Go.RowKit Go.L
theorem q_f_140 : Tryd.prog.funcs[140]? = some Tryd.f140 := by kernel_rfl
theorem q_en_140 : enterable Tryd.prog 140 = true := by kernel_rfl
theorem q_f_118 : Tryd.prog.funcs[118]? = some Tryd.f118 := by kernel_rfl
theorem q_en_88 : enterable Tryd.prog 88 = true := by kernel_rfl
theorem q_en_118 : enterable Tryd.prog 118 = true := by kernel_rfl
theorem q_f_89 : Tryd.prog.funcs[89]? = some Tryd.f89 := by kernel_rfl

def prefF (s p : ByteArray) : Bool := decide (p.data.toList <+: s.data.toList)
theorem pref_iff {s p : ByteArray} (h : p.size ≤ s.size) : (s.extract 0 p.size = p) ↔ p.data.toList <+: s.data.toList := by
  have e : (s.extract 0 p.size).data.toList = s.data.toList.take p.data.toList.length := by
    rw [ByteArray.data_extract, Array.toList_extract]; simp
  constructor
  · intro hh
    rw [List.prefix_iff_eq_take, ← e, hh]
  · intro hh
    rw [List.prefix_iff_eq_take, ← e] at hh
    apply ByteArray.ext
    apply Array.ext'
    exact hh.symm
theorem pref_short {s p : ByteArray} (h : s.size < p.size) : ¬ p.data.toList <+: s.data.toList := fun hh => by
  have := hh.length_le
  simp at this; omega

theorem pref_spec (s p : ByteArray) : HPure Tryd.prog 140 [.str s, .str p] (.bool (prefF s p)) := by
 intro L T
 refine HCalls.enterG q_f_140 rfl ?_
 refine HWp.frame (r' := ⟨18, [(0, .str s), (1, .str p)]⟩) rfl ?_
 refine HWp.seq ?_
 refine HWp.text (.rd 0 .done) rfl ?_
 refine HPlan.assign rfl rfl rfl ?_
 refine HPlan.fin ?_
 refine onNorm_n ?_
 refine HWp.seq ?_
 refine HWp.text (.rd 0 (.rd 1 (.rd 2 (.rd 3 (.rd 4 (.rd 5 (.rd 6 (.rd 7 (.rd 8 (.rd 9 (.rd 10 (.rd 11 (.rd 12 (.rd 13 .done)))))))))))))) rfl ?_
 refine HPlan.move rfl rfl rfl ?_
 refine HPlan.lenStr rfl rfl rfl q_tk_9 rfl ?_
 refine HPlan.move rfl rfl rfl ?_
 refine HPlan.lenStr rfl rfl rfl q_tk_9 rfl ?_
 refine HPlan.intBin rfl rfl rfl rfl rfl rfl ?_
 refine HPlan.move rfl rfl rfl ?_
 refine HPlan.split ?_ ?_
 ·
  intro hb1_5
  first
  | exact PrN hb1_5
  | ((try simp only [Pr] at hb1_5); exfalso; omega)
  | (try simp only [Pr] at hb1_5)
    refine HPlan.move rfl rfl rfl ?_
    refine HPlan.move rfl rfl rfl ?_
    refine HPlan.lenStr rfl rfl rfl q_tk_9 rfl ?_
    refine HPlan.subStr rfl rfl rfl rfl rfl q_st_9 (by omega) (by omega) (by omega) (rfl : _ = LV.str (s.extract 0 p.size)) ?_
    refine HPlan.move rfl rfl rfl ?_
    refine HPlan.strBin rfl rfl rfl rfl trivial rfl ?_
    refine HPlan.pickT rfl rfl rfl rfl ?_
    refine HPlan.assign rfl rfl rfl ?_
    refine HPlan.fin ?_
    refine onNorm_n ?_
    refine HWp.ret ?_
    refine retQ_r (.tmp rfl .nil) ?_
    refine endK_of ⟨?_, rfl, rfl⟩ (by repeat (first | exact Part.refl _ | refine Part.pull (by repeat (first | exact Pull.here | apply Pull.there)) ?_ | refine Part.skip _ ?_ | exact Part.nil _ | exact Part.app _ _ | exact Part.appL _ _ | refine Part.appR _ ?_)) (by repeat (first | exact Part.refl _ | refine Part.pull (by repeat (first | exact Pull.here | apply Pull.there)) ?_ | refine Part.skip _ ?_ | exact Part.nil _ | exact Part.app _ _ | exact Part.appL _ _ | refine Part.appR _ ?_))
    refine congrArg LV.bool ?_
    unfold prefF
    first
    | exact (decide_eq_false (pref_short (by omega))).symm
    | exact decide_eq_decide.2 (pref_iff (by omega))
 ·
  intro hb1_5
  first
  | exact PrN hb1_5
  | ((try simp only [Pr] at hb1_5); exfalso; omega)
  | (try simp only [Pr] at hb1_5)
    refine HPlan.leftR rfl rfl ?_
    refine HPlan.leftR rfl rfl ?_
    refine HPlan.leftR rfl rfl ?_
    refine HPlan.leftR rfl rfl ?_
    refine HPlan.leftR rfl rfl ?_
    refine HPlan.leftR rfl rfl ?_
    refine HPlan.pickF rfl rfl rfl rfl ?_
    refine HPlan.assign rfl rfl rfl ?_
    refine HPlan.fin ?_
    refine onNorm_n ?_
    refine HWp.ret ?_
    refine retQ_r (.tmp rfl .nil) ?_
    refine endK_of ⟨?_, rfl, rfl⟩ (by repeat (first | exact Part.refl _ | refine Part.pull (by repeat (first | exact Pull.here | apply Pull.there)) ?_ | refine Part.skip _ ?_ | exact Part.nil _ | exact Part.app _ _ | exact Part.appL _ _ | refine Part.appR _ ?_)) (by repeat (first | exact Part.refl _ | refine Part.pull (by repeat (first | exact Pull.here | apply Pull.there)) ?_ | refine Part.skip _ ?_ | exact Part.nil _ | exact Part.app _ _ | exact Part.appL _ _ | refine Part.appR _ ?_))
    refine congrArg LV.bool ?_
    unfold prefF
    first
    | exact (decide_eq_false (pref_short (by omega))).symm
    | exact decide_eq_decide.2 (pref_iff (by omega))
theorem hasp_spec (s p : ByteArray) : HPure Tryd.prog 118 [.str s, .str p] (.bool (prefF s p)) := by
 intro L T
 refine HCalls.enterG q_f_118 rfl ?_
 refine HWp.frame (r' := ⟨8, [(0, .str s), (1, .str p)]⟩) rfl ?_
 refine HWp.seq ?_
 refine HWp.text (.rd 0 .done) rfl ?_
 refine HPlan.assign rfl rfl rfl ?_
 refine HPlan.fin ?_
 refine onNorm_n ?_
 refine HWp.seq ?_
 refine HWp.text (.rd 0 (.rd 1 (.act 2 [] (.rd 3 .done)))) rfl ?_
 refine HPlan.move rfl rfl rfl ?_
 refine HPlan.move rfl rfl rfl ?_
 refine HPlan.callPure rfl rfl rfl q_en_140 (pref_spec _ _) keptH_nil ?_
 refine HPlan.assign rfl rfl rfl ?_
 refine HPlan.fin ?_
 refine onNorm_n ?_
 refine HWp.ret ?_
 refine retQ_r (.tmp rfl .nil) ?_
 exact endK_of ⟨rfl, rfl, rfl⟩ (by repeat (first | exact Part.refl _ | refine Part.pull (by repeat (first | exact Pull.here | apply Pull.there)) ?_ | refine Part.skip _ ?_ | exact Part.nil _ | exact Part.app _ _ | exact Part.appL _ _ | refine Part.appR _ ?_)) (by repeat (first | exact Part.refl _ | refine Part.pull (by repeat (first | exact Pull.here | apply Pull.there)) ?_ | refine Part.skip _ ?_ | exact Part.nil _ | exact Part.app _ _ | exact Part.appL _ _ | refine Part.appR _ ?_))
theorem under_spec (s d : ByteArray) (hs : s.size < 1073741824) (hd : d ≠ ⟨#[]⟩) (hm : mayF d = true) (hds : d.size < 1073741824) : HPure Tryd.prog 89 [.str s, .str d] (.bool (underF s d)) := by
 intro L T
 refine HCalls.enterG q_f_89 rfl ?_
 refine HWp.frame (r' := ⟨25, [(0, .str s), (1, .str d)]⟩) rfl ?_
 refine HWp.seq ?_
 refine HWp.text (.rd 0 .done) rfl ?_
 refine HPlan.assign rfl rfl rfl ?_
 refine HPlan.fin ?_
 refine onNorm_n ?_
 refine HWp.seq ?_
 refine HWp.seq ?_
 refine HWp.text (.rd 0 (.act 1 [] (.rd 2 (.rd 3 (.rd 4 (.rd 5 (.rd 6 (.rd 7 (.act 8 [] (.rd 9 (.rd 10 (.rd 11 .done)))))))))))) rfl ?_
 refine HPlan.move rfl rfl rfl ?_
 refine HPlan.callPure rfl rfl rfl q_en_88 (may_spec _ (by assumption)) keptH_nil ?_
 refine HPlan.not rfl rfl rfl rfl ?_
 refine HPlan.move rfl rfl rfl ?_
 refine HPlan.split ?_ ?_
 ·
  intro hb1_3
  first
  | exact PrN hb1_3
  | ((try simp only [Pr] at hb1_3); exfalso; omega)
  | (try simp only [Pr] at hb1_3)
    refine HPlan.leftR rfl rfl ?_
    refine HPlan.leftR rfl rfl ?_
    refine HPlan.leftR rfl rfl ?_
    refine HPlan.leftR rfl rfl ?_
    refine HPlan.leftA rfl rfl ?_
    refine HPlan.leftR rfl rfl ?_
    refine HPlan.leftR rfl rfl ?_
    refine HPlan.pickT rfl rfl rfl rfl ?_
    refine HPlan.fin ?_
    refine onNorm_n ?_
    refine HWp.cond_t rfl ?_
    refine HWp.seq ?_
    refine HWp.text (.rd 0 .done) rfl ?_
    refine HPlan.assign rfl rfl rfl ?_
    refine HPlan.fin ?_
    refine onNorm_n ?_
    refine HWp.ret ?_
    refine onNorm_r ?_
    refine retQ_r (.tmp rfl .nil) ?_
    refine endK_of ⟨?_, rfl, rfl⟩ (by repeat (first | exact Part.refl _ | refine Part.pull (by repeat (first | exact Pull.here | apply Pull.there)) ?_ | refine Part.skip _ ?_ | exact Part.nil _ | exact Part.app _ _ | exact Part.appL _ _ | refine Part.appR _ ?_)) (by repeat (first | exact Part.refl _ | refine Part.pull (by repeat (first | exact Pull.here | apply Pull.there)) ?_ | refine Part.skip _ ?_ | exact Part.nil _ | exact Part.app _ _ | exact Part.appL _ _ | refine Part.appR _ ?_))
    refine congrArg LV.bool ?_
    unfold underF
    first
    | exact (decide_eq_false (fun h => absurd (h.1.symm.trans (by simpa using hb1_3 : mayF s = false)) Bool.false_ne_true.symm)).symm
    | (unfold prefF; refine decide_eq_decide.2 ⟨fun h => ⟨by simpa using hb1_3, ?_⟩, fun h => ?_⟩; simpa using h; simpa using h.2)
 ·
  intro hb1_3
  first
  | exact PrN hb1_3
  | ((try simp only [Pr] at hb1_3); exfalso; omega)
  | (try simp only [Pr] at hb1_3)
    refine HPlan.move rfl rfl rfl ?_
    refine HPlan.strBin rfl rfl rfl rfl trivial (congrArg (fun b => LV.bool (!b)) (decide_eq_false hd)) ?_
    refine HPlan.move rfl rfl rfl ?_
    refine HPlan.move rfl rfl rfl ?_
    refine HPlan.callPure rfl rfl rfl q_en_88 (by have := may_spec d hds; rw [hm] at this; exact this) keptH_nil ?_
    refine HPlan.not rfl rfl rfl rfl ?_
    refine HPlan.pickT rfl rfl rfl rfl ?_
    refine HPlan.pickF rfl rfl rfl rfl ?_
    refine HPlan.fin ?_
    refine onNorm_n ?_
    refine HWp.cond_f rfl ?_
    refine HWp.skip ?_
    refine onNorm_n ?_
    refine HWp.seq ?_
    refine HWp.text (.rd 0 (.rd 1 (.rd 2 (.rd 3 (.rd 4 (.rd 5 (.act 6 [] (.rd 7 (.rd 8 .done))))))))) rfl ?_
    refine HPlan.move rfl rfl rfl ?_
    refine HPlan.strBin rfl rfl rfl rfl trivial (congrArg LV.bool (decide_eq_false hd)) ?_
    refine HPlan.move rfl rfl rfl ?_
    refine HPlan.move rfl rfl rfl ?_
    refine HPlan.move rfl rfl rfl ?_
    refine HPlan.strBin rfl rfl rfl rfl (by show _ ≤ _; have : (⟨#[47]⟩ : ByteArray).size = 1 := rfl; omega) rfl ?_
    refine HPlan.callPure rfl rfl rfl q_en_118 (hasp_spec _ _) keptH_nil ?_
    refine HPlan.pickF rfl rfl rfl rfl ?_
    refine HPlan.assign rfl rfl rfl ?_
    refine HPlan.fin ?_
    refine onNorm_n ?_
    refine HWp.ret ?_
    refine retQ_r (.tmp rfl .nil) ?_
    refine endK_of ⟨?_, rfl, rfl⟩ (by repeat (first | exact Part.refl _ | refine Part.pull (by repeat (first | exact Pull.here | apply Pull.there)) ?_ | refine Part.skip _ ?_ | exact Part.nil _ | exact Part.app _ _ | exact Part.appL _ _ | refine Part.appR _ ?_)) (by repeat (first | exact Part.refl _ | refine Part.pull (by repeat (first | exact Pull.here | apply Pull.there)) ?_ | refine Part.skip _ ?_ | exact Part.nil _ | exact Part.app _ _ | exact Part.appL _ _ | refine Part.appR _ ?_))
    refine congrArg LV.bool ?_
    unfold underF
    first
    | exact (decide_eq_false (fun h => absurd (h.1.symm.trans (by simpa using hb1_3 : mayF s = false)) Bool.false_ne_true.symm)).symm
    | (unfold prefF; refine decide_eq_decide.2 ⟨fun h => ⟨by simpa using hb1_3, ?_⟩, fun h => ?_⟩; simpa using h; simpa using h.2)
end Go.Proofs.YthfoobfgdakbmaaDoor

set_option linter.unusedVariables false
set_option linter.unusedSimpArgs false
set_option maxRecDepth 100000
namespace Go.Proofs.YthfoobfgdakbmaaDoor
open Go Go.RowKit Go.L
theorem q_zo_66 : zeroOf Tryd.prog 66 = some (LV.agg [(LV.str .empty), (LV.bool false), (LV.int .u8 0), (LV.int .u8 0), (LV.int .u8 0), (LV.int .u8 0), (LV.int .u8 0), (LV.int .u8 0), (LV.int .u8 0), (LV.int .u8 0), (LV.int .u8 0), (LV.int .u8 0), (LV.int .u8 0), (LV.int .u8 0), (LV.int .u8 0), (LV.int .u8 0), (LV.int .u8 0), (LV.int .u8 0), (LV.int .u8 0), (LV.int .u8 0), (LV.int .u8 0), (LV.int .u8 0), (LV.int .u8 0), (LV.int .u8 0), (LV.int .u8 0), (LV.int .u8 0), (LV.int .u8 0), (LV.int .u8 0), (LV.int .u8 0), (LV.int .u8 0), (LV.int .u8 0), (LV.int .u8 0), (LV.int .u8 0), (LV.int .u8 0)]) := by kernel_rfl
theorem q_sz_66 : sizeOfT Tryd.prog 66 = some 34 := by kernel_rfl
theorem q_mt_124 : mapTy Tryd.prog 124 = some (9, 4) := by kernel_rfl
theorem q_kk_9 : KeysOk Tryd.prog 9 (.plain .str) := ⟨⟨1, by decide, by kernel_rfl⟩, by kernel_rfl⟩
theorem q_fo_66_1 : fieldOff Tryd.prog 66 1 = some 1 := by kernel_rfl
theorem q_fo_66_2 : fieldOff Tryd.prog 66 2 = some 2 := by kernel_rfl
theorem q_zo_24 : zeroOf Tryd.prog 24 = some (LV.agg (List.replicate 32 (LV.int .u8 0))) := by kernel_rfl
theorem q_pl_24 : placesOf Tryd.prog 24 = some (fun i => some (i * 1, 1)) := by kernel_rfl
theorem q_f_59 : Tryd.prog.funcs[59]? = some Tryd.f59 := by kernel_rfl

def zeroDig : Dig := ⟨List.replicate 32 0, by simp⟩
instance memDec (p : ByteArray) (l : List ByteArray) : Decidable (p ∈ l) := decidable_of_iff (l.any (fun q => decide (q = p)) = true) (by simp)
def readsFrom (met : List ByteArray) : List ReadD → Int
  | [] => 0
  | r :: l => if mayF r.path = false then 1 else if r.path ∈ met then 8 else if r.is = false ∧ r.sum ≠ zeroDig then 5 else readsFrom (met ++ [r.path]) l
def readsAt (l : List ReadD) (k : Nat) : Int := readsFrom ((l.take k).map ReadD.path) (l.drop k)
theorem readsAt_end (l : List ReadD) : readsAt l l.length = 0 := by
  unfold readsAt; rw [List.drop_length]; rfl
theorem readsAt_at {l : List ReadD} {k : Nat} (h : k < l.length) : readsAt l k = if mayF l[k].path = false then 1 else if l[k].path ∈ (l.take k).map ReadD.path then 8 else if l[k].is = false ∧ l[k].sum ≠ zeroDig then 5 else readsAt l (k + 1) := by
  unfold readsAt
  rw [List.drop_eq_getElem_cons h, readsFrom, List.take_add_one, List.getElem?_eq_getElem h, List.map_append]
  rfl
theorem readsAt_1 {l : List ReadD} {k : Nat} (h : k < l.length) (h1 : mayF l[k].path = false) : readsAt l k = 1 := by
  rw [readsAt_at h, if_pos h1]
theorem readsAt_8 {l : List ReadD} {k : Nat} (h : k < l.length) (h1 : mayF l[k].path = true) (h2 : l[k].path ∈ (l.take k).map ReadD.path) : readsAt l k = 8 := by
  rw [readsAt_at h, if_neg (by rw [h1]; exact Bool.false_ne_true.symm), if_pos h2]
theorem readsAt_5 {l : List ReadD} {k : Nat} (h : k < l.length) (h1 : mayF l[k].path = true) (h2 : l[k].path ∉ (l.take k).map ReadD.path) (h3 : l[k].is = false ∧ l[k].sum ≠ zeroDig) : readsAt l k = 5 := by
  rw [readsAt_at h, if_neg (by rw [h1]; exact Bool.false_ne_true.symm), if_neg h2, if_pos h3]
theorem readsAt_step {l : List ReadD} {k : Nat} (h : k < l.length) (h1 : mayF l[k].path = true) (h2 : l[k].path ∉ (l.take k).map ReadD.path) (h3 : ¬ (l[k].is = false ∧ l[k].sum ≠ zeroDig)) : readsAt l k = readsAt l (k + 1) := by
  rw [readsAt_at h, if_neg (by rw [h1]; exact Bool.false_ne_true.symm), if_neg h2, if_neg h3]
def readsF (l : List ReadD) : Int := readsAt l 0
def metV (met : List ByteArray) : List (LV × LV) := met.map fun p => (.str p, .bool true)
theorem met_fits (met : List ByteArray) : ∀ p ∈ metV met, (KeyK.plain .str).fits p.1 = true := fun p hp => by
  obtain ⟨q, _, rfl⟩ := List.mem_map.1 hp; rfl
theorem key_str (a b : ByteArray) : keyEq (.str a) (.str b) = decide (a = b) := by simp [keyEq, LV.cells, flatEq, ckEq]
theorem get_met (p : ByteArray) : ∀ met, okTup false ((getL (.str p) (metV met)).getD (.bool false)) (getL (.str p) (metV met)).isSome = .bool (decide (p ∈ met))
  | [] => by simp [metV, getL, okTup]
  | q :: r => by
    have ih := get_met p r
    simp only [okTup, cond_false, metV, List.map_cons, getL, key_str] at ih ⊢
    by_cases e : p = q
    · simp [e]
    · simp [e, ih]
theorem put_met {p : ByteArray} : ∀ {met : List ByteArray}, p ∉ met → putL (.str p) (.bool true) (metV met) = metV (met ++ [p])
  | [], _ => rfl
  | q :: r, h => by
    rw [List.mem_cons, not_or] at h
    have ih := put_met h.2
    simp only [metV, List.map_cons, List.cons_append, putL, key_str] at ih ⊢
    simp [h.1, ih]
theorem path_step {l : List ReadD} {k : Nat} (h : k < l.length) : (l.take k).map ReadD.path ++ [l[k].path] = (l.take (k + 1)).map ReadD.path := by
  rw [List.take_add_one, List.getElem?_eq_getElem h, List.map_append]; rfl

theorem reads_spec (l : SlD 34 readDV) (hp : ∀ r ∈ l.l, r.path.size < 1073741824) : HPure Tryd.prog 59 [l.v] (.int .i64 (readsF l.l)) := by
 have hsm := l.small
 intro L T
 refine HCalls.enterG q_f_59 rfl ?_
 refine HWp.frame (r' := ⟨37, [(0, l.v)]⟩) rfl ?_
 refine HWp.seq ?_
 refine HWp.text (.rd 0 .done) rfl ?_
 refine HPlan.assign rfl rfl rfl ?_
 refine HPlan.fin ?_
 refine onNorm_n ?_
 refine HWp.seq ?_
 refine HWp.text (.act 0 [] (.rd 1 .done)) rfl ?_
 refine HPlan.makeMap rfl rfl (fun i6 => ⟨keptH_nil, ?_⟩)
 refine HPlan.assign rfl rfl rfl ?_
 refine HPlan.fin ?_
 refine onNorm_n ?_
 refine HWp.seq ?_
 refine HWp.seq ?_
 refine HWp.text (.rd 0 (.rd 1 (.rd 2 .done))) rfl ?_
 refine HPlan.move rfl rfl rfl ?_
 refine HPlan.lenS rfl rfl rfl q_tk_25 (by first | exact IsSl.sl | exact IsSl.nils | assumption | exact growV_isSl (by assumption) | exact SlD.ok _) (by first | rw [List.length_map] | rfl) ?_
 refine HPlan.move rfl rfl rfl ?_
 refine HPlan.fin ?_
 refine onNorm_n ?_
 refine HWp.block ?_
 refine HWp.loopF (α := Nat × Nat) (fun q => l.l.length - q.1) (fun q => q.1 ≤ l.l.length ∧ readsF l.l = readsAt l.l q.1) (fun q => ⟨37, [(0, l.v), (3, .mp i6), (7, l.v), (8, .int .i64 (l.l.length : Int)), (9, .int .i64 (q.1 : Int))]⟩) (fun q => (i6, .map (metV ((l.l.take q.1).map ReadD.path)) q.2) :: L) (fun q => T) ?_ ?_
 ·
  refine ⟨(0, 0), ⟨Nat.zero_le _, rfl⟩, (LessE.less (by repeat (first | exact LessE.nil | refine LessE.same rfl ?_ | refine LessE.own rfl ?_ | refine LessE.eq rfl ?_ (by first | rfl | (congr 1; omega) | simp))) rfl), (by repeat (first | exact Part.refl _ | refine Part.pull (by repeat (first | exact Pull.here | apply Pull.there)) ?_ | refine Part.skip _ ?_ | exact Part.nil _ | exact Part.app _ _ | exact Part.appL _ _ | refine Part.appR _ ?_)), (by repeat (first | exact Part.refl _ | refine Part.pull (by repeat (first | exact Pull.here | apply Pull.there)) ?_ | refine Part.skip _ ?_ | exact Part.nil _ | exact Part.app _ _ | exact Part.appL _ _ | refine Part.appR _ ?_))⟩
 ·
  rintro q ⟨hk1, hF⟩
  obtain ⟨k, ver⟩ := q
  simp only at hk1 hF ⊢
  refine HWp.seq ?_
  refine HWp.text (.rd 0 .done) rfl ?_
  refine HPlan.intBin rfl rfl rfl rfl rfl rfl ?_
  refine HPlan.fin ?_
  refine onNorm_n ?_
  refine HWp.seq ?_
  refine HWp.cond rfl ?_ ?_
  ·
   intro hc10
   first
   | exact PrN hc10
   | ((try simp only [Pr] at hc10); exfalso; omega)
   | (try simp only [Pr] at hc10)
     refine HWp.skip ?_
     refine onNorm_n ?_
     refine HWp.seq ?_
     refine HWp.block ?_
     refine HWp.seq ?_
     refine HWp.text (.rd 0 (.rd 1 (.act 2 [] (.act 3 [] .done)))) rfl ?_
     refine HPlan.indexS rfl rfl rfl rfl q_ix_25 (by first | exact IsSl.sl | exact IsSl.nils | assumption | exact growV_isSl (by assumption) | exact SlD.ok _) (by omega) (by simp only [List.length_map]; omega) (by first | exact at_map (by omega) | rfl) ?_
     first
     | refine HPlan.loadI rfl rfl rfl q_sh_66 (by constructor <;> first | rfl | decide | omega | exact Nat.le_refl _ | (simp [digC_len, dgV, LV.cells, readDC_len, readDV, madeDC_len, madeDV, traceDC_len, traceDV]; done) | (simp [digC_len, dgV, LV.cells, readDC_len, readDV, madeDC_len, madeDV, traceDC_len, traceDV]; omega)) (by first | exact (readD_all _) | rfl) ?_
     | refine HPlan.load rfl rfl rfl q_sh_66 (by repeat (first | exact List.Mem.head _ | apply List.Mem.tail | assumption)) (by constructor <;> first | rfl | decide | omega | exact Nat.le_refl _ | (simp [digC_len, dgV, LV.cells, readDC_len, readDV, madeDC_len, madeDV, traceDC_len, traceDV]; done) | (simp [digC_len, dgV, LV.cells, readDC_len, readDV, madeDC_len, madeDV, traceDC_len, traceDV]; omega)) (by first | exact (readD_all _) | rfl) ?_
     refine HPlan.alloc rfl rfl q_zo_66 (by first | rfl | (simp; done)) (fun i5 => ⟨keptH_nil, ?_⟩)
     refine HPlan.store rfl rfl rfl rfl q_sz_66 (by first | rfl | (simp; done)) (by first | rfl | decide | omega | (simp [digC_len, dgV, LV.cells, readDC_len, readDV, madeDC_len, madeDV, traceDC_len, traceDV]; done) | (simp [digC_len, dgV, LV.cells, readDC_len, readDV, madeDC_len, madeDV, traceDC_len, traceDV]; omega)) (by repeat (first | exact List.Mem.head _ | apply List.Mem.tail | assumption)) (by first | exact (splice_whole _ (readDC _) (by rw [readDC_len]; rfl)) | rfl) (by repeat (first | exact Upd.here | apply Upd.there)) (by first | rfl | decide | omega | (simp [digC_len, dgV, LV.cells, readDC_len, readDV, madeDC_len, madeDV, traceDC_len, traceDV]; done) | (simp [digC_len, dgV, LV.cells, readDC_len, readDV, madeDC_len, madeDV, traceDC_len, traceDV]; omega)) keptH_nil ?_
     refine HPlan.fin ?_
     refine onNorm_n ?_
     refine HWp.seq ?_
     refine HWp.block ?_
     refine HWp.seq ?_
     refine HWp.text (.rd 0 (.rd 1 (.act 2 [] (.rd 3 (.rd 4 .done))))) rfl ?_
     refine HPlan.fieldAddr rfl rfl rfl rfl q_fo_66_0 rfl ?_
     first
     | refine HPlan.loadI rfl rfl rfl q_sh_9 (by constructor <;> first | rfl | decide | omega | exact Nat.le_refl _ | (simp [digC_len, dgV, LV.cells, readDC_len, readDV, madeDC_len, madeDV, traceDC_len, traceDV]; done) | (simp [digC_len, dgV, LV.cells, readDC_len, readDV, madeDC_len, madeDV, traceDC_len, traceDV]; omega)) (by first | exact (readD_path _) | exact (madeD_path _) | exact (piece_load _) | rfl) ?_
     | refine HPlan.load rfl rfl rfl q_sh_9 (by repeat (first | exact List.Mem.head _ | apply List.Mem.tail | assumption)) (by constructor <;> first | rfl | decide | omega | exact Nat.le_refl _ | (simp [digC_len, dgV, LV.cells, readDC_len, readDV, madeDC_len, madeDV, traceDC_len, traceDV]; done) | (simp [digC_len, dgV, LV.cells, readDC_len, readDV, madeDC_len, madeDV, traceDC_len, traceDV]; omega)) (by first | exact (readD_path _) | exact (madeD_path _) | exact (piece_load _) | rfl) ?_
     refine HPlan.callPure rfl rfl rfl q_en_88 (may_spec _ (hp _ (List.getElem_mem (by omega)))) keptH_nil ?_
     refine HPlan.not rfl rfl rfl rfl ?_
     refine HPlan.assign rfl rfl rfl ?_
     refine HPlan.fin ?_
     refine onNorm_n ?_
     refine HWp.cond rfl ?_ ?_
     ·
      intro hc13
      first
      | exact PrN hc13
      | ((try simp only [Pr] at hc13); exfalso; omega)
      | (try simp only [Pr] at hc13)
        refine HWp.seq ?_
        refine HWp.text (.rd 0 .done) rfl ?_
        refine HPlan.assign rfl rfl rfl ?_
        refine HPlan.fin ?_
        refine onNorm_n ?_
        refine HWp.ret ?_
        refine onExitH_r ?_
        refine onNorm_r ?_
        refine onExitH_r ?_
        refine onNorm_r ?_
        refine onNorm_r ?_
        refine onExitH_r ?_
        refine onNorm_r ?_
        refine retQ_r (.tmp rfl .nil) ?_
        refine endK_of ⟨?_, rfl, rfl⟩ (by repeat (first | exact Part.refl _ | refine Part.pull (by repeat (first | exact Pull.here | apply Pull.there)) ?_ | refine Part.skip _ ?_ | exact Part.nil _ | exact Part.app _ _ | exact Part.appL _ _ | refine Part.appR _ ?_)) (by repeat (first | exact Part.refl _ | refine Part.pull (by repeat (first | exact Pull.here | apply Pull.there)) ?_ | refine Part.skip _ ?_ | exact Part.nil _ | exact Part.app _ _ | exact Part.appL _ _ | refine Part.appR _ ?_))
        refine congrArg (LV.int .i64) ?_
        rw [hF]
        first
        | exact (readsAt_end _).symm
        | exact (readsAt_1 (by omega) (by simpa using hc13)).symm
        | exact (readsAt_8 (by omega) (by simpa using hc13) hc18).symm
        | exact (readsAt_5 (by omega) (by simpa using hc13) hc18 ⟨hb9_3, hc23⟩).symm
     ·
      intro hc13
      first
      | exact PrN hc13
      | ((try simp only [Pr] at hc13); exfalso; omega)
      | (try simp only [Pr] at hc13)
        refine HWp.seq ?_
        refine HWp.text (.rd 0 (.rd 1 (.rd 2 (.rd 3 (.rd 4 .done))))) rfl ?_
        refine HPlan.move rfl rfl rfl ?_
        refine HPlan.fieldAddr rfl rfl rfl rfl q_fo_66_0 rfl ?_
        first
        | refine HPlan.loadI rfl rfl rfl q_sh_9 (by constructor <;> first | rfl | decide | omega | exact Nat.le_refl _ | (simp [digC_len, dgV, LV.cells, readDC_len, readDV, madeDC_len, madeDV, traceDC_len, traceDV]; done) | (simp [digC_len, dgV, LV.cells, readDC_len, readDV, madeDC_len, madeDV, traceDC_len, traceDV]; omega)) (by first | exact (readD_path _) | exact (madeD_path _) | exact (piece_load _) | rfl) ?_
        | refine HPlan.load rfl rfl rfl q_sh_9 (by repeat (first | exact List.Mem.head _ | apply List.Mem.tail | assumption)) (by constructor <;> first | rfl | decide | omega | exact Nat.le_refl _ | (simp [digC_len, dgV, LV.cells, readDC_len, readDV, madeDC_len, madeDV, traceDC_len, traceDV]; done) | (simp [digC_len, dgV, LV.cells, readDC_len, readDV, madeDC_len, madeDV, traceDC_len, traceDV]; omega)) (by first | exact (readD_path _) | exact (madeD_path _) | exact (piece_load _) | rfl) ?_
        refine HPlan.lookup rfl rfl rfl rfl q_mt_124 q_kk_9 q_zo_4 (by repeat (first | exact List.Mem.head _ | apply List.Mem.tail | assumption)) rfl (met_fits _) (get_met _ _) ?_
        refine HPlan.assign rfl rfl rfl ?_
        refine HPlan.fin ?_
        refine onNorm_n ?_
        refine HWp.cond rfl ?_ ?_
        ·
         intro hc18
         first
         | exact PrN hc18
         | ((try simp only [Pr] at hc18); exfalso; omega)
         | (try simp only [Pr] at hc18)
           refine HWp.seq ?_
           refine HWp.text (.rd 0 .done) rfl ?_
           refine HPlan.assign rfl rfl rfl ?_
           refine HPlan.fin ?_
           refine onNorm_n ?_
           refine HWp.ret ?_
           refine onExitH_r ?_
           refine onNorm_r ?_
           refine onExitH_r ?_
           refine onNorm_r ?_
           refine onNorm_r ?_
           refine onExitH_r ?_
           refine onNorm_r ?_
           refine retQ_r (.tmp rfl .nil) ?_
           refine endK_of ⟨?_, rfl, rfl⟩ (by repeat (first | exact Part.refl _ | refine Part.pull (by repeat (first | exact Pull.here | apply Pull.there)) ?_ | refine Part.skip _ ?_ | exact Part.nil _ | exact Part.app _ _ | exact Part.appL _ _ | refine Part.appR _ ?_)) (by repeat (first | exact Part.refl _ | refine Part.pull (by repeat (first | exact Pull.here | apply Pull.there)) ?_ | refine Part.skip _ ?_ | exact Part.nil _ | exact Part.app _ _ | exact Part.appL _ _ | refine Part.appR _ ?_))
           refine congrArg (LV.int .i64) ?_
           rw [hF]
           first
           | exact (readsAt_end _).symm
           | exact (readsAt_1 (by omega) (by simpa using hc13)).symm
           | exact (readsAt_8 (by omega) (by simpa using hc13) hc18).symm
           | exact (readsAt_5 (by omega) (by simpa using hc13) hc18 ⟨hb9_3, hc23⟩).symm
        ·
         intro hc18
         first
         | exact PrN hc18
         | ((try simp only [Pr] at hc18); exfalso; omega)
         | (try simp only [Pr] at hc18)
           refine HWp.seq ?_
           refine HWp.text (.rd 0 (.rd 1 (.rd 2 (.rd 3 (.rd 4 (.rd 5 (.rd 6 (.rd 7 (.rd 8 (.rd 9 .done)))))))))) rfl ?_
           refine HPlan.fieldAddr rfl rfl rfl rfl q_fo_66_1 rfl ?_
           first
           | refine HPlan.loadI rfl rfl rfl q_sh_4 (by constructor <;> first | rfl | decide | omega | exact Nat.le_refl _ | (simp [digC_len, dgV, LV.cells, readDC_len, readDV, madeDC_len, madeDV, traceDC_len, traceDV]; done) | (simp [digC_len, dgV, LV.cells, readDC_len, readDV, madeDC_len, madeDV, traceDC_len, traceDV]; omega)) (by first | exact (readD_is _) | rfl) ?_
           | refine HPlan.load rfl rfl rfl q_sh_4 (by repeat (first | exact List.Mem.head _ | apply List.Mem.tail | assumption)) (by constructor <;> first | rfl | decide | omega | exact Nat.le_refl _ | (simp [digC_len, dgV, LV.cells, readDC_len, readDV, madeDC_len, madeDV, traceDC_len, traceDV]; done) | (simp [digC_len, dgV, LV.cells, readDC_len, readDV, madeDC_len, madeDV, traceDC_len, traceDV]; omega)) (by first | exact (readD_is _) | rfl) ?_
           refine HPlan.not rfl rfl rfl rfl ?_
           refine HPlan.move rfl rfl rfl ?_
           refine HPlan.split ?_ ?_
           ·
            intro hb9_3
            first
            | exact PrN hb9_3
            | ((try simp only [Pr] at hb9_3); exfalso; omega)
            | (try simp only [Pr] at hb9_3)
              refine HPlan.fieldAddr rfl rfl rfl rfl q_fo_66_2 rfl ?_
              first
              | refine HPlan.loadI rfl rfl rfl q_sh_24 (by constructor <;> first | rfl | decide | omega | exact Nat.le_refl _ | (simp [digC_len, dgV, LV.cells, readDC_len, readDV, madeDC_len, madeDV, traceDC_len, traceDV]; done) | (simp [digC_len, dgV, LV.cells, readDC_len, readDV, madeDC_len, madeDV, traceDC_len, traceDV]; omega)) (by first | exact (dgV_all _) | exact (readD_sum _) | exact (madeD_sum _) | exact (traceD_key _) | rfl) ?_
              | refine HPlan.load rfl rfl rfl q_sh_24 (by repeat (first | exact List.Mem.head _ | apply List.Mem.tail | assumption)) (by constructor <;> first | rfl | decide | omega | exact Nat.le_refl _ | (simp [digC_len, dgV, LV.cells, readDC_len, readDV, madeDC_len, madeDV, traceDC_len, traceDV]; done) | (simp [digC_len, dgV, LV.cells, readDC_len, readDV, madeDC_len, madeDV, traceDC_len, traceDV]; omega)) (by first | exact (dgV_all _) | exact (readD_sum _) | exact (madeD_sum _) | exact (traceD_key _) | rfl) ?_
              refine HPlan.build rfl rfl rfl q_zo_24 (by first | rfl | (simp; done)) q_pl_24 fillOk_nil (rfl : _ = dgV zeroDig) ?_
              refine HPlan.aggNe rfl rfl rfl rfl q_sh_24 q_ck_24 (by decide) q_eg_24 (digC_len _) (digC_len _) (dig_fit _) (dig_fit _) (dig_eq _ _) ?_
              refine HPlan.pickT rfl rfl rfl rfl ?_
              refine HPlan.assign rfl rfl rfl ?_
              refine HPlan.fin ?_
              refine onNorm_n ?_
              refine HWp.cond rfl ?_ ?_
              ·
               intro hc23
               first
               | exact PrN hc23
               | ((try simp only [Pr] at hc23); exfalso; omega)
               | (try simp only [Pr] at hc23)
                 refine HWp.seq ?_
                 refine HWp.text (.rd 0 .done) rfl ?_
                 refine HPlan.assign rfl rfl rfl ?_
                 refine HPlan.fin ?_
                 refine onNorm_n ?_
                 refine HWp.ret ?_
                 refine onExitH_r ?_
                 refine onNorm_r ?_
                 refine onExitH_r ?_
                 refine onNorm_r ?_
                 refine onNorm_r ?_
                 refine onExitH_r ?_
                 refine onNorm_r ?_
                 refine retQ_r (.tmp rfl .nil) ?_
                 refine endK_of ⟨?_, rfl, rfl⟩ (by repeat (first | exact Part.refl _ | refine Part.pull (by repeat (first | exact Pull.here | apply Pull.there)) ?_ | refine Part.skip _ ?_ | exact Part.nil _ | exact Part.app _ _ | exact Part.appL _ _ | refine Part.appR _ ?_)) (by repeat (first | exact Part.refl _ | refine Part.pull (by repeat (first | exact Pull.here | apply Pull.there)) ?_ | refine Part.skip _ ?_ | exact Part.nil _ | exact Part.app _ _ | exact Part.appL _ _ | refine Part.appR _ ?_))
                 refine congrArg (LV.int .i64) ?_
                 rw [hF]
                 first
                 | exact (readsAt_end _).symm
                 | exact (readsAt_1 (by omega) (by simpa using hc13)).symm
                 | exact (readsAt_8 (by omega) (by simpa using hc13) hc18).symm
                 | exact (readsAt_5 (by omega) (by simpa using hc13) hc18 ⟨hb9_3, hc23⟩).symm
              ·
               intro hc23
               first
               | exact PrN hc23
               | ((try simp only [Pr] at hc23); exfalso; omega)
               | (try simp only [Pr] at hc23)
                 refine HWp.skip ?_
                 refine onExitH_n ?_
                 refine onNorm_n ?_
                 refine HWp.text (.rd 0 (.rd 1 (.rd 2 (.act 3 [] .done)))) rfl ?_
                 refine HPlan.move rfl rfl rfl ?_
                 refine HPlan.fieldAddr rfl rfl rfl rfl q_fo_66_0 rfl ?_
                 first
                 | refine HPlan.loadI rfl rfl rfl q_sh_9 (by constructor <;> first | rfl | decide | omega | exact Nat.le_refl _ | (simp [digC_len, dgV, LV.cells, readDC_len, readDV, madeDC_len, madeDV, traceDC_len, traceDV]; done) | (simp [digC_len, dgV, LV.cells, readDC_len, readDV, madeDC_len, madeDV, traceDC_len, traceDV]; omega)) (by first | exact (readD_path _) | exact (madeD_path _) | exact (piece_load _) | rfl) ?_
                 | refine HPlan.load rfl rfl rfl q_sh_9 (by repeat (first | exact List.Mem.head _ | apply List.Mem.tail | assumption)) (by constructor <;> first | rfl | decide | omega | exact Nat.le_refl _ | (simp [digC_len, dgV, LV.cells, readDC_len, readDV, madeDC_len, madeDV, traceDC_len, traceDV]; done) | (simp [digC_len, dgV, LV.cells, readDC_len, readDV, madeDC_len, madeDV, traceDC_len, traceDV]; omega)) (by first | exact (readD_path _) | exact (madeD_path _) | exact (piece_load _) | rfl) ?_
                 have hF1 : readsF l.l = readsAt l.l (k + 1) := hF.trans (readsAt_step (by omega) (by simpa using hc13) hc18 (by first | (intro hh; rw [hb9_3] at hh; cases hh.1; done) | (intro hh; exact hh.2 hc23)))
                 refine HPlan.mapUpdate rfl rfl rfl rfl rfl q_mt_124 q_kk_9 rfl (met_fits _) ((put_met hc18).trans (congrArg metV (path_step (by omega)))) (by repeat (first | exact Upd.here | apply Upd.there)) keptH_nil ?_
                 refine HPlan.fin ?_
                 refine onExitH_n ?_
                 refine onNorm_n ?_
                 refine HWp.text (.rd 0 (.rd 1 .done)) rfl ?_
                 refine HPlan.intBin rfl rfl rfl rfl rfl (by first | exact add_i64 (by omega) (by omega) | rfl) ?_
                 refine HPlan.move rfl rfl rfl ?_
                 refine HPlan.fin ?_
                 refine onNorm_n ?_
                 refine ⟨(k + 1, ver + 1), (by show l.l.length - (k + 1) < l.l.length - k; omega), ⟨by show k + 1 ≤ _; omega, hF1⟩, (LessE.less (by repeat (first | exact LessE.nil | refine LessE.same rfl ?_ | refine LessE.own rfl ?_ | refine LessE.eq rfl ?_ (by first | rfl | (congr 1; omega) | simp))) rfl), (by repeat (first | exact Part.refl _ | refine Part.pull (by repeat (first | exact Pull.here | apply Pull.there)) ?_ | refine Part.skip _ ?_ | exact Part.nil _ | exact Part.app _ _ | exact Part.appL _ _ | refine Part.appR _ ?_)), (by repeat (first | exact Part.refl _ | refine Part.pull (by repeat (first | exact Pull.here | apply Pull.there)) ?_ | refine Part.skip _ ?_ | exact Part.nil _ | exact Part.app _ _ | exact Part.appL _ _ | refine Part.appR _ ?_))⟩
           ·
            intro hb9_3
            first
            | exact PrN hb9_3
            | ((try simp only [Pr] at hb9_3); exfalso; omega)
            | (try simp only [Pr] at hb9_3)
              refine HPlan.leftR rfl rfl ?_
              refine HPlan.leftR rfl rfl ?_
              refine HPlan.leftR rfl rfl ?_
              refine HPlan.leftR rfl rfl ?_
              refine HPlan.pickF rfl rfl rfl rfl ?_
              refine HPlan.assign rfl rfl rfl ?_
              refine HPlan.fin ?_
              refine onNorm_n ?_
              refine HWp.cond_f rfl ?_
              refine HWp.skip ?_
              refine onExitH_n ?_
              refine onNorm_n ?_
              refine HWp.text (.rd 0 (.rd 1 (.rd 2 (.act 3 [] .done)))) rfl ?_
              refine HPlan.move rfl rfl rfl ?_
              refine HPlan.fieldAddr rfl rfl rfl rfl q_fo_66_0 rfl ?_
              first
              | refine HPlan.loadI rfl rfl rfl q_sh_9 (by constructor <;> first | rfl | decide | omega | exact Nat.le_refl _ | (simp [digC_len, dgV, LV.cells, readDC_len, readDV, madeDC_len, madeDV, traceDC_len, traceDV]; done) | (simp [digC_len, dgV, LV.cells, readDC_len, readDV, madeDC_len, madeDV, traceDC_len, traceDV]; omega)) (by first | exact (readD_path _) | exact (madeD_path _) | exact (piece_load _) | rfl) ?_
              | refine HPlan.load rfl rfl rfl q_sh_9 (by repeat (first | exact List.Mem.head _ | apply List.Mem.tail | assumption)) (by constructor <;> first | rfl | decide | omega | exact Nat.le_refl _ | (simp [digC_len, dgV, LV.cells, readDC_len, readDV, madeDC_len, madeDV, traceDC_len, traceDV]; done) | (simp [digC_len, dgV, LV.cells, readDC_len, readDV, madeDC_len, madeDV, traceDC_len, traceDV]; omega)) (by first | exact (readD_path _) | exact (madeD_path _) | exact (piece_load _) | rfl) ?_
              have hF1 : readsF l.l = readsAt l.l (k + 1) := hF.trans (readsAt_step (by omega) (by simpa using hc13) hc18 (by first | (intro hh; rw [hb9_3] at hh; cases hh.1; done) | (intro hh; exact hh.2 hc23)))
              refine HPlan.mapUpdate rfl rfl rfl rfl rfl q_mt_124 q_kk_9 rfl (met_fits _) ((put_met hc18).trans (congrArg metV (path_step (by omega)))) (by repeat (first | exact Upd.here | apply Upd.there)) keptH_nil ?_
              refine HPlan.fin ?_
              refine onExitH_n ?_
              refine onNorm_n ?_
              refine HWp.text (.rd 0 (.rd 1 .done)) rfl ?_
              refine HPlan.intBin rfl rfl rfl rfl rfl (by first | exact add_i64 (by omega) (by omega) | rfl) ?_
              refine HPlan.move rfl rfl rfl ?_
              refine HPlan.fin ?_
              refine onNorm_n ?_
              refine ⟨(k + 1, ver + 1), (by show l.l.length - (k + 1) < l.l.length - k; omega), ⟨by show k + 1 ≤ _; omega, hF1⟩, (LessE.less (by repeat (first | exact LessE.nil | refine LessE.same rfl ?_ | refine LessE.own rfl ?_ | refine LessE.eq rfl ?_ (by first | rfl | (congr 1; omega) | simp))) rfl), (by repeat (first | exact Part.refl _ | refine Part.pull (by repeat (first | exact Pull.here | apply Pull.there)) ?_ | refine Part.skip _ ?_ | exact Part.nil _ | exact Part.app _ _ | exact Part.appL _ _ | refine Part.appR _ ?_)), (by repeat (first | exact Part.refl _ | refine Part.pull (by repeat (first | exact Pull.here | apply Pull.there)) ?_ | refine Part.skip _ ?_ | exact Part.nil _ | exact Part.app _ _ | exact Part.appL _ _ | refine Part.appR _ ?_))⟩
  ·
   intro hc10
   first
   | exact PrN hc10
   | ((try simp only [Pr] at hc10); exfalso; omega)
   | (try simp only [Pr] at hc10)
     refine HWp.exit ?_
     refine onNorm_e ?_
     refine onNorm_e ?_
     obtain rfl : k = l.l.length := by omega
     refine onExitH_hit ?_
     refine onNorm_n ?_
     refine HWp.seq ?_
     refine HWp.text (.rd 0 .done) rfl ?_
     refine HPlan.assign rfl rfl rfl ?_
     refine HPlan.fin ?_
     refine onNorm_n ?_
     refine HWp.ret ?_
     refine retQ_r (.tmp rfl .nil) ?_
     refine endK_of ⟨?_, rfl, rfl⟩ (by repeat (first | exact Part.refl _ | refine Part.pull (by repeat (first | exact Pull.here | apply Pull.there)) ?_ | refine Part.skip _ ?_ | exact Part.nil _ | exact Part.app _ _ | exact Part.appL _ _ | refine Part.appR _ ?_)) (by repeat (first | exact Part.refl _ | refine Part.pull (by repeat (first | exact Pull.here | apply Pull.there)) ?_ | refine Part.skip _ ?_ | exact Part.nil _ | exact Part.app _ _ | exact Part.appL _ _ | refine Part.appR _ ?_))
     refine congrArg (LV.int .i64) ?_
     rw [hF]
     first
     | exact (readsAt_end _).symm
     | exact (readsAt_1 (by omega) (by simpa using hc13)).symm
     | exact (readsAt_8 (by omega) (by simpa using hc13) hc18).symm
     | exact (readsAt_5 (by omega) (by simpa using hc13) hc18 ⟨hb9_3, hc23⟩).symm
end Go.Proofs.YthfoobfgdakbmaaDoor

set_option linter.unusedVariables false
set_option linter.unusedSimpArgs false
set_option maxRecDepth 100000
namespace Go.Proofs.YthfoobfgdakbmaaDoor
open Go Go.RowKit Go.L
theorem q_zo_73 : zeroOf Tryd.prog 73 = some (LV.agg [(LV.str .empty), (LV.int .u8 0), (LV.int .u8 0), (LV.int .u8 0), (LV.int .u8 0), (LV.int .u8 0), (LV.int .u8 0), (LV.int .u8 0), (LV.int .u8 0), (LV.int .u8 0), (LV.int .u8 0), (LV.int .u8 0), (LV.int .u8 0), (LV.int .u8 0), (LV.int .u8 0), (LV.int .u8 0), (LV.int .u8 0), (LV.int .u8 0), (LV.int .u8 0), (LV.int .u8 0), (LV.int .u8 0), (LV.int .u8 0), (LV.int .u8 0), (LV.int .u8 0), (LV.int .u8 0), (LV.int .u8 0), (LV.int .u8 0), (LV.int .u8 0), (LV.int .u8 0), (LV.int .u8 0), (LV.int .u8 0), (LV.int .u8 0), (LV.int .u8 0)]) := by kernel_rfl
theorem q_sz_73 : sizeOfT Tryd.prog 73 = some 33 := by kernel_rfl
theorem q_en_89 : enterable Tryd.prog 89 = true := by kernel_rfl
theorem q_f_60 : Tryd.prog.funcs[60]? = some Tryd.f60 := by kernel_rfl

def outB : ByteArray := ⟨#[111, 117, 116]⟩
theorem out_may : mayF outB = true := by decide +kernel
theorem out_ne : outB ≠ ⟨#[]⟩ := by decide +kernel
def prevAt (l : List MadeD) (k : Nat) : Option ByteArray := if k = 0 then none else (l[k - 1]?).map MadeD.path
def outsFrom (prev : Option ByteArray) : List MadeD → Int
  | [] => 0
  | m :: l => if underF m.path outB = false then 1 else if prev = some m.path then 8 else if (match prev with | some p => strLt m.path p | none => false) = true then 2 else outsFrom (some m.path) l
def outsAt (l : List MadeD) (k : Nat) : Int := outsFrom (prevAt l k) (l.drop k)
def outsF (l : List MadeD) : Int := outsAt l 0
theorem outsAt_end (l : List MadeD) : outsAt l l.length = 0 := by
  unfold outsAt; rw [List.drop_length]; rfl
theorem prev_zero (l : List MadeD) : prevAt l 0 = none := rfl
theorem prev_pos {l : List MadeD} {k : Nat} (h0 : 0 < k) (h : k - 1 < l.length) : prevAt l k = some l[k - 1].path := by
  unfold prevAt; rw [if_neg (by omega), List.getElem?_eq_getElem h]; rfl
theorem outsAt_at {l : List MadeD} {k : Nat} (h : k < l.length) : outsAt l k = if underF l[k].path outB = false then 1 else if prevAt l k = some l[k].path then 8 else if (match prevAt l k with | some p => strLt l[k].path p | none => false) = true then 2 else outsAt l (k + 1) := by
  unfold outsAt
  rw [List.drop_eq_getElem_cons h, prev_pos (k := k + 1) (by omega) (by omega)]
  rfl
theorem outsAt_1 {l : List MadeD} {k : Nat} (h : k < l.length) (h1 : underF l[k].path outB = false) : outsAt l k = 1 := by
  rw [outsAt_at h, if_pos h1]
theorem outsAt_8 {l : List MadeD} {k : Nat} (h : k < l.length) (h1 : underF l[k].path outB = true) (h0 : 0 < k) (h2 : l[k - 1].path = l[k].path) : outsAt l k = 8 := by
  rw [outsAt_at h, if_neg (by rw [h1]; exact Bool.false_ne_true.symm), if_pos (by rw [prev_pos h0 (by omega), h2])]
theorem outsAt_2 {l : List MadeD} {k : Nat} (h : k < l.length) (h1 : underF l[k].path outB = true) (h0 : 0 < k) (h2 : l[k - 1].path ≠ l[k].path) (h3 : strLt l[k].path l[k - 1].path = true) : outsAt l k = 2 := by
  rw [outsAt_at h, if_neg (by rw [h1]; exact Bool.false_ne_true.symm), if_neg (by rw [prev_pos h0 (by omega)]; exact fun e => h2 (Option.some.inj e)), prev_pos h0 (by omega), if_pos h3]
theorem outsAt_step {l : List MadeD} {k : Nat} (h : k < l.length) (h1 : underF l[k].path outB = true) (h2 : ∀ h0 : 0 < k, l[k - 1].path ≠ l[k].path ∧ strLt l[k].path l[k - 1].path = false) : outsAt l k = outsAt l (k + 1) := by
  rw [outsAt_at h, if_neg (by rw [h1]; exact Bool.false_ne_true.symm)]
  by_cases h0 : 0 < k
  · obtain ⟨h3, h4⟩ := h2 h0
    rw [prev_pos h0 (by omega), if_neg (fun e => h3 (Option.some.inj e))]
    simp only [h4]
    rfl
  · obtain rfl : k = 0 := by omega
    rw [prev_zero]; rfl

theorem outs_spec (l : SlD 33 madeDV) (hp : ∀ r ∈ l.l, r.path.size < 1073741824) : HPure Tryd.prog 60 [l.v] (.int .i64 (outsF l.l)) := by
 have hsm := l.small
 intro L T
 refine HCalls.enterG q_f_60 rfl ?_
 refine HWp.frame (r' := ⟨46, [(0, l.v)]⟩) rfl ?_
 refine HWp.seq ?_
 refine HWp.text (.rd 0 .done) rfl ?_
 refine HPlan.assign rfl rfl rfl ?_
 refine HPlan.fin ?_
 refine onNorm_n ?_
 refine HWp.seq ?_
 refine HWp.seq ?_
 refine HWp.text (.rd 0 (.rd 1 (.rd 2 .done))) rfl ?_
 refine HPlan.move rfl rfl rfl ?_
 refine HPlan.lenS rfl rfl rfl q_tk_26 (by first | exact IsSl.sl | exact IsSl.nils | assumption | exact growV_isSl (by assumption) | exact SlD.ok _) (by first | rw [List.length_map] | rfl) ?_
 refine HPlan.move rfl rfl rfl ?_
 refine HPlan.fin ?_
 refine onNorm_n ?_
 refine HWp.block ?_
 refine HWp.loopF (α := Nat) (fun k => l.l.length - k) (fun k => k ≤ l.l.length ∧ outsF l.l = outsAt l.l k) (fun k => ⟨46, [(0, l.v), (5, l.v), (6, .int .i64 (l.l.length : Int)), (7, .int .i64 (k : Int))]⟩) (fun k => L) (fun k => T) ?_ ?_
 ·
  refine ⟨0, ⟨Nat.zero_le _, rfl⟩, (LessE.less (by repeat (first | exact LessE.nil | refine LessE.same rfl ?_ | refine LessE.own rfl ?_ | refine LessE.eq rfl ?_ (by first | rfl | (congr 1; omega) | simp))) rfl), (by repeat (first | exact Part.refl _ | refine Part.pull (by repeat (first | exact Pull.here | apply Pull.there)) ?_ | refine Part.skip _ ?_ | exact Part.nil _ | exact Part.app _ _ | exact Part.appL _ _ | refine Part.appR _ ?_)), (by repeat (first | exact Part.refl _ | refine Part.pull (by repeat (first | exact Pull.here | apply Pull.there)) ?_ | refine Part.skip _ ?_ | exact Part.nil _ | exact Part.app _ _ | exact Part.appL _ _ | refine Part.appR _ ?_))⟩
 ·
  rintro k ⟨hk1, hF⟩
  refine HWp.seq ?_
  refine HWp.text (.rd 0 .done) rfl ?_
  refine HPlan.intBin rfl rfl rfl rfl rfl rfl ?_
  refine HPlan.fin ?_
  refine onNorm_n ?_
  refine HWp.seq ?_
  refine HWp.cond rfl ?_ ?_
  ·
   intro hc8
   first
   | exact PrN hc8
   | ((try simp only [Pr] at hc8); exfalso; omega)
   | (try simp only [Pr] at hc8)
     refine HWp.skip ?_
     refine onNorm_n ?_
     refine HWp.seq ?_
     refine HWp.block ?_
     refine HWp.seq ?_
     refine HWp.text (.rd 0 (.rd 1 (.rd 2 (.act 3 [] (.rd 4 (.act 5 [] .done)))))) rfl ?_
     refine HPlan.move rfl rfl rfl ?_
     refine HPlan.indexS rfl rfl rfl rfl q_ix_26 (by first | exact IsSl.sl | exact IsSl.nils | assumption | exact growV_isSl (by assumption) | exact SlD.ok _) (by omega) (by simp only [List.length_map]; omega) (by first | exact at_map (by omega) | rfl) ?_
     first
     | refine HPlan.loadI rfl rfl rfl q_sh_73 (by constructor <;> first | rfl | decide | omega | exact Nat.le_refl _ | (simp [digC_len, dgV, LV.cells, readDC_len, readDV, madeDC_len, madeDV, traceDC_len, traceDV]; done) | (simp [digC_len, dgV, LV.cells, readDC_len, readDV, madeDC_len, madeDV, traceDC_len, traceDV]; omega)) (by first | exact (madeD_all _) | rfl) ?_
     | refine HPlan.load rfl rfl rfl q_sh_73 (by repeat (first | exact List.Mem.head _ | apply List.Mem.tail | assumption)) (by constructor <;> first | rfl | decide | omega | exact Nat.le_refl _ | (simp [digC_len, dgV, LV.cells, readDC_len, readDV, madeDC_len, madeDV, traceDC_len, traceDV]; done) | (simp [digC_len, dgV, LV.cells, readDC_len, readDV, madeDC_len, madeDV, traceDC_len, traceDV]; omega)) (by first | exact (madeD_all _) | rfl) ?_
     refine HPlan.alloc rfl rfl q_zo_73 (by first | rfl | (simp; done)) (fun i4 => ⟨keptH_nil, ?_⟩)
     refine HPlan.assign rfl rfl rfl ?_
     refine HPlan.store rfl rfl rfl rfl q_sz_73 (by first | rfl | (simp; done)) (by first | rfl | decide | omega | (simp [digC_len, dgV, LV.cells, readDC_len, readDV, madeDC_len, madeDV, traceDC_len, traceDV]; done) | (simp [digC_len, dgV, LV.cells, readDC_len, readDV, madeDC_len, madeDV, traceDC_len, traceDV]; omega)) (by repeat (first | exact List.Mem.head _ | apply List.Mem.tail | assumption)) (by first | exact (splice_whole _ (madeDC _) (by rw [madeDC_len]; rfl)) | rfl) (by repeat (first | exact Upd.here | apply Upd.there)) (by first | rfl | decide | omega | (simp [digC_len, dgV, LV.cells, readDC_len, readDV, madeDC_len, madeDV, traceDC_len, traceDV]; done) | (simp [digC_len, dgV, LV.cells, readDC_len, readDV, madeDC_len, madeDV, traceDC_len, traceDV]; omega)) keptH_nil ?_
     refine HPlan.fin ?_
     refine onNorm_n ?_
     refine HWp.block ?_
     refine HWp.seq ?_
     refine HWp.text (.rd 0 (.rd 1 (.act 2 [] (.rd 3 (.rd 4 .done))))) rfl ?_
     refine HPlan.fieldAddr rfl rfl rfl rfl q_fo_73_0 rfl ?_
     first
     | refine HPlan.loadI rfl rfl rfl q_sh_9 (by constructor <;> first | rfl | decide | omega | exact Nat.le_refl _ | (simp [digC_len, dgV, LV.cells, readDC_len, readDV, madeDC_len, madeDV, traceDC_len, traceDV]; done) | (simp [digC_len, dgV, LV.cells, readDC_len, readDV, madeDC_len, madeDV, traceDC_len, traceDV]; omega)) (by first | exact (readD_path _) | exact (madeD_path _) | exact (piece_load _) | rfl) ?_
     | refine HPlan.load rfl rfl rfl q_sh_9 (by repeat (first | exact List.Mem.head _ | apply List.Mem.tail | assumption)) (by constructor <;> first | rfl | decide | omega | exact Nat.le_refl _ | (simp [digC_len, dgV, LV.cells, readDC_len, readDV, madeDC_len, madeDV, traceDC_len, traceDV]; done) | (simp [digC_len, dgV, LV.cells, readDC_len, readDV, madeDC_len, madeDV, traceDC_len, traceDV]; omega)) (by first | exact (readD_path _) | exact (madeD_path _) | exact (piece_load _) | rfl) ?_
     refine HPlan.callPure rfl rfl rfl q_en_89 (under_spec _ outB (hp _ (List.getElem_mem (by omega))) out_ne out_may (by decide)) keptH_nil ?_
     refine HPlan.not rfl rfl rfl rfl ?_
     refine HPlan.assign rfl rfl rfl ?_
     refine HPlan.fin ?_
     refine onNorm_n ?_
     refine HWp.cond rfl ?_ ?_
     ·
      intro hc12
      first
      | exact PrN hc12
      | ((try simp only [Pr] at hc12); exfalso; omega)
      | (try simp only [Pr] at hc12)
        refine HWp.seq ?_
        refine HWp.text (.rd 0 .done) rfl ?_
        refine HPlan.assign rfl rfl rfl ?_
        refine HPlan.fin ?_
        refine onNorm_n ?_
        refine HWp.ret ?_
        refine onExitH_r ?_
        refine onExitH_r ?_
        refine onNorm_r ?_
        refine onNorm_r ?_
        refine onExitH_r ?_
        refine onNorm_r ?_
        refine retQ_r (.tmp rfl .nil) ?_
        refine endK_of ⟨?_, rfl, rfl⟩ (by repeat (first | exact Part.refl _ | refine Part.pull (by repeat (first | exact Pull.here | apply Pull.there)) ?_ | refine Part.skip _ ?_ | exact Part.nil _ | exact Part.app _ _ | exact Part.appL _ _ | refine Part.appR _ ?_)) (by repeat (first | exact Part.refl _ | refine Part.pull (by repeat (first | exact Pull.here | apply Pull.there)) ?_ | refine Part.skip _ ?_ | exact Part.nil _ | exact Part.app _ _ | exact Part.appL _ _ | refine Part.appR _ ?_))
        refine congrArg (LV.int .i64) ?_
        rw [hF]
        first
        | exact (outsAt_end _).symm
        | exact (outsAt_1 (by omega) (by simpa using hc12)).symm
        | exact (outsAt_8 (by omega) (by simpa using hc12) (by omega) hc17.symm).symm
        | exact (outsAt_2 (by omega) (by simpa using hc12) (by omega) (fun e => hc17 e.symm) hc31).symm
     ·
      intro hc12
      first
      | exact PrN hc12
      | ((try simp only [Pr] at hc12); exfalso; omega)
      | (try simp only [Pr] at hc12)
        refine HWp.seq ?_
        refine HWp.draw q_mix (.rd 0 (.rd 1 (.rd 2 (.rd 3 (.rd 4 (.rd 5 (.rd 6 (.rd 7 (.rd 8 (.rd 9 (.rd 10 (.rd 11 (.rd 12 (.rd 13 .done)))))))))))))) (by kernel_rfl) ?_
        refine HPlan.move rfl rfl rfl ?_
        refine HPlan.intBin rfl rfl rfl rfl rfl rfl ?_
        refine HPlan.move rfl rfl rfl ?_
        refine HPlan.split ?_ ?_
        ·
         intro hb6_2
         first
         | exact PrN hb6_2
         | ((try simp only [Pr] at hb6_2); exfalso; omega)
         | (try simp only [Pr] at hb6_2)
           refine HPlan.fieldAddr rfl rfl rfl rfl q_fo_73_0 rfl ?_
           first
           | refine HPlan.loadI rfl rfl rfl q_sh_9 (by constructor <;> first | rfl | decide | omega | exact Nat.le_refl _ | (simp [digC_len, dgV, LV.cells, readDC_len, readDV, madeDC_len, madeDV, traceDC_len, traceDV]; done) | (simp [digC_len, dgV, LV.cells, readDC_len, readDV, madeDC_len, madeDV, traceDC_len, traceDV]; omega)) (by first | exact (readD_path _) | exact (madeD_path _) | exact (piece_load _) | rfl) ?_
           | refine HPlan.load rfl rfl rfl q_sh_9 (by repeat (first | exact List.Mem.head _ | apply List.Mem.tail | assumption)) (by constructor <;> first | rfl | decide | omega | exact Nat.le_refl _ | (simp [digC_len, dgV, LV.cells, readDC_len, readDV, madeDC_len, madeDV, traceDC_len, traceDV]; done) | (simp [digC_len, dgV, LV.cells, readDC_len, readDV, madeDC_len, madeDV, traceDC_len, traceDV]; omega)) (by first | exact (readD_path _) | exact (madeD_path _) | exact (piece_load _) | rfl) ?_
           refine HPlan.move rfl rfl rfl ?_
           refine HPlan.move rfl rfl rfl ?_
           refine HPlan.intBin rfl rfl rfl rfl rfl (sub_one (by omega) (by omega)) ?_
           refine HPlan.indexS rfl rfl rfl rfl q_ix_26 (by first | exact IsSl.sl | exact IsSl.nils | assumption | exact growV_isSl (by assumption) | exact SlD.ok _) (by omega) (by simp only [List.length_map]; omega) (at_map (k := k - 1) (by omega)) ?_
           refine HPlan.fieldAddr rfl rfl rfl rfl q_fo_73_0 rfl ?_
           first
           | refine HPlan.loadI rfl rfl rfl q_sh_9 (by constructor <;> first | rfl | decide | omega | exact Nat.le_refl _ | (simp [digC_len, dgV, LV.cells, readDC_len, readDV, madeDC_len, madeDV, traceDC_len, traceDV]; done) | (simp [digC_len, dgV, LV.cells, readDC_len, readDV, madeDC_len, madeDV, traceDC_len, traceDV]; omega)) (by first | exact (readD_path _) | exact (madeD_path _) | exact (piece_load _) | rfl) ?_
           | refine HPlan.load rfl rfl rfl q_sh_9 (by repeat (first | exact List.Mem.head _ | apply List.Mem.tail | assumption)) (by constructor <;> first | rfl | decide | omega | exact Nat.le_refl _ | (simp [digC_len, dgV, LV.cells, readDC_len, readDV, madeDC_len, madeDV, traceDC_len, traceDV]; done) | (simp [digC_len, dgV, LV.cells, readDC_len, readDV, madeDC_len, madeDV, traceDC_len, traceDV]; omega)) (by first | exact (readD_path _) | exact (madeD_path _) | exact (piece_load _) | rfl) ?_
           refine HPlan.strBin rfl rfl rfl rfl trivial rfl ?_
           refine HPlan.pickT rfl rfl rfl rfl ?_
           refine HPlan.assign rfl rfl rfl ?_
           refine HPlan.fin ?_
           refine onNorm_n ?_
           refine HWp.cond rfl ?_ ?_
           ·
            intro hc17
            first
            | exact PrN hc17
            | ((try simp only [Pr] at hc17); exfalso; omega)
            | (try simp only [Pr] at hc17)
              refine HWp.seq ?_
              refine HWp.text (.rd 0 .done) rfl ?_
              refine HPlan.assign rfl rfl rfl ?_
              refine HPlan.fin ?_
              refine onNorm_n ?_
              refine HWp.ret ?_
              refine onExitH_r ?_
              refine onExitH_r ?_
              refine onNorm_r ?_
              refine onNorm_r ?_
              refine onExitH_r ?_
              refine onNorm_r ?_
              refine retQ_r (.tmp rfl .nil) ?_
              refine endK_of ⟨?_, rfl, rfl⟩ (by repeat (first | exact Part.refl _ | refine Part.pull (by repeat (first | exact Pull.here | apply Pull.there)) ?_ | refine Part.skip _ ?_ | exact Part.nil _ | exact Part.app _ _ | exact Part.appL _ _ | refine Part.appR _ ?_)) (by repeat (first | exact Part.refl _ | refine Part.pull (by repeat (first | exact Pull.here | apply Pull.there)) ?_ | refine Part.skip _ ?_ | exact Part.nil _ | exact Part.app _ _ | exact Part.appL _ _ | refine Part.appR _ ?_))
              refine congrArg (LV.int .i64) ?_
              rw [hF]
              first
              | exact (outsAt_end _).symm
              | exact (outsAt_1 (by omega) (by simpa using hc12)).symm
              | exact (outsAt_8 (by omega) (by simpa using hc12) (by omega) hc17.symm).symm
              | exact (outsAt_2 (by omega) (by simpa using hc12) (by omega) (fun e => hc17 e.symm) hc31).symm
           ·
            intro hc17
            first
            | exact PrN hc17
            | ((try simp only [Pr] at hc17); exfalso; omega)
            | (try simp only [Pr] at hc17)
              refine HWp.seq ?_
              refine HWp.draw q_mix (.rd 0 (.rd 1 (.rd 2 (.rd 3 (.rd 4 (.rd 5 (.rd 6 (.rd 7 (.rd 8 (.rd 9 (.rd 10 (.rd 11 (.rd 12 (.rd 13 .done)))))))))))))) (by kernel_rfl) ?_
              refine HPlan.move rfl rfl rfl ?_
              refine HPlan.intBin rfl rfl rfl rfl rfl rfl ?_
              refine HPlan.move rfl rfl rfl ?_
              refine HPlan.split ?_ ?_
              ·
               intro hb8_2
               first
               | exact PrN hb8_2
               | ((try simp only [Pr] at hb8_2); exfalso; omega)
               | (try simp only [Pr] at hb8_2)
                 refine HPlan.fieldAddr rfl rfl rfl rfl q_fo_73_0 rfl ?_
                 first
                 | refine HPlan.loadI rfl rfl rfl q_sh_9 (by constructor <;> first | rfl | decide | omega | exact Nat.le_refl _ | (simp [digC_len, dgV, LV.cells, readDC_len, readDV, madeDC_len, madeDV, traceDC_len, traceDV]; done) | (simp [digC_len, dgV, LV.cells, readDC_len, readDV, madeDC_len, madeDV, traceDC_len, traceDV]; omega)) (by first | exact (readD_path _) | exact (madeD_path _) | exact (piece_load _) | rfl) ?_
                 | refine HPlan.load rfl rfl rfl q_sh_9 (by repeat (first | exact List.Mem.head _ | apply List.Mem.tail | assumption)) (by constructor <;> first | rfl | decide | omega | exact Nat.le_refl _ | (simp [digC_len, dgV, LV.cells, readDC_len, readDV, madeDC_len, madeDV, traceDC_len, traceDV]; done) | (simp [digC_len, dgV, LV.cells, readDC_len, readDV, madeDC_len, madeDV, traceDC_len, traceDV]; omega)) (by first | exact (readD_path _) | exact (madeD_path _) | exact (piece_load _) | rfl) ?_
                 refine HPlan.move rfl rfl rfl ?_
                 refine HPlan.move rfl rfl rfl ?_
                 refine HPlan.intBin rfl rfl rfl rfl rfl (sub_one (by omega) (by omega)) ?_
                 refine HPlan.indexS rfl rfl rfl rfl q_ix_26 (by first | exact IsSl.sl | exact IsSl.nils | assumption | exact growV_isSl (by assumption) | exact SlD.ok _) (by omega) (by simp only [List.length_map]; omega) (at_map (k := k - 1) (by omega)) ?_
                 refine HPlan.fieldAddr rfl rfl rfl rfl q_fo_73_0 rfl ?_
                 first
                 | refine HPlan.loadI rfl rfl rfl q_sh_9 (by constructor <;> first | rfl | decide | omega | exact Nat.le_refl _ | (simp [digC_len, dgV, LV.cells, readDC_len, readDV, madeDC_len, madeDV, traceDC_len, traceDV]; done) | (simp [digC_len, dgV, LV.cells, readDC_len, readDV, madeDC_len, madeDV, traceDC_len, traceDV]; omega)) (by first | exact (readD_path _) | exact (madeD_path _) | exact (piece_load _) | rfl) ?_
                 | refine HPlan.load rfl rfl rfl q_sh_9 (by repeat (first | exact List.Mem.head _ | apply List.Mem.tail | assumption)) (by constructor <;> first | rfl | decide | omega | exact Nat.le_refl _ | (simp [digC_len, dgV, LV.cells, readDC_len, readDV, madeDC_len, madeDV, traceDC_len, traceDV]; done) | (simp [digC_len, dgV, LV.cells, readDC_len, readDV, madeDC_len, madeDV, traceDC_len, traceDV]; omega)) (by first | exact (readD_path _) | exact (madeD_path _) | exact (piece_load _) | rfl) ?_
                 refine HPlan.strBin rfl rfl rfl rfl trivial rfl ?_
                 refine HPlan.pickT rfl rfl rfl rfl ?_
                 refine HPlan.assign rfl rfl rfl ?_
                 refine HPlan.fin ?_
                 refine onNorm_n ?_
                 refine HWp.cond rfl ?_ ?_
                 ·
                  intro hc31
                  first
                  | exact PrN hc31
                  | ((try simp only [Pr] at hc31); exfalso; omega)
                  | (try simp only [Pr] at hc31)
                    refine HWp.seq ?_
                    refine HWp.text (.rd 0 .done) rfl ?_
                    refine HPlan.assign rfl rfl rfl ?_
                    refine HPlan.fin ?_
                    refine onNorm_n ?_
                    refine HWp.ret ?_
                    refine onExitH_r ?_
                    refine onExitH_r ?_
                    refine onNorm_r ?_
                    refine onNorm_r ?_
                    refine onExitH_r ?_
                    refine onNorm_r ?_
                    refine retQ_r (.tmp rfl .nil) ?_
                    refine endK_of ⟨?_, rfl, rfl⟩ (by repeat (first | exact Part.refl _ | refine Part.pull (by repeat (first | exact Pull.here | apply Pull.there)) ?_ | refine Part.skip _ ?_ | exact Part.nil _ | exact Part.app _ _ | exact Part.appL _ _ | refine Part.appR _ ?_)) (by repeat (first | exact Part.refl _ | refine Part.pull (by repeat (first | exact Pull.here | apply Pull.there)) ?_ | refine Part.skip _ ?_ | exact Part.nil _ | exact Part.app _ _ | exact Part.appL _ _ | refine Part.appR _ ?_))
                    refine congrArg (LV.int .i64) ?_
                    rw [hF]
                    first
                    | exact (outsAt_end _).symm
                    | exact (outsAt_1 (by omega) (by simpa using hc12)).symm
                    | exact (outsAt_8 (by omega) (by simpa using hc12) (by omega) hc17.symm).symm
                    | exact (outsAt_2 (by omega) (by simpa using hc12) (by omega) (fun e => hc17 e.symm) hc31).symm
                 ·
                  intro hc31
                  first
                  | exact PrN hc31
                  | ((try simp only [Pr] at hc31); exfalso; omega)
                  | (try simp only [Pr] at hc31)
                    refine HWp.skip ?_
                    refine onExitH_n ?_
                    refine onExitH_n ?_
                    refine onNorm_n ?_
                    refine HWp.text (.rd 0 (.rd 1 .done)) rfl ?_
                    have hF1 : outsF l.l = outsAt l.l (k + 1) := hF.trans (outsAt_step (by omega) (by simpa using hc12) (fun h0 => by first | omega | exact ⟨fun e => hc17 e.symm, by simpa using hc31⟩))
                    refine HPlan.intBin rfl rfl rfl rfl rfl (by first | exact add_i64 (by omega) (by omega) | rfl) ?_
                    refine HPlan.move rfl rfl rfl ?_
                    refine HPlan.fin ?_
                    refine onNorm_n ?_
                    refine ⟨(k + 1), (by omega), ⟨by omega, hF1⟩, (LessE.less (by repeat (first | exact LessE.nil | refine LessE.same rfl ?_ | refine LessE.own rfl ?_ | refine LessE.eq rfl ?_ (by first | rfl | (congr 1; omega) | simp))) rfl), (by repeat (first | exact Part.refl _ | refine Part.pull (by repeat (first | exact Pull.here | apply Pull.there)) ?_ | refine Part.skip _ ?_ | exact Part.nil _ | exact Part.app _ _ | exact Part.appL _ _ | refine Part.appR _ ?_)), (by repeat (first | exact Part.refl _ | refine Part.pull (by repeat (first | exact Pull.here | apply Pull.there)) ?_ | refine Part.skip _ ?_ | exact Part.nil _ | exact Part.app _ _ | exact Part.appL _ _ | refine Part.appR _ ?_))⟩
              ·
               intro hb8_2
               first
               | exact PrN hb8_2
               | ((try simp only [Pr] at hb8_2); exfalso; omega)
               | (try simp only [Pr] at hb8_2)
                 refine HPlan.leftR rfl rfl ?_
                 refine HPlan.leftR rfl rfl ?_
                 refine HPlan.leftR rfl rfl ?_
                 refine HPlan.leftR rfl rfl ?_
                 refine HPlan.leftR rfl rfl ?_
                 refine HPlan.leftR rfl rfl ?_
                 refine HPlan.leftR rfl rfl ?_
                 refine HPlan.leftR rfl rfl ?_
                 refine HPlan.leftR rfl rfl ?_
                 refine HPlan.pickF rfl rfl rfl rfl ?_
                 refine HPlan.assign rfl rfl rfl ?_
                 refine HPlan.fin ?_
                 refine onNorm_n ?_
                 refine HWp.cond_f rfl ?_
                 refine HWp.skip ?_
                 refine onExitH_n ?_
                 refine onExitH_n ?_
                 refine onNorm_n ?_
                 refine HWp.text (.rd 0 (.rd 1 .done)) rfl ?_
                 have hF1 : outsF l.l = outsAt l.l (k + 1) := hF.trans (outsAt_step (by omega) (by simpa using hc12) (fun h0 => by first | omega | exact ⟨fun e => hc17 e.symm, by simpa using hc31⟩))
                 refine HPlan.intBin rfl rfl rfl rfl rfl (by first | exact add_i64 (by omega) (by omega) | rfl) ?_
                 refine HPlan.move rfl rfl rfl ?_
                 refine HPlan.fin ?_
                 refine onNorm_n ?_
                 refine ⟨(k + 1), (by omega), ⟨by omega, hF1⟩, (LessE.less (by repeat (first | exact LessE.nil | refine LessE.same rfl ?_ | refine LessE.own rfl ?_ | refine LessE.eq rfl ?_ (by first | rfl | (congr 1; omega) | simp))) rfl), (by repeat (first | exact Part.refl _ | refine Part.pull (by repeat (first | exact Pull.here | apply Pull.there)) ?_ | refine Part.skip _ ?_ | exact Part.nil _ | exact Part.app _ _ | exact Part.appL _ _ | refine Part.appR _ ?_)), (by repeat (first | exact Part.refl _ | refine Part.pull (by repeat (first | exact Pull.here | apply Pull.there)) ?_ | refine Part.skip _ ?_ | exact Part.nil _ | exact Part.app _ _ | exact Part.appL _ _ | refine Part.appR _ ?_))⟩
        ·
         intro hb6_2
         first
         | exact PrN hb6_2
         | ((try simp only [Pr] at hb6_2); exfalso; omega)
         | (try simp only [Pr] at hb6_2)
           refine HPlan.leftR rfl rfl ?_
           refine HPlan.leftR rfl rfl ?_
           refine HPlan.leftR rfl rfl ?_
           refine HPlan.leftR rfl rfl ?_
           refine HPlan.leftR rfl rfl ?_
           refine HPlan.leftR rfl rfl ?_
           refine HPlan.leftR rfl rfl ?_
           refine HPlan.leftR rfl rfl ?_
           refine HPlan.leftR rfl rfl ?_
           refine HPlan.pickF rfl rfl rfl rfl ?_
           refine HPlan.assign rfl rfl rfl ?_
           refine HPlan.fin ?_
           refine onNorm_n ?_
           refine HWp.cond_f rfl ?_
           refine HWp.seq ?_
           refine HWp.draw q_mix (.rd 0 (.rd 1 (.rd 2 (.rd 3 (.rd 4 (.rd 5 (.rd 6 (.rd 7 (.rd 8 (.rd 9 (.rd 10 (.rd 11 (.rd 12 (.rd 13 .done)))))))))))))) (by kernel_rfl) ?_
           refine HPlan.move rfl rfl rfl ?_
           refine HPlan.intBin rfl rfl rfl rfl rfl rfl ?_
           refine HPlan.move rfl rfl rfl ?_
           refine HPlan.split ?_ ?_
           ·
            intro hb8_2
            first
            | exact PrN hb8_2
            | ((try simp only [Pr] at hb8_2); exfalso; omega)
            | (try simp only [Pr] at hb8_2)
              refine HPlan.fieldAddr rfl rfl rfl rfl q_fo_73_0 rfl ?_
              first
              | refine HPlan.loadI rfl rfl rfl q_sh_9 (by constructor <;> first | rfl | decide | omega | exact Nat.le_refl _ | (simp [digC_len, dgV, LV.cells, readDC_len, readDV, madeDC_len, madeDV, traceDC_len, traceDV]; done) | (simp [digC_len, dgV, LV.cells, readDC_len, readDV, madeDC_len, madeDV, traceDC_len, traceDV]; omega)) (by first | exact (readD_path _) | exact (madeD_path _) | exact (piece_load _) | rfl) ?_
              | refine HPlan.load rfl rfl rfl q_sh_9 (by repeat (first | exact List.Mem.head _ | apply List.Mem.tail | assumption)) (by constructor <;> first | rfl | decide | omega | exact Nat.le_refl _ | (simp [digC_len, dgV, LV.cells, readDC_len, readDV, madeDC_len, madeDV, traceDC_len, traceDV]; done) | (simp [digC_len, dgV, LV.cells, readDC_len, readDV, madeDC_len, madeDV, traceDC_len, traceDV]; omega)) (by first | exact (readD_path _) | exact (madeD_path _) | exact (piece_load _) | rfl) ?_
              refine HPlan.move rfl rfl rfl ?_
              refine HPlan.move rfl rfl rfl ?_
              refine HPlan.intBin rfl rfl rfl rfl rfl (sub_one (by omega) (by omega)) ?_
              refine HPlan.indexS rfl rfl rfl rfl q_ix_26 (by first | exact IsSl.sl | exact IsSl.nils | assumption | exact growV_isSl (by assumption) | exact SlD.ok _) (by omega) (by simp only [List.length_map]; omega) (at_map (k := k - 1) (by omega)) ?_
              refine HPlan.fieldAddr rfl rfl rfl rfl q_fo_73_0 rfl ?_
              first
              | refine HPlan.loadI rfl rfl rfl q_sh_9 (by constructor <;> first | rfl | decide | omega | exact Nat.le_refl _ | (simp [digC_len, dgV, LV.cells, readDC_len, readDV, madeDC_len, madeDV, traceDC_len, traceDV]; done) | (simp [digC_len, dgV, LV.cells, readDC_len, readDV, madeDC_len, madeDV, traceDC_len, traceDV]; omega)) (by first | exact (readD_path _) | exact (madeD_path _) | exact (piece_load _) | rfl) ?_
              | refine HPlan.load rfl rfl rfl q_sh_9 (by repeat (first | exact List.Mem.head _ | apply List.Mem.tail | assumption)) (by constructor <;> first | rfl | decide | omega | exact Nat.le_refl _ | (simp [digC_len, dgV, LV.cells, readDC_len, readDV, madeDC_len, madeDV, traceDC_len, traceDV]; done) | (simp [digC_len, dgV, LV.cells, readDC_len, readDV, madeDC_len, madeDV, traceDC_len, traceDV]; omega)) (by first | exact (readD_path _) | exact (madeD_path _) | exact (piece_load _) | rfl) ?_
              refine HPlan.strBin rfl rfl rfl rfl trivial rfl ?_
              refine HPlan.pickT rfl rfl rfl rfl ?_
              refine HPlan.assign rfl rfl rfl ?_
              refine HPlan.fin ?_
              refine onNorm_n ?_
              refine HWp.cond rfl ?_ ?_
              ·
               intro hc31
               first
               | exact PrN hc31
               | ((try simp only [Pr] at hc31); exfalso; omega)
               | (try simp only [Pr] at hc31)
                 refine HWp.seq ?_
                 refine HWp.text (.rd 0 .done) rfl ?_
                 refine HPlan.assign rfl rfl rfl ?_
                 refine HPlan.fin ?_
                 refine onNorm_n ?_
                 refine HWp.ret ?_
                 refine onExitH_r ?_
                 refine onExitH_r ?_
                 refine onNorm_r ?_
                 refine onNorm_r ?_
                 refine onExitH_r ?_
                 refine onNorm_r ?_
                 refine retQ_r (.tmp rfl .nil) ?_
                 refine endK_of ⟨?_, rfl, rfl⟩ (by repeat (first | exact Part.refl _ | refine Part.pull (by repeat (first | exact Pull.here | apply Pull.there)) ?_ | refine Part.skip _ ?_ | exact Part.nil _ | exact Part.app _ _ | exact Part.appL _ _ | refine Part.appR _ ?_)) (by repeat (first | exact Part.refl _ | refine Part.pull (by repeat (first | exact Pull.here | apply Pull.there)) ?_ | refine Part.skip _ ?_ | exact Part.nil _ | exact Part.app _ _ | exact Part.appL _ _ | refine Part.appR _ ?_))
                 refine congrArg (LV.int .i64) ?_
                 rw [hF]
                 first
                 | exact (outsAt_end _).symm
                 | exact (outsAt_1 (by omega) (by simpa using hc12)).symm
                 | exact (outsAt_8 (by omega) (by simpa using hc12) (by omega) hc17.symm).symm
                 | exact (outsAt_2 (by omega) (by simpa using hc12) (by omega) (fun e => hc17 e.symm) hc31).symm
              ·
               intro hc31
               first
               | exact PrN hc31
               | ((try simp only [Pr] at hc31); exfalso; omega)
               | (try simp only [Pr] at hc31)
                 refine HWp.skip ?_
                 refine onExitH_n ?_
                 refine onExitH_n ?_
                 refine onNorm_n ?_
                 refine HWp.text (.rd 0 (.rd 1 .done)) rfl ?_
                 have hF1 : outsF l.l = outsAt l.l (k + 1) := hF.trans (outsAt_step (by omega) (by simpa using hc12) (fun h0 => by first | omega | exact ⟨fun e => hc17 e.symm, by simpa using hc31⟩))
                 refine HPlan.intBin rfl rfl rfl rfl rfl (by first | exact add_i64 (by omega) (by omega) | rfl) ?_
                 refine HPlan.move rfl rfl rfl ?_
                 refine HPlan.fin ?_
                 refine onNorm_n ?_
                 refine ⟨(k + 1), (by omega), ⟨by omega, hF1⟩, (LessE.less (by repeat (first | exact LessE.nil | refine LessE.same rfl ?_ | refine LessE.own rfl ?_ | refine LessE.eq rfl ?_ (by first | rfl | (congr 1; omega) | simp))) rfl), (by repeat (first | exact Part.refl _ | refine Part.pull (by repeat (first | exact Pull.here | apply Pull.there)) ?_ | refine Part.skip _ ?_ | exact Part.nil _ | exact Part.app _ _ | exact Part.appL _ _ | refine Part.appR _ ?_)), (by repeat (first | exact Part.refl _ | refine Part.pull (by repeat (first | exact Pull.here | apply Pull.there)) ?_ | refine Part.skip _ ?_ | exact Part.nil _ | exact Part.app _ _ | exact Part.appL _ _ | refine Part.appR _ ?_))⟩
           ·
            intro hb8_2
            first
            | exact PrN hb8_2
            | ((try simp only [Pr] at hb8_2); exfalso; omega)
            | (try simp only [Pr] at hb8_2)
              refine HPlan.leftR rfl rfl ?_
              refine HPlan.leftR rfl rfl ?_
              refine HPlan.leftR rfl rfl ?_
              refine HPlan.leftR rfl rfl ?_
              refine HPlan.leftR rfl rfl ?_
              refine HPlan.leftR rfl rfl ?_
              refine HPlan.leftR rfl rfl ?_
              refine HPlan.leftR rfl rfl ?_
              refine HPlan.leftR rfl rfl ?_
              refine HPlan.pickF rfl rfl rfl rfl ?_
              refine HPlan.assign rfl rfl rfl ?_
              refine HPlan.fin ?_
              refine onNorm_n ?_
              refine HWp.cond_f rfl ?_
              refine HWp.skip ?_
              refine onExitH_n ?_
              refine onExitH_n ?_
              refine onNorm_n ?_
              refine HWp.text (.rd 0 (.rd 1 .done)) rfl ?_
              have hF1 : outsF l.l = outsAt l.l (k + 1) := hF.trans (outsAt_step (by omega) (by simpa using hc12) (fun h0 => by first | omega | exact ⟨fun e => hc17 e.symm, by simpa using hc31⟩))
              refine HPlan.intBin rfl rfl rfl rfl rfl (by first | exact add_i64 (by omega) (by omega) | rfl) ?_
              refine HPlan.move rfl rfl rfl ?_
              refine HPlan.fin ?_
              refine onNorm_n ?_
              refine ⟨(k + 1), (by omega), ⟨by omega, hF1⟩, (LessE.less (by repeat (first | exact LessE.nil | refine LessE.same rfl ?_ | refine LessE.own rfl ?_ | refine LessE.eq rfl ?_ (by first | rfl | (congr 1; omega) | simp))) rfl), (by repeat (first | exact Part.refl _ | refine Part.pull (by repeat (first | exact Pull.here | apply Pull.there)) ?_ | refine Part.skip _ ?_ | exact Part.nil _ | exact Part.app _ _ | exact Part.appL _ _ | refine Part.appR _ ?_)), (by repeat (first | exact Part.refl _ | refine Part.pull (by repeat (first | exact Pull.here | apply Pull.there)) ?_ | refine Part.skip _ ?_ | exact Part.nil _ | exact Part.app _ _ | exact Part.appL _ _ | refine Part.appR _ ?_))⟩
  ·
   intro hc8
   first
   | exact PrN hc8
   | ((try simp only [Pr] at hc8); exfalso; omega)
   | (try simp only [Pr] at hc8)
     refine HWp.exit ?_
     refine onNorm_e ?_
     refine onNorm_e ?_
     obtain rfl : k = l.l.length := by omega
     refine onExitH_hit ?_
     refine onNorm_n ?_
     refine HWp.seq ?_
     refine HWp.text (.rd 0 .done) rfl ?_
     refine HPlan.assign rfl rfl rfl ?_
     refine HPlan.fin ?_
     refine onNorm_n ?_
     refine HWp.ret ?_
     refine retQ_r (.tmp rfl .nil) ?_
     refine endK_of ⟨?_, rfl, rfl⟩ (by repeat (first | exact Part.refl _ | refine Part.pull (by repeat (first | exact Pull.here | apply Pull.there)) ?_ | refine Part.skip _ ?_ | exact Part.nil _ | exact Part.app _ _ | exact Part.appL _ _ | refine Part.appR _ ?_)) (by repeat (first | exact Part.refl _ | refine Part.pull (by repeat (first | exact Pull.here | apply Pull.there)) ?_ | refine Part.skip _ ?_ | exact Part.nil _ | exact Part.app _ _ | exact Part.appL _ _ | refine Part.appR _ ?_))
     refine congrArg (LV.int .i64) ?_
     rw [hF]
     first
     | exact (outsAt_end _).symm
     | exact (outsAt_1 (by omega) (by simpa using hc12)).symm
     | exact (outsAt_8 (by omega) (by simpa using hc12) (by omega) hc17.symm).symm
     | exact (outsAt_2 (by omega) (by simpa using hc12) (by omega) (fun e => hc17 e.symm) hc31).symm
end Go.Proofs.YthfoobfgdakbmaaDoor
