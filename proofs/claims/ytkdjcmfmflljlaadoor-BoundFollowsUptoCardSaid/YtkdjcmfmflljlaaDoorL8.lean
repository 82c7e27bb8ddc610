/- BoundFollows's function answers true. Own work of this session. -/
import Derived.Test.YtkdjcmfmflljlaaDoorS5
import Derived.Test.YtkdjcmfmflljlaaDoorWalkF
set_option linter.unusedVariables false
namespace Go.Hw
open Go

section
variable {H H0 : Hp} {V : Nat → VT} {rels : List RelM} {and : List Bool}
theorem vals_lay {H' : Hp} {b : Nat} (h : Row H b 26 (valsRow V)) {i : Int} (hi : 0 ≤ i ∧ i < 6) (v : VT) :
    mayw H (Addr.add ⟨b, 0, none⟩ (i.toNat * 4)) 4 0 ∧ (H' = sets H (Addr.add ⟨b, 0, none⟩ (i.toNat * 4)) v.row 0 → Row H' b 26 (valsRow fun j => if j = i.toNat then v else V j)) := by
  obtain ⟨h1, h2⟩ := hi
  rw [add_mk]
  have : i = 0 ∨ i = 1 ∨ i = 2 ∨ i = 3 ∨ i = 4 ∨ i = 5 := by omega
  rcases this with rfl | rfl | rfl | rfl | rfl | rfl
  all_goals exact ⟨h.mayw (by simp), fun e => h.sets' e (by simp)⟩
abbrev intsRow (n : Nat → Int) : List Value := [.int .i64 (n 0), .int .i64 (n 1), .int .i64 (n 2), .int .i64 (n 3), .int .i64 (n 4), .int .i64 (n 5)]
theorem ints_at {n : Nat → Int} {b : Nat} (h : Row H b 45 (intsRow n)) {i : Int} (hi : 0 ≤ i ∧ i < 6) : cell H (Addr.add ⟨b, 0, none⟩ (i.toNat * 1)) = some (.int .i64 (n i.toNat)) := by
  obtain ⟨h1, h2⟩ := hi
  have : i = 0 ∨ i = 1 ∨ i = 2 ∨ i = 3 ∨ i = 4 ∨ i = 5 := by omega
  rcases this with rfl | rfl | rfl | rfl | rfl | rfl
  all_goals exact rowc h rfl
theorem c15 {x : RelM} {Q : Bool → Hp → Prop} (hQ : ∀ H', Kp No H H' → Q (numR x) H') : F15 x.o x.l x.r x.c.k x.c.n x.c.s x.c.b x.f H Q := by
  intro H1 e1
  have k1 : Kp No H H1 := (Kp.refl No H).push' e1
  have x1 : Row H1 H.size 31 (rlF.f x) := Row.new' e1
  have hq := hQ H1 k1
  unfold numR at hq
  refine ⟨_, rowc (i := 7) x1 rfl, fun f => ⟨_, rowc (i := 7) x1 rfl, fun g => ?_, fun g => ⟨_, rowc (i := 3) x1 rfl, ?_⟩⟩, fun f => ?_⟩
  · rw [if_pos (of_decide_eq_true f), if_pos (of_decide_eq_true g)] at hq; exact hq
  · rw [if_pos (of_decide_eq_true f), if_neg (of_decide_eq_false g)] at hq; exact hq
  · rw [if_neg (of_decide_eq_false f)] at hq; exact hq
/-- The relations of numbers, picked. -/
theorem c5_L2 {rl an : Sl} {nb : Addr} {Q : Bool → Hp → Prop} (hr : RdL rlF H rl rels) (hn : rels.length ≤ 40) (hQ : ∀ sl H', Lst rlF H' sl (rels.filter numR) → Kp No H H' → F5_1 Q an nb sl H') : F5_L2 Q an nb rl Sl.nil 0 H := by
  have hln := hr.n
  intro X hX
  suffices ∀ d i r H', i + d = rels.length → Lst rlF H' r ((rels.take i).filter numR) → (∀ b, r.at b → H.size ≤ b) → Kp No H H' → X r i H' from this _ 0 Sl.nil H (Nat.zero_add _) (Lst.nil _ _) (fun b hb => by cases hb) (Kp.refl _ _)
  intro d
  induction d with
  | zero =>
    intro i r H' hi lr br k
    rw [List.take_of_length_le (by omega)] at lr
    exact hX _ _ _ ⟨fun hh => absurd (of_decide_eq_true hh) (by omega), fun _ => hQ r H' lr k⟩
  | succ d ih =>
    intro i r H' hi lr br k
    obtain ⟨x, gx⟩ : ∃ x, rels[i]? = some x := ⟨_, List.getElem?_eq_getElem (by omega)⟩
    have htk := take_snoc gx
    obtain ⟨a, ea, han, ca⟩ := (hr.kp0 k).get gx
    have en : ((i : Nat) : Int).toNat = i := by omega
    refine hX _ _ _ ⟨fun _ => ⟨a, ea, by omega, by omega, _, _, _, _, _, _, _, _, by rw [en]; exact ca, c15 fun H35 k35 => ⟨fun hx => ?_, fun hx => ?_⟩⟩, fun hh => absurd (of_decide_eq_false hh) (by omega)⟩
    · obtain ⟨a', ea', _, ca'⟩ := (hr.kp0 (k.no2 k35)).get gx
      rw [ea] at ea'; cases ea'
      refine ⟨a, ea, by omega, by omega, _, _, _, _, _, _, _, _, by rw [en]; exact ca', fun H52 e52 => ?_⟩
      have k52 : Kp No H35 H52 := (Kp.refl _ _).push' e52
      have b52 : Row H52 H35.size 31 (rlF.f x) := Row.new' e52
      have hl : ((rels.take i).filter numR).length ≤ 40 := by have := List.length_filter_le numR (rels.take i); rw [List.length_take] at this; omega
      have kA := k35.no2 k52
      refine (lr.kp kA fun _ _ => id).append1 b52 rfl (by omega) (by omega) fun r56 H54 l54 k54 b54 => ?_
      unfold F5_3
      rw [wr (by omega) (by omega), show ((i : Int) + 1) = ((i + 1 : Nat) : Int) by omega]
      refine ih (i + 1) r56 H54 (by omega) ?_ (fun b hb => ?_) ((k.no2 kA).trans k54 fun b hb => .inr (br b hb))
      · rw [htk, List.filter_append, List.filter_cons_of_pos hx]; exact l54
      · rcases b54 b hb with e | e
        · exact br b e
        · have := (k.no2 kA).size
          omega
    · unfold F5_3
      rw [wr (by omega) (by omega), show ((i : Int) + 1) = ((i + 1 : Nat) : Int) by omega]
      refine ih (i + 1) r H35 (by omega) ?_ br (k.no2 k35)
      rw [htk, List.filter_append, List.filter_cons_of_neg (by rw [hx]; decide), List.filter_nil, List.append_nil]
      exact lr.kp k35 fun _ _ => id
/-- The numbers as values. -/
theorem c5_L5 {an rl cl sp : Sl} {nb vb : Nat} {n : Nat → Int} {Q : Bool → Hp → Prop} (hb : Row H nb 45 (intsRow n)) (hne : nb ≠ vb) (hv : Row H vb 26 (valsRow fun _ => zeroV)) (hQ : ∀ H', Row H' vb 26 (valsRow fun i => numV (n i)) → Kp (fun x => x = vb) H H' → F5_4 Q an rl cl sp ⟨vb, 0, none⟩ H') : F5_L5 Q an ⟨nb, 0, none⟩ rl cl sp ⟨vb, 0, none⟩ 0 H := by
  intro X hX
  suffices ∀ (d i : Nat) H', i + d = 6 → Row H' vb 26 (valsRow fun j => if j < i then numV (n j) else zeroV) → Kp (fun x => x = vb) H H' → X i H' from this 6 0 H rfl hv (Kp.refl _ _)
  intro d
  induction d with
  | zero =>
    intro i H' hi y k
    have e6 : i = 6 := by omega
    subst e6
    exact hX _ _ ⟨fun hh => absurd (of_decide_eq_true hh) (by decide), fun _ => hQ H' y k⟩
  | succ d ih =>
    intro i H' hi y k
    have hi6 : 0 ≤ (i : Int) ∧ (i : Int) < 6 := by omega
    refine hX _ _ ⟨fun _ => ⟨hi6.1, hi6.2, _, ints_at (k.row hb hne) hi6, hi6.1, hi6.2, (vals_lay (H' := H') y hi6 zeroV).1, fun H86 e86 => ?_⟩, fun hh => absurd (of_decide_eq_false hh) (by omega)⟩
    have y86 := (vals_lay y hi6 (numV (n (i : Int).toNat))).2 e86
    have k86 : Kp (fun x => x = vb) H' H86 := (Kp.refl _ _).sets' e86 (.inl (by rw [add_mk]))
    have eU : (fun j => if j = (i : Int).toNat then numV (n (i : Int).toNat) else if j < i then numV (n j) else zeroV) = fun j => if j < i + 1 then numV (n j) else zeroV := by
      funext j
      rw [show (i : Int).toNat = i by omega]
      by_cases e : j = i
      · rw [if_pos e, if_pos (by omega), e]
      · rw [if_neg e]
        by_cases e2 : j < i
        · rw [if_pos e2, if_pos (by omega)]
        · rw [if_neg e2, if_neg (by omega)]
    rw [eU] at y86
    rw [wr (by omega) (by omega), show ((i : Int) + 1) = ((i + 1 : Nat) : Int) by omega]
    exact ih (i + 1) H86 (by omega) y86 (k.trans k86 fun b h => .inl h)
theorem hSt_le (i : Nat) : (hSt rels and V i).length ≤ i := by
  induction i with
  | zero => exact Nat.le_refl _
  | succ i ih =>
    rw [hSt, hstep]
    split
    · rw [List.length_append, List.length_dropLast, List.length_singleton]; omega
    · rw [List.length_append, List.length_singleton]; omega
/-- Which conditions hold. -/
theorem c5_L7 {an rl cl sp : Sl} {vb : Nat} {Q : Bool → Hp → Prop} (hr : RdL rlF H rl rels) (hn : rels.length ≤ 40) (ht : ∀ x ∈ rels, TOk x) (hw : WantsH H) (ha : RdL boF H an and) (hv : Row H vb 26 (valsRow V))
    (hQ : ∀ hl H', Lst boF H' hl (hSt rels and V rels.length) → Kp No H H' → F5_6 Q cl sp hl H') : F5_L7 Q an rl cl sp ⟨vb, 0, none⟩ Sl.nil 0 H := by
  have hln := hr.n
  have han0 := ha.n
  intro X hX
  suffices ∀ d i hl H', i + d = rels.length → Lst boF H' hl (hSt rels and V i) → (∀ b, hl.at b → H.size ≤ b) → Kp No H H' → X hl i H' from this _ 0 Sl.nil H (Nat.zero_add _) (Lst.nil _ _) (fun b hb => by cases hb) (Kp.refl _ _)
  intro d
  induction d with
  | zero =>
    intro i hl H' hi lh bh k
    rw [show i = rels.length by omega] at lh
    exact hX _ _ _ ⟨fun hh => absurd (of_decide_eq_true hh) (by omega), fun _ => hQ hl H' lh k⟩
  | succ d ih =>
    intro i hl H' hi lh bh k
    obtain ⟨x, gx⟩ : ∃ x, rels[i]? = some x := ⟨_, List.getElem?_eq_getElem (by omega)⟩
    have hx := ht x (List.mem_of_getElem? gx)
    have gd : rels.getD i zeroR = x := by rw [List.getD_eq_getElem?_getD, gx]; rfl
    obtain ⟨a, ea, han, ca⟩ := (hr.kp0 k).get gx
    have en : ((i : Nat) : Int).toNat = i := by omega
    have hs : hSt rels and V (i + 1) = hstep and (hSt rels and V i) i (yesP x V) := by rw [hSt, gd]
    have hle := hSt_le (rels := rels) (and := and) (V := V) i
    have hhn := lh.n
    refine hX _ _ _ ⟨fun _ => ⟨a, ea, by omega, by omega, _, _, _, _, _, _, _, _, by rw [en]; exact ca, _, _, _, _, _, _, _, _, _, _, _, _, _, _, _, _, _, _, _, _, _, _, _, _, (k.row hv id).all, c8 hx (hw.no k) fun H143 k143 => ?_⟩, fun hh => absurd (of_decide_eq_false hh) (by omega)⟩
    have kA := k.no2 k143
    have lA := lh.kp k143 fun _ _ => id
    have sA := kA.size
    have next : ∀ hl' H', Lst boF H' hl' (hSt rels and V (i + 1)) → (∀ b, hl'.at b → H.size ≤ b) → Kp No H H' → F5_8 Q X an rl cl sp ⟨vb, 0, none⟩ i hl' H' := fun hl' H' l' b' k' => by
      unfold F5_8
      rw [wr (by omega) (by omega), show ((i : Int) + 1) = ((i + 1 : Nat) : Int) by omega]
      exact ih (i + 1) hl' H' (by omega) l' b' k'
    have put : ¬ (hSt rels and V i ≠ [] ∧ i < and.length ∧ and.getD i false = true) → F5_9 Q X an rl cl sp ⟨vb, 0, none⟩ hl i (yesP x V) false H143 := fun hno => by
      refine ⟨fun h => (by cases h), fun _ H191 e191 => ?_⟩
      have k191 : Kp No H143 H191 := (Kp.refl _ _).push' e191
      have b191 : Row H191 H143.size 4 (boF.f (yesP x V)) := Row.new' e191
      refine (lA.kp k191 fun _ _ => id).append1 b191 rfl (by omega) (by omega) fun r195 H193 l193 k193 b193 => ?_
      refine next r195 H193 ?_ (fun b hb => ?_) ((kA.no2 k191).trans k193 fun b hb => .inr (bh b hb))
      · rw [hs, hstep, if_neg hno]; exact l193
      · rcases b193 b hb with e | e
        · exact bh b e
        · have := (kA.no2 k191).size; omega
    have upd : (hSt rels and V i ≠ [] ∧ i < and.length ∧ and.getD i false = true) → F5_9 Q X an rl cl sp ⟨vb, 0, none⟩ hl i (yesP x V) true H143 := fun hyes => by
      obtain ⟨S, c, e⟩ : ∃ S c, hSt rels and V i = S ++ [c] := ⟨_, _, (List.dropLast_concat_getLast hyes.1).symm⟩
      have hs' : hSt rels and V (i + 1) = S ++ [c && yesP x V] := by
        rw [hs, hstep, if_pos hyes, e, List.dropLast_concat, List.getLastD_concat]
      rw [e] at lA hle hhn
      rw [List.length_append, List.length_singleton] at hle hhn
      have gl : (S ++ [c])[S.length]? = some c := by rw [List.getElem?_append_right (Nat.le_refl _), Nat.sub_self]; rfl
      have ew : IntKind.i64.wrap ((hl.n : Int) - 1) = (S.length : Int) := by rw [wr (by omega) (by omega)]; omega
      have el : ((S.length : Nat) : Int).toNat = S.length := by omega
      obtain ⟨a, ea, ha1, ca⟩ := lA.rd.get gl
      have setv : ∀ v, v = (c && yesP x V) → (cell H143 (Addr.add a (S.length * 1))).isSome = true ∧ frz H143 (Addr.add a (S.length * 1)) = false ∧ ∀ H178 : Hp, H178 = setc H143 (Addr.add a (S.length * 1)) (.bool v) → F5_8 Q X an rl cl sp ⟨vb, 0, none⟩ i hl H178 := fun v hv' => by
        obtain ⟨a', ea', ab, _, hm, hw'⟩ := lA.set (i := S.length) (by simp) v
        rw [ea] at ea'; cases ea'
        refine ⟨hm.1.1, hm.1.2, fun H178 e178 => ?_⟩
        obtain ⟨l', k'⟩ := hw' H178 e178
        refine next hl H178 ?_ bh (kA.trans k' fun b hb => .inr (bh b hb))
        rw [hs', ← hv']
        have : (S ++ [c]).set S.length v = S ++ [v] := by simp
        rw [this] at l'; exact l'
      refine ⟨fun _ => ⟨a, ea, by rw [ew]; omega, by rw [ew]; omega, c, by rw [ew, el]; exact ca.1, fun hc => ⟨a, ea, by rw [ew]; omega, by rw [ew]; omega, ?_⟩, fun hc => ⟨a, ea, by rw [ew]; omega, by rw [ew]; omega, ?_⟩⟩, fun h => (by cases h)⟩
      · rw [ew, el]; exact setv _ (by rw [hc]; rfl)
      · rw [ew, el]; exact setv _ (by rw [hc]; rfl)
    refine ⟨fun h1 => ⟨fun h2 => ?_, fun h2 => put fun g => ?_⟩, fun h1 => put fun g => ?_⟩
    · have h1 := of_decide_eq_true h1
      have h2 := of_decide_eq_true h2
      have ga : and[i]? = some (and.getD i false) := by rw [List.getD_eq_getElem?_getD, List.getElem?_eq_getElem (by omega)]; rfl
      obtain ⟨a', ea', ha', ca'⟩ := (ha.kp0 kA).get ga
      refine ⟨a', ea', by omega, by omega, _, by rw [en]; exact ca'.1, ?_⟩
      have hne : hSt rels and V i ≠ [] := by rw [← List.length_pos_iff]; omega
      cases hb : and.getD i false with
      | true => exact upd ⟨hne, by omega, hb⟩
      | false => exact put fun g => by rw [hb] at g; cases g.2.2
    · have h2 := of_decide_eq_false h2
      omega
    · have h1 := of_decide_eq_false h1
      have := List.length_pos_iff.2 g.1
      omega
/-! ## the spare ones apart -/
theorem sp_split (p : Nat → Bool) {n i : Nat} (hi : i < n) : (List.range n).filter p = (List.range i).filter p ++ ((if p i = true then [i] else []) ++ ((List.range (n - i - 1)).map fun j => i + 1 + j).filter p) := by
  have e : List.range n = List.range i ++ ([i] ++ (List.range (n - i - 1)).map fun j => i + 1 + j) := by
    obtain ⟨m, rfl⟩ : ∃ m, n = i + 1 + m := ⟨n - i - 1, by omega⟩
    rw [show i + 1 + m - i - 1 = m by omega, List.range_add, List.range_succ, List.append_assoc]
  rw [e, List.filter_append, List.filter_append]
  congr 2
  by_cases h : p i = true
  · rw [if_pos h, List.filter_cons_of_pos h]; rfl
  · rw [if_neg h, List.filter_cons_of_neg h]; rfl
theorem sp_at (p : Nat → Bool) {n i : Nat} (hi : i < n) : (p i = true → ((List.range n).filter p)[((List.range i).filter p).length]? = some i) ∧ (p i = false → ∀ x, ((List.range n).filter p)[((List.range i).filter p).length]? = some x → x ≠ i) := by
  rw [sp_split p hi, List.getElem?_append_right (Nat.le_refl _), Nat.sub_self]
  constructor
  · intro h; rw [if_pos h]; rfl
  · intro h x hx
    rw [if_neg (by rw [h]; decide), List.nil_append] at hx
    have hm := List.mem_of_getElem? hx
    obtain ⟨j, _, e⟩ := List.mem_map.1 (List.mem_filter.1 hm).1
    omega
theorem filt_succ (p : Nat → Bool) (i : Nat) : (List.range (i + 1)).filter p = (List.range i).filter p ++ if p i = true then [i] else [] := by
  rw [List.range_succ, List.filter_append]
  congr 1
  by_cases h : p i = true
  · rw [if_pos h, List.filter_cons_of_pos h]; rfl
  · rw [if_neg h, List.filter_cons_of_neg h]; rfl
theorem filt_len (p : Nat → Bool) (i : Nat) : ((List.range i).filter p).length ≤ i := by
  have := List.length_filter_le p (List.range i)
  rwa [List.length_range] at this
def wG (W : List WE) (j : Nat) : WE := W.getD j ((zeroE, Sl.nil), (zeroE, .nil))
def wL (W : List WE) (p : Nat → Bool) (i : Nat) : List WE := ((List.range i).filter fun j => !p j).map (wG W)
theorem c5_L11 {cl sp hl : Sl} {W : List WE} {hd : List Bool} {p : Nat → Bool} {Q : Bool → Hp → Prop} (hc : CsH H cl W) (hW : W.length ≤ 45) (hleaf : ∀ w ∈ W, (leavesP w.2.1 w.2.2).length ≤ 1000) (hsp : RdL iF H sp (((List.range W.length).filter p).map fun (n : Nat) => (n : Int))) (hh : RdL boF H hl hd) (hlen : hd.length = W.length)
    (hu : ∀ j, j < W.length → p j = true → usesP (wG W j).2 = true)
    (hQ : ∀ ll H', CsH H' ll (wL W p W.length) → Kp No H H' → F5_10 Q cl sp hl ll (((List.range W.length).filter fun j => !p j).all fun j => hd.getD j false) (((List.range W.length).filter p).all fun j => hd.getD j false) ((((List.range W.length).filter p).length : Nat) : Int) H') :
    F5_L11 Q cl sp hl Sl.nil true true 0 0 H := by
  have hcn := hc.l.n
  rw [List.length_map] at hcn
  have hsn := hsp.n
  rw [List.length_map] at hsn
  have hhn := hh.n
  intro X hX
  suffices ∀ (d i : Nat) ll H', i + d = W.length → Lst eF H' ll ((wL W p i).map Prod.fst) → (∀ b, ll.at b → H.size ≤ b) → Kp No H H' →
      X ll (((List.range i).filter fun j => !p j).all fun j => hd.getD j false) (((List.range i).filter p).all fun j => hd.getD j false) ((((List.range i).filter p).length : Nat) : Int) i H' from this _ 0 Sl.nil H (Nat.zero_add _) (Lst.nil _ _) (fun b hb => by cases hb) (Kp.refl _ _)
  intro d
  induction d with
  | zero =>
    intro i ll H' hi lr br k
    have ei : i = W.length := by omega
    subst ei
    refine hX _ _ _ _ _ _ ⟨fun hh => absurd (of_decide_eq_true hh) (by omega), fun _ => hQ ll H' ⟨lr.rd, fun w hw => ?_⟩ k⟩
    obtain ⟨j, hj, e⟩ := List.mem_map.1 hw
    have hj := List.mem_range.1 (List.mem_filter.1 hj).1
    have hm : wG W j ∈ W := by
      unfold wG
      rw [List.getD_eq_getElem?_getD, List.getElem?_eq_getElem hj]
      exact List.getElem_mem _
    rw [e] at hm
    exact ⟨(hc.x w hm).1, (hc.x w hm).2.no k⟩
  | succ d ih =>
    intro i ll H' hi lr br k
    obtain ⟨w, gw⟩ : ∃ w, W[i]? = some w := ⟨_, List.getElem?_eq_getElem (by omega)⟩
    have hm := List.mem_of_getElem? gw
    have ew : wG W i = w := by unfold wG; rw [List.getD_eq_getElem?_getD, gw]; rfl
    have gw1 : (W.map Prod.fst)[i]? = some w.1 := by rw [List.getElem?_map, gw]; rfl
    have gh : hd[i]? = some (hd.getD i false) := by rw [List.getD_eq_getElem?_getD, List.getElem?_eq_getElem (by omega)]; rfl
    have en : ((i : Nat) : Int).toNat = i := by omega
    have fl := filt_len p i
    have fl2 := filt_len (fun j => !p j) i
    have hread : ∀ {H2 : Hp}, Kp No H H2 → ∃ a, hl.b = some a ∧ (0 : Int) ≤ i ∧ (i : Int) < (hl.n : Int) ∧ cell H2 (Addr.add a ((i : Int).toNat * 1)) = some (.bool (hd.getD i false)) := fun k2 => by
      obtain ⟨a, ea, ha, ca⟩ := (hh.kp0 k2).get gh
      exact ⟨a, ea, by omega, by omega, by rw [en]; exact ca.1⟩
    have fin : ∀ (b : Bool), b = p i → F5_13 Q X cl sp hl ll (((List.range i).filter fun j => !p j).all fun j => hd.getD j false) (((List.range i).filter p).all fun j => hd.getD j false) ((((List.range i).filter p).length : Nat) : Int) i b H' := fun b hb => by
      obtain ⟨a, ea, han, ca⟩ := (hc.l.kp0 k).get gw1
      refine ⟨fun g => ?_, fun g => ?_⟩
      · have hp : p i = true := by rw [← hb]; exact g
        refine ⟨a, ea, by omega, by omega, _, _, _, _, _, _, _, _, _, _, by rw [en]; exact ca, c17 (r := w.1.1) (q := w.1.2) (kd := w.2.2) k (hc.x w hm).2 (by rw [(hc.x w hm).1]; have := hleaf w hm; omega) fun H246 k246 => ?_⟩
        have hus : usesP (w.1.1, w.2.2) = true := by
          have := hu i (by omega) hp
          rw [ew] at this
          rw [(hc.x w hm).1]; exact this
        rw [hus]
        refine ⟨fun h => (by cases h), fun _ => ?_⟩
        have step : ∀ b', b' = ((((List.range i).filter p).all fun j => hd.getD j false) && hd.getD i false) → F5_14 Q X cl sp hl ll (((List.range i).filter fun j => !p j).all fun j => hd.getD j false) ((((List.range i).filter p).length : Nat) : Int) i b' H246 := fun b' hb' => by
          unfold F5_14 F5_12
          rw [wr (x := (i : Int) + 1) (by omega) (by omega), wr (by omega) (by omega), show ((i : Int) + 1) = ((i + 1 : Nat) : Int) by omega]
          have := ih (i + 1) ll H246 (by omega) ?_ br (k.no2 k246)
          · rw [filt_succ p i, filt_succ (fun j => !p j) i, if_pos hp, if_neg (by rw [hp]; decide), List.append_nil, List.all_append, List.length_append] at this
            simp only [List.all_cons, List.all_nil, Bool.and_true, List.length_singleton] at this
            rw [hb', show ((((List.range i).filter p).length : Nat) : Int) + 1 = ((((List.range i).filter p).length + 1 : Nat) : Int) by omega]
            exact this
          · unfold wL
            rw [filt_succ (fun j => !p j) i, if_neg (by rw [hp]; decide), List.append_nil]
            exact lr.kp k246 fun _ _ => id
        refine ⟨fun h => ?_, fun h => step _ (by rw [h]; rfl)⟩
        obtain ⟨a2, ea2, h0, h1, c2⟩ := hread (k.no2 k246)
        exact ⟨a2, ea2, h0, h1, _, c2, step _ (by rw [h]; rfl)⟩
      · have hp : p i = false := by rw [← hb]; exact g
        refine ⟨a, ea, by omega, by omega, _, _, _, _, _, _, _, _, _, _, by rw [en]; exact ca, fun H285 e285 => ?_⟩
        have k285 : Kp No H' H285 := (Kp.refl _ _).push' e285
        have b285 : Row H285 H'.size 41 (eF.f w.1) := Row.new' e285
        have hwl : (wL W p i).length ≤ 45 := by unfold wL; rw [List.length_map]; omega
        refine (lr.kp k285 fun _ _ => id).append1 b285 rfl (by rw [List.length_map]; omega) (by rw [List.length_map]; omega) fun r289 H287 l287 k287 b287 => ?_
        have kB : Kp No H H287 := (k.no2 k285).trans k287 fun b hb => .inr (br b hb)
        have step : ∀ b', b' = ((((List.range i).filter fun j => !p j).all fun j => hd.getD j false) && hd.getD i false) → F5_12 Q X cl sp hl i r289 b' (((List.range i).filter p).all fun j => hd.getD j false) ((((List.range i).filter p).length : Nat) : Int) H287 := fun b' hb' => by
          unfold F5_12
          rw [wr (by omega) (by omega), show ((i : Int) + 1) = ((i + 1 : Nat) : Int) by omega]
          have := ih (i + 1) r289 H287 (by omega) ?_ (fun b hb => ?_) kB
          · rw [filt_succ p i, filt_succ (fun j => !p j) i, if_neg (show ¬ p i = true by rw [hp]; decide), if_pos (show (!p i) = true by rw [hp]; rfl), List.append_nil, List.all_append] at this
            simp only [List.all_cons, List.all_nil, Bool.and_true] at this
            rw [hb']
            exact this
          · unfold wL
            rw [filt_succ (fun j => !p j) i, if_pos (by rw [hp]; decide), List.map_append, List.map_append]
            have : ([i].map (wG W)).map Prod.fst = [w.1] := by simp [ew]
            rw [this]
            exact l287
          · rcases b287 b hb with e | e
            · exact br b e
            · have := (k.no2 k285).size
              omega
        refine ⟨fun h => ?_, fun h => step _ (by rw [h]; rfl)⟩
        obtain ⟨a2, ea2, h0, h1, c2⟩ := hread kB
        exact ⟨a2, ea2, h0, h1, _, c2, step _ (by rw [h]; rfl)⟩
    have hat := sp_at p (n := W.length) (i := i) (by omega)
    refine hX _ _ _ _ _ _ ⟨fun _ => ⟨fun h1 => ?_, fun h1 => fin false ?_⟩, fun hh => absurd (of_decide_eq_false hh) (by omega)⟩
    · have h1 := of_decide_eq_true h1
      obtain ⟨x, gx⟩ : ∃ x, ((List.range W.length).filter p)[((List.range i).filter p).length]? = some x := ⟨_, List.getElem?_eq_getElem (by omega)⟩
      have gx' : (((List.range W.length).filter p).map fun (n : Nat) => (n : Int))[((List.range i).filter p).length]? = some (x : Int) := by rw [List.getElem?_map, gx]; rfl
      obtain ⟨a, ea, ha, ca⟩ := (hsp.kp0 k).get gx'
      have ek : (((((List.range i).filter p).length : Nat) : Int)).toNat = ((List.range i).filter p).length := by omega
      refine ⟨a, ea, by omega, by omega, _, by rw [ek]; exact ca.1, fin _ ?_⟩
      cases hp : p i with
      | true =>
        have := hat.1 hp
        rw [gx] at this; cases this
        exact decide_eq_true rfl
      | false =>
        have := hat.2 hp x gx
        exact decide_eq_false (by omega)
    · have h1 := of_decide_eq_false h1
      cases hp : p i with
      | false => rfl
      | true =>
        have := (List.getElem?_eq_some_iff.1 (hat.1 hp)).1
        omega
/-! ## the same numbers -/
theorem c5_L16 {kl bl : Sl} {K K' : List (ER × VT)} {Q : Bool → Hp → Prop} (hk : RdL knF H kl K) (hK : K.length ≤ 1000000) (hb : RdL knF H bl K') (hK' : K'.length ≤ 1000000) (hs : ∀ e ∈ K', findP K e.1 = some e.2) (hQ : ∀ H', Kp No H H' → Q true H') : F5_L16 Q kl bl 0 H := by
  have hbn := hb.n
  intro X hX
  suffices ∀ (d i : Nat) H', i + d = K'.length → Kp No H H' → X i H' from this _ 0 H (Nat.zero_add _) (Kp.refl _ _)
  intro d
  induction d with
  | zero =>
    intro i H' hi k
    exact hX _ _ ⟨fun hh => absurd (of_decide_eq_true hh) (by omega), fun _ => hQ H' k⟩
  | succ d ih =>
    intro i H' hi k
    obtain ⟨e, ge⟩ : ∃ e, K'[i]? = some e := ⟨_, List.getElem?_eq_getElem (by omega)⟩
    have hf := hs e (List.mem_of_getElem? ge)
    obtain ⟨a, ea, han, ca⟩ := (hb.kp0 k).get ge
    have en : ((i : Nat) : Int).toNat = i := by omega
    have c1 : cells H' (Addr.add a (i * 14)) (e.1.row Sl.nil) 0 := by
      have := cells_sub (i := 0) (m := e.1.row Sl.nil) ca rfl
      have h0 := cells_add (H := H') (a := Addr.add a (i * 14)) (l := e.1.row Sl.nil) (i := 0) (j := 0)
      exact h0.1 this
    refine hX _ _ ⟨fun _ => ⟨a, ea, by omega, by omega, _, _, _, _, _, _, _, _, _, _, by rw [en]; exact c1, c12 (hk.kp0 k) hK rfl fun H372 k372 => ?_⟩, fun hh => absurd (of_decide_eq_false hh) (by omega)⟩
    rw [hf]
    intro H379 e379
    have k379 : Kp No H372 H379 := (Kp.refl _ _).push' e379
    have y379 : Row H379 H372.size 25 zeroV.row := Row.new' e379
    refine ⟨y379.mayw (by simp), fun H381 e381 => ?_⟩
    have y381 : Row H381 H372.size 25 e.2.row := y379.fill' e381 rfl
    have k381 : Kp No H372 H381 := k379.box ((Kp.refl _ _).sets' e381 (.inl rfl)) (Nat.le_refl _)
    have kA := k.no2 (k372.no2 k381)
    obtain ⟨a', ea', _, ca'⟩ := (hb.kp0 kA).get ge
    rw [ea] at ea'; cases ea'
    refine ⟨fun h => (by cases h), fun _ => ⟨_, _, _, _, y381.all, a, ea, by omega, by omega, _, _, _, _, by rw [en]; exact cells_sub (i := 10) (m := e.2.row) ca' rfl, ?_⟩⟩
    have es : (decide (e.2.k = e.2.k) && (decide (e.2.n = e.2.n) && (seq e.2.s e.2.s && (e.2.b == e.2.b)))) = true := by simp [seq_dec']
    rw [es]
    refine ⟨fun h => (by cases h), fun _ => ?_⟩
    rw [wr (by omega) (by omega), show ((i : Int) + 1) = ((i + 1 : Nat) : Int) by omega]
    exact ih (i + 1) H381 (by omega) kA
theorem c5_15 {cl ll : Sl} {CW LW : List WE} {Q : Bool → Hp → Prop} (hc : CsH H cl CW) (hl : CsH H ll LW) (hn : NumC (CW.map Prod.snd)) (he : LW.map Prod.snd = leftP (CW.map Prod.snd)) (hQ : ∀ H', Kp No H H' → Q true H') : F5_15 Q cl ll false H := by
  refine ⟨fun h => (by cases h), fun _ => ?_⟩
  obtain ⟨s1, s2⟩ := left_same hn
  have hokl : CondsOk (LW.map Prod.snd) := by rw [he]; exact hn.left.ok
  have hA : ∀ {K}, answerP (readS (CW.map Prod.snd)) = some K → K.length ≤ 90000 := fun h => answer_len hn.ok h
  have hB : ∀ {K}, answerP (readS (leftP (CW.map Prod.snd))) = some K → K.length ≤ 90000 := fun h => answer_len hn.left.ok h
  refine c9 hc hn.ok (fun h1 H344 k344 => ?_) fun K kl H344 h1 lk bk k344 => ?_
  · refine c9 (hl.no k344) hokl (fun h2 H348 k348 => ⟨fun h => (by cases h), fun _ => ?_⟩) fun K' kl' H348 h2 lk' bk' k348 => ?_
    · exact c5_L16 (K := []) (K' := []) (RdL.nil _ _) (Nat.zero_le _) (RdL.nil _ _) (Nat.zero_le _) (fun e he => by cases he) fun H' k' => hQ H' (k344.no2 (k348.no2 k'))
    · rw [he] at h2
      rw [h1, h2] at s1; cases s1
  · refine c9 (hl.no k344) hokl (fun h2 H348 k348 => ?_) fun K' kl' H348 h2 lk' bk' k348 => ⟨fun h => (by cases h), fun _ => ?_⟩
    · rw [he] at h2
      rw [h1, h2] at s1; cases s1
    · rw [he] at h2
      have := hA h1
      have := hB h2
      exact c5_L16 (lk.rd.kp0 k348) (by omega) lk'.rd (by omega) (s2 K K' h1 h2) fun H' k' => hQ H' (k344.no2 (k348.no2 k'))
theorem wL_left (W : List WE) : (wL W (spC (W.map Prod.snd)) W.length).map Prod.snd = leftP (W.map Prod.snd) := by
  unfold wL leftP
  rw [List.map_map, List.length_map]
  refine List.map_congr_left fun j _ => ?_
  show (wG W j).2 = cdG (W.map Prod.snd) j
  unfold wG cdG
  rw [List.getD_eq_getElem?_getD, List.getD_eq_getElem?_getD, List.getElem?_map]
  cases W[j]? <;> rfl
theorem c5 {p0 p1 : Sl} {rels0 : List RelM} {ns : Nat → Int} {Q : Bool → Hp → Prop} (hr : RdL rlF H p0 rels0) (ha : RdL boF H p1 and) (hw : WantsH H) (hl : rels0.length ≤ 9223372036854775807) (hal : and.length ≤ 9223372036854775807) (hR : ∀ x ∈ rels0, minI ≤ x.c.n ∧ x.c.n ≤ maxI) (hN : InR ns) (hQ : ∀ H', Kp No H H' → Q true H') :
    F5 p0 p1 (ns 0) (ns 1) (ns 2) (ns 3) (ns 4) (ns 5) H Q := by
  intro H1 e1
  have k1 : Kp No H H1 := (Kp.refl _ _).push' e1
  have y1 : Row H1 H.size 45 (intsRow ns) := Row.new' e1
  have s1 := size_push' e1
  refine c6 fun H3 k3 => ⟨fun h => (by cases h), fun _ => c7 (hr.kp0 (k1.no2 k3)) hl fun r9 H7 lr br k7 => ?_⟩
  have hok0 := tidied_ok hR
  generalize tidiedP rels0 = rels1 at lr hok0
  have kA := k1.no2 (k3.no2 k7)
  refine c5_L2 lr.rd hok0.n fun r58 H58 lr58 k58 => ?_
  have hok : RlOk (rels1.filter numR) := ⟨Nat.le_trans (List.length_filter_le _ _) hok0.n, fun x hx => hok0.t x (List.mem_filter.1 hx).1, fun x hx => hok0.r x (List.mem_filter.1 hx).1⟩
  have hnum : ∀ x ∈ rels1.filter numR, numR x = true := fun x hx => (List.mem_filter.1 hx).2
  generalize rels1.filter numR = rels at lr58 hok hnum
  have kB := kA.no2 k58
  refine c10 lr58.rd (ha.kp0 kB) hok.n hal hok.t fun r61 W H59 hw' lj k59 => ?_
  have hnc := numC_joined (and := and) hok hnum
  have hncW : NumC (W.map Prod.snd) := by rw [hw']; exact hnc
  refine c16 lj.cs hncW.ok hncW.sys.kind.2 fun sp H62 lsp bsp k62 H65 e65 => ?_
  have k65 : Kp No H62 H65 := (Kp.refl _ _).push' e65
  have y65 : Row H65 H62.size 26 (valsRow fun _ => zeroV) := Row.new' e65
  have kC := k59.no2 k62
  have kD := kB.no2 (kC.no2 k65)
  have hb65 := (k3.no2 (k7.no2 (k58.no2 (kC.no2 k65)))).row y1 id
  have hsz := (k3.no2 (k7.no2 (k58.no2 kC))).size
  refine c5_L5 hb65 (by omega) y65 fun H5 y5 k5 => ?_
  have kE : Kp No H62 H5 := k65.box k5 (Nat.le_refl _)
  have kF := kB.no2 (kC.no2 kE)
  refine c5_L7 (lr58.rd.kp0 (kC.no2 kE)) hok.n hok.t (hw.no kF) (ha.kp0 kF) y5 fun hl H6 lh k6 => ?_
  have kG := kE.no2 k6
  have hcs := lj.cs.no (k62.no2 kG)
  obtain ⟨f1, f2⟩ := follows_plain (and := and) hok hnum hN
  have hlenW : W.length = (joinedP rels and).length := by rw [← hw', List.length_map]
  have hheld : (hSt rels and (fun i => numV (ns i)) rels.length).length = W.length := by rw [hlenW]; exact hSt_len hok.t (Nat.le_refl _)
  have hspe := spareP_eq hncW
  rw [List.length_map] at hspe
  rw [hspe] at lsp
  have hwc : ∀ j, (wG W j).2 = cdG (W.map Prod.snd) j := fun j => by
    unfold wG cdG
    rw [List.getD_eq_getElem?_getD, List.getD_eq_getElem?_getD, List.getElem?_map]
    cases W[j]? <;> rfl
  have hn45 := hncW.ok.n
  rw [List.length_map] at hn45
  refine c5_L11 (p := spC (W.map Prod.snd)) hcs hn45 (fun w hw => hncW.ok.l w.2 (List.mem_map_of_mem hw)) (lsp.rd.kp0 kG) lh.rd hheld (fun j hj hp => by rw [hwc]; exact spare_uses hncW (by rw [List.length_map]; exact hj) hp) fun ll H10 hll k10 => ?_
  have kH := kF.no2 (k6.no2 k10)
  have hfin := c5_15 (Q := Q) (hcs.no k10) hll hncW (wL_left W) fun H' k' => hQ H' (kH.no2 k')
  have hsn := lsp.n
  rw [List.length_map] at hsn
  rw [← hw'] at f1 f2
  rw [List.length_map] at f1 f2
  refine ⟨fun h => absurd (of_decide_eq_true h) (by rw [hsn]; exact fun g => g rfl), fun _ => ?_⟩
  have zero : ((decide ((0 : Int) < ((sp).n : Int))) = true → (∃ a313 : Addr, (sp).b = some a313 ∧ (0 : Int) ≤ 0 ∧ (0 : Int) < ((sp).n : Int) ∧ (
     ∃ x318 : Int, cell H10 (Addr.add a313 ((0 : Int).toNat * 1)) = some (iv x318) ∧ (
     ((decide (x318 = 0)) = true → (∃ a321 : Addr, (hl).b = some a321 ∧ (0 : Int) ≤ 0 ∧ (0 : Int) < ((hl).n : Int) ∧ (
     ∃ x326 : Bool, cell H10 (Addr.add a321 ((0 : Int).toNat * 1)) = some (bv x326) ∧ (
     F5_15 Q r61 ll (!x326) H10)))) ∧
     ((decide (x318 = 0)) = false → (F5_15 Q r61 ll false H10)))))) ∧
     ((decide ((0 : Int) < ((sp).n : Int))) = false → (F5_15 Q r61 ll false H10)) := by
    refine ⟨fun h => ?_, fun _ => hfin⟩
    have h := of_decide_eq_true h
    obtain ⟨x, gx⟩ : ∃ x, ((List.range W.length).filter (spC (W.map Prod.snd)))[0]? = some x := ⟨_, List.getElem?_eq_getElem (by omega)⟩
    have gx' : (((List.range W.length).filter (spC (W.map Prod.snd))).map fun (n : Nat) => (n : Int))[0]? = some (x : Int) := by rw [List.getElem?_map, gx]; rfl
    obtain ⟨a, ea, ha', ca⟩ := (lsp.rd.kp0 (kG.no2 k10)).get gx'
    refine ⟨a, ea, Int.le_refl _, h, _, ca.1, fun h0 => ?_, fun _ => hfin⟩
    have h0 := of_decide_eq_true h0
    have hx0 : x = 0 := by omega
    subst hx0
    obtain ⟨hx1, hx2⟩ := List.mem_filter.1 (List.mem_of_getElem? gx)
    have hx1 := List.mem_range.1 hx1
    have hh0 := f2 hx1 hx2
    have gh : (hSt rels and (fun i => numV (ns i)) rels.length)[0]? = some true := by
      rw [List.getD_eq_getElem?_getD, List.getElem?_eq_getElem (by omega)] at hh0
      rw [List.getElem?_eq_getElem (by omega)]; exact congrArg some hh0
    obtain ⟨a2, ea2, ha2, ca2⟩ := (lh.rd.kp0 k10).get gh
    have hln := lh.n
    exact ⟨a2, ea2, Int.le_refl _, by omega, _, ca2.1, hfin⟩
  refine ⟨fun hrest => ⟨fun hex => ?_, fun _ => zero⟩, fun _ => zero⟩
  have hall : ∀ j, j < W.length → spC (W.map Prod.snd) j = false → (hSt rels and (fun i => numV (ns i)) rels.length).getD j false = true := fun j hj hs => List.all_eq_true.1 hrest j (List.mem_filter.2 ⟨List.mem_range.2 hj, by rw [hs]; rfl⟩)
  have hex' : (((List.range W.length).filter (spC (W.map Prod.snd))).all fun j => (hSt rels and (fun i => numV (ns i)) rels.length).getD j false) = true := by
    rw [List.all_eq_true]
    intro j hj
    obtain ⟨h1, h2⟩ := List.mem_filter.1 hj
    exact (f1 hall j (List.mem_range.1 h1)).resolve_right fun g => by rw [h2] at g; cases g
  rw [hex'] at hex; cases hex
end
end Go.Hw
