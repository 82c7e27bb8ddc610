/- References have places. Conditions are read: the plain law, and that it is so. Own work of this session. -/
import Derived.Test.YtkdjcmfmflljlaaDoorB8
set_option linter.unusedVariables false
namespace Go.Hw
open Go

def idxP (e : ER) : List ER → Option Nat
  | [] => none
  | x :: l => if sameE x e = true then some 0 else (idxP e l).map (· + 1)
def placeP (refs : List ER) (e : ER) : List ER × Nat :=
  match idxP e refs with
  | some i => (refs, i)
  | none => (refs ++ [e], refs.length)
theorem idxP_some {e : ER} : ∀ {l : List ER} {i : Nat} {x : ER}, l[i]? = some x → sameE x e = true → (∀ j y, j < i → l[j]? = some y → sameE y e = false) → idxP e l = some i
  | [], _, _, h, _, _ => by simp at h
  | y :: l, 0, x, h, hs, _ => by
    simp at h; subst h
    rw [idxP, if_pos hs]
  | y :: l, i + 1, x, h, hs, hb => by
    rw [idxP, if_neg (by rw [hb 0 y (by omega) rfl]; decide), idxP_some (l := l) (i := i) (x := x) (by simpa using h) hs fun j z hj hz => hb (j + 1) z (by omega) (by simpa using hz)]
    rfl
theorem idxP_none {e : ER} : ∀ {l : List ER}, (∀ (j : Nat) y, l[j]? = some y → sameE y e = false) → idxP e l = none
  | [], _ => rfl
  | y :: l, hb => by
    rw [idxP, if_neg (by rw [hb 0 y rfl]; decide), idxP_none fun j z hz => hb (j + 1) z (by simpa using hz)]
    rfl

/-- A system that is being read. -/
structure RdI (H : Hp) (p B : Nat) (refs : List ER) (C : List (List Leaf × Bool)) (rs cs : Sl) (R : List (ER × Sl)) (W : List WC) : Prop where
  row : Row H p 66 [Sl.v rs, Sl.v cs, .pointer none, Sl.v Sl.nil]
  r : Lst eF H rs R
  c : CdL H cs W
  er : R.map Prod.fst = refs
  ec : W.map Prod.snd = C
  fl : ∀ x ∈ R, x.2.n = 0
  bp : B ≤ p
  br : ∀ b, rs.at b → B ≤ b
  bc : ∀ b, cs.at b → B ≤ b
  bw : ∀ w ∈ W, ∀ b, w.1.1.at b → B ≤ b
section
variable {H H0 H' : Hp} {p B : Nat} {refs : List ER} {C : List (List Leaf × Bool)} {rs cs : Sl} {R : List (ER × Sl)} {W : List WC}
theorem RdI.kp {S : Nat → Prop} (h : RdI H p B refs C rs cs R W) (k : Kp S H H') (h1 : ¬ S p) (h2 : ∀ b, rs.at b → ¬ S b) (h3 : ∀ b, cs.at b → ¬ S b) (h4 : ∀ w ∈ W, ∀ b, w.1.1.at b → ¬ S b) : RdI H' p B refs C rs cs R W :=
  ⟨k.row h.row h1, h.r.kp k h2, h.c.kp k h3 h4, h.er, h.ec, h.fl, h.bp, h.br, h.bc, h.bw⟩
theorem RdI.no (h : RdI H p B refs C rs cs R W) (k : Kp No H H') : RdI H' p B refs C rs cs R W := h.kp k id (fun _ _ => id) (fun _ _ => id) fun _ _ _ _ => id
/-- A row of another type is none of the system's. -/
theorem RdI.box (h : RdI H p B refs C rs cs R W) {c u : Nat} {m : List Value} (r : Row H c u m) (h1 : u ≠ 66) (h2 : u ≠ 41) : ¬ (c = p ∨ rs.at c) := fun hh => hh.elim (fun e => h.row.ne_type r (Ne.symm h1) e.symm) fun e => h.r.ne r (Ne.symm h2) e
theorem RdI.len (h : RdI H p B refs C rs cs R W) : refs.length = R.length := by rw [← h.er, List.length_map]
/-- A reference is put behind. -/
theorem RdI.add {r : Sl} {e : ER} {q : Sl} (h : RdI H p B refs C rs cs R W) (hq : q.n = 0) (hr : Row H' p 66 [Sl.v r, Sl.v cs, .pointer none, Sl.v Sl.nil]) (hl : Lst eF H' r (R ++ [(e, q)])) (k : Kp (fun x => x = p ∨ rs.at x) H H') (hb : ∀ b, r.at b → rs.at b ∨ H.size ≤ b) (hB : B ≤ H.size) : RdI H' p B (refs ++ [e]) C r cs (R ++ [(e, q)]) W :=
  ⟨hr, hl, h.c.kp k (fun b hb hh => hh.elim (fun e => by subst e; exact h.c.l.ne h.row (by decide) hb) fun hh => h.c.l.apart h.r (by decide) b hb hh) (fun w hw b hb hh => hh.elim (fun e => by subst e; exact (h.c.x w hw).2.ne h.row (by decide) hb) fun hh => (h.c.x w hw).2.apart h.r (by decide) b hb hh),
    by rw [List.map_append, h.er]; rfl, h.ec, fun x hx => by
      rcases List.mem_append.1 hx with hx | hx
      · exact h.fl x hx
      · rw [List.mem_singleton] at hx; subst hx; exact hq,
    h.bp, fun b hb' => (hb b hb').elim (h.br b) fun h => Nat.le_trans hB h, h.bc, h.bw⟩

theorem c39 {e : ER} {q : Sl} {Q : Int → Hp → Prop} (h : RdI H p B refs C rs cs R W) (hB : B ≤ H.size) (hq : q.n = 0) (hR : R.length ≤ 99999)
    (hQ : ∀ H' rs' R', RdI H' p B (placeP refs e).1 C rs' cs R' W → Kp (fun x => x = p ∨ rs.at x) H H' → R'.length ≤ R.length + 1 → (∀ b, rs'.at b → rs.at b ∨ H.size ≤ b) → Q (placeP refs e).2 H') :
    F39 (some ⟨p, 0, none⟩) e.k e.o e.vk e.vi e.vs e.vb e.v e.p e.a q H Q := by
  intro H1 e1
  have k1 : Kp No H H1 := (Kp.refl No H).push' e1
  have s1 := size_push' e1
  have x1 : Row H1 H.size 41 (e.row q) := Row.new' e1
  have h1 := h.no k1
  have hrn := h.r.n
  have hlen := h.len
  refine ⟨_, rfl, rs, h1.row.cell_of (i := 0) rfl, ?_⟩
  intro X hX
  suffices ∀ d i H', i + d = R.length → (∀ j y, j < i → refs[j]? = some y → sameE y e = false) → Kp No H1 H' → X i H' from this _ 0 H1 (Nat.zero_add _) (fun j _ hj => by omega) (Kp.refl _ _)
  intro d
  induction d with
  | zero =>
    intro i H2 hi hno k
    refine hX _ _ ⟨fun hh => absurd (of_decide_eq_true hh) (by omega), fun _ => ?_⟩
    have hp : placeP refs e = (refs ++ [e], refs.length) := by
      unfold placeP
      rw [idxP_none fun j y hy => hno j y (by have := (List.getElem?_eq_some_iff.1 hy).1; omega) hy]
    rw [hp] at hQ
    have kA := k1.no2 k
    have h2 := h.no kA
    have x2 := k.row x1 id
    refine ⟨_, rfl, rs, h2.row.cell_of (i := 0) rfl, _, _, _, _, _, _, _, _, _, _, x2.all, fun H77 e77 => ?_⟩
    have k77 : Kp No H2 H77 := (Kp.refl _ _).push' e77
    have b77 : Row H77 H2.size 41 (eF.f (zeroE, Sl.nil)) := Row.new' e77
    have h77 := h2.no k77
    have x77 := k77.row x2 id
    have s77 := size_push' e77
    have sA := kA.size
    refine ⟨x77.all, h77.row.cell_of (i := 0) rfl, h77.r.append1 b77 rfl (by omega) (by omega) fun r83 H81 l81 k81 b81 => ?_⟩
    have hp81 : ¬ rs.at p := h77.r.ne h77.row (by decide)
    have r81 := k81.row h77.row hp81
    have hxr : ¬ rs.at H.size := fun hb => by have := h.r.lt hb; omega
    obtain ⟨a, ea, ab, han, hm, hw⟩ := l81.set (i := R.length) (by simp) (e, q)
    have hset : (R ++ [(zeroE, Sl.nil)]).set R.length (e, q) = R ++ [(e, q)] := by
      rw [List.set_append_right _ _ (Nat.le_refl _), Nat.sub_self]; rfl
    rw [hset] at hw
    have hn83 := l81.n
    rw [List.length_append, List.length_singleton] at hn83
    have et : ((rs.n : Nat) : Int).toNat = R.length := by omega
    have kB : Kp (fun x => x = p ∨ rs.at x) H H81 := ((kA.no2 k77).mono fun _ _ h => h.elim).trans k81 fun b hb => .inl (.inr hb)
    have fin : ∀ H', Row H' p 66 [Sl.v r83, Sl.v cs, .pointer none, Sl.v Sl.nil] → Lst eF H' r83 (R ++ [(e, q)]) → Kp (fun x => x = p ∨ rs.at x) H H' → F39_3 Q (some ⟨p, 0, none⟩) H' := fun H' hr hl kk => by
      refine ⟨_, rfl, r83, hr.cell_of (i := 0) rfl, ?_⟩
      rw [hn83, wr (by omega) (by omega), show ((R.length + 1 : Nat) : Int) - 1 = (R.length : Int) by omega, ← hlen]
      have hb : ∀ b, r83.at b → rs.at b ∨ H.size ≤ b := fun b hb => (b81 b hb).imp_right fun h => by omega
      exact hQ H' r83 _ (h.add hq hr hl kk hb hB) kk (by simp) hb
    have np83 : ∀ b, r83.at b → b ≠ p := fun b hb e => by subst e; exact l81.ne r81 (by decide) hb
    refine ⟨a, ea, by omega, by omega, _, rfl, ?_, ?_⟩
    · rw [et]
      refine ⟨hm, fun H90 e90 => ?_⟩
      obtain ⟨l90, k90⟩ := hw H90 e90
      have r90 := k90.row r81 fun hb => np83 p hb rfl
      refine ⟨r90.some (by simp), r90.frz 0, fun H93 e93 => ?_⟩
      have k93 : Kp (fun x => x = p) H90 H93 := (Kp.refl _ _).set' e93 (.inl rfl)
      exact fin H93 (r90.set' (i := 0) e93) (l90.kp k93 fun b hb => np83 b hb) ((kB.trans k90 fun b hb => (b81 b hb).elim (fun h => .inl (.inr h)) fun h => .inr (by omega)).trans k93 fun b hb => .inl (.inl hb))
    · refine ⟨r81.some (by simp), r81.frz 0, fun H97 e97 => ?_⟩
      have k97 : Kp (fun x => x = p) H81 H97 := (Kp.refl _ _).set' e97 (.inl rfl)
      have r97 := r81.set' (i := 0) e97
      have l97 := l81.kp k97 fun b hb => np83 b hb
      obtain ⟨a', ea', ab', han', hm', hw'⟩ := l97.set (i := R.length) (by simp) (e, q)
      rw [ea] at ea'; cases ea'
      rw [hset] at hw'
      rw [et]
      refine ⟨hm', fun H101 e101 => ?_⟩
      obtain ⟨l101, k101⟩ := hw' H101 e101
      exact fin H101 (k101.row r97 fun hb => np83 p hb rfl) l101 ((kB.trans k97 fun b hb => .inl (.inl hb)).trans k101 fun b hb => (b81 b hb).elim (fun h => .inl (.inr h)) fun h => .inr (by omega))
  | succ d ih =>
    intro i H2 hi hno k
    obtain ⟨r, gr⟩ : ∃ r, R[i]? = some r := ⟨_, List.getElem?_eq_getElem (by omega)⟩
    have hm := List.mem_of_getElem? gr
    have ge : refs[i]? = some r.1 := by rw [← h.er, List.getElem?_map, gr]; rfl
    have h2 := h1.no k
    obtain ⟨a, ea, han, ca⟩ := h2.r.rd.get gr
    refine hX _ _ ⟨fun _ => ⟨a, ea, by omega, by omega, _, _, _, _, _, _, _, _, _, _, by rw [show ((i : Int)).toNat = i from by omega]; exact ca, fun H30 e30 => ?_⟩, fun hh => absurd (of_decide_eq_false hh) (by omega)⟩
    have k30 : Kp No H2 H30 := (Kp.refl _ _).push' e30
    have y30 : Row H30 H2.size 41 (zeroE.row Sl.nil) := Row.new' e30
    refine ⟨y30.mayw (by simp), fun H32 e32 => ?_⟩
    have y32 : Row H32 H2.size 41 (r.1.row r.2) := y30.fill' e32 rfl
    have k32 : Kp No H2 H32 := k30.box ((Kp.refl _ _).sets' e32 (.inl rfl)) (Nat.le_refl _)
    have x32 := (k.no2 k32).row x1 id
    refine ⟨_, _, _, _, _, _, _, _, _, _, y32.all, _, _, _, _, _, _, _, _, _, _, x32.all, c30 (a := r.1) (b := e) (h.fl r hm) hq fun H57 k57 => ⟨fun hs => ?_, fun hs => ?_⟩⟩
    · have hp : placeP refs e = (refs, i) := by
        unfold placeP
        rw [idxP_some ge hs hno]
      rw [hp] at hQ
      have kk : Kp No H H57 := (k1.no2 k).no2 (k32.no2 k57)
      exact hQ H57 rs R (h.no kk) (kk.mono fun _ _ h => h.elim) (by omega) fun b hb => .inl hb
    · rw [wr (by omega) (by omega), show ((i : Int) + 1) = ((i + 1 : Nat) : Int) by omega]
      refine ih (i + 1) H57 (by omega) (fun j y hj hy => ?_) (k.no2 (k32.no2 k57))
      by_cases hji : j = i
      · subst hji; rw [ge] at hy; cases hy; exact hs
      · exact hno j y (by omega) hy
end

def leafP (refs : List ER) (s : Side) : List ER × Leaf :=
  if isRefP s.r2 = true then ((placeP (placeP refs s.r1).1 s.r2).1, ⟨s.o, (placeP refs s.r1).2, (placeP (placeP refs s.r1).1 s.r2).2, true, zeroV⟩)
  else ((placeP refs s.r1).1, ⟨s.o, (placeP refs s.r1).2, 0, false, (constP s.r2 s.k2).getD zeroV⟩)
abbrev CSt := List ER × (List Leaf × Bool)
def cstep (st : CSt) (x : ER × Fo) : CSt :=
  match solvP x.1 x.2 with
  | none => (st.1, st.2.1, false)
  | some s => ((leafP st.1 s).1, st.2.1 ++ [(leafP st.1 s).2], st.2.2)
def readC (refs : List ER) (c : ER × Fo) : CSt := (leavesP c.1 c.2).foldl cstep (refs, [], true)
abbrev RSt := List ER × List (List Leaf × Bool)
def rstep (st : RSt) (c : ER × Fo) : RSt := ((readC st.1 c).1, st.2 ++ [(readC st.1 c).2])
def readP (conds : List (ER × Fo)) : RSt := conds.foldl rstep ([], [])
/-- References in it have no kids. -/
def FlatC (x : ER × Fo) : Prop := ∀ s, solvP x.1 x.2 = some s → s.k1.len = 0 ∧ (isRefP s.r2 = true → s.k2.len = 0)

theorem idxP_lt {e : ER} : ∀ {l : List ER} {i : Nat}, idxP e l = some i → i < l.length
  | [], _, h => by cases h
  | x :: l, i, h => by
    rw [idxP] at h
    split at h
    · cases h; simp
    · obtain ⟨j, hj, rfl⟩ := Option.map_eq_some_iff.1 h
      have := idxP_lt hj
      simp; omega
theorem placeP_len (refs : List ER) (e : ER) : refs.length ≤ (placeP refs e).1.length ∧ (placeP refs e).1.length ≤ refs.length + 1 ∧ (placeP refs e).2 < (placeP refs e).1.length := by
  unfold placeP
  cases h : idxP e refs with
  | some i => exact ⟨Nat.le_refl _, Nat.le_succ _, idxP_lt h⟩
  | none => simp
theorem constE_k {t : Bool} {e : ER} {c : VT} (h : constE t e = some c) : c.k = 1 ∨ c.k = 2 ∨ c.k = 3 := by
  unfold constE at h
  split at h
  · cases h
  · split at h
    · cases h
    · rename_i hv
      split at h
      · cases h
      · cases h
        by_cases ht : t = true
        · rw [if_pos ht]; exact .inl rfl
        · rw [if_neg ht]
          unfold vld at hv
          by_cases h1 : e.val.k = 1
          · exact .inl h1
          · by_cases h2 : e.val.k = 2
            · exact .inr (.inl h2)
            · by_cases h3 : e.val.k = 3
              · exact .inr (.inr h3)
              · exact absurd (by simp [h1, h2, h3]) hv
theorem leafP_ok (refs : List ER) (s : Side) : refs.length ≤ (leafP refs s).1.length ∧ (leafP refs s).1.length ≤ refs.length + 2 ∧ LfOk (leafP refs s).1.length (leafP refs s).2 := by
  have h1 := placeP_len refs s.r1
  unfold leafP
  split
  · have h2 := placeP_len (placeP refs s.r1).1 s.r2
    refine ⟨by simp only; omega, by simp only; omega, ?_, fun _ => ?_, fun h => by cases h⟩
    · simp only; omega
    · exact h2.2.2
  · refine ⟨by simp only; omega, by simp only; omega, h1.2.2, (fun h => by cases h), fun _ => ?_⟩
    show 0 ≤ ((constP s.r2 s.k2).getD zeroV).k
    cases hc : constP s.r2 s.k2 with
    | none => exact Int.le_refl _
    | some c => have := constE_k hc; show 0 ≤ c.k; omega
theorem LfOk.mono {n m : Nat} {l : Leaf} (h : LfOk n l) (hn : n ≤ m) : LfOk m l := ⟨by have := h.1; omega, fun ht => by have := h.2.1 ht; omega, h.2.2⟩
structure CsOk (refs : List ER) (n : Nat) (st : CSt) : Prop where
  lo : refs.length ≤ st.1.length
  hi : st.1.length ≤ refs.length + 2 * n
  ll : st.2.1.length ≤ n
  ok : ∀ l ∈ st.2.1, LfOk st.1.length l
theorem CsOk.step {refs : List ER} {n : Nat} {st : CSt} (h : CsOk refs n st) (x : ER × Fo) : CsOk refs (n + 1) (cstep st x) := by
  have h1 := h.lo
  have h2 := h.hi
  have h3 := h.ll
  unfold cstep
  split
  · exact ⟨h1, by simp only; omega, by simp only; omega, h.ok⟩
  · rename_i s _
    obtain ⟨g1, g2, g3⟩ := leafP_ok st.1 s
    refine ⟨by simp only; omega, by simp only; omega, by simp; omega, fun l hl => ?_⟩
    rcases List.mem_append.1 hl with hl | hl
    · exact (h.ok l hl).mono g1
    · rw [List.mem_singleton] at hl; subst hl; exact g3
theorem CsOk.fold {refs : List ER} : ∀ {L : List (ER × Fo)} {n : Nat} {st : CSt}, CsOk refs n st → CsOk refs (n + L.length) (L.foldl cstep st)
  | [], _, _, h => h
  | x :: L, n, st, h => by
    rw [List.foldl_cons, List.length_cons, show n + (L.length + 1) = (n + 1) + L.length by omega]
    exact CsOk.fold (h.step x)
theorem CsOk.start (refs : List ER) : CsOk refs 0 (refs, [], true) := ⟨Nat.le_refl _, Nat.le_refl _, Nat.le_refl _, fun l hl => by cases hl⟩
theorem CsOk.readC (refs : List ER) (c : ER × Fo) : CsOk refs (leavesP c.1 c.2).length (readC refs c) := by
  have := (CsOk.start refs).fold (L := leavesP c.1 c.2)
  rw [Nat.zero_add] at this; exact this

section
variable {H H0 H' : Hp} {p B M rb : Nat} {refs : List ER} {C : List (List Leaf × Bool)} {rs cs sl lsl : Sl} {R : List (ER × Sl)} {W : List WC} {L : List Leaf} {al : Bool} {WL : List WE}
/-- What stands while one condition is read. -/
structure In (H0 H : Hp) (p M rb : Nat) (refs : List ER) (C : List (List Leaf × Bool)) (rs cs : Sl) (R : List (ER × Sl)) (W : List WC) (sl : Sl) (WL : List WE) (lsl : Sl) (L : List Leaf) (al : Bool) : Prop where
  rd : RdI H p H0.size refs C rs cs R W
  bx : Row H rb 68 [Sl.v lsl, .bool al]
  ll : Lst leafF H lsl L
  lv : Lst eF H sl (WL.map Prod.fst)
  k : Kp No H0 H
  m1 : ∀ w ∈ W, ∀ b, w.1.1.at b → b < M
  m2 : ∀ b, lsl.at b → M ≤ b
  m3 : ∀ b, rs.at b → ¬ sl.at b
  m4 : H0.size ≤ M
  m5 : M ≤ rb
  m6 : ∀ b, cs.at b → b < M
theorem In.no (h : In H0 H p M rb refs C rs cs R W sl WL lsl L al) (k : Kp No H H') : In H0 H' p M rb refs C rs cs R W sl WL lsl L al :=
  ⟨h.rd.no k, k.row h.bx id, h.ll.kp k fun _ _ => id, h.lv.kp k fun _ _ => id, h.k.no2 k, h.m1, h.m2, h.m3, h.m4, h.m5, h.m6⟩
/-- A reference has its place. -/
theorem In.place {e : ER} {q : Sl} {Q : Int → Hp → Prop} (h : In H0 H p M rb refs C rs cs R W sl WL lsl L al) (hq : q.n = 0) (hR : refs.length ≤ 99999)
    (hQ : ∀ H' rs' R', In H0 H' p M rb (placeP refs e).1 C rs' cs R' W sl WL lsl L al → (∀ {c u : Nat} {m : List Value}, Row H c u m → u ≠ 66 → u ≠ 41 → Row H' c u m) → H.size ≤ H'.size → Q (placeP refs e).2 H') :
    F39 (some ⟨p, 0, none⟩) e.k e.o e.vk e.vi e.vs e.vb e.v e.p e.a q H Q := by
  have hs := h.k.size
  refine c39 h.rd hs hq (by have := h.rd.len; omega) fun H' rs' R' rd' k' _ hb => hQ H' rs' R' ⟨rd', k'.row h.bx (h.rd.box h.bx (by decide) (by decide)), h.ll.kp k' fun b hb => ?_, h.lv.kp k' fun b hb => ?_, h.k.trans k' fun b hb => .inr ?_, h.m1, h.m2, fun b hb' => ?_, h.m4, h.m5, h.m6⟩ (fun r h1 h2 => k'.row r (h.rd.box r h1 h2)) k'.size
  · obtain ⟨sp, r⟩ := h.ll.row hb
    exact h.rd.box r (by decide) (by decide)
  · rintro (e | e)
    · subst e; exact h.lv.ne h.rd.row (by decide) hb
    · exact h.m3 b e hb
  · rcases hb with e | e
    · rw [e]; exact h.rd.bp
    · exact h.rd.br b e
  · rcases hb b hb' with e | e
    · exact h.m3 b e
    · intro hh; have := h.lv.lt hh; omega
/-- Something is written to the box or to the list of leaves. -/
theorem In.box {lsl' : Sl} {L' : List Leaf} {al' : Bool} {S : Nat → Prop} (h : In H0 H p M rb refs C rs cs R W sl WL lsl L al) (k : Kp S H H') (hS : ∀ b, S b → b = rb ∨ lsl.at b) (rr : Row H' rb 68 [Sl.v lsl', .bool al']) (l : Lst leafF H' lsl' L') (m : ∀ b, lsl'.at b → M ≤ b) :
    In H0 H' p M rb refs C rs cs R W sl WL lsl' L' al' := by
  have n1 : ∀ {c u : Nat} {x : List Value}, Row H c u x → u ≠ 68 → u ≠ 80 → ¬ S c := fun r h1 h2 hc => by
    rcases hS _ hc with e | e
    · subst e; exact r.ne_type h.bx h1 rfl
    · exact h.ll.ne r (Ne.symm h2) e
  have n2 : ∀ {α : Type} {t k : Nat} {F : Fmt α t k} {s : Sl} {X : List α}, Lst F H s X → t ≠ 68 → t ≠ 80 → ∀ b, s.at b → ¬ S b := fun l h1 h2 b hb => by
    obtain ⟨sp, r⟩ := l.row hb
    exact n1 r h1 h2
  have h5 := h.m5
  refine ⟨h.rd.kp k (n1 h.rd.row (by decide) (by decide)) (n2 h.rd.r (by decide) (by decide)) (fun b hb hc => ?_) fun w hw b hb hc => ?_, rr, l, h.lv.kp k (n2 h.lv (by decide) (by decide)), h.k.trans k fun b hb => .inr ?_, h.m1, m, h.m3, h.m4, h.m5, h.m6⟩
  · have := h.m6 b hb
    rcases hS _ hc with e | e
    · omega
    · have := h.m2 b e; omega
  · have := h.m1 w hw b hb
    rcases hS _ hc with e | e
    · omega
    · have := h.m2 b e; omega
  · have h4 := h.m4
    rcases hS _ hb with e | e
    · omega
    · have := h.m2 b e; omega
end
end Go.Hw
