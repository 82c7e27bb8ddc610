/- The groups of a system and their kinds. Own work of this session. -/
import Derived.Test.YtkdjcmfmflljlaaDoorB6
set_option linter.unusedVariables false
namespace Go.Hw
open Go

abbrev WC := (Sl × Bool) × (List Leaf × Bool)
/-- Conditions read, each list with a row of its own. -/
structure CdL (H : Hp) (cs : Sl) (W : List WC) : Prop where
  l : Lst rdF H cs (W.map Prod.fst)
  x : ∀ w ∈ W, w.1.2 = w.2.2 ∧ Lst leafF H w.1.1 w.2.1
theorem CdL.rd {H : Hp} {cs : Sl} {W : List WC} (h : CdL H cs W) : CdH H cs W := ⟨h.l.rd, fun w hw => ⟨(h.x w hw).1, (h.x w hw).2.rd⟩⟩
theorem CdL.kp {S : Nat → Prop} {H H' : Hp} {cs : Sl} {W : List WC} (h : CdL H cs W) (k : Kp S H H') (h1 : ∀ b, cs.at b → ¬ S b) (h2 : ∀ w ∈ W, ∀ b, w.1.1.at b → ¬ S b) : CdL H' cs W :=
  ⟨h.l.kp k h1, fun w hw => ⟨(h.x w hw).1, (h.x w hw).2.kp k (h2 w hw)⟩⟩
theorem Lst.apart {α β : Type} {t k t' k' : Nat} {F : Fmt α t k} {F' : Fmt β t' k'} {H : Hp} {s s' : Sl} {L : List α} {L' : List β} (h : Lst F H s L) (h' : Lst F' H s' L') (hne : t ≠ t') : ∀ b, s.at b → ¬ s'.at b := fun b hb hh => by
  obtain ⟨sp, r⟩ := h'.row hh
  exact h.ne r hne hb
/-- What stands while groups are found. -/
structure Gr (H : Hp) (p : Nat) (rs cs ks : Sl) (g : Nat) (gs : Sl) (R : List (ER × Sl)) (W : List WC) (G : List Nat) : Prop where
  row : Row H p 66 [Sl.v rs, Sl.v cs, .pointer (some ⟨g, 0, none⟩), Sl.v ks]
  r : Lst eF H rs R
  c : CdL H cs W
  gh : GH H g gs G
section
variable {H H0 H' : Hp} {p g : Nat} {rs cs ks gs : Sl} {R : List (ER × Sl)} {W : List WC} {G : List Nat}
theorem Gr.no (h : Gr H p rs cs ks g gs R W G) (k : Kp No H H') : Gr H' p rs cs ks g gs R W G := ⟨k.row h.row id, h.r.kp k fun _ _ => id, h.c.kp k (fun _ _ => id) fun _ _ _ _ => id, h.gh.no k⟩
/-- A list of numbers beside is written. -/
theorem Gr.int {s : Sl} {L : List Int} (h : Gr H p rs cs ks g gs R W G) (hl : Lst iF H s L) (k : Kp s.at H H') (hs : ∀ b, gs.at b → ¬ s.at b) : Gr H' p rs cs ks g gs R W G :=
  ⟨k.row h.row (hl.ne h.row (by decide)), h.r.kp k (h.r.apart hl (by decide)), h.c.kp k (h.c.l.apart hl (by decide)) (fun w hw => (h.c.x w hw).2.apart hl (by decide)), h.gh.kp k (hl.ne h.gh.row (by decide)) hs⟩
theorem Gr.tie {G' : List Nat} (h : Gr H p rs cs ks g gs R W G) (gh : GH H' g gs G') (k : Kp gs.at H H') : Gr H' p rs cs ks g gs R W G' :=
  ⟨k.row h.row (h.gh.l.ne h.row (by decide)), h.r.kp k (h.r.apart h.gh.l (by decide)), h.c.kp k (h.c.l.apart h.gh.l (by decide)) (fun w hw => (h.c.x w hw).2.apart h.gh.l (by decide)), gh⟩

def tstep (G : List Nat) (l : Leaf) : List Nat := if l.two = true then tieP G l.a l.b else G
def csteps (G : List Nat) (c : List Leaf × Bool) : List Nat := c.1.foldl tstep G
def orAt (K : List Int) (i : Nat) (b : Int) : List Int := K.set i (orB .i64 (K.getD i 0) b)
def timeP (r : ER) : Bool := decide (r.k = 3) || seq r.a S_time
def kstep1 (G : List Nat) (K : List Int) (x : Nat × ER) : List Int := if timeP x.2 = true then orAt K (root G x.1) 2 else K
def kstep2 (G : List Nat) (K : List Int) (l : Leaf) : List Int := if l.two = true then K else orAt K (root G l.a) (shlB .i64 1 l.v.k)
def ksteps (G : List Nat) (K : List Int) (c : List Leaf × Bool) : List Int := c.1.foldl (kstep2 G) K
/-- Where the references of a leaf stand; its constant. -/
def LfOk (n : Nat) (l : Leaf) : Prop := l.a < n ∧ (l.two = true → l.b < n) ∧ (l.two = false → 0 ≤ l.v.k)
theorem tstep_len (G : List Nat) (l : Leaf) : (tstep G l).length = G.length := by unfold tstep; split; exact tie_len _ _ _; rfl
theorem tfold_len : ∀ (L : List Leaf) (G : List Nat), (L.foldl tstep G).length = G.length
  | [], _ => rfl
  | l :: L, G => by rw [List.foldl_cons, tfold_len L, tstep_len]
theorem cfold_len : ∀ (C : List (List Leaf × Bool)) (G : List Nat), (C.foldl csteps G).length = G.length
  | [], _ => rfl
  | c :: C, G => by rw [List.foldl_cons, cfold_len C]; exact tfold_len _ _
theorem take_snoc {α : Type} {L : List α} {i : Nat} {x : α} (h : L[i]? = some x) : L.take (i + 1) = L.take i ++ [x] := by
  rw [List.take_add_one, h]; rfl

/-- The ties of one condition's leaves. -/
theorem c42_L4 {n i : Nat} {c : WC} {Q : Hp → Prop} {X2 : Int → Hp → Prop} (h : Gr H p rs cs ks g gs R W G) (hn : G.length = n) (hc : c ∈ W) (hl : c.2.1.length ≤ 100000) (hi : i < 100000) (ho : ∀ l ∈ c.2.1, LfOk n l)
    (hQ : ∀ H', Gr H' p rs cs ks g gs R W (csteps G c.2) → Kp gs.at H H' → X2 (i + 1 : Nat) H') : F42_L4 Q X2 (some ⟨p, 0, none⟩) cs (cs.n : Int) i c.1.1 (c.1.1.n : Int) 0 H := by
  have hn1 := ((h.c.x c hc).2).rd.n
  intro X hX
  suffices ∀ d j H', j + d = c.2.1.length → Gr H' p rs cs ks g gs R W ((c.2.1.take j).foldl tstep G) → Kp gs.at H H' → X j H' from this _ 0 H (Nat.zero_add _) (by simpa using h) (Kp.refl _ _)
  intro d
  induction d with
  | zero =>
    intro j H' hj h' k
    refine hX _ _ ⟨fun hh => absurd (of_decide_eq_true hh) (by omega), fun _ => ?_⟩
    rw [List.take_of_length_le (by omega)] at h'
    unfold F42_3
    rw [wr (by omega) (by omega), show ((i : Int) + 1) = ((i + 1 : Nat) : Int) by omega]
    exact hQ H' h' k
  | succ d ih =>
    intro j H' hj h' k
    have gl : c.2.1[j]? = some (c.2.1[j]'(by omega)) := List.getElem?_eq_getElem (by omega)
    have hm : c.2.1[j]'(by omega) ∈ c.2.1 := List.getElem_mem _
    have htk := take_snoc gl
    generalize c.2.1[j]'(by omega) = l at gl htk hm
    obtain ⟨ho1, ho2, ho3⟩ := ho l hm
    obtain ⟨a, ea, han, ca⟩ := ((h'.c.x c hc).2).rd.get gl
    refine hX _ _ ⟨fun _ => ⟨a, ea, by omega, by omega, _, _, _, _, _, _, _, _, by rw [show ((j : Int)).toNat = j from by omega]; exact ca, fun H70 e70 => ?_⟩, fun hh => absurd (of_decide_eq_false hh) (by omega)⟩
    have k70 : Kp No H' H70 := (Kp.refl _ _).push' e70
    have y70 : Row H70 H'.size 80 (leafF.f ⟨0, 0, 0, false, zeroV⟩) := Row.new' e70
    refine ⟨y70.mayw (by simp [leafF]), fun H72 e72 => ?_⟩
    have y72 : Row H72 H'.size 80 (leafF.f l) := y70.fill' e72 rfl
    have k72 : Kp No H' H72 := k70.box ((Kp.refl _ _).sets' e72 (.inl rfl)) (Nat.le_refl _)
    have h72 := h'.no k72
    have kk : Kp gs.at H H72 := k.trans (k72.mono fun _ _ h => h.elim) fun _ hb => .inl hb
    have next : ∀ G' H', (c.2.1.take (j + 1)).foldl tstep G = G' → Gr H' p rs cs ks g gs R W G' → Kp gs.at H H' → F42_5 Q X2 X (some ⟨p, 0, none⟩) cs (cs.n : Int) i c.1.1 (c.1.1.n : Int) j H' := fun G' H' e hg k => by
      unfold F42_5
      rw [wr (by omega) (by omega), show ((j : Int) + 1) = ((j + 1 : Nat) : Int) by omega]
      exact ih (j + 1) H' (by omega) (by rw [e]; exact hg) k
    have hlen : ((c.2.1.take j).foldl tstep G).length = n := by rw [tfold_len, hn]
    refine ⟨_, rowc (i := 3) y72 rfl, fun ht => ⟨_, rfl, _, rowc (i := 2) h72.row rfl, _, rowc (i := 1) y72 rfl, _, rowc (i := 2) y72 rfl, ?_⟩, fun ht => ?_⟩
    · refine c57 h72.gh (by omega) (by have := ho2 ht; omega) fun H86 g86 k86 => next _ H86 ?_ (h72.tie g86 k86) (kk.trans k86 fun _ hb => .inl hb)
      rw [htk, List.foldl_append]
      show tstep _ l = _
      rw [tstep, if_pos ht]
    · refine next _ H72 ?_ h72 kk
      rw [htk, List.foldl_append]
      show tstep _ l = _
      rw [tstep, if_neg (by rw [ht]; decide)]
/-- All ties. -/
theorem c42_L2 {n : Nat} {Q : Hp → Prop} (h : Gr H p rs cs ks g gs R W G) (hn : G.length = n) (hW : W.length ≤ 99999) (hl : ∀ w ∈ W, w.2.1.length ≤ 100000 ∧ ∀ l ∈ w.2.1, LfOk n l)
    (hQ : ∀ H', Gr H' p rs cs ks g gs R W ((W.map Prod.snd).foldl csteps G) → Kp gs.at H H' → F42_1 Q (some ⟨p, 0, none⟩) H') : F42_L2 Q (some ⟨p, 0, none⟩) cs (cs.n : Int) 0 H := by
  have hcn := h.c.l.n
  rw [List.length_map] at hcn
  intro X hX
  suffices ∀ d i H', i + d = W.length → Gr H' p rs cs ks g gs R W (((W.take i).map Prod.snd).foldl csteps G) → Kp gs.at H H' → X i H' from this _ 0 H (Nat.zero_add _) (by simpa using h) (Kp.refl _ _)
  intro d
  induction d with
  | zero =>
    intro i H' hi h' k
    refine hX _ _ ⟨fun hh => absurd (of_decide_eq_true hh) (by omega), fun _ => ?_⟩
    rw [List.take_of_length_le (by omega)] at h'
    exact hQ H' h' k
  | succ d ih =>
    intro i H' hi h' k
    have gw : W[i]? = some (W[i]'(by omega)) := List.getElem?_eq_getElem (by omega)
    have hm : W[i]'(by omega) ∈ W := List.getElem_mem _
    have htk := take_snoc gw
    generalize W[i]'(by omega) = w at gw htk hm
    obtain ⟨a, ea, han, ca⟩ := h'.c.l.rd.get (show (W.map Prod.fst)[i]? = some w.1 by rw [List.getElem?_map, gw]; rfl)
    refine hX _ _ ⟨fun _ => ⟨a, ea, by omega, by omega, _, _, by rw [show ((i : Int)).toNat = i from by omega]; exact ca, fun H35 e35 => ?_⟩, fun hh => absurd (of_decide_eq_false hh) (by omega)⟩
    have k35 : Kp No H' H35 := (Kp.refl _ _).push' e35
    have y35 : Row H35 H'.size 68 (rdF.f (Sl.nil, false)) := Row.new' e35
    refine ⟨y35.mayw (by simp [rdF]), fun H37 e37 => ?_⟩
    have y37 : Row H37 H'.size 68 (rdF.f w.1) := y35.fill' e37 rfl
    have k37 : Kp No H' H37 := k35.box ((Kp.refl _ _).sets' e37 (.inl rfl)) (Nat.le_refl _)
    refine ⟨_, y37.cell_of (i := 0) rfl, c42_L4 (n := n) (h'.no k37) (by rw [cfold_len]; exact hn) hm (hl w hm).1 (by omega) (hl w hm).2 fun H4 h4 k4 => ?_⟩
    refine ih (i + 1) H4 (by omega) ?_ ((k.trans (k37.mono fun _ _ h => h.elim) fun _ hb => .inl hb).trans k4 fun _ hb => .inl hb)
    rw [htk, List.map_append, List.foldl_append]
    exact h4

/-! ## kinds -/
def kseq (G : List Nat) (refs : List ER) (K0 : List Int) : Nat → List Int
  | 0 => K0
  | i + 1 => kstep1 G (kseq G refs K0 i) (i, refs.getD i zeroE)
theorem orAt_len (K : List Int) (i : Nat) (b : Int) : (orAt K i b).length = K.length := List.length_set
theorem kseq_len (G : List Nat) (refs : List ER) (K0 : List Int) : ∀ n, (kseq G refs K0 n).length = K0.length
  | 0 => rfl
  | n + 1 => by rw [kseq, kstep1]; split; rw [orAt_len, kseq_len]; exact kseq_len _ _ _ _
theorem kstep2_len (G : List Nat) (K : List Int) (l : Leaf) : (kstep2 G K l).length = K.length := by unfold kstep2; split; rfl; exact orAt_len _ _ _
theorem kfold2_len (G : List Nat) : ∀ (L : List Leaf) (K : List Int), (L.foldl (kstep2 G) K).length = K.length
  | [], _ => rfl
  | l :: L, K => by rw [List.foldl_cons, kfold2_len G L, kstep2_len]
theorem kcfold_len (G : List Nat) : ∀ (C : List (List Leaf × Bool)) (K : List Int), (C.foldl (ksteps G) K).length = K.length
  | [], _ => rfl
  | c :: C, K => by rw [List.foldl_cons, kcfold_len G C]; exact kfold2_len _ _ _
/-- One kind more. -/
theorem kor {K : List Int} {i : Nat} {b : Int} (hk : Lst iF H ks K) (hi : i < K.length) : ∃ a : Addr, ks.b = some a ∧ i < ks.n ∧ cell H (Addr.add a (i * 1)) = some (.int .i64 (K.getD i 0)) ∧ (cell H (Addr.add a (i * 1))).isSome = true ∧ frz H (Addr.add a (i * 1)) = false ∧
    ∀ H', H' = setc H (Addr.add a (i * 1)) (.int .i64 (orB .i64 (K.getD i 0) b)) → Lst iF H' ks (orAt K i b) ∧ Kp ks.at H H' := by
  have gk : K[i]? = some (K.getD i 0) := by rw [List.getD_eq_getElem?_getD, List.getElem?_eq_getElem hi]; rfl
  obtain ⟨a, ea, han, ca⟩ := hk.rd.get gk
  obtain ⟨a', ea', ab, han', hm, hw⟩ := hk.set hi (orB .i64 (K.getD i 0) b)
  rw [ea] at ea'; cases ea'
  exact ⟨a, ea, han, ca.1, hm.1.1, hm.1.2, fun H' e => hw H' e⟩
theorem c42_9 {i : Nat} {t : Bool} {K : List Int} {Q : Hp → Prop} {X7 : Int → Hp → Prop} (h : Gr H p rs cs ks g gs R W G) (hk : Lst iF H ks K) (hd : ∀ b, gs.at b → ¬ ks.at b) (hG : G.length = K.length) (hi : i < K.length) (hn : K.length ≤ 100000)
    (hQ : ∀ H', Gr H' p rs cs ks g gs R W G → Lst iF H' ks (if t = true then orAt K (root G i) 2 else K) → Kp ks.at H H' → X7 (i + 1 : Nat) H') : F42_9 Q X7 (some ⟨p, 0, none⟩) i rs (rs.n : Int) i t H := by
  have next : ∀ H', X7 (i + 1 : Nat) H' → F42_8 Q X7 (some ⟨p, 0, none⟩) rs (rs.n : Int) i H' := fun H' hx => by
    unfold F42_8
    rw [wr (by omega) (by omega), show ((i : Int) + 1) = ((i + 1 : Nat) : Int) by omega]
    exact hx
  have hr := root_le h.gh.ok (show i < G.length by omega)
  refine ⟨fun ht => ⟨_, rfl, _, rowc (i := 3) h.row rfl, _, rfl, _, rowc (i := 2) h.row rfl, c48 h.gh (by omega) ?_⟩, fun ht => next H (hQ H h (by rw [if_neg (by rw [ht]; decide)]; exact hk) (Kp.refl _ _))⟩
  obtain ⟨a, ea, han, ca, h1, h2, hw⟩ := kor (b := 2) hk (show root G i < K.length by omega)
  have e : ((root G i : Nat) : Int).toNat = root G i := by omega
  refine ⟨rowc (i := 3) h.row rfl, a, ea, by omega, by omega, _, by rw [e]; exact ca, a, ea, by omega, by omega, by rw [e]; exact h1, by rw [e]; exact h2, fun H' e' => next H' ?_⟩
  rw [e] at e'
  obtain ⟨l', k'⟩ := hw H' e'
  exact hQ H' (h.int hk k' hd) (by rw [if_pos ht]; exact l') k'
theorem c42_L7 {K : List Int} {Q : Hp → Prop} (h : Gr H p rs cs ks g gs R W G) (hk : Lst iF H ks K) (hd : ∀ b, gs.at b → ¬ ks.at b) (hG : G.length = K.length) (hR : R.length = K.length) (hn : K.length ≤ 100000)
    (hQ : ∀ H', Gr H' p rs cs ks g gs R W G → Lst iF H' ks (kseq G (R.map Prod.fst) K K.length) → Kp ks.at H H' → F42_6 Q (some ⟨p, 0, none⟩) H') : F42_L7 Q (some ⟨p, 0, none⟩) rs (rs.n : Int) 0 H := by
  have hrn := h.r.n
  intro X hX
  suffices ∀ d i H', i + d = K.length → Gr H' p rs cs ks g gs R W G → Lst iF H' ks (kseq G (R.map Prod.fst) K i) → Kp ks.at H H' → X i H' from this _ 0 H (Nat.zero_add _) h hk (Kp.refl _ _)
  intro d
  induction d with
  | zero =>
    intro i H' hi h' hk' k
    refine hX _ _ ⟨fun hh => absurd (of_decide_eq_true hh) (by omega), fun _ => ?_⟩
    rw [show i = K.length by omega] at hk'
    exact hQ H' h' hk' k
  | succ d ih =>
    intro i H' hi h' hk' k
    have gr : R[i]? = some (R[i]'(by omega)) := List.getElem?_eq_getElem (by omega)
    have gd : (R.map Prod.fst).getD i zeroE = (R[i]'(by omega)).1 := by rw [List.getD_eq_getElem?_getD, List.getElem?_map, gr]; rfl
    generalize R[i]'(by omega) = r at gr gd
    obtain ⟨a, ea, han, ca⟩ := h'.r.rd.get gr
    have kl := kseq_len G (R.map Prod.fst) K i
    refine hX _ _ ⟨fun _ => ⟨a, ea, by omega, by omega, _, _, _, _, _, _, _, _, _, _, by rw [show ((i : Int)).toNat = i from by omega]; exact ca, fun H133 e133 => ?_⟩, fun hh => absurd (of_decide_eq_false hh) (by omega)⟩
    have k133 : Kp No H' H133 := (Kp.refl _ _).push' e133
    have y133 : Row H133 H'.size 41 (zeroE.row Sl.nil) := Row.new' e133
    refine ⟨y133.mayw (by simp), fun H135 e135 => ?_⟩
    have y135 : Row H135 H'.size 41 (r.1.row r.2) := y133.fill' e135 rfl
    have k135 : Kp No H' H135 := k133.box ((Kp.refl _ _).sets' e135 (.inl rfl)) (Nat.le_refl _)
    have next : ∀ t, timeP r.1 = t → F42_9 Q X (some ⟨p, 0, none⟩) i rs (rs.n : Int) i t H135 := fun t et => by
      refine c42_9 (h'.no k135) (hk'.kp k135 fun _ _ => id) hd (by omega) (by omega) (by omega) fun H2 h2 l2 k2 => ih (i + 1) H2 (by omega) h2 ?_ ((k.trans (k135.mono fun _ _ h => h.elim) fun _ hb => .inl hb).trans k2 fun _ hb => .inl hb)
      rw [kseq, kstep1, gd]
      show Lst iF H2 ks (if timeP r.1 = true then _ else _)
      rw [et]; exact l2
    refine ⟨_, y135.cell_of (i := 0) rfl, fun h3 => next true (by rw [timeP, h3]; rfl), fun h3 => ⟨_, rowc (i := 8) y135 rfl, next _ (by rw [timeP, h3]; rfl)⟩⟩
theorem c42_L12 {n i : Nat} {c : WC} {K : List Int} {Q : Hp → Prop} {X10 : Int → Hp → Prop} (h : Gr H p rs cs ks g gs R W G) (hk : Lst iF H ks K) (hd : ∀ b, gs.at b → ¬ ks.at b) (hG : G.length = n) (hK : K.length = n) (hn : n ≤ 100000) (hc : c ∈ W) (hl : c.2.1.length ≤ 100000) (hi : i < 100000) (ho : ∀ l ∈ c.2.1, LfOk n l)
    (hQ : ∀ H', Gr H' p rs cs ks g gs R W G → Lst iF H' ks (ksteps G K c.2) → Kp ks.at H H' → X10 (i + 1 : Nat) H') : F42_L12 Q X10 (some ⟨p, 0, none⟩) cs (cs.n : Int) i c.1.1 (c.1.1.n : Int) 0 H := by
  have hn1 := ((h.c.x c hc).2).rd.n
  intro X hX
  suffices ∀ d j H', j + d = c.2.1.length → Gr H' p rs cs ks g gs R W G → Lst iF H' ks ((c.2.1.take j).foldl (kstep2 G) K) → Kp ks.at H H' → X j H' from this _ 0 H (Nat.zero_add _) h (by simpa using hk) (Kp.refl _ _)
  intro d
  induction d with
  | zero =>
    intro j H' hj h' hk' k
    refine hX _ _ ⟨fun hh => absurd (of_decide_eq_true hh) (by omega), fun _ => ?_⟩
    rw [List.take_of_length_le (by omega)] at hk'
    unfold F42_11
    rw [wr (by omega) (by omega), show ((i : Int) + 1) = ((i + 1 : Nat) : Int) by omega]
    exact hQ H' h' hk' k
  | succ d ih =>
    intro j H' hj h' hk' k
    have gl : c.2.1[j]? = some (c.2.1[j]'(by omega)) := List.getElem?_eq_getElem (by omega)
    have hm : c.2.1[j]'(by omega) ∈ c.2.1 := List.getElem_mem _
    have htk := take_snoc gl
    generalize c.2.1[j]'(by omega) = l at gl htk hm
    obtain ⟨ho1, ho2, ho3⟩ := ho l hm
    obtain ⟨a, ea, han, ca⟩ := ((h'.c.x c hc).2).rd.get gl
    refine hX _ _ ⟨fun _ => ⟨a, ea, by omega, by omega, _, _, _, _, _, _, _, _, by rw [show ((j : Int)).toNat = j from by omega]; exact ca, fun H70 e70 => ?_⟩, fun hh => absurd (of_decide_eq_false hh) (by omega)⟩
    have k70 : Kp No H' H70 := (Kp.refl _ _).push' e70
    have y70 : Row H70 H'.size 80 (leafF.f ⟨0, 0, 0, false, zeroV⟩) := Row.new' e70
    refine ⟨y70.mayw (by simp [leafF]), fun H72 e72 => ?_⟩
    have y72 : Row H72 H'.size 80 (leafF.f l) := y70.fill' e72 rfl
    have k72 : Kp No H' H72 := k70.box ((Kp.refl _ _).sets' e72 (.inl rfl)) (Nat.le_refl _)
    have h72 := h'.no k72
    have l72 := hk'.kp k72 fun _ _ => id
    have kk : Kp ks.at H H72 := k.trans (k72.mono fun _ _ h => h.elim) fun _ hb => .inl hb
    have next : ∀ H', Gr H' p rs cs ks g gs R W G → Lst iF H' ks ((c.2.1.take (j + 1)).foldl (kstep2 G) K) → Kp ks.at H H' → F42_13 Q X10 X (some ⟨p, 0, none⟩) cs (cs.n : Int) i c.1.1 (c.1.1.n : Int) j H' := fun H' hg hl k => by
      unfold F42_13
      rw [wr (by omega) (by omega), show ((j : Int) + 1) = ((j + 1 : Nat) : Int) by omega]
      exact ih (j + 1) H' (by omega) hg hl k
    have hlen : ((c.2.1.take j).foldl (kstep2 G) K).length = n := by rw [kfold2_len, hK]
    have e2 : (c.2.1.take (j + 1)).foldl (kstep2 G) K = kstep2 G ((c.2.1.take j).foldl (kstep2 G) K) l := by rw [htk, List.foldl_append]; rfl
    have hr := root_le h72.gh.ok (show l.a < G.length by omega)
    refine ⟨_, rowc (i := 3) y72 rfl, fun ht => ?_, fun ht => next H72 h72 ?_ kk⟩
    · have ht : l.two = false := by simpa using ht
      refine ⟨_, rfl, _, rowc (i := 3) h72.row rfl, _, rfl, _, rowc (i := 2) h72.row rfl, _, rowc (i := 1) y72 rfl, _, rowc (i := 4) y72 rfl, ho3 ht, c48 h72.gh (by omega) ?_⟩
      obtain ⟨a, ea, han, ca, h1, h2, hw⟩ := kor (b := shlB .i64 1 l.v.k) l72 (show root G l.a < _ by rw [hlen]; omega)
      have e : ((root G l.a : Nat) : Int).toNat = root G l.a := by omega
      refine ⟨rowc (i := 4) y72 rfl, rowc (i := 3) h72.row rfl, a, ea, by omega, by omega, _, by rw [e]; exact ca, a, ea, by omega, by omega, by rw [e]; exact h1, by rw [e]; exact h2, fun H' e' => ?_⟩
      rw [e] at e'
      obtain ⟨l', k'⟩ := hw H' e'
      refine next H' (h72.int l72 k' hd) ?_ (kk.trans k' fun _ hb => .inl hb)
      rw [e2, kstep2, if_neg (by rw [ht]; decide)]; exact l'
    · have ht : l.two = true := by simpa using ht
      rw [e2, kstep2, if_pos ht]; exact l72
theorem c42_L10 {n : Nat} {K : List Int} {Q : Hp → Prop} (h : Gr H p rs cs ks g gs R W G) (hk : Lst iF H ks K) (hd : ∀ b, gs.at b → ¬ ks.at b) (hG : G.length = n) (hK : K.length = n) (hn : n ≤ 100000) (hW : W.length ≤ 99999) (hl : ∀ w ∈ W, w.2.1.length ≤ 100000 ∧ ∀ l ∈ w.2.1, LfOk n l)
    (hQ : ∀ H', Gr H' p rs cs ks g gs R W G → Lst iF H' ks ((W.map Prod.snd).foldl (ksteps G) K) → Kp ks.at H H' → Q H') : F42_L10 Q (some ⟨p, 0, none⟩) cs (cs.n : Int) 0 H := by
  have hcn := h.c.l.n
  rw [List.length_map] at hcn
  intro X hX
  suffices ∀ d i H', i + d = W.length → Gr H' p rs cs ks g gs R W G → Lst iF H' ks (((W.take i).map Prod.snd).foldl (ksteps G) K) → Kp ks.at H H' → X i H' from this _ 0 H (Nat.zero_add _) h (by simpa using hk) (Kp.refl _ _)
  intro d
  induction d with
  | zero =>
    intro i H' hi h' hk' k
    refine hX _ _ ⟨fun hh => absurd (of_decide_eq_true hh) (by omega), fun _ => ?_⟩
    rw [List.take_of_length_le (by omega)] at hk'
    exact hQ H' h' hk' k
  | succ d ih =>
    intro i H' hi h' hk' k
    have gw : W[i]? = some (W[i]'(by omega)) := List.getElem?_eq_getElem (by omega)
    have hm : W[i]'(by omega) ∈ W := List.getElem_mem _
    have htk := take_snoc gw
    generalize W[i]'(by omega) = w at gw htk hm
    obtain ⟨a, ea, han, ca⟩ := h'.c.l.rd.get (show (W.map Prod.fst)[i]? = some w.1 by rw [List.getElem?_map, gw]; rfl)
    refine hX _ _ ⟨fun _ => ⟨a, ea, by omega, by omega, _, _, by rw [show ((i : Int)).toNat = i from by omega]; exact ca, fun H35 e35 => ?_⟩, fun hh => absurd (of_decide_eq_false hh) (by omega)⟩
    have k35 : Kp No H' H35 := (Kp.refl _ _).push' e35
    have y35 : Row H35 H'.size 68 (rdF.f (Sl.nil, false)) := Row.new' e35
    refine ⟨y35.mayw (by simp [rdF]), fun H37 e37 => ?_⟩
    have y37 : Row H37 H'.size 68 (rdF.f w.1) := y35.fill' e37 rfl
    have k37 : Kp No H' H37 := k35.box ((Kp.refl _ _).sets' e37 (.inl rfl)) (Nat.le_refl _)
    refine ⟨_, y37.cell_of (i := 0) rfl, c42_L12 (n := n) (h'.no k37) (hk'.kp k37 fun _ _ => id) hd hG (by rw [kcfold_len]; exact hK) hn hm (hl w hm).1 (by omega) (hl w hm).2 fun H4 h4 l4 k4 => ?_⟩
    refine ih (i + 1) H4 (by omega) h4 ?_ ((k.trans (k37.mono fun _ _ h => h.elim) fun _ hb => .inl hb).trans k4 fun _ hb => .inl hb)
    rw [htk, List.map_append, List.foldl_append]
    exact l4
/-- The system that references and conditions make. -/
def sysP (refs : List ER) (conds : List (List Leaf × Bool)) : Sys :=
  ⟨refs, conds, conds.foldl csteps (List.range refs.length), conds.foldl (ksteps (conds.foldl csteps (List.range refs.length))) (kseq (conds.foldl csteps (List.range refs.length)) refs (List.replicate refs.length 0) refs.length)⟩
theorem c42 {z : Option Addr} {Q : Hp → Prop} (row : Row H p 66 [Sl.v rs, Sl.v cs, .pointer z, Sl.v ks]) (hr : Lst eF H rs R) (hc : CdL H cs W) (h0 : ∀ x ∈ R, x.2.n = 0) (hR : R.length ≤ 100000) (hW : W.length ≤ 99999) (hl : ∀ w ∈ W, w.2.1.length ≤ 100000 ∧ ∀ l ∈ w.2.1, LfOk R.length l)
    (hQ : ∀ H', SyH H' p (sysP (R.map Prod.fst) (W.map Prod.snd)) → Kp (fun x => x = p) H H' → Q H') : F42 (some ⟨p, 0, none⟩) H Q := by
  have hrn := hr.n
  refine ⟨_, rfl, rs, row.cell_of (i := 0) rfl, ?_⟩
  rw [hrn]
  refine c56 hR fun g gs H5 g5 hg hgs k5 => ?_
  have r5 := k5.row row id
  refine ⟨_, rfl, by rw [add_mk]; exact r5.some (by simp), by rw [add_mk]; exact r5.frz _, fun H10 e10 => ?_⟩
  rw [add_mk] at e10
  have r10 := r5.set' e10
  have k10 : Kp (fun x => x = p) H5 H10 := (Kp.refl _ _).set' e10 (.inl rfl)
  have hp := row.lt
  have gr10 : Gr H10 p rs cs ks g gs R W (List.range R.length) :=
    ⟨r10, (hr.kp k5 fun _ _ => id).kp k10 fun b hb e => by subst e; exact hr.ne row (by decide) hb,
      (hc.kp k5 (fun _ _ => id) fun _ _ _ _ => id).kp k10 (fun b hb e => by subst e; exact hc.l.ne row (by decide) hb) fun w hw b hb e => by subst e; exact (hc.x w hw).2.ne row (by decide) hb,
      g5.kp k10 (fun e => by omega) fun b hb e => by have := hgs b hb; omega⟩
  refine ⟨_, rfl, cs, rowc (i := 1) r10 rfl, c42_L2 (n := R.length) gr10 List.length_range hW hl fun H1 h1 k1 => ?_⟩
  refine ⟨_, rfl, rs, h1.row.cell_of (i := 0) rfl, by omega, by omega, by omega, by omega, fun H92 e92 => ?_⟩
  have k92 : Kp No H1 H92 := (Kp.refl _ _).push' e92
  have h92 := h1.no k92
  have y92 : Row H92 H1.size 3 ((List.replicate R.length 0).flatMap iF.f) := by
    have := Row.new' e92
    rw [hrn] at this
    have e : (made #[.int .i64 0] ((R.length : Nat) : Int).toNat).toList = (List.replicate R.length (0 : Int)).flatMap iF.f := by
      rw [show ((R.length : Nat) : Int).toNat = R.length by omega]
      simp [made, Builtin.zeroCells, iF, List.flatMap_replicate, Nat.mod_one, List.map_const']
    rw [e] at this; exact this
  refine ⟨_, rfl, by rw [add_mk]; exact h92.row.some (by simp), by rw [add_mk]; exact h92.row.frz _, fun H100 e100 => ?_⟩
  rw [add_mk] at e100
  have hC := cfold_len (W.map Prod.snd) (List.range R.length)
  rw [List.length_range] at hC
  have k100 : Kp (fun x => x = p) H92 H100 := (Kp.refl _ _).set' e100 (.inl rfl)
  have hen : ((R.length : Nat) : Int).toNat = R.length := by omega
  have s1 := k1.size
  have s10 := k10.size
  have s5 := k5.size
  have s92 := k92.size
  rw [hrn, hen] at e100
  generalize hks : Sl.mk (some ⟨H1.size, 0, none⟩) R.length R.length = ks2 at e100
  have hat : ∀ b, ks2.at b → b = H1.size := fun b hb => by subst hks; have : H1.size = b := by simpa [Sl.at] using hb
                                                           exact this.symm
  have l92 : Lst iF H92 ks2 (List.replicate R.length 0) := by
    subst hks
    exact ⟨.inr ⟨H1.size, [], rfl, by simpa using y92, by simp [iF, List.flatMap_replicate], by simp [iF, List.flatMap_replicate], Nat.le_refl _, (by show R.length ≤ 9223372036854775807; omega)⟩⟩
  have r100 : Row H100 p 66 [Sl.v rs, Sl.v cs, .pointer (some ⟨g, 0, none⟩), Sl.v ks2] := h92.row.set' e100
  have gr100 : Gr H100 p rs cs ks2 g gs R W ((W.map Prod.snd).foldl csteps (List.range R.length)) :=
    ⟨r100, h92.r.kp k100 fun b hb e => by subst e; exact h92.r.ne h92.row (by decide) hb,
      h92.c.kp k100 (fun b hb e => by subst e; exact h92.c.l.ne h92.row (by decide) hb) fun w hw b hb e => by subst e; exact (h92.c.x w hw).2.ne h92.row (by decide) hb,
      h92.gh.kp k100 (fun e => by omega) fun b hb e => by have := hgs b hb; omega⟩
  have l100 : Lst iF H100 ks2 (List.replicate R.length 0) := l92.kp k100 fun b hb e => by have := hat b hb; omega
  have hd : ∀ b, gs.at b → ¬ ks2.at b := fun b hb hh => by have := hat b hh; have := h1.gh.l.lt hb; omega
  have hz : (List.replicate R.length (0 : Int)).length = R.length := List.length_replicate
  refine ⟨_, rfl, rs, r100.cell_of (i := 0) rfl, c42_L7 gr100 l100 hd (by omega) (by omega) (by omega) fun H2 h2 l2 k2 => ?_⟩
  rw [hz] at l2
  have hkl := kseq_len ((W.map Prod.snd).foldl csteps (List.range R.length)) (R.map Prod.fst) (List.replicate R.length 0) R.length
  rw [hz] at hkl
  refine ⟨_, rfl, cs, rowc (i := 1) h2.row rfl, c42_L10 (n := R.length) h2 l2 hd hC hkl hR hW hl fun H3 h3 l3 k3 => ?_⟩
  have hRl : (R.map Prod.fst).length = R.length := List.length_map _
  refine hQ H3 ⟨rs, cs, ks2, gs, g, R, W, h3.row, h3.r.rd, rfl, h0, h3.c.rd, rfl, ?_, ?_, ?_, ?_, ?_⟩ ?_
  · show GH H3 g gs ((W.map Prod.snd).foldl csteps (List.range (R.map Prod.fst).length))
    rw [hRl]; exact h3.gh
  · show RdL iF H3 ks2 ((W.map Prod.snd).foldl (ksteps ((W.map Prod.snd).foldl csteps (List.range (R.map Prod.fst).length))) (kseq ((W.map Prod.snd).foldl csteps (List.range (R.map Prod.fst).length)) (R.map Prod.fst) (List.replicate (R.map Prod.fst).length 0) (R.map Prod.fst).length))
    rw [hRl]; exact l3.rd
  · show ((W.map Prod.snd).foldl csteps (List.range (R.map Prod.fst).length)).length = (R.map Prod.fst).length
    rw [hRl]; exact hC
  · show (((W.map Prod.snd).foldl (ksteps _) (kseq _ (R.map Prod.fst) (List.replicate (R.map Prod.fst).length 0) (R.map Prod.fst).length))).length = (R.map Prod.fst).length
    rw [kcfold_len, kseq_len, List.length_replicate]
  · show (R.map Prod.fst).length ≤ 100000
    rw [hRl]; exact hR
  · have a1 : Kp (fun x => x = p) H H10 := (k5.mono fun _ _ h => h.elim).trans k10 fun b hb => .inl hb
    have a2 : Kp (fun x => x = p) H H1 := a1.trans k1 fun b hb => .inr (hgs b hb)
    have a3 : Kp (fun x => x = p) H H100 := (a2.trans k92 fun b hb => hb.elim).trans k100 fun b hb => .inl hb
    exact (a3.trans k2 fun b hb => .inr (by have := hat b hb; omega)).trans k3 fun b hb => .inr (by have := hat b hb; omega)
end
end Go.Hw
