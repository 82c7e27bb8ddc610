/- Conditions are read: the walk. All conditions are read. Own work of this session. -/
import Derived.Test.YtkdjcmfmflljlaaDoorB9
set_option linter.unusedVariables false
namespace Go.Hw
open Go

section
variable {H H0 H' : Hp} {p M rb : Nat} {refs : List ER} {C : List (List Leaf × Bool)} {rs cs sl lsl : Sl} {R : List (ER × Sl)} {W : List WC} {L : List Leaf} {al : Bool} {WL : List WE} {Q : Option Addr → Hp → Prop} {X2 X4 : Int → Hp → Prop} {o1 : Sl} {o2 o3 o4 : Int} {j : Nat}
/-- The leaf is put behind. -/
theorem c23_7 {lb : Nat} {l : Leaf} (h : In H0 H p M rb refs C rs cs R W sl WL lsl L al) (x : Row H lb 80 (leafF.f l)) (hL : L.length ≤ 100000) (hj : j ≤ 100000)
    (hQ : ∀ H' lsl', In H0 H' p M rb refs C rs cs R W sl WL lsl' (L ++ [l]) al → X4 (j + 1 : Nat) H') : F23_7 Q X2 X4 ⟨p, 0, none⟩ ⟨rb, 0, none⟩ ⟨lb, 0, none⟩ o1 o2 o3 sl o4 j H := by
  have s0 := h.k.size
  refine ⟨lsl, h.bx.cell_of (i := 0) rfl, _, _, _, _, _, _, _, _, x.all, fun H274 e274 => ?_⟩
  have k274 : Kp No H H274 := (Kp.refl _ _).push' e274
  have b274 : Row H274 H.size 80 (leafF.f l) := Row.new' e274
  have h1 := h.no k274
  have s274 := size_push' e274
  refine h1.ll.append1 b274 rfl (by omega) (by omega) fun r278 H276 l276 k276 b276 => ?_
  have x276 := k276.row h1.bx (h1.ll.ne h1.bx (by decide))
  have hm : ∀ b, r278.at b → M ≤ b := fun b hb => by
    rcases b276 b hb with e | e
    · exact h.m2 b e
    · have := h.m5; have := h.bx.lt; omega
  refine ⟨x276.some (by simp), x276.frz 0, fun H279 e279 => ?_⟩
  have k279 : Kp (fun x => x = rb) H276 H279 := (Kp.refl _ _).set' e279 (.inl rfl)
  have x279 := x276.set' (i := 0) e279
  unfold F23_5
  rw [wr (by omega) (by omega), show ((j : Int) + 1) = ((j + 1 : Nat) : Int) by omega]
  refine hQ H279 r278 (h1.box (S := fun b => b = rb ∨ lsl.at b) ((k276.mono fun _ _ h => .inr h).trans k279 fun _ h => .inl (.inl h)) (fun b hb => hb) x279 (l276.kp k279 fun b hb e => ?_) hm)
  subst e
  exact l276.ne x276 (by decide) hb
/-- A leaf's own box is written. -/
theorem In.leafw {lb : Nat} {m : List Value} (h : In H0 H p M rb refs C rs cs R W sl WL lsl L al) (k : Kp (fun x => x = lb) H H') (hn : ¬ lsl.at lb) (hlb : M ≤ lb) (r : Row H lb 80 m) : In H0 H' p M rb refs C rs cs R W sl WL lsl L al := by
  have ne : ∀ {c u : Nat} {m : List Value}, Row H c u m → u ≠ 80 → ¬ c = lb := fun r' hu e => by subst e; exact r'.ne_type r hu rfl
  have nl : ∀ {α : Type} {t k : Nat} {F : Fmt α t k} {s : Sl} {X : List α}, Lst F H s X → t ≠ 80 → ∀ b, s.at b → ¬ b = lb := fun l ht b hb e => by subst e; exact l.ne r ht hb
  exact ⟨h.rd.kp k (ne h.rd.row (by decide)) (nl h.rd.r (by decide)) (nl h.rd.c.l (by decide)) (fun w hw' b hb e => by have := h.m1 w hw' b hb; omega), k.row h.bx (ne h.bx (by decide)), h.ll.kp k (fun b hb e => by subst e; exact hn hb), h.lv.kp k (nl h.lv (by decide)), h.k.trans k fun b hb => .inr (by have := h.m4; omega), h.m1, h.m2, h.m3, h.m4, h.m5, h.m6⟩
/-- The leaf's other side. -/
theorem c23_6 {lb sb : Nat} {s : Side} {q1 q2 : Sl} {a : Nat} (h : In H0 H p M rb refs C rs cs R W sl WL lsl L al) (x : Row H lb 80 (leafF.f ⟨s.o, a, 0, isRefP s.r2, zeroV⟩)) (y : Row H sb 89 (sideRow s.o s.r1 q1 s.r2 q2)) (hlb : M ≤ lb) (hn : ¬ lsl.at lb) (hx : Xk H0 q2 s.k2) (hfl : isRefP s.r2 = true → s.k2.len = 0) (hL : L.length ≤ 100000) (hj : j ≤ 100000) (hR : refs.length ≤ 99998)
    (hQ : ∀ H' rs' R' lsl', In H0 H' p M rb (if isRefP s.r2 = true then (placeP refs s.r2).1 else refs) C rs' cs R' W sl WL lsl' (L ++ [if isRefP s.r2 = true then ⟨s.o, a, (placeP refs s.r2).2, true, zeroV⟩ else ⟨s.o, a, 0, false, (constP s.r2 s.k2).getD zeroV⟩]) al → X4 (j + 1 : Nat) H') :
    F23_6 Q X2 X4 ⟨p, 0, none⟩ ⟨rb, 0, none⟩ ⟨sb, 0, none⟩ o1 o2 o3 sl o4 j ⟨lb, 0, none⟩ H := by
  refine ⟨_, rowc (i := 3) x rfl, fun ht => ?_, fun ht => ?_⟩
  · have ht : isRefP s.r2 = true := ht
    simp only [if_pos ht] at hQ
    refine ⟨_, _, _, _, _, _, _, _, _, _, rowcs (i := 11) (m := s.r2.row q2) y rfl, h.place (by rw [hx.n, hfl ht]) (by omega) fun H235 rs' R' h' keep _ => ?_⟩
    have x' := keep x (by decide) (by decide)
    refine ⟨by rw [add_mk]; exact x'.some (by simp [leafF]), by rw [add_mk]; exact x'.frz _, fun H238 e238 => ?_⟩
    rw [add_mk] at e238
    have x2 : Row H238 lb 80 (leafF.f ⟨s.o, a, (placeP refs s.r2).2, isRefP s.r2, zeroV⟩) := x'.set' e238
    rw [ht] at x2
    have k238 : Kp (fun x => x = lb) H235 H238 := (Kp.refl _ _).set' e238 (.inl rfl)
    exact c23_7 (h'.leafw k238 hn hlb x') x2 hL hj fun H' lsl' h'' => hQ H' rs' R' lsl' h''
  · have ht : isRefP s.r2 = false := ht
    simp only [if_neg (by rw [ht]; decide : ¬ isRefP s.r2 = true)] at hQ
    refine ⟨_, _, _, _, _, _, _, _, _, _, rowcs (i := 11) (m := s.r2.row q2) y rfl, c41 (hx.no h.k) fun H253 k253 => ?_⟩
    have x' := k253.row x id
    refine ⟨by rw [add_mk]; exact x'.mayw (by simp [leafF]), fun H260 e260 => ?_⟩
    rw [add_mk] at e260
    have x2 : Row H260 lb 80 (leafF.f ⟨s.o, a, 0, isRefP s.r2, (constP s.r2 s.k2).getD zeroV⟩) := x'.sets' e260 (by simp [leafF])
    rw [ht] at x2
    have k260 : Kp (fun x => x = lb) H253 H260 := (Kp.refl _ _).sets' e260 (.inl rfl)
    exact c23_7 ((h.no k253).leafw k260 hn hlb x') x2 hL hj fun H' lsl' h'' => hQ H' rs R lsl' h''

/-- One leaf. -/
theorem c23_L4 {r0 : ER} {kd0 : Fo} {i : Nat} (h : In H0 H p M rb refs C rs cs R W sl WL lsl [] true) (hsl : WL.map Prod.snd = leavesP r0 kd0) (hx : ∀ w ∈ WL, w.1.1 = w.2.1 ∧ Xk H0 w.1.2 w.2.2) (hfl : ∀ x ∈ leavesP r0 kd0, FlatC x) (hl : (leavesP r0 kd0).length ≤ 1000) (hR : refs.length ≤ 90000)
    (hQ : ∀ H' rs' R' lsl', In H0 H' p M rb (readC refs (r0, kd0)).1 C rs' cs R' W sl WL lsl' (readC refs (r0, kd0)).2.1 (readC refs (r0, kd0)).2.2 → F23_3 Q X2 ⟨p, 0, none⟩ ⟨rb, 0, none⟩ o1 o2 i H') :
    F23_L4 Q X2 ⟨p, 0, none⟩ ⟨rb, 0, none⟩ o1 o2 i sl (sl.n : Int) 0 H := by
  have hn := h.lv.n
  rw [List.length_map] at hn
  have hlen : WL.length = (leavesP r0 kd0).length := by rw [← hsl, List.length_map]
  intro X hX
  suffices ∀ d j H' rs' R' lsl', j + d = WL.length → In H0 H' p M rb (((WL.take j).map Prod.snd).foldl cstep (refs, [], true)).1 C rs' cs R' W sl WL lsl' (((WL.take j).map Prod.snd).foldl cstep (refs, [], true)).2.1 (((WL.take j).map Prod.snd).foldl cstep (refs, [], true)).2.2 → X j H' from
    this _ 0 H rs R lsl (Nat.zero_add _) h
  intro d
  induction d with
  | zero =>
    intro j H2 rs' R' lsl' hj h'
    refine hX _ _ ⟨fun hh => absurd (of_decide_eq_true hh) (by omega), fun _ => ?_⟩
    rw [List.take_of_length_le (by omega), hsl] at h'
    exact hQ H2 rs' R' lsl' h'
  | succ d ih =>
    intro j H2 rs' R' lsl' hj h'
    obtain ⟨w, gw⟩ : ∃ w, WL[j]? = some w := ⟨_, List.getElem?_eq_getElem (by omega)⟩
    have hm := List.mem_of_getElem? gw
    have htk := take_snoc gw
    have hst : ((WL.take (j + 1)).map Prod.snd).foldl cstep (refs, [], true) = cstep (((WL.take j).map Prod.snd).foldl cstep (refs, [], true)) w.2 := by rw [htk, List.map_append, List.foldl_append]; rfl
    have hcs : CsOk refs j (((WL.take j).map Prod.snd).foldl cstep (refs, [], true)) := by
      have := (CsOk.start refs).fold (L := (WL.take j).map Prod.snd)
      rw [List.length_map, List.length_take, Nat.zero_add, Nat.min_eq_left (by omega)] at this
      exact this
    obtain ⟨he, hxw⟩ := hx w hm
    have hflw := hfl w.2 (by rw [← hsl]; exact List.mem_map_of_mem hm)
    have next : ∀ H' rs' R' lsl', In H0 H' p M rb (cstep (((WL.take j).map Prod.snd).foldl cstep (refs, [], true)) w.2).1 C rs' cs R' W sl WL lsl' (cstep (((WL.take j).map Prod.snd).foldl cstep (refs, [], true)) w.2).2.1 (cstep (((WL.take j).map Prod.snd).foldl cstep (refs, [], true)) w.2).2.2 → X (j + 1 : Nat) H' := fun H' rs' R' lsl' hh => ih (j + 1) H' rs' R' lsl' (by omega) (by rw [hst]; exact hh)
    have cl := hcs.ll
    have ch := hcs.hi
    generalize ((WL.take j).map Prod.snd).foldl cstep (refs, [], true) = st at h' next cl ch
    obtain ⟨a, ea, han, ca⟩ := h'.lv.rd.get (show (WL.map Prod.fst)[j]? = some w.1 by rw [List.getElem?_map, gw]; rfl)
    refine hX _ _ ⟨fun _ => ⟨a, ea, by omega, by omega, _, _, _, _, _, _, _, _, _, _, by rw [show ((j : Int)).toNat = j from by omega]; exact ca, fun H85 e85 => ?_⟩, fun hh => absurd (of_decide_eq_false hh) (by omega)⟩
    have k85 : Kp No H2 H85 := (Kp.refl _ _).push' e85
    have y85 : Row H85 H2.size 41 (zeroE.row Sl.nil) := Row.new' e85
    refine ⟨y85.mayw (by simp), fun H87 e87 => ?_⟩
    have y87 : Row H87 H2.size 41 (w.1.1.row w.1.2) := y85.fill' e87 rfl
    have k87 : Kp No H2 H87 := k85.box ((Kp.refl _ _).sets' e87 (.inl rfl)) (Nat.le_refl _)
    rw [he] at y87
    refine ⟨_, _, _, _, _, _, _, _, _, _, y87.all, c36 (h'.k.no2 k87) hxw fun H101 o r1 q1 r2 q2 ok k101 hs H125 e125 => ?_⟩
    have k125 : Kp No H101 H125 := (Kp.refl _ _).push' e125
    have y125 : Row H125 H101.size 89 (sideRow 0 zeroE Sl.nil zeroE Sl.nil) := Row.new' e125
    refine ⟨y125.mayw (by simp), fun H127 e127 => ?_⟩
    have y127 : Row H127 H101.size 89 (sideRow o r1 q1 r2 q2) := y125.fill' e127 rfl
    have k127 : Kp No H101 H127 := k125.box ((Kp.refl _ _).sets' e127 (.inl rfl)) (Nat.le_refl _)
    have kk := (k87.no2 k101).no2 k127
    have h1 := h'.no kk
    have hMs : M ≤ H127.size := by have := h1.m5; have := h1.bx.lt; omega
    unfold cstep at next
    cases hp : solvP w.2.1 w.2.2 with
    | none =>
      rw [hp] at hs next
      have hok : ok = false := hs
      refine ⟨fun _ => ⟨by rw [add_mk]; exact h1.bx.some (by simp), by rw [add_mk]; exact h1.bx.frz _, fun H131 e131 => ?_⟩, fun hh => by rw [hok] at hh; cases hh⟩
      rw [add_mk] at e131
      have k131 : Kp (fun x => x = rb) H127 H131 := (Kp.refl _ _).set' e131 (.inl rfl)
      unfold F23_5
      rw [wr (by omega) (by omega), show ((j : Int) + 1) = ((j + 1 : Nat) : Int) by omega]
      refine next H131 rs' R' lsl' (h1.box k131 (fun b hb => .inl hb) (h1.bx.set' e131) (h1.ll.kp k131 fun b hb e => ?_) h1.m2)
      subst e; exact h1.ll.ne h1.bx (by decide) hb
    | some s =>
      rw [hp] at hs next
      obtain ⟨hok, rfl, rfl, rfl, x1, x2⟩ := hs
      obtain ⟨f1, f2⟩ := hflw s hp
      have next' : ∀ H' rs' R' lsl', In H0 H' p M rb (leafP st.1 s).1 C rs' cs R' W sl WL lsl' (st.2.1 ++ [(leafP st.1 s).2]) st.2.2 → X (j + 1 : Nat) H' := next
      have n11 : Addr.add ⟨H101.size, 0, none⟩ 11 = ⟨H101.size, 11, none⟩ := by rw [add_mk, Nat.zero_add]
      have fin : ∀ {H' : Hp} {rs' : Sl} {R' : List (ER × Sl)} {lb : Nat}, In H0 H' p M rb (placeP st.1 s.r1).1 C rs' cs R' W sl WL lsl' st.2.1 st.2.2 → Row H' lb 80 (leafF.f ⟨s.o, (placeP st.1 s.r1).2, 0, isRefP s.r2, zeroV⟩) → Row H' H101.size 89 (sideRow s.o s.r1 q1 s.r2 q2) → M ≤ lb → ¬ lsl'.at lb →
          F23_6 Q X2 X ⟨p, 0, none⟩ ⟨rb, 0, none⟩ ⟨H101.size, 0, none⟩ o1 o2 i sl (sl.n : Int) j ⟨lb, 0, none⟩ H' := fun hh x y hlb hn => by
        have hp1 := placeP_len st.1 s.r1
        refine c23_6 hh x y hlb hn x2 f2 (by omega) (by omega) (by omega) fun H' rs' R' lsl' h'' => next' H' rs' R' lsl' ?_
        unfold leafP
        by_cases hr : isRefP s.r2 = true
        · simp only [if_pos hr] at h'' ⊢; exact h''
        · simp only [if_neg hr] at h'' ⊢; exact h''
      refine ⟨fun hh => (by rw [hok] at hh; cases hh), fun _ => ⟨_, y127.cell_of (i := 0) rfl, _, _, _, _, _, _, _, _, _, _, rowcs (i := 1) (m := s.r1.row q1) y127 rfl, _, _, _, _, _, _, _, _, _, _, rowcs (i := 11) (m := s.r2.row q2) y127 rfl, ?_, ?_⟩⟩
      · refine h1.place (by rw [x1.n, f1]) (by omega) fun H168 rs2 R2 h2 keep s168 => ?_
        have y2 := keep y127 (by decide) (by decide)
        refine ⟨rowcs (i := 11) (m := s.r2.row q2) y2 rfl, y2.cell_of (i := 0) rfl, c40 (r := s.r2) fun H173 k173 => ?_, fun H184 e184 => ?_⟩
        · have y3 := k173.row y2 id
          refine ⟨y3.cell_of (i := 0) rfl, fun H177 e177 => ?_⟩
          have k177 : Kp No H173 H177 := (Kp.refl _ _).push' e177
          have b177 : Row H177 H173.size 80 (leafF.f ⟨0, 0, 0, false, zeroV⟩) := Row.new' e177
          have y4 := k177.row y3 id
          refine ⟨y4.cell_of (i := 0) rfl, b177.mayw (by simp [leafF]), fun H180 e180 => ?_⟩
          have b180 : Row H180 H173.size 80 (leafF.f ⟨s.o, (placeP st.1 s.r1).2, 0, isRefP s.r2, zeroV⟩) := b177.fill' e180 rfl
          have k180 : Kp No H173 H180 := k177.box ((Kp.refl _ _).sets' e180 (.inl rfl)) (Nat.le_refl _)
          have s173 := k173.size
          exact fin ((h2.no k173).no k180) b180 (k180.row y3 id) (by omega) fun hb => by have := (h2.no k173).ll.lt hb; omega
        · have k184 : Kp No H168 H184 := (Kp.refl _ _).push' e184
          have b184 : Row H184 H168.size 80 (leafF.f ⟨0, 0, 0, false, zeroV⟩) := Row.new' e184
          have y4 := k184.row y2 id
          refine ⟨rowcs (i := 11) (m := s.r2.row q2) y4 rfl, y4.cell_of (i := 0) rfl, c40 (r := s.r2) fun H188 k188 => ?_⟩
          have y5 := k188.row y4 id
          have b188 := k188.row b184 id
          refine ⟨y5.cell_of (i := 0) rfl, b188.mayw (by simp [leafF]), fun H192 e192 => ?_⟩
          have b192 : Row H192 H168.size 80 (leafF.f ⟨s.o, (placeP st.1 s.r1).2, 0, isRefP s.r2, zeroV⟩) := b188.fill' e192 rfl
          have k192 : Kp No H168 H192 := (k184.no2 k188).box ((Kp.refl _ _).sets' e192 (.inl rfl)) (Nat.le_refl _)
          exact fin (h2.no k192) b192 (k192.row y2 id) (by omega) fun hb => by have := h2.ll.lt hb; omega
      · intro H195 e195
        have k195 : Kp No H127 H195 := (Kp.refl _ _).push' e195
        have b195 : Row H195 H127.size 80 (leafF.f ⟨0, 0, 0, false, zeroV⟩) := Row.new' e195
        have y2 := k195.row y127 id
        refine ⟨rowcs (i := 11) (m := s.r2.row q2) y2 rfl, rowcs (i := 1) (m := s.r1.row q1) y2 rfl, y2.cell_of (i := 0) rfl, (h1.no k195).place (by rw [x1.n, f1]) (by omega) fun H200 rs2 R2 h2 keep s200 => ?_⟩
        have y3 := keep y2 (by decide) (by decide)
        have b200 := keep b195 (by decide) (by decide)
        refine ⟨rowcs (i := 11) (m := s.r2.row q2) y3 rfl, y3.cell_of (i := 0) rfl, c40 (r := s.r2) fun H205 k205 => ?_⟩
        have y4 := k205.row y3 id
        have b205 := k205.row b200 id
        refine ⟨y4.cell_of (i := 0) rfl, b205.mayw (by simp [leafF]), fun H209 e209 => ?_⟩
        have b209 : Row H209 H127.size 80 (leafF.f ⟨s.o, (placeP st.1 s.r1).2, 0, isRefP s.r2, zeroV⟩) := b205.fill' e209 rfl
        have k209 : Kp (fun x => x = H127.size) H205 H209 := (Kp.refl _ _).sets' e209 (.inl rfl)
        have hn127 : ¬ lsl'.at H127.size := fun hb => by have := h1.ll.lt hb; omega
        exact fin ((h2.no k205).leafw k209 hn127 hMs b205) b209 (k209.row y4 (by show H101.size ≠ H127.size; have := y127.lt; omega)) hMs hn127
end

structure RsOk (n : Nat) (st : RSt) : Prop where
  hi : st.1.length ≤ 2000 * n
  ll : st.2.length = n
  ok : ∀ c ∈ st.2, c.1.length ≤ 1000 ∧ ∀ l ∈ c.1, LfOk st.1.length l
theorem RsOk.step {n : Nat} {st : RSt} (h : RsOk n st) {c : ER × Fo} (hc : (leavesP c.1 c.2).length ≤ 1000) : RsOk (n + 1) (rstep st c) := by
  have g := CsOk.readC st.1 c
  have g1 := g.lo
  have g2 := g.hi
  have g3 := g.ll
  have h1 := h.hi
  refine ⟨by show (readC st.1 c).1.length ≤ _; omega, by show (st.2 ++ [_]).length = _; simp [h.ll], fun x hx => ?_⟩
  rcases List.mem_append.1 hx with hx | hx
  · exact ⟨(h.ok x hx).1, fun l hl => ((h.ok x hx).2 l hl).mono g1⟩
  · rw [List.mem_singleton] at hx; subst hx
    exact ⟨by omega, g.ok⟩
theorem RsOk.fold : ∀ {L : List (ER × Fo)} {n : Nat} {st : RSt}, RsOk n st → (∀ c ∈ L, (leavesP c.1 c.2).length ≤ 1000) → RsOk (n + L.length) (L.foldl rstep st)
  | [], _, _, h, _ => h
  | x :: L, n, st, h, hc => by
    rw [List.foldl_cons, List.length_cons, show n + (L.length + 1) = (n + 1) + L.length by omega]
    exact RsOk.fold (h.step (hc x (List.mem_cons_self ..))) fun c h => hc c (List.mem_cons_of_mem _ h)
theorem RsOk.start : RsOk 0 ([], []) := ⟨Nat.le_refl _, rfl, fun c hc => by cases hc⟩
/-- What conditions may be. -/
structure CondsOk (conds : List (ER × Fo)) : Prop where
  n : conds.length ≤ 45
  l : ∀ c ∈ conds, (leavesP c.1 c.2).length ≤ 1000
  f : ∀ c ∈ conds, ∀ x ∈ leavesP c.1 c.2, FlatC x
/-- Conditions in memory. -/
structure CsH (H : Hp) (sl : Sl) (CW : List WE) : Prop where
  l : RdL eF H sl (CW.map Prod.fst)
  x : ∀ w ∈ CW, w.1.1 = w.2.1 ∧ Xk H w.1.2 w.2.2
theorem CsH.no {H H' : Hp} {sl : Sl} {CW : List WE} (h : CsH H sl CW) (k : Kp No H H') : CsH H' sl CW := ⟨h.l.kp0 k, fun w hw => ⟨(h.x w hw).1, (h.x w hw).2.no k⟩⟩
def readS (conds : List (ER × Fo)) : Sys := sysP (readP conds).1 (readP conds).2

theorem c23 {H0 : Hp} {cl : Sl} {CW : List WE} {Q : Option Addr → Hp → Prop} (hc : CsH H0 cl CW) (hok : CondsOk (CW.map Prod.snd))
    (hQ : ∀ p H', SyH H' p (readS (CW.map Prod.snd)) → Kp No H0 H' → Q (some ⟨p, 0, none⟩) H') : F23 cl H0 Q := by
  intro H1 e1
  have k1 : Kp No H0 H1 := (Kp.refl No H0).push' e1
  have s1 := size_push' e1
  have x1 : Row H1 H0.size 66 [Sl.v Sl.nil, Sl.v Sl.nil, .pointer none, Sl.v Sl.nil] := Row.new' e1
  have hn := hc.l.n
  have hcn := hok.n
  rw [List.length_map] at hn hcn
  intro X hX
  suffices ∀ d i H2 rs cs R W, i + d = CW.length → RdI H2 H0.size H0.size (((CW.take i).map Prod.snd).foldl rstep ([], [])).1 (((CW.take i).map Prod.snd).foldl rstep ([], [])).2 rs cs R W → Kp No H0 H2 → X i H2 from
    this _ 0 H1 Sl.nil Sl.nil [] [] (Nat.zero_add _) ⟨x1, Lst.nil _ _, ⟨Lst.nil _ _, fun w hw => by cases hw⟩, rfl, rfl, (fun x hx => by cases hx), Nat.le_refl _, (fun b hb => by cases hb), (fun b hb => by cases hb), fun w hw => by cases hw⟩ k1
  intro d
  induction d with
  | zero =>
    intro i H2 rs cs R W hi h k
    refine hX _ _ ⟨fun hh => absurd (of_decide_eq_true hh) (by omega), fun _ => ?_⟩
    rw [List.take_of_length_le (by omega)] at h
    have hr := RsOk.start.fold (L := CW.map Prod.snd) hok.l
    rw [Nat.zero_add, List.length_map] at hr
    have h1 := hr.hi
    have h2 := hr.ll
    have hl := h.len
    have hw : W.length = CW.length := by rw [← h2, ← h.ec, List.length_map]
    refine c42 h.row h.r h.c h.fl (by omega) (by omega) (fun w hw => ?_) fun H' sy k' => ?_
    · have hm : w.2 ∈ ((CW.map Prod.snd).foldl rstep ([], [])).2 := by rw [← h.ec]; exact List.mem_map_of_mem hw
      have := hr.ok _ hm
      exact ⟨by omega, fun l hl' => by have := this.2 l hl'; rwa [hl] at this⟩
    · rw [h.er, h.ec] at sy
      exact hQ _ H' sy (k.trans k' fun b hb => .inr (by omega))
  | succ d ih =>
    intro i H2 rs cs R W hi h k
    obtain ⟨w, gw⟩ : ∃ w, CW[i]? = some w := ⟨_, List.getElem?_eq_getElem (by omega)⟩
    have hm := List.mem_of_getElem? gw
    have hms : w.2 ∈ CW.map Prod.snd := List.mem_map_of_mem hm
    have htk := take_snoc gw
    have hst : ((CW.take (i + 1)).map Prod.snd).foldl rstep ([], []) = rstep (((CW.take i).map Prod.snd).foldl rstep ([], [])) w.2 := by rw [htk, List.map_append, List.foldl_append]; rfl
    have hrs : RsOk i (((CW.take i).map Prod.snd).foldl rstep ([], [])) := by
      have := RsOk.start.fold (L := (CW.take i).map Prod.snd) fun c hc => hok.l c (List.map_subset _ (List.take_subset ..) hc)
      rw [List.length_map, List.length_take, Nat.zero_add, Nat.min_eq_left (by omega)] at this
      exact this
    have next := fun H2 rs cs R W => ih (i + 1) H2 rs cs R W (by omega)
    rw [hst] at next
    have r1 := hrs.hi
    have r2 := hrs.ll
    generalize ((CW.take i).map Prod.snd).foldl rstep ([], []) = st at h next r1 r2
    obtain ⟨he, hx⟩ := hc.x w hm
    have hc2 := hc.no k
    obtain ⟨a, ea, han, ca⟩ := hc2.l.get (show (CW.map Prod.fst)[i]? = some w.1 by rw [List.getElem?_map, gw]; rfl)
    refine hX _ _ ⟨fun _ => ⟨a, ea, by omega, by omega, _, _, _, _, _, _, _, _, _, _, by rw [show ((i : Int)).toNat = i from by omega]; exact ca, fun H24 e24 => ?_⟩, fun hh => absurd (of_decide_eq_false hh) (by omega)⟩
    have k24 : Kp No H2 H24 := (Kp.refl _ _).push' e24
    have y24 : Row H24 H2.size 41 (zeroE.row Sl.nil) := Row.new' e24
    refine ⟨y24.mayw (by simp), fun H26 e26 => ?_⟩
    have y26 : Row H26 H2.size 41 (w.1.1.row w.1.2) := y24.fill' e26 rfl
    have k26 : Kp No H2 H26 := k24.box ((Kp.refl _ _).sets' e26 (.inl rfl)) (Nat.le_refl _)
    rw [he] at y26
    intro H29 e29
    have k29 : Kp No H26 H29 := (Kp.refl _ _).push' e29
    have b29 : Row H29 H26.size 68 [Sl.v Sl.nil, .bool false] := Row.new' e29
    refine ⟨b29.mayw (by simp), fun H31 e31 => ?_⟩
    have b31 : Row H31 H26.size 68 [Sl.v Sl.nil, .bool true] := b29.fill' e31 rfl
    have k31 : Kp No H26 H31 := k29.box ((Kp.refl _ _).sets' e31 (.inl rfl)) (Nat.le_refl _)
    have kA := k26.no2 k31
    have y31 := k31.row y26 id
    have s26 := k26.size
    have s31 := k31.size
    refine ⟨_, _, _, _, _, _, _, _, _, _, y31.all, c35 (k.no2 kA) hx (by have := hok.l _ hms; omega) fun sl WL H50 hw hl k50 => ?_⟩
    have kB := kA.no2 k50
    have hB := h.no kB
    have s2 := k.size
    have i50 : In H0 H50 H0.size H2.size H26.size st.1 st.2 rs cs R W sl WL Sl.nil [] true :=
      ⟨hB, k50.row b31 id, Lst.nil _ _, hl.l, k.no2 kB, fun w hw b hb => (h.c.x w hw).2.lt hb, (fun b hb => by cases hb), fun b hb hh => by have := h.r.lt hb; have := hl.b b hh; omega, s2, s26, fun b hb => h.c.l.lt hb⟩
    have hfl := hok.f _ hms
    have hll := hok.l _ hms
    refine c23_L4 (r0 := w.2.1) (kd0 := w.2.2) i50 hw hl.x hfl hll (by omega) fun H' rs' R' lsl' h' => ?_
    have hcs := CsOk.readC st.1 w.2
    refine ⟨cs, rowc (i := 1) h'.rd.row rfl, _, _, h'.bx.all, fun H288 e288 => ?_⟩
    have k288 : Kp No H' H288 := (Kp.refl _ _).push' e288
    have b288 : Row H288 H'.size 68 (rdF.f (lsl', (readC st.1 w.2).2.2)) := Row.new' e288
    have h2 := h'.no k288
    have s288 := size_push' e288
    have hwl : W.length = i := by rw [← r2, ← h.ec, List.length_map]
    refine ⟨rowc (i := 1) h2.rd.row rfl, h2.rd.c.l.append1 b288 rfl (by rw [List.length_map]; omega) (by rw [List.length_map]; omega) fun r293 H291 l291 k291 b291 => ?_⟩
    have p291 := k291.row h2.rd.row (h2.rd.c.l.ne h2.rd.row (by decide))
    refine ⟨by rw [add_mk]; exact p291.some (by simp), by rw [add_mk]; exact p291.frz _, fun H294 e294 => ?_⟩
    rw [add_mk] at e294
    have k294 : Kp (fun x => x = H0.size) H291 H294 := (Kp.refl _ _).set' e294 (.inl rfl)
    have p294 : Row H294 H0.size 66 [Sl.v rs', Sl.v r293, .pointer none, Sl.v Sl.nil] := p291.set' e294
    rw [wr (by omega) (by omega), show ((i : Int) + 1) = ((i + 1 : Nat) : Int) by omega]
    have nep : ∀ {α : Type} {t k : Nat} {F : Fmt α t k} {s : Sl} {X : List α}, Lst F H291 s X → t ≠ 66 → ∀ b, s.at b → ¬ b = H0.size := fun l ht b hb e => by subst e; exact l.ne p291 ht hb
    have mv : ∀ {α : Type} {t k : Nat} {F : Fmt α t k} {s : Sl} {X : List α}, Lst F H288 s X → t ≠ 66 → (∀ b, s.at b → ¬ cs.at b) → Lst F H294 s X := fun l ht hne => by
      have l1 := l.kp k291 hne
      exact l1.kp k294 (nep l1 ht)
    refine next H294 rs' r293 R' (W ++ [((lsl', (readC st.1 w.2).2.2), (readC st.1 w.2).2)]) ⟨p294, mv h2.rd.r (by decide) (h2.rd.r.apart h2.rd.c.l (by decide)), ⟨?_, fun x hx => ?_⟩, h2.rd.er, by rw [List.map_append, h2.rd.ec]; rfl, h2.rd.fl, Nat.le_refl _, h2.rd.br, fun b hb => ?_, fun x hx b hb => ?_⟩ ?_
    · rw [List.map_append]
      exact l291.kp k294 (nep l291 (by decide))
    · rcases List.mem_append.1 hx with hx | hx
      · exact ⟨(h2.rd.c.x x hx).1, mv (h2.rd.c.x x hx).2 (by decide) ((h2.rd.c.x x hx).2.apart h2.rd.c.l (by decide))⟩
      · rw [List.mem_singleton] at hx; subst hx
        exact ⟨rfl, mv h2.ll (by decide) (h2.ll.apart h2.rd.c.l (by decide))⟩
    · rcases b291 b hb with e | e
      · exact h2.rd.bc b e
      · have := h2.k.size; omega
    · rcases List.mem_append.1 hx with hx | hx
      · exact h2.rd.bw x hx b hb
      · rw [List.mem_singleton] at hx; subst hx
        have := h2.m2 b hb; omega
    · exact (h2.k.trans k291 fun b hb => .inr (h2.rd.bc b hb)).trans k294 fun b hb => .inr (by omega)
end Go.Hw
