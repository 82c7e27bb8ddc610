/- SchemaRound: the law. Own work of this session. -/
import Derived.Test.YtbhfkpdalilhcaaDoorT10
set_option linter.unusedVariables false
namespace Go.Hw
open Go

theorem Lst.cap {α : Type} {t k : Nat} {F : Fmt α t k} {H : Hp} {s : Sl} {L : List α} (h : Lst F H s L) : s.n ≤ s.c := by
  rcases h.own with ⟨h0, _⟩ | ⟨_, _, _, _, _, _, g5, g6⟩
  · rw [h0]; decide
  · exact g5
theorem Kp.no2 {H H' H'' : Hp} (h : Kp No H H') (k : Kp No H' H'') : Kp No H H'' := h.trans k fun _ h => h.elim

/-- What is there all along: the type's variable and its list, the words, what is spelt. -/
structure RS (H : Hp) (tb wb : Nat) (name : ByteArray) (r : Sl) (A : List (ByteArray × Int)) (p3 : Sl) (L : List Int) : Prop where
  t : Row H tb 27 [.string name, Sl.v r]
  l : Lst aF H r A
  w : Row H wb 49 [.string E, .string S_INT, .string S_STR, .string S_BOOL]
  s : RdL u8F H p3 L
  tabs : Tabs H
theorem RS.no {H H' : Hp} {tb wb : Nat} {name : ByteArray} {r : Sl} {A : List (ByteArray × Int)} {p3 : Sl} {L : List Int} (h : RS H tb wb name r A p3 L) (k : Kp No H H') : RS H' tb wb name r A p3 L :=
  ⟨k.row h.t id, h.l.kp k fun _ _ => id, k.row h.w id, h.s.kp0 k, h.tabs.no k⟩

section
variable {H H0 : Hp} {tb wb : Nat} {name : ByteArray} {r p3 : Sl} {A : List (ByteArray × Int)} {L : List Int} {Q : Bool → Hp → Prop}

theorem c4_2 {x : ByteArray} {k : Nat} {g0 g1 g2 g3 mid : List Nat} (h : RS H tb wb name r A p3 L) (hL : ∀ x ∈ L, 0 ≤ x ∧ x ≤ 255) (hLl : L.length ≤ 1048576) (hk : k ≤ 100) (hn : nm name = true) (hA : GoodA A)
    (b0 : Bl g0) (b1 : Bl g1) (b1' : g1 ≠ []) (b2 : Bl g2) (b3 : Bl g3) (hx : bytes x = g0 ++ (bytes S_TYPE ++ (g1 ++ (bytes name ++ (g2 ++ 40 :: (g3 ++ mid)))))) (hm : ∀ t, Body A.isEmpty [] t → Body true A (mid ++ t)) (hs : x.size ≤ 4000)
    (hk0 : Kp No H0 H) (hQ : ∀ H', Kp No H0 H' → Q true H') : F4_2 Q p3 ⟨tb, 0, none⟩ (printT name A) x (k : Int) H := by
  have hA16 := hA.len
  refine c16 h.s hL (by omega) (by omega) fun g H140 gg k140 => ?_
  have h140 := h.no k140
  have f140 := hk0.no2 k140
  refine ⟨by have := gg.2.1; omega, by rw [size_app]; have := gg.2.1; have : S___.size = 1 := rfl; omega, ?_⟩
  rw [wr (by omega) (by omega), show (k : Int) + 1 = ((k + 1 : Nat) : Int) from by omega]
  refine c16 h140.s hL (by omega) (by omega) fun g' H145 gg' k145 => ?_
  have h145 := h140.no k145
  have f145 := f140.no2 k145
  have e1 : S___.size = 1 := rfl
  have s1 := gg.2.1
  have s2 := gg'.2.1
  refine ⟨by rw [size_app, size_app]; omega, ?_⟩
  have hsz : (((x ++ g) ++ S___) ++ g').size ≤ 4096 := by rw [size_app, size_app, size_app]; omega
  have hbody : Body true A (mid ++ (bytes g ++ 41 :: bytes g')) := hm _ (Body.done gg.1 gg'.1)
  have hby : bytes (((x ++ g) ++ S___) ++ g') = g0 ++ (bytes S_TYPE ++ (g1 ++ (bytes name ++ (g2 ++ 40 :: (g3 ++ (mid ++ (bytes g ++ 41 :: bytes g'))))))) := by
    rw [bytes_app, bytes_app, bytes_app, hx, show bytes S___ = [41] from rfl]
    simp only [List.append_assoc, List.cons_append, List.nil_append]
  obtain ⟨d1, d2⟩ := declP_spelt hn hA b0 b1 b1' b2 b3 hbody
  rw [← hby] at d1 d2
  generalize ((x ++ g) ++ S___) ++ g' = y at hsz d1 d2 ⊢
  refine c14 h145.tabs (fun hh => absurd hh (by omega)) (fun _ hh => absurd d1 hh) fun _ _ sl3 H149 l149 g149 k149 => ?_
  rw [d2]
  rw [d2] at l149
  have h149 := h145.no k149
  have f149 := f145.no2 k149
  intro H155 e155
  have k155 : Kp No H149 H155 := (Kp.refl No _).push' e155
  have r155 := Row.new' e155
  refine ⟨r155.mayw (by simp), fun H157 e157 => ?_⟩
  have v157 : Row H157 H149.size 27 [.string name, Sl.v sl3] := r155.fill' e157 rfl
  have k157 : Kp No H149 H157 := k155.sets' e157 (.inr (Nat.le_refl _))
  have h157 := h149.no k157
  have l157 : Lst aF H157 sl3 A := Lst.kp l149 k157 fun _ _ => id
  refine ⟨name, sl3, v157.all, c13 h157.tabs l157.rd l157.cap (by omega) (fun hh => absurd (hA.wrg hn) hh) fun _ H163 k163 => ?_⟩
  have h163 := h157.no k163
  have v163 := k163.row v157 id
  have l163 := l157.kp k163 fun _ _ => id
  have f163 := (f149.no2 k157).no2 k163
  refine ⟨fun _ => ⟨fun _ => ⟨name, r, h163.t.all, name, sl3, v163.all, c15 h163.l.rd l163.rd (by omega) fun y H177 hy k177 => ?_⟩, fun hh => absurd (of_decide_eq_false hh) (by omega)⟩, fun hh => absurd (of_decide_eq_false hh) (by omega)⟩
  have hy : y = true := hy.2 ⟨rfl, rfl⟩
  subst hy
  refine ⟨fun _ => ⟨fun _ => ?_, fun hh => absurd (of_decide_eq_false hh) (by omega)⟩, fun hh => (by cases hh)⟩
  rw [seq_refl]
  exact hQ H177 (f163.no2 k177)

theorem c4_L3 {x : ByteArray} {g0 g1 g2 g3 : List Nat} (h : RS H tb wb name r A p3 L) (hL : ∀ x ∈ L, 0 ≤ x ∧ x ≤ 255) (hLl : L.length ≤ 1048576) (hn : nm name = true) (hA : GoodA A)
    (b0 : Bl g0) (b1 : Bl g1) (b1' : g1 ≠ []) (b2 : Bl g2) (b3 : Bl g3) (hx : bytes x = g0 ++ (bytes S_TYPE ++ (g1 ++ (bytes name ++ (g2 ++ 40 :: (g3 ++ [])))))) (hs : x.size ≤ 100)
    (hk0 : Kp No H0 H) (hQ : ∀ H', Kp No H0 H' → Q true H') : F4_L3 Q p3 ⟨tb, 0, none⟩ (printT name A) ⟨wb, 0, none⟩ x 4 0 H := by
  have hA16 := hA.len
  intro X hX
  suffices G : ∀ (d i k : Nat) (x : ByteArray) (mid : List Nat) (H : Hp), i + d = A.length → k ≤ 4 + 3 * i → RS H tb wb name r A p3 L → bytes x = g0 ++ (bytes S_TYPE ++ (g1 ++ (bytes name ++ (g2 ++ 40 :: (g3 ++ mid))))) → (∀ t, Body (A.take i).isEmpty (A.drop i) t → Body true A (mid ++ t)) → x.size ≤ 100 + 60 * i → Kp No H0 H → X x (k : Int) (i : Int) H from
    G A.length 0 4 x [] H (by omega) (by omega) h hx (fun t ht => ht) hs hk0
  intro d
  induction d with
  | zero =>
    intro i k x mid H hi hk h hx hm hs hk0
    have hln := h.l.n
    rw [List.take_of_length_le (by omega), List.drop_eq_nil_of_le (by omega)] at hm
    exact hX _ _ _ _ ⟨r, h.t.cell_of (i := 1) rfl, fun hh => absurd (of_decide_eq_true hh) (by omega), fun _ => c4_2 h hL hLl (by omega) hn hA b0 b1 b1' b2 b3 hx hm (by omega) hk0 hQ⟩
  | succ d ih =>
    intro i k x mid H hi hk h hx hm hs hk0
    have hln := h.l.n
    have hil : i < A.length := by omega
    have ga : A[i]? = some (A[i]'hil) := List.getElem?_eq_getElem hil
    have hok := hA.ok _ (List.getElem_mem hil)
    have hdr : A.drop i = A[i]'hil :: A.drop (i + 1) := List.drop_eq_getElem_cons hil
    have htk : (A.take (i + 1)).isEmpty = false := by
      rw [List.isEmpty_eq_false_iff]
      intro e
      have := congrArg List.length e
      rw [List.length_take] at this
      have this : min (i + 1) A.length = 0 := this
      omega
    generalize A[i]'hil = a at ga hok hdr
    rw [hdr] at hm
    have ns := nm_size hok.1
    have hks : (kw a.2).size ≤ 4 := by
      unfold kw
      split
      · decide
      · split
        · decide
        · decide
    -- behind the comma and its blanks
    have four : ∀ (x2 : ByteArray) (mid2 : List Nat) (H2 : Hp), RS H2 tb wb name r A p3 L → bytes x2 = g0 ++ (bytes S_TYPE ++ (g1 ++ (bytes name ++ (g2 ++ 40 :: (g3 ++ mid2))))) → (∀ (g t : List Nat), Bl g → g ≠ [] → Body false (A.drop (i + 1)) t → Body true A (mid2 ++ (bytes a.1 ++ (g ++ (bytes (kw a.2) ++ t))))) → x2.size ≤ 100 + 60 * i + 7 → Kp No H0 H2 →
        F4_4 Q X p3 ⟨tb, 0, none⟩ (printT name A) ⟨wb, 0, none⟩ (k : Int) (i : Int) x2 H2 := fun x2 mid2 H2 h2 hx2 hm2 hs2 f2 => by
      obtain ⟨b, hb, hbn, cb⟩ := h2.l.rd.get ga
      unfold F4_4
      have hkk : a.2.toNat = 1 ∨ a.2.toNat = 2 ∨ a.2.toNat = 3 := by omega
      have hcell : cell H2 (Addr.add ⟨wb, 0, none⟩ (a.2.toNat * 1)) = some (.string (kw a.2)) := by
        rcases hkk with e | e | e
        · rw [e, show a.2 = 1 from by omega]
          exact h2.w.cell_of (i := 1) rfl
        · rw [e, show a.2 = 2 from by omega]
          exact h2.w.cell_of (i := 2) rfl
        · rw [e, show a.2 = 3 from by omega]
          exact h2.w.cell_of (i := 3) rfl
      have c0 : cell H2 (Addr.add b (i * 2)) = some (.string a.1) := by
        have := cb.1
        rwa [show (b.add (i * 2)).add 0 = b.add (i * 2) from by rw [add_add, Nat.add_zero]] at this
      have c1 : cell H2 (Addr.add (Addr.add b (i * 2)) 1) = some (.int .i64 a.2) := cb.2.1
      rw [show ((i : Int)).toNat = i from by omega]
      refine ⟨r, h2.t.cell_of (i := 1) rfl, b, hb, by omega, by omega, a.1, c0, by omega, r, h2.t.cell_of (i := 1) rfl, b, hb, by omega, by omega, a.2, c1, by omega, by have := hok.2.2.2; omega, kw a.2, hcell, ?_⟩
      rw [wr (by omega) (by omega), show (k : Int) + 2 = ((k + 2 : Nat) : Int) from by omega]
      refine c16 h2.s hL (by omega) (by omega) fun g H3 gg k3 => ?_
      have h3 := h2.no k3
      have kc : ∀ j, (b.add j).block = b.block := fun j => by unfold Addr.add; split <;> rfl
      have hbl : b.block < H2.size := by
        have := cells_block (a := b.add (i * 2)) cb (by simp [aF])
        rwa [kc] at this
      refine ⟨?_, ?_, h3.t.cell_of (i := 1) rfl, ?_, h3.t.cell_of (i := 1) rfl, by rw [size_app]; have := gg.2.1; omega, by rw [size_app, size_app]; have := gg.2.1; omega, ?_⟩
      · rw [k3.cell (by rw [add_mk]; exact h2.w.lt) id]; exact hcell
      · rw [k3.cell (by rw [add_add, kc]; exact hbl) id]; exact c1
      · rw [k3.cell (by rw [kc]; exact hbl) id]; exact c0
      · rw [wr (by omega) (by omega), wr (x := (i : Int) + 1) (by omega) (by omega), show (k : Int) + 3 = ((k + 3 : Nat) : Int) from by omega, show (i : Int) + 1 = ((i + 1 : Nat) : Int) from by omega]
        refine ih (i + 1) (k + 3) _ (mid2 ++ (bytes a.1 ++ (bytes g ++ bytes (kw a.2)))) H3 (by omega) (by omega) h3 ?_ (fun t ht => ?_) ?_ (f2.no2 k3)
        · rw [bytes_app, bytes_app, bytes_app, hx2]
          simp only [List.append_assoc, List.cons_append]
        · rw [htk] at ht
          have := hm2 (bytes g) t gg.1 (gg.2.2 rfl) ht
          simpa only [List.append_assoc] using this
        · rw [size_app, size_app, size_app]
          have := gg.2.1
          omega
    refine hX _ _ _ _ ⟨r, h.t.cell_of (i := 1) rfl, fun _ => ⟨fun h0 => ?_, fun h0 => ?_⟩, fun hh => absurd (of_decide_eq_false hh) (by omega)⟩
    · have hi0 : 0 < i := by have := of_decide_eq_true h0; omega
      have htk0 : (A.take i).isEmpty = false := by
        rw [List.isEmpty_eq_false_iff]
        intro e
        have := congrArg List.length e
        rw [List.length_take] at this
        have this : min i A.length = 0 := this
        omega
      rw [htk0] at hm
      refine c16 h.s hL (by omega) (by omega) fun g H97 gg k97 => ?_
      have h97 := h.no k97
      have e1 : S____.size = 1 := rfl
      have s1 := gg.2.1
      refine ⟨by omega, by rw [size_app]; omega, ?_⟩
      rw [wr (by omega) (by omega), show (k : Int) + 1 = ((k + 1 : Nat) : Int) from by omega]
      refine c16 h97.s hL (by omega) (by omega) fun g' H102 gg' k102 => ?_
      have h102 := h97.no k102
      have s2 := gg'.2.1
      refine ⟨by rw [size_app, size_app]; omega, four _ (mid ++ (bytes g ++ 44 :: bytes g')) H102 h102 ?_ (fun g2 t hg2 h02 ht => ?_) ?_ ((hk0.no2 k97).no2 k102)⟩
      · rw [bytes_app, bytes_app, bytes_app, hx, show bytes S____ = [44] from rfl]
        simp only [List.append_assoc, List.cons_append, List.nil_append]
      · have := hm _ (Body.more gg.1 gg'.1 hg2 h02 ht)
        simpa only [List.append_assoc, List.cons_append] using this
      · rw [size_app, size_app, size_app]; omega
    · have hi0 : i = 0 := by have := of_decide_eq_false h0; omega
      have htk0 : (A.take i).isEmpty = true := by rw [hi0]; rfl
      rw [htk0] at hm
      exact four x mid H h hx (fun g t hg h02 ht => hm _ (Body.first hg h02 ht)) (by omega) hk0

theorem c4_1 (ht : Row H tb 27 [.string name, Sl.v r]) (hl : Lst aF H r A) (hsp : RdL u8F H p3 L) (htab : Tabs H) (hL : ∀ x ∈ L, 0 ≤ x ∧ x ≤ 255) (hLl : L.length ≤ 1048576) (hn : nm name = true) (hA : GoodA A)
    (hk0 : Kp No H0 H) (hQ : ∀ H', Kp No H0 H' → Q true H') : F4_1 Q p3 ⟨tb, 0, none⟩ (printT name A) false H := by
  refine ⟨fun h => (by cases h), fun _ H48 e48 => ?_⟩
  have k48 : Kp No H H48 := (Kp.refl No _).push' e48
  have r48 := Row.new' e48
  refine ⟨r48.mayw (by decide), fun H50 e50 => ?_⟩
  have w50 : Row H50 H.size 49 [.string E, .string S_INT, .string S_STR, .string S_BOOL] := r48.fill' e50 rfl
  have k50 : Kp No H H50 := k48.sets' e50 (.inr (Nat.le_refl _))
  have h50 : RS H50 tb H.size name r A p3 L := ⟨k50.row ht id, hl.kp k50 fun _ _ => id, w50, hsp.kp0 k50, htab.no k50⟩
  have f50 := hk0.no2 k50
  have hns := nm_size hn
  refine ⟨name, h50.t.cell_of (i := 0) rfl, c16 (k := 0) h50.s hL (by omega) (by omega) fun g0 H55 q0 k55 => ?_⟩
  have h55 := h50.no k55
  have e1 : S_TYPE.size = 4 := rfl
  have s0 := q0.2.1
  refine ⟨h55.t.cell_of (i := 0) rfl, by omega, c16 (k := 1) h55.s hL (by omega) (by omega) fun g1 H60 q1 k60 => ?_⟩
  have h60 := h55.no k60
  have s1 := q1.2.1
  refine ⟨h60.t.cell_of (i := 0) rfl, by rw [size_app]; omega, by rw [size_app, size_app]; omega, c16 (k := 2) h60.s hL (by omega) (by omega) fun g2 H66 q2 k66 => ?_⟩
  have h66 := h60.no k66
  have s2 := q2.2.1
  have e2 : S__.size = 1 := rfl
  refine ⟨h66.t.cell_of (i := 0) rfl, by rw [size_app, size_app, size_app]; omega, by rw [size_app, size_app, size_app, size_app]; omega, c16 (k := 3) h66.s hL (by omega) (by omega) fun g3 H72 q3 k72 => ?_⟩
  have h72 := h66.no k72
  have s3 := q3.2.1
  refine ⟨h72.t.cell_of (i := 0) rfl, by rw [size_app, size_app, size_app, size_app, size_app]; omega, ?_⟩
  refine c4_L3 h72 hL hLl hn hA q0.1 q1.1 (q1.2.2 rfl) q2.1 q3.1 ?_ ?_ (((f50.no2 k55).no2 k60).no2 (k66.no2 k72)) hQ
  · rw [bytes_app, bytes_app, bytes_app, bytes_app, bytes_app, bytes_app, show bytes S__ = [40] from rfl]
    simp only [List.append_assoc, List.cons_append, List.nil_append, List.append_nil]
  · rw [size_app, size_app, size_app, size_app, size_app, size_app]; omega

theorem c4 {p0 : ByteArray} {p1 p2 : Sl} {NS : List ByteArray} {K : List Int} (htab : Tabs H) (hN : RdL bF H p1 NS) (hK : RdL iF H p2 K) (hS : RdL u8F H p3 L) (hNl : NS.length ≤ 1048576) (hKl : K.length ≤ 1048576) (hLl : L.length ≤ 1048576) (hL : ∀ x ∈ L, 0 ≤ x ∧ x ≤ 255)
    (hQ : ∀ H', Kp No H H' → Q true H') : F4 p0 p1 p2 p3 H Q := by
  refine c8 htab.w hN hK (by omega) (by omega) fun r name A H1 hname gA hAl lr fr k1 => fun H5 e5 => ?_
  have hn : nm name = true := by
    rw [hname]
    split
    · assumption
    · exact nm_T
  have hA16 := gA.len
  have k5 : Kp No H1 H5 := (Kp.refl No _).push' e5
  have r5 := Row.new' e5
  refine ⟨r5.mayw (by simp), fun H7 e7 => ?_⟩
  have t7 : Row H7 H1.size 27 [.string name, Sl.v r] := r5.fill' e7 rfl
  have k7 : Kp No H1 H7 := k5.sets' e7 (.inr (Nat.le_refl _))
  have l7 := lr.kp k7 fun _ _ => id
  have f7 := k1.no2 k7
  refine ⟨name, r, t7.all, c13 (htab.no f7) l7.rd l7.cap (by omega) (fun hh => absurd (gA.wrg hn) hh) fun _ H13 k13 => ?_⟩
  have f13 := f7.no2 k13
  have hps := printT_size hn gA
  obtain ⟨d1, d2⟩ := declP_print hn gA
  refine c14 (htab.no f13) (fun hh => absurd hh (by omega)) (fun _ hh => absurd d1 hh) fun _ _ sl2 H17 l17 g17 k17 => ?_
  rw [d2]
  rw [d2] at l17
  have f17 := f13.no2 k17
  intro H23 e23
  have k23 : Kp No H17 H23 := (Kp.refl No _).push' e23
  have r23 := Row.new' e23
  refine ⟨r23.mayw (by simp), fun H25 e25 => ?_⟩
  have u25 : Row H25 H17.size 27 [.string name, Sl.v sl2] := r23.fill' e25 rfl
  have k25 : Kp No H17 H25 := k23.sets' e25 (.inr (Nat.le_refl _))
  have f25 := f17.no2 k25
  have kk : Kp No H7 H25 := (k13.no2 k17).no2 k25
  have t25 := kk.row t7 id
  have l25 := l7.kp kk fun _ _ => id
  have m25 : Lst aF H25 sl2 A := Lst.kp l17 k25 fun _ _ => id
  refine ⟨fun hh => absurd rfl (of_decide_eq_true hh), fun _ => ⟨fun hh => absurd rfl (of_decide_eq_true hh), fun _ => ⟨fun hh => absurd rfl (of_decide_eq_true hh), fun _ => ⟨name, r, t25.all, name, sl2, u25.all, c15 l25.rd m25.rd (by omega) fun y H44 hy k44 => ?_⟩⟩⟩⟩
  have hy : y = true := hy.2 ⟨rfl, rfl⟩
  subst hy
  have f44 := f25.no2 k44
  exact c4_1 (k44.row t25 id) (l25.kp k44 fun _ _ => id) (hS.kp0 f44) (htab.no f44) hL hLl hn gA f44 hQ
end
end Go.Hw
