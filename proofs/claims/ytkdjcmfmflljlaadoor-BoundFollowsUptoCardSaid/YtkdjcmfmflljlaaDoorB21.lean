/- Spare, of numbers. Own work of this session. -/
import Derived.Test.YtkdjcmfmflljlaaDoorB20
set_option linter.unusedVariables false
namespace Go.Hw
open Go

def okSp (S : Sys) (kept : List Leaf) (c : List Leaf × Bool) : Bool := (c.2 && c.1.all (countsP S)) && (c.1.filter (countsP S)).all fun x => !(solveP S kept).isSome || followsP S kept x
def stepSp (S : Sys) (st : List Leaf × List Int) (i : Nat) (c : List Leaf × Bool) : List Leaf × List Int :=
  if okSp S st.1 c = true then (st.1, st.2 ++ [(i : Int)]) else (st.1 ++ c.1.filter (countsP S), st.2)
def spSt (S : Sys) : Nat → List Leaf × List Int
  | 0 => ([], [])
  | i + 1 => stepSp S (spSt S i) i (S.conds.getD i ([], true))
def spareP (S : Sys) : List Int := if S.K.any oddP = true then [] else (spSt S S.conds.length).2
theorem spSt_len {S : Sys} (h : ∀ c ∈ S.conds, c.1.length ≤ 1000) : ∀ i, i ≤ S.conds.length → (spSt S i).1.length ≤ 1000 * i ∧ (spSt S i).2.length ≤ i
  | 0, _ => ⟨Nat.le_refl _, Nat.le_refl _⟩
  | i + 1, hi => by
    obtain ⟨h1, h2⟩ := spSt_len h i (by omega)
    have hc : (S.conds.getD i ([], true)).1.length ≤ 1000 := by
      rw [List.getD_eq_getElem?_getD, List.getElem?_eq_getElem (by omega)]
      exact h _ (List.getElem_mem _)
    have hf := List.length_filter_le (countsP S) (S.conds.getD i ([], true)).1
    rw [spSt, stepSp]
    split
    · simp; omega
    · simp only [List.length_append]; omega
theorem spSt_in {S : Sys} (h : SysOk S) : ∀ i, i ≤ S.conds.length → ∀ l ∈ (spSt S i).1, l.a < S.refs.length ∧ (l.two = true → l.b < S.refs.length)
  | 0, _, l, hl => by cases hl
  | i + 1, hi, l, hl => by
    rw [spSt, stepSp] at hl
    split at hl
    · exact spSt_in h i (by omega) l hl
    · rcases List.mem_append.1 hl with hl | hl
      · exact spSt_in h i (by omega) l hl
      · have hc : S.conds.getD i ([], true) ∈ S.conds := by
          rw [List.getD_eq_getElem?_getD, List.getElem?_eq_getElem (by omega)]
          exact List.getElem_mem _
        have := (h.c _ hc).2 l (List.mem_filter.1 hl).1
        exact ⟨this.1, this.2.1⟩
section
variable {H H0 H1 : Hp} {p : Nat} {S : Sys} {Q : Sl → Hp → Prop} {X2 : Sl → Sl → Int → Hp → Prop}
theorem c16_L5 {kl spl rl cs vs : Sl} {kept L : List Leaf} {i xb : Nat} {can a0 : Bool} {z : Option Addr} {o2 : Int} (hs : SyH H p S) (hk : RdL leafF H kl kept) (hcap : kl.n ≤ kl.c) (hK : kept.length ≤ 99999) (hki : ∀ l ∈ kept, l.a < S.refs.length ∧ (l.two = true → l.b < S.refs.length)) (hl : RdL leafF H rl L) (hL : L.length ≤ 1000) (hli : ∀ l ∈ L, l.a < S.refs.length ∧ (l.two = true → l.b < S.refs.length)) (hnum : ∀ i, i < S.refs.length → kindP S i = 1) (hb : Row H xb 74 [Sl.v vs, .pointer z])
    (hQ : ∀ H', Kp No H H' → F16_4 Q X2 (some ⟨p, 0, none⟩) kl spl i rl cs o2 i (a0 && L.all fun x => !can || followsP S kept x) H') : F16_L5 Q X2 (some ⟨p, 0, none⟩) kl spl i rl ⟨xb, 0, none⟩ can cs o2 i rl (rl.n : Int) a0 0 H := by
  have hln := hl.n
  intro X hX
  suffices ∀ d j H', j + d = L.length → Kp No H H' → X (a0 && (L.take j).all fun x => !can || followsP S kept x) j H' from by
    have := this L.length 0 H (Nat.zero_add _) (Kp.refl _ _)
    simpa using this
  intro d
  induction d with
  | zero =>
    intro j H' hj k
    refine hX _ _ _ ⟨fun hh => absurd (of_decide_eq_true hh) (by omega), fun _ => ?_⟩
    rw [List.take_of_length_le (by omega)]
    exact hQ H' k
  | succ d ih =>
    intro j H' hj k
    obtain ⟨l, gl⟩ : ∃ l, L[j]? = some l := ⟨_, List.getElem?_eq_getElem (by omega)⟩
    have hm := List.mem_of_getElem? gl
    have htk := take_snoc gl
    obtain ⟨a, ea, hab, ca⟩ := (hl.kp0 k).get gl
    have en : ((j : Nat) : Int).toNat = j := by omega
    refine hX _ _ _ ⟨fun _ => ⟨a, ea, by omega, by omega, _, _, _, _, _, _, _, _, by rw [en]; exact ca, fun H101 e101 => ?_⟩, fun hh => absurd (of_decide_eq_false hh) (by omega)⟩
    have k101 : Kp No H' H101 := (Kp.refl _ _).push' e101
    have y101 : Row H101 H'.size 80 (leafF.f ⟨0, 0, 0, false, zeroV⟩) := Row.new' e101
    refine ⟨y101.mayw (by simp [leafF]), fun H103 e103 => ?_⟩
    have y103 : Row H103 H'.size 80 (leafF.f l) := y101.fill' e103 rfl
    have k103 : Kp No H' H103 := k101.box ((Kp.refl _ _).sets' e103 (.inl rfl)) (Nat.le_refl _)
    have kA := k.no2 k103
    have next : ∀ b H2, Kp No H H2 → (a0 && (L.take (j + 1)).all fun x => !can || followsP S kept x) = b → F16_6 Q X2 X (some ⟨p, 0, none⟩) kl spl i rl ⟨xb, 0, none⟩ can cs o2 i rl (rl.n : Int) j b H2 := fun b H2 k2 e => by
      unfold F16_6
      rw [wr (by omega) (by omega), show ((j : Int) + 1) = ((j + 1 : Nat) : Int) by omega, ← e]
      exact ih (j + 1) H2 (by omega) k2
    have e1 : (a0 && (L.take (j + 1)).all fun x => !can || followsP S kept x) = ((a0 && (L.take j).all fun x => !can || followsP S kept x) && (!can || followsP S kept l)) := by
      rw [htk, List.all_append]; simp [Bool.and_assoc]
    rw [e1] at next
    refine ⟨fun hc => ⟨fun hcan => next _ H103 kA ?_, fun hcan => ⟨_, _, (kA.row hb id).all, _, _, _, _, _, _, _, _, y103.all, c34 (hs.no kA) (hk.kp0 kA) hK hki (hli l hm) (hnum _ (hli l hm).1) hcap fun H123 k123 => next _ H123 (kA.no2 k123) ?_⟩⟩, fun hc => next _ H103 kA ?_⟩
    · rw [hc, hcan]; rfl
    · have : can = true := by simpa using hcan
      rw [hc, this]; rfl
    · rw [hc]; rfl
theorem c16 {sl : Sl} {CW : List WE} (hc : CsH H0 sl CW) (hok : CondsOk (CW.map Prod.snd)) (hnum : ∀ i, i < (readS (CW.map Prod.snd)).refs.length → kindP (readS (CW.map Prod.snd)) i = 1)
    (hQ : ∀ sp H', Lst iF H' sp (spareP (readS (CW.map Prod.snd))) → (∀ b, sp.at b → H0.size ≤ b) → Kp No H0 H' → Q sp H') : F16 sl H0 Q := by
  refine c23 hc hok fun p H1 hs k1 => ?_
  have sok := readS_ok hok
  generalize readS (CW.map Prod.snd) = S at hQ hs sok hnum
  unfold spareP at hQ
  refine c24 hs ⟨fun ho => ?_, fun ho => ?_⟩
  · rw [if_pos ho] at hQ
    exact hQ Sl.nil H1 (Lst.nil _ _) (fun b hb => by cases hb) k1
  · rw [if_neg (by rw [ho]; decide)] at hQ
    obtain ⟨rs, cs, ks, gs0, g0, R, W, h1, h2, h3, h4, h5, h6, h7, h8, h9, h10, h11⟩ := hs.ex
    refine ⟨_, rfl, cs, rowc (i := 1) h1 rfl, ?_⟩
    have hcn := h5.l.n
    rw [List.length_map] at hcn
    have hWl : W.length = S.conds.length := by rw [← h6, List.length_map]
    have hn := sok.n
    have s1 := k1.size
    intro X hX
    suffices ∀ d i kl spl H', i + d = W.length → Lst leafF H' kl (spSt S i).1 → (∀ b, kl.at b → H1.size ≤ b) → Lst iF H' spl (spSt S i).2 → (∀ b, spl.at b → H1.size ≤ b) → Kp No H1 H' → X kl spl i H' from
      this _ 0 Sl.nil Sl.nil H1 (Nat.zero_add _) (Lst.nil _ _) (fun b hb => by cases hb) (Lst.nil _ _) (fun b hb => by cases hb) (Kp.refl _ _)
    intro d
    induction d with
    | zero =>
      intro i kl spl H' hi lk bk lsp bs k
      refine hX _ _ _ _ ⟨fun hh => absurd (of_decide_eq_true hh) (by omega), fun _ => ?_⟩
      rw [show i = S.conds.length by omega] at lsp
      exact hQ spl H' lsp (fun b hb => by have := bs b hb; omega) (k1.no2 k)
    | succ d ih =>
      intro i kl spl H' hi lk bk lsp bs k
      obtain ⟨w, gw⟩ : ∃ w, W[i]? = some w := ⟨_, List.getElem?_eq_getElem (by omega)⟩
      have hm := List.mem_of_getElem? gw
      have hmc : w.2 ∈ S.conds := by rw [← h6]; exact List.mem_map_of_mem hm
      have gc : S.conds.getD i ([], true) = w.2 := by rw [List.getD_eq_getElem?_getD, ← h6, List.getElem?_map, gw]; rfl
      obtain ⟨c1, c2⟩ := sok.c _ hmc
      have h5' := h5.no k
      obtain ⟨w1, w2⟩ := h5'.x w hm
      obtain ⟨a, ea, han, ca⟩ := h5'.l.get (show (W.map Prod.fst)[i]? = some w.1 by rw [List.getElem?_map, gw]; rfl)
      have en : ((i : Nat) : Int).toNat = i := by omega
      obtain ⟨n1, n2⟩ := spSt_len (S := S) (fun c hc => (sok.c c hc).1) i (by omega)
      have hki := spSt_in sok i (by omega)
      have hst : spSt S (i + 1) = stepSp S (spSt S i) i w.2 := by rw [spSt, gc]
      refine hX _ _ _ _ ⟨fun _ => ⟨a, ea, by omega, by omega, _, _, by rw [en]; exact ca, fun H30 e30 => ?_⟩, fun hh => absurd (of_decide_eq_false hh) (by omega)⟩
      have k30 : Kp No H' H30 := (Kp.refl _ _).push' e30
      have y30 : Row H30 H'.size 68 (rdF.f (Sl.nil, false)) := Row.new' e30
      refine ⟨y30.mayw (by simp [rdF]), fun H32 e32 => ?_⟩
      have y32 : Row H32 H'.size 68 (rdF.f w.1) := y30.fill' e32 rfl
      have k32 : Kp No H' H32 := k30.box ((Kp.refl _ _).sets' e32 (.inl rfl)) (Nat.le_refl _)
      have kA := k.no2 k32
      refine ⟨_, _, y32.all, c25 (hs.no kA) (w2.kp0 k32) (by omega) (fun l hl => (c2 l hl).1) fun r40 H38 l40 b40 k38 => ?_⟩
      have kB := k32.no2 k38
      have fin : ∀ (can : Bool) (vs : Sl) (z : Option Addr) H42, (solveP S (spSt S i).1).isSome = can → Kp No H38 H42 → ∀ H47 : Hp, H47 = Array.push H42 (.cells #[Sl.v Sl.nil, .pointer none] 74) → mayw H47 ⟨H42.size, 0, none⟩ 2 0 ∧ ∀ H49 : Hp, H49 = sets H47 ⟨H42.size, 0, none⟩ [Sl.v vs, .pointer z] 0 →
          F16_L5 Q X (some ⟨p, 0, none⟩) kl spl i r40 ⟨H42.size, 0, none⟩ can cs (cs.n : Int) i r40 (r40.n : Int) (w.1.2 && w.2.1.all (countsP S)) 0 H49 := fun can vs z H42 ecan k42 H47 e47 => by
        have k47 : Kp No H42 H47 := (Kp.refl _ _).push' e47
        have b47 : Row H47 H42.size 74 [Sl.v Sl.nil, .pointer none] := Row.new' e47
        refine ⟨b47.mayw (by simp), fun H49 e49 => ?_⟩
        have b49 : Row H49 H42.size 74 [Sl.v vs, .pointer z] := b47.fill' e49 rfl
        have k49 : Kp No H42 H49 := k47.box ((Kp.refl _ _).sets' e49 (.inl rfl)) (Nat.le_refl _)
        have kC := kB.no2 (k42.no2 k49)
        have kD := k.no2 kC
        have lkC := lk.kp kC fun _ _ => id
        have lspC := lsp.kp kC fun _ _ => id
        have l40C := l40.kp (k42.no2 k49) fun _ _ => id
        have hcap : kl.n ≤ kl.c := by
          rcases lk.own with ⟨e, _⟩ | ⟨b, sp, _, _, _, _, h, _⟩
          · rw [e]; exact Nat.le_refl _
          · exact h
        have hflen := List.length_filter_le (countsP S) w.2.1
        refine c16_L5 (hs.no kD) lkC.rd hcap (by omega) hki l40C.rd (by omega) (fun l hl => by have := c2 l (List.mem_filter.1 hl).1; exact ⟨this.1, this.2.1⟩) hnum b49 fun H4 k4 => ?_
        have kE := kD.no2 k4
        have lk4 := lkC.kp k4 fun _ _ => id
        have lsp4 := lspC.kp k4 fun _ _ => id
        have l404 := l40C.kp k4 fun _ _ => id
        have eok : ((w.1.2 && w.2.1.all (countsP S)) && (w.2.1.filter (countsP S)).all fun x => !can || followsP S (spSt S i).1 x) = okSp S (spSt S i).1 w.2 := by rw [okSp, w1, ecan]
        rw [eok]
        have hap : ∀ b, kl.at b → ¬ spl.at b := lk4.apart lsp4 (by decide)
        refine ⟨fun ht H128 e128 => ?_, fun ht => ?_⟩
        · have k128 : Kp No H4 H128 := (Kp.refl _ _).push' e128
          have b128 : Row H128 H4.size 3 (iF.f (i : Int)) := Row.new' e128
          have lsp5 := lsp4.kp k128 fun _ _ => id
          have lk5 := lk4.kp k128 fun _ _ => id
          refine lsp5.append1 b128 rfl (by omega) (by omega) fun r132 H130 l132 k130 b132 => ?_
          unfold F16_3
          rw [wr (by omega) (by omega), show ((i : Int) + 1) = ((i + 1 : Nat) : Int) by omega]
          refine ih (i + 1) kl r132 H130 (by omega) ?_ bk ?_ (fun b hb => ?_) ((kE.no2 k128).trans k130 fun b hb => .inr (bs b hb))
          · rw [hst, stepSp, if_pos ht]
            exact lk5.kp k130 hap
          · rw [hst, stepSp, if_pos ht]; exact l132
          · rcases b132 b hb with h | h
            · exact bs b h
            · have := (kE.no2 k128).size; omega
        · refine lk4.append l404.rd rfl (by omega) (by omega) fun r137 H135 l137 k135 b137 => ?_
          unfold F16_3
          rw [wr (by omega) (by omega), show ((i : Int) + 1) = ((i + 1 : Nat) : Int) by omega]
          refine ih (i + 1) r137 spl H135 (by omega) ?_ (fun b hb => ?_) ?_ bs (kE.trans k135 fun b hb => .inr (bk b hb))
          · rw [hst, stepSp, if_neg (by rw [ht]; decide)]; exact l137
          · rcases b137 b hb with h | h
            · exact bk b h
            · have := kE.size; omega
          · rw [hst, stepSp, if_neg (by rw [ht]; decide)]
            exact lsp4.kp k135 fun b hb hh => hap b hh hb
      refine c26 (hs.no (kA.no2 k38)) (lk.kp kB fun _ _ => id).rd (by omega) hki (fun hno vs z H42 k42 => fin false vs z H42 (by rw [hno]; rfl) k42) fun N W' vs w' g gs m H42 hso _ _ k42 => fin true vs _ H42 (by rw [hso]; rfl) k42
end
end Go.Hw
