/- A script, played by both (SchemaAll's law). Own work of this session. -/
import Derived.Test.YtbhfkpdalilhcaaDoorT26
set_option linter.unusedVariables false
namespace Go.Hw
open Go

theorem c20 {x : Int} {H : Hp} {Q : Int → Hp → Prop} (h0 : -9223372036854775808 ≤ x) (h1 : x ≤ 9223372036854775807) (hQ : ∀ k : Nat, k < 8 → Q (k : Int) H) : F20 x H Q := by
  have one : ∀ y : Int, 0 ≤ y → F20_1 Q y H := fun y hy => by
    have e : Int.tmod y 8 = ((y % 8).toNat : Int) := by rw [Int.tmod_eq_emod_of_nonneg hy]; omega
    unfold F20_1
    rw [e]
    exact hQ _ (by omega)
  refine ⟨fun g => one _ ?_, fun g => one _ ?_⟩
  · have := of_decide_eq_true g
    rw [wr (by omega) (by omega)]; omega
  · have := of_decide_eq_false g; omega
abbrev Sl8 := Option (Nat × (Nat → Prop))
def pvv (x : Sl8) : Value := .pointer (x.map fun p => ⟨p.1, 0, none⟩)
/-- The pairs that there are, and the hand. -/
structure PInv (H7 Hx : Hp) (hb hs : Nat) (P : List Sl8) (ta tv : Sl) : Prop where
  len : P.length = 8
  row : Row Hx hs 62 (P.map pvv)
  h : HH Hx hb ta tv
  p : ∀ (k : Nat) (p : Nat × (Nat → Prop)), P[k]? = some (some p) → PairH Hx hb p.1 p.2 ∧ (∀ b, p.2 b → ¬ HO hb ta tv b) ∧ ∀ b, p.2 b → H7.size ≤ b
  dj : ∀ (j k : Nat) (p q : Nat × (Nat → Prop)), j ≠ k → P[j]? = some (some p) → P[k]? = some (some q) → ∀ b, p.2 b → ¬ q.2 b
  ho : ∀ b, HO hb ta tv b → b = hb ∨ H7.size ≤ b
  k : Kp (fun b => b = hb ∨ b = hs) H7 Hx
section
variable {H7 Hx Hy : Hp} {hb hs : Nat} {P : List Sl8} {ta tv : Sl}
theorem PInv.no (i : PInv H7 Hx hb hs P ta tv) (k : Kp No Hx Hy) : PInv H7 Hy hb hs P ta tv :=
  ⟨i.len, k.row i.row id, i.h.no k, fun j p hp => ⟨(i.p j p hp).1.kp k fun _ _ => id, (i.p j p hp).2⟩, i.dj, i.ho, i.k.trans k fun _ g => g.elim⟩
theorem get_set {j k : Nat} {x : Sl8} {p : Nat × (Nat → Prop)} (h : (P.set k x)[j]? = some (some p)) : (j = k ∧ x = some p) ∨ (j ≠ k ∧ P[j]? = some (some p)) := by
  rw [List.getElem?_set] at h
  by_cases e : k = j
  · subst e
    rw [if_pos rfl] at h
    by_cases hl : k < P.length
    · rw [if_pos hl] at h; injection h with h; exact .inl ⟨rfl, h⟩
    · rw [if_neg hl] at h; cases h
  · rw [if_neg e] at h; exact .inr ⟨fun e' => e e'.symm, h⟩
/-- A pair is new. -/
theorem PInv.put {pb : Nat} {H54 : Hp} {k : Nat} (i : PInv H7 Hx hb hs P ta tv) (hk : k < 8) (h7 : hs < H7.size) (hne : hb ≠ hs) (q : PairH Hy hb pb fun b => Hx.size ≤ b ∧ b < Hy.size) (ky : Kp No Hx Hy) (e : H54 = setc Hy ⟨hs, k, none⟩ (.pointer (some ⟨pb, 0, none⟩))) :
    PInv H7 H54 hb hs (P.set k (some (pb, fun b => Hx.size ≤ b ∧ b < Hy.size))) ta tv := by
  have iy := i.no ky
  have s7 := i.k.size
  have sy := ky.size
  have ke : Kp (fun b => b = hs) Hy H54 := (Kp.refl (fun b => b = hs) Hy).set' e (.inl rfl)
  have hoh : ∀ b, HO hb ta tv b → b ≠ hs := fun b g e => by
    subst e
    rcases i.ho b g with g | g
    · exact hne g.symm
    · omega
  refine ⟨by rw [List.length_set]; exact i.len, ?_, iy.h.kp ke (hoh _ (.inl rfl)) (fun b g => hoh b (.inr (.inl g))) fun b g => hoh b (.inr (.inr g)), fun j p hp => ?_, fun j j' p p' hjj hp hp' => ?_, i.ho, iy.k.trans ke fun b e => .inl (.inr e)⟩
  · have := iy.row.set' e
    rw [List.map_set]; exact this
  · rcases get_set hp with ⟨rfl, ee⟩ | ⟨_, hp⟩
    · have ee := Option.some.inj ee; subst ee
      exact ⟨q.kp ke fun b g e => by omega, fun b g g' => by have := i.h.lt g'; omega, fun b g => by omega⟩
    · exact ⟨(iy.p j p hp).1.kp ke fun b g e => by have := (iy.p j p hp).2.2 b g; omega, (iy.p j p hp).2⟩
  · have low : ∀ {j : Nat} {p : Nat × (Nat → Prop)}, P[j]? = some (some p) → ∀ b, p.2 b → b < Hx.size := fun hp b g => (i.p _ _ hp).1.lt g
    rcases get_set hp with ⟨rfl, ee⟩ | ⟨_, hp2⟩
    · rcases get_set hp' with ⟨rfl, _⟩ | ⟨_, hp2'⟩
      · exact absurd rfl hjj
      · have ee := Option.some.inj ee; subst ee
        intro b g g'
        have := low hp2' b g'
        have := g.1
        omega
    · rcases get_set hp' with ⟨rfl, ee⟩ | ⟨_, hp2'⟩
      · have ee := Option.some.inj ee; subst ee
        intro b g g'
        have := low hp2 b g
        have := g'.1
        omega
      · exact i.dj j j' p p' hjj hp2 hp2'
/-- A step was played. -/
theorem PInv.step {k : Nat} {p : Nat × (Nat → Prop)} (i : PInv H7 Hx hb hs P ta tv) (hp : P[k]? = some (some p)) (h7 : hs < H7.size) (hne : hb ≠ hs) (a : After Hx hb p.1 p.2 ta tv Hy) : ∃ (P' : List Sl8) (ta' tv' : Sl), PInv H7 Hy hb hs P' ta' tv' := by
  obtain ⟨O', ta', tv', q, hh, dj, oo, ho, ky⟩ := a
  have s7 := i.k.size
  have sy := ky.size
  have ip := i.p k p hp
  have hoh : ∀ b, HO hb ta tv b → b ≠ hs := fun b g e => by
    subst e
    rcases i.ho b g with g | g
    · exact hne g.symm
    · omega
  have nW : ¬ (p.2 hs ∨ HO hb ta tv hs) := fun g => by
    rcases g with g | g
    · have := ip.2.2 _ g; omega
    · exact hoh _ g rfl
  have low : ∀ {j : Nat} {p : Nat × (Nat → Prop)}, P[j]? = some (some p) → ∀ b, p.2 b → b < Hx.size := fun hp b g => (i.p _ _ hp).1.lt g
  refine ⟨P.set k (some (p.1, O')), ta', tv', by rw [List.length_set]; exact i.len, ?_, hh, fun j r hr => ?_, fun j j' r r' hjj hr hr' => ?_, fun b g => ?_, i.k.trans ky fun b g => ?_⟩
  · have e : (P.set k (some (p.1, O'))).map pvv = P.map pvv := by
      rw [List.map_set]
      exact set_same (by rw [List.getElem?_map, hp]; rfl)
    rw [e]
    exact ky.row i.row nW
  · rcases get_set hr with ⟨rfl, ee⟩ | ⟨hj, hr2⟩
    · have ee := Option.some.inj ee; subst ee
      exact ⟨q, dj, fun b g => (oo b g).elim (ip.2.2 b) fun g => by omega⟩
    · have ir := i.p j r hr2
      refine ⟨ir.1.kp ky fun b g g' => ?_, fun b g g' => ?_, ir.2.2⟩
      · rcases g' with g' | g'
        · exact i.dj j k r p hj hr2 hp b g g'
        · exact ir.2.1 b g g'
      · rcases ho b g' with g' | g'
        · exact ir.2.1 b g g'
        · have := low hr2 b g; omega
  · rcases get_set hr with ⟨rfl, ee⟩ | ⟨hj, hr2⟩
    · rcases get_set hr' with ⟨rfl, _⟩ | ⟨hj', hr2'⟩
      · exact absurd rfl hjj
      · have ee := Option.some.inj ee; subst ee
        intro b g g'
        rcases oo b g with g | g
        · exact i.dj _ _ _ _ hj' hr2' hp b g' g
        · have := low hr2' b g'; omega
    · rcases get_set hr' with ⟨rfl, ee⟩ | ⟨hj', hr2'⟩
      · have ee := Option.some.inj ee; subst ee
        intro b g g'
        rcases oo b g' with g' | g'
        · exact i.dj _ _ _ _ hj hr2 hp b g g'
        · have := low hr2 b g; omega
      · exact i.dj j j' r r' hjj hr2 hr2'
  · rcases ho b g with g | g
    · exact i.ho b g
    · exact .inr (by omega)
  · rcases g with g | g
    · exact .inr (ip.2.2 b g)
    · exact (i.ho b g).imp .inl id
end
def opF : Fmt (SOp × Sl × Sl) 65 8 := ⟨fun x => x.1.row x.2.1 x.2.2, fun _ => rfl, by
  intro x v hv
  simp only [SOp.row, List.mem_cons, List.not_mem_nil, or_false] at hv
  rcases hv with rfl | rfl | rfl | rfl | rfl | rfl | rfl | rfl <;> rfl, by decide⟩
structure SOpR (H : Hp) (x : SOp × Sl × Sl) : Prop where
  a : RdL aF H x.2.1 x.1.A
  v : RdL vF H x.2.2 x.1.V
  la : x.1.A.length ≤ 4194304
  lv : x.1.V.length ≤ 4194304
  ln : x.1.name.size ≤ 281474976710656
  w0 : -9223372036854775808 ≤ x.1.which
  w1 : x.1.which ≤ 9223372036854775807
theorem c6 {H : Hp} {sl : Sl} {L : List (SOp × Sl × Sl)} {Q : Bool → Hp → Prop} (tb : Tabs H) (hL : RdL opF H sl L) (hR : ∀ x ∈ L, SOpR H x) (hl : L.length ≤ 4611686018427387904) (hQ : ∀ H', Kp No H H' → Q true H') : F6 sl H Q := by
  have ht := tb.size
  have hn := hL.n
  refine c19 tb fun H1 k1 => ⟨fun g => (by cases g), fun _ => fun H5 e5 H7 e7 => ?_⟩
  have s1 := k1.size
  have s5 := size_push' e5
  have s7 := size_push' e7
  have k15 : Kp No H1 H5 := (Kp.refl _ _).push' e5
  have k57 : Kp No H5 H7 := (Kp.refl _ _).push' e7
  have k07 : Kp No H H7 := (k1.trans k15 fun _ g => g.elim).trans k57 fun _ g => g.elim
  have hh7 : HH H7 H1.size Sl.nil Sl.nil := ⟨(Row.new' e5).push' e7, Slot.nil _ _ _, Slot.nil _ _ _⟩
  have r7 : Row H7 H5.size 62 ((List.replicate 8 (none : Sl8)).map pvv) := Row.new' e7
  have none8 : ∀ (k : Nat) (p : Nat × (Nat → Prop)), (List.replicate 8 (none : Sl8))[k]? = some (some p) → False := fun k p h => by
    have := List.mem_of_getElem? h
    have := (List.mem_replicate.1 this).2
    cases this
  intro X1 hX1
  suffices G : ∀ (d i : Nat) (P : List Sl8) (ta tv : Sl) (Hx : Hp), i + d = L.length → PInv H7 Hx H1.size H5.size P ta tv → X1 (i : Int) Hx from
    G L.length 0 _ _ _ H7 (by omega) ⟨rfl, r7, hh7, fun k p h => (none8 k p h).elim, fun j k p q _ h => (none8 j p h).elim, fun b g => .inl (HO.nil g), Kp.refl _ _⟩
  intro d
  induction d with
  | zero =>
    intro i P ta tv Hx hi iv
    exact hX1 _ _ ⟨fun g => absurd (of_decide_eq_true g) (by omega), fun _ => hQ Hx (k07.trans iv.k fun b g => .inr (by omega))⟩
  | succ d ih =>
    intro i P ta tv Hx hi iv
    have it : ((i : Nat) : Int).toNat = i := by omega
    have gk : ∀ {Hy : Hp} {P' : List Sl8} {ta' tv' : Sl}, PInv H7 Hy H1.size H5.size P' ta' tv' → Kp No H Hy := fun iv => k07.trans iv.k fun b g => .inr (by omega)
    obtain ⟨x, gx⟩ : ∃ x, L[i]? = some x := ⟨_, List.getElem?_eq_getElem (by omega)⟩
    have rx := hR x (List.mem_of_getElem? gx)
    obtain ⟨a, ha, hlt, _⟩ := hL.get gx
    have gc : ∀ {Hy : Hp}, Kp No H Hy → cells Hy (a.add (i * 8)) (x.1.row x.2.1 x.2.2) 0 := fun k => by
      obtain ⟨a2, ha2, _, h⟩ := (hL.kp0 k).get gx
      rw [ha] at ha2; injection ha2 with ha2; subst ha2
      exact h
    have c0 : ∀ {Hy : Hp}, Kp No H Hy → cell Hy (a.add (i * 8)) = some (.int .i64 x.1.kind) := fun k => by
      have := (gc k).1; rwa [add_add, Nat.add_zero] at this
    -- the step
    have two : ∀ (k : Nat) (p : Nat × (Nat → Prop)) (Hy : Hp) (P' : List Sl8), k < 8 → P'[k]? = some (some p) → PInv H7 Hy H1.size H5.size P' ta tv → F6_2 Q X1 sl ⟨H1.size, 0, none⟩ ⟨H5.size, 0, none⟩ (i : Int) (k : Int) Hy := fun k p Hy P' hk hp iv' => by
      have ip := iv'.p k p hp
      have kt : ((k : Nat) : Int).toNat * 1 = k := by omega
      have ky := gk iv'
      refine ⟨by omega, by omega, some ⟨p.1, 0, none⟩, rowc iv'.row (by rw [kt, List.getElem?_map, hp]; rfl) , a, ha, by omega, by omega, _, _, _, _, _, _, _, _, by rw [it]; exact gc ky, ?_⟩
      refine c22 (o := x.1) (ta := ta) (tv := tv) ⟨ip.1, iv'.h, ip.2.1, tb.no ky, fun b g g' => ?_, fun Hz kz => rx.a.kp0 (ky.trans kz fun b g => .inr ?_), fun Hz kz => rx.v.kp0 (ky.trans kz fun b g => .inr ?_), rx.la, rx.lv, rx.ln⟩ fun H75 aft => ⟨fun g => (by cases g), fun _ => ?_⟩
      · rcases g' with g' | g'
        · have := ip.2.2 b g'; omega
        · rcases iv'.ho b g' with g' | g' <;> omega
      · rcases g with g | g
        · have := ip.2.2 b g; omega
        · rcases iv'.ho b g with g | g <;> omega
      · rcases g with g | g
        · have := ip.2.2 b g; omega
        · rcases iv'.ho b g with g | g <;> omega
      obtain ⟨P2, ta2, tv2, iv2⟩ := iv'.step hp (by omega) (by omega) aft
      rw [wr (by omega) (by omega), show ((i : Int) + 1) = ((i + 1 : Nat) : Int) by omega]
      exact ih (i + 1) P2 ta2 tv2 H75 (by omega) iv2
    -- a new pair
    have new : ∀ k : Nat, k < 8 → F6_3 Q X1 sl ⟨H1.size, 0, none⟩ ⟨H5.size, 0, none⟩ (i : Int) (k : Int) true Hx := fun k hk => by
      have kt : ((k : Nat) : Int).toNat * 1 = k := by omega
      refine ⟨fun _ => c21 fun pb H47 q47 k47 => ⟨fun g => (by cases g), fun _ => ⟨by omega, by omega, ?_⟩⟩, fun g => (by cases g)⟩
      have i47 := iv.no k47
      have hl := i47.len
      rw [kt, add_mk, Nat.zero_add]
      refine ⟨i47.row.some (by simp; omega), i47.row.frz _, fun H54 e54 => ?_⟩
      exact two k _ H54 _ hk (by rw [List.getElem?_set_self (by omega)]) (iv.put hk (by omega) (by omega) q47 k47 e54)
    refine hX1 _ _ ⟨fun _ => ⟨a, ha, by omega, by omega, x.1.which, by rw [it]; exact (gc (gk iv)).2.1, c20 rx.w0 rx.w1 fun k hk => ⟨a, ha, by omega, by omega, x.1.kind, by rw [it]; exact c0 (gk iv), fun _ => new k hk, fun _ => ⟨by omega, by omega, ?_⟩⟩⟩, fun g => absurd (of_decide_eq_false g) (by omega)⟩
    have kt : ((k : Nat) : Int).toNat * 1 = k := by omega
    have hl := iv.len
    obtain ⟨y, gy⟩ : ∃ y, P[k]? = some y := ⟨_, List.getElem?_eq_getElem (by omega)⟩
    refine ⟨y.map fun p => ⟨p.1, 0, none⟩, rowc iv.row (by rw [kt, List.getElem?_map, gy]; rfl), ?_⟩
    cases y with
    | none => exact new k hk
    | some p => exact ⟨fun g => (by cases g), fun _ => two k p Hx P hk gy iv⟩
end Go.Hw
