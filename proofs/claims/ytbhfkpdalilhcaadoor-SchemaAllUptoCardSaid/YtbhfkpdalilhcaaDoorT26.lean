/- Where a script begins. Own work of this session. -/
import Derived.Test.YtbhfkpdalilhcaaDoorT25
import Derived.Test.YtbhfkpdalilhcaaDoorT10
set_option linter.unusedVariables false
namespace Go.Hw
open Go

def trA : Atts := [(S_price, 1), (S_sym, 2), (S_live, 3)]
theorem trN : nm S_Trade = true := by decide
theorem trG : GoodA trA := by
  refine ⟨by decide, ?_, by decide⟩
  intro a ha
  simp only [trA, List.mem_cons, List.not_mem_nil, or_false] at ha
  rcases ha with rfl | rfl | rfl <;> refine ⟨by decide, by decide, by decide, by decide⟩
theorem trW : wrg S_Trade trA = 0 := by
  unfold wrg
  rw [if_neg (by rw [trN]; decide), if_neg (by decide)]
  exact wrgL_good trA [] trG.ok trG.ne
theorem trP : printT S_Trade trA = S_TYPE_Trade__price_INT__s := by
  apply bytes_inj
  rw [printT_bytes]
  rfl
theorem trD : (declP (bytes S_TYPE_Trade__price_INT__s)).1 = 0 ∧ (declP (bytes S_TYPE_Trade__price_INT__s)).2.2 = (S_Trade, trA) := trP ▸ declP_print trN trG
section
variable {H : Hp}
theorem c37 {Q : ByteArray → Sl → Hp → Prop} (hQ : ∀ b H', RdL aF H' (Sl.mk (some ⟨b, 0, none⟩) 3 3) trA → H.size ≤ b → Kp No H H' → Q S_Trade (Sl.mk (some ⟨b, 0, none⟩) 3 3) H') : F37 H Q := by
  intro H1 e1 H3 e3
  have k1 : Kp No H H1 := (Kp.refl _ _).push' e1
  have k3 : Kp No H H3 := k1.push' e3
  have s1 := size_push' e1
  have r1 : Row H3 H.size 27 [.string E, Sl.v Sl.nil] := (Row.new' e1).push' e3
  have r3 : Row H3 H1.size 38 (trA.flatMap aF.f) := Row.new' e3
  refine ⟨r1.mayw (by simp), fun H5 e5 => ?_⟩
  have r5 : Row H5 H.size 27 [.string S_Trade, Sl.v (Sl.mk (some ⟨H1.size, 0, none⟩) 3 3)] := r1.fill' e5 rfl
  have k5 : Kp No H H5 := k3.sets' e5 (.inr (Nat.le_refl _))
  have k35 : Kp (fun x => x = H.size) H3 H5 := (Kp.refl (fun x => x = H.size) H3).sets' e5 (.inl rfl)
  exact ⟨_, _, r5.all, hQ H1.size H5 (Row.rdl (F := aF) (L := trA) (k35.row r3 (by show H1.size ≠ H.size; omega)) rfl 3) (by omega) k5⟩
theorem c38 {Q : Option Addr → Hp → Prop} (hQ : ∀ H', Row H' H.size 118 [Sl.v Sl.nil] → H'.size = H.size + 1 → Kp No H H' → Q (some ⟨H.size, 0, none⟩) H') : F38 H Q := by
  intro H1 e1
  exact hQ H1 (Row.new' e1) (size_push' e1) ((Kp.refl _ _).push' e1)
/-- A pair. -/
theorem c21 {hb : Nat} {Q : Option Addr → Bool → Hp → Prop} (hQ : ∀ pb H', PairH H' hb pb (fun b => H.size ≤ b ∧ b < H'.size) → Kp No H H' → Q (some ⟨pb, 0, none⟩) true H') : F21 (some ⟨hb, 0, none⟩) H Q := by
  refine c7 fun H1 r1 m1 k1 => c38 fun H4 r4 s4 k4 => fun H7 e7 => ?_
  have s1 := k1.size
  have x1 := r1.lt
  have s7 := size_push' e7
  have r7 : Row H7 H4.size 101 [.pointer (some ⟨H.size + 1, 0, none⟩), .pointer (some ⟨H1.size, 0, none⟩), .pointer (some ⟨hb, 0, none⟩)] := Row.new' e7
  have k47 : Kp No H1 H7 := k4.push' e7
  refine ⟨_, r7.cell_of (i := 0) rfl, hQ H4.size H7 ⟨H.size + 1, H.size, H1.size, Sl.nil, [], [], 0, r7, ⟨k47.row r1 id, m1.kp k47 id, ⟨List.Pairwise.nil, fun e h => (by cases h)⟩, fun z hz => (by cases hz), List.Pairwise.nil⟩, ⟨r4.push' e7, Lst.nil _ _, rfl, fun i m z hm => by simp at hm⟩, Nat.zero_le _, ?_, ?_, ?_, ?_, fun b hb => by (cases hb), fun z hz => by (cases hz), fun z hz => by (cases hz), fun b hb => hb.2⟩ (k1.trans k47 fun _ g => g.elim)⟩
  · exact ⟨by omega, by omega⟩
  · exact ⟨by omega, by omega⟩
  · exact ⟨by omega, by omega⟩
  · exact ⟨by omega, by omega⟩
theorem HO.nil {hb b : Nat} (h : HO hb Sl.nil Sl.nil b) : b = hb := by
  rcases h with h | h | h
  · exact h
  · cases h
  · cases h
theorem c19 {Q : Bool → Hp → Prop} (tb : Tabs H) (hQ : ∀ H', Kp No H H' → Q true H') : F19 H Q := by
  have ht := tb.size
  intro H1 e1
  have k1 : Kp No H H1 := (Kp.refl _ _).push' e1
  have s1 := size_push' e1
  have hh1 : HH H1 H.size Sl.nil Sl.nil := ⟨Row.new' e1, Slot.nil _ _ _, Slot.nil _ _ _⟩
  refine c21 (hb := H.size) fun p3 H3 q3 k3 => c21 fun p7 H7 q7 k7 => ⟨fun g => (by cases g), fun _ => ⟨fun g => (by cases g), fun _ => ?_⟩⟩
  have s3 := k3.size
  have s7 := k7.size
  have k17 := k3.trans k7 fun _ g => g.elim
  have no : ∀ {Ha Hb Hc : Hp}, Kp No Ha Hb → Kp No Hb Hc → Kp No Ha Hc := fun a b => a.trans b fun _ g => g.elim
  have k07 := no k1 k17
  refine c37 fun b17 H17 l17 hb17 k17' => c13 (tb.no (no k07 k17')) l17 (Nat.le_refl _) (by decide) (fun g => absurd trW g) fun _ H21 k21 => ?_
  rw [trP]
  have k021 := no (no k07 k17') k21
  refine c14 (tb.no k021) (fun g => absurd g (by decide)) (fun _ g => absurd trD.1 g) fun _ _ sl25 H25 l25 b25 k25 => fun H31 e31 => ?_
  rw [trD.2] at l25 ⊢
  have r31 := Row.new' e31
  have k31 : Kp No H25 H31 := (Kp.refl _ _).push' e31
  refine ⟨r31.mayw (by simp), fun H33 e33 => ?_⟩
  have r33 : Row H33 H25.size 27 [.string S_Trade, Sl.v sl25] := r31.fill' e33 rfl
  have k33 : Kp No H25 H33 := k31.sets' e33 (.inr (Nat.le_refl _))
  refine ⟨fun _ => ⟨fun _ => ⟨fun _ => ⟨fun _ => ⟨_, _, r33.all, c37 fun b49 H49 l49 hb49 k49 => ⟨(k49.row r33 id).all, same15 (l25.rd.kp0 (no k33 k49)) l49 (by decide) fun H54 k54 => ?_⟩⟩, fun g => absurd rfl (of_decide_eq_false g)⟩, fun g => absurd rfl (of_decide_eq_false g)⟩, fun g => absurd (seq_refl _) (by rw [g]; decide)⟩, fun g => absurd rfl (of_decide_eq_false g)⟩
  refine ⟨fun _ => c37 fun b60 H60 l60 hb60 k60 => ?_, fun g => (by cases g)⟩
  have k760 : Kp No H7 H60 := no (no (no (no (no (no k17' k21) k25) k33) k49) k54) k60
  have k354 : Kp No H7 H54 := no (no (no (no (no k17' k21) k25) k33) k49) k54
  have s54 := k354.size
  have s60 := k760.size
  have k060 := no k07 k760
  have q3' := q3.kp (no k7 k760) fun _ _ => id
  have hh60 := hh1.no (no k17 k760)
  refine c22 (o := ⟨1, 0, S_Trade, trA, E, E, 0, []⟩) (sv := Sl.nil) (ta := Sl.nil) (tv := Sl.nil) ⟨q3', hh60, fun b g g' => ?_, tb.no k060, fun b g g' => ?_, fun Hx kx => l60.kp kx fun a ha g => ?_, fun Hx kx => RdL.nil _ _, by decide, by decide, by decide⟩ fun H64 ⟨O', ta', tv', q64, hh64, dj64, o64, ho64, k64⟩ => ⟨fun _ => ?_, fun g => (by cases g)⟩
  · have := HO.nil g'; omega
  · rcases g' with g' | g'
    · omega
    · have := HO.nil g'; omega
  · injection ha with ha; subst ha
    rcases g with g | g
    · have : b60 < H3.size := g.2; omega
    · have : b60 = H.size := HO.nil g; omega
  have s64 := k64.size
  have lo : ∀ b, O' b ∨ HO H.size ta' tv' b → (H.size ≤ b ∧ b < H3.size) ∨ H60.size ≤ b := fun b g => by
    rcases g with g | g
    · rcases o64 b g with g | g
      · exact .inl ⟨by omega, g.2⟩
      · exact .inr g
    · rcases ho64 b g with g | g
      · have := HO.nil g; exact .inl ⟨by omega, by omega⟩
      · exact .inr g
  have k064 : Kp No H H64 := k060.trans k64 fun b g => .inr (by
    rcases g with g | g
    · have := g.1; omega
    · have := HO.nil g; omega)
  refine c22 (o := ⟨2, 0, E, [], S_Trade, E, 0, []⟩) (sa := Sl.nil) (sv := Sl.nil) ⟨q64, hh64, dj64, tb.no k064, fun b g g' => ?_, fun Hx kx => RdL.nil _ _, fun Hx kx => RdL.nil _ _, by decide, by decide, by decide⟩ fun H69 ⟨O2, ta2, tv2, q69, hh69, dj69, o69, ho69, k69⟩ => ⟨fun _ => ?_, fun g => (by cases g)⟩
  · rcases lo b g' with g' | g' <;> omega
  have s69 := k69.size
  have q7' : PairH H69 H.size p7 fun b => H3.size ≤ b ∧ b < H7.size := by
    refine ((q7.kp k760 fun _ _ => id).kp k64 fun b g g' => ?_).kp k69 fun b g g' => ?_
    · rcases g' with g' | g'
      · omega
      · have := HO.nil g'; omega
    · rcases lo b g' with g' | g' <;> omega
  have lo2 : ∀ b, HO H.size ta2 tv2 b → (H.size ≤ b ∧ b < H3.size) ∨ H60.size ≤ b := fun b g => (ho69 b g).elim (fun g => lo b (.inr g)) fun g => .inr (by omega)
  have k069 : Kp No H H69 := k064.trans k69 fun b g => .inr (by rcases lo b g with g | g <;> omega)
  refine c22 (o := ⟨2, 0, E, [], S_Trade, E, 0, []⟩) (sa := Sl.nil) (sv := Sl.nil) ⟨q7', hh69, fun b g g' => ?_, tb.no k069, fun b g g' => ?_, fun Hx kx => RdL.nil _ _, fun Hx kx => RdL.nil _ _, by decide, by decide, by decide⟩ fun H74 ⟨O3, ta3, tv3, _, _, _, _, _, k74⟩ => hQ H74 (k069.trans k74 fun b g => .inr ?_)
  · rcases lo2 b g' with g' | g' <;> omega
  · rcases g' with g' | g'
    · omega
    · rcases lo2 b g' with g' | g' <;> omega
  · rcases g with g | g
    · omega
    · rcases lo2 b g with g | g <;> omega
end
end Go.Hw
