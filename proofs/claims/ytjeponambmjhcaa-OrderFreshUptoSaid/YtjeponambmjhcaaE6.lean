/- untouched. Own work of this session. -/
import Derived.Test.YtjeponambmjhcaaE5
set_option linter.unusedVariables false
namespace Go.Hw
open Go

theorem isort_len8 {s : St} (ok : s.Ok) : ((isort s.C).map NE.e).length ≤ 8192 := by
  have := ok.len
  have := ok.room
  rw [List.length_map, (isort_perm _).length_eq]
  omega
theorem stepF_len {s : St} (ok : s.Ok) (kd now : Int) (e : EV) : (stepF s kd now e).1.length ≤ 8192 := by
  have h1 := ok.len
  have h2 := ok.room
  unfold stepF
  split
  · show ((push s e).1.map NE.e).length ≤ _
    rw [List.length_map]
    unfold push
    split
    · simp
    · split
      · simp
      · split
        · simp
        · have := out_len (mark' s e.tm) (s.C ++ [(⟨s.count + 1, e⟩ : NE)])
          simp at this ⊢
          omega
  · split
    · show ((advance s now).1.map NE.e).length ≤ _
      rw [List.length_map]
      unfold advance
      split
      · simp
      · have := out_len (mark' s now) s.C
        simp at this ⊢
        omega
    · split
      · exact isort_len8 ok
      · split
        · exact isort_len8 ok
        · simp

/-- An answer in a collection: its list, its blocks, its events. -/
structure AL where
  s : Sl
  R : Nat → Prop
  evs : List EV

/-- A list of answers, each with blocks of its own. -/
structure Coll (H : Hp) (y : Sl) (A : List AL) (D : Nat → Prop) : Prop where
  lst : Lst (sF 50) H y (A.map AL.s)
  ans : ∀ x ∈ A, AnsF H x.R x.s x.evs
  dj : A.Pairwise fun x y => ∀ b, x.R b → ¬ y.R b
  own : ∀ x ∈ A, ∀ b, x.R b → ¬ y.at b
  fp : ∀ b, D b ↔ (y.at b ∨ ∃ x ∈ A, x.R b)

theorem Coll.nil (H : Hp) : Coll H Sl.nil [] (fun b => False) :=
  ⟨Lst.nil _ _, fun x hx => by simp at hx, List.Pairwise.nil, fun x hx => by simp at hx, fun b => ⟨False.elim, fun h => by
    rcases h with h | ⟨x, hx, _⟩
    · cases h
    · simp at hx⟩⟩
theorem Coll.kp {H H' : Hp} {y : Sl} {A : List AL} {D S : Nat → Prop} (h : Coll H y A D) (k : Kp S H H') (hs : ∀ b, D b → ¬ S b) : Coll H' y A D :=
  ⟨h.lst.kp k fun b hb => hs b ((h.fp b).2 (.inl hb)), fun x hx => (h.ans x hx).kp k fun b hb => hs b ((h.fp b).2 (.inr ⟨x, hx, hb⟩)), h.dj, h.own, h.fp⟩
theorem Coll.no {H H' : Hp} {y : Sl} {A : List AL} {D : Nat → Prop} (h : Coll H y A D) (k : Kp No H H') : Coll H' y A D := h.kp k fun _ _ => id
theorem Coll.lt {H : Hp} {y : Sl} {A : List AL} {D : Nat → Prop} (h : Coll H y A D) {b : Nat} (hb : D b) : b < H.size := by
  rcases (h.fp b).1 hb with h' | ⟨x, hx, h'⟩
  · exact h.lst.lt h'
  · exact (h.ans x hx).lt h'

theorem Coll.append {H : Hp} {y : Sl} {A N : List AL} {D : Nat → Prop} {bx : Nat} {K : Sl → Hp → Prop} (h : Coll H y A D) (hN : ∀ x ∈ N, AnsF H x.R x.s x.evs) (hNd : N.Pairwise fun x y => ∀ b, x.R b → ¬ y.R b) (hND : ∀ x ∈ N, ∀ b, x.R b → ¬ D b)
    {n : Nat} (hn : N.length = n) (row : Row H bx 50 (N.map AL.s |>.flatMap (sF 50).f)) (hl : A.length + N.length ≤ 1099511627776)
    (hK : ∀ y' H' D', Coll H' y' (A ++ N) D' → Kp y.at H H' → (∀ b, D' b → D b ∨ (∃ x ∈ N, x.R b) ∨ H.size ≤ b) → K y' H') :
    AppendF H 50 1 24 #[Sl.v Sl.nil] y (Sl.mk (some ⟨bx, 0, none⟩) n n).b (Sl.mk (some ⟨bx, 0, none⟩) n n).n K := by
  have hx : RdL (sF 50) H (Sl.mk (some ⟨bx, 0, none⟩) n n) (N.map AL.s) := Row.rdl (L := N.map AL.s) row (by simp [hn]) _
  refine h.lst.append hx rfl (by simp; omega) (by simp; omega) fun y' H' h1 k1 hn' => ?_
  have hyD : ∀ b, y.at b → D b := fun b hb => (h.fp b).2 (.inl hb)
  have hAD : ∀ x ∈ A, ∀ b, x.R b → D b := fun x hx b hb => (h.fp b).2 (.inr ⟨x, hx, hb⟩)
  refine hK y' H' (fun b => y'.at b ∨ ∃ x ∈ A ++ N, x.R b) ⟨by rw [List.map_append]; exact h1, fun x hx => ?_, ?_, fun x hx b hb hb' => ?_, fun _ => Iff.rfl⟩ k1 fun b hb => ?_
  · rcases List.mem_append.1 hx with hx | hx
    · exact (h.ans x hx).kp k1 fun b hb => h.own x hx b hb
    · exact (hN x hx).kp k1 fun b hb hb' => hND x hx b hb (hyD b hb')
  · rw [List.pairwise_append]
    exact ⟨h.dj, hNd, fun x hx z hz b hb hb' => hND z hz b hb' (hAD x hx b hb)⟩
  · rcases hn' b hb' with h2 | h2
    · rcases List.mem_append.1 hx with hx | hx
      · exact h.own x hx b hb h2
      · exact hND x hx b hb (hyD b h2)
    · rcases List.mem_append.1 hx with hx | hx
      · have := (h.ans x hx).lt hb; omega
      · have := (hN x hx).lt hb; omega
  · rcases hb with hb | ⟨x, hx, hb⟩
    · rcases hn' b hb with h2 | h2
      · exact .inl (hyD b h2)
      · exact .inr (.inr (by omega))
    · rcases List.mem_append.1 hx with hx | hx
      · exact .inl (hAD x hx b hb)
      · exact .inr (.inl ⟨x, hx, hb⟩)

theorem c21_fill {H : Hp} {hh : Nat} {A : List AL} {y last : Sl} {D F G W : Nat → Prop} {g : Nat} {s : St} {Q : Bool → Hp → Prop} (hA : Coll H y A D) (hl : ∀ x ∈ A, x.evs.length ≤ 8192) (hAl : A.length ≤ 4194304)
    (hs : HS H hh [] [] 0 0 F) (hFD : ∀ b, F b → ¬ D b) (hg : GP H G s g) (hok : s.Ok) (hGD : ∀ b, G b → ¬ D b) (hGF : ∀ b, G b → ¬ F b) (hw : AnsF H W last ((isort s.C).map NE.e)) (hWD : ∀ b, W b → ¬ D b) (hWF : ∀ b, W b → ¬ F b)
    {H0 : Hp} (k0 : Kp No H0 H) (hD0 : ∀ b, D b → H0.size ≤ b) (hF0 : ∀ b, F b → H0.size ≤ b)
    (hQ : ∀ H', Kp No H0 H' → Q true H') : F21_L7 Q (some ⟨g, 0, none⟩) y ⟨hh, 0, none⟩ last 0 H := by
  have hyn := hA.lst.n
  rw [List.length_map] at hyn
  intro X hX
  suffices Gl : ∀ (d : Nat) (H1 : Hp) (i : Nat) (PV PE : List (Sl × Sl)) (F1 : Nat → Prop), i + d = A.length → HS H1 hh PV PE 0 0 F1 → PV.length ≤ 8192 * i → PE.length ≤ i → Kp No H0 H1 → (∀ b, F1 b → H0.size ≤ b) →
      Lst (sF 50) H1 y (A.map AL.s) → (∀ b, F1 b → ¬ y.at b) → (∀ x ∈ A.drop i, AnsF H1 x.R x.s x.evs) → (∀ x ∈ A.drop i, ∀ b, x.R b → ¬ F1 b) → GP H1 G s g → (∀ b, G b → ¬ F1 b) → AnsF H1 W last ((isort s.C).map NE.e) → (∀ b, W b → ¬ F1 b) → X i H1 from
    Gl A.length H 0 [] [] F (by omega) hs (by simp) (by simp) k0 hF0 hA.lst (fun b hb hb' => hFD b hb ((hA.fp b).2 (.inl hb'))) (by simpa using hA.ans) (fun x hx b hb hF => hFD b hF ((hA.fp b).2 (.inr ⟨x, by simpa using hx, hb⟩))) hg hGF hw hWF
  intro d
  induction d with
  | zero =>
    intro H1 i PV PE F1 hi hs1 hP1 hP2 k1 hF1 hy1 hFy hx1 hxF hg1 hGF1 hw1 hWF1
    refine hX _ _ ⟨fun hb => absurd (of_decide_eq_true hb) (by omega), fun _ => ?_⟩
    refine c33 hs1 (Nat.zero_le _) (Nat.zero_le _) (by omega) (by omega) fun H2 PV2 PE2 hs2 k2 e1 e2 => ?_
    refine c17 hs2 (by omega) (by omega) fun H3 k3 => ⟨fun _ => ?_, fun hf => by cases hf⟩
    have hg3 := (hg1.kp k2 hGF1).no k3
    have hw3 := (hw1.kp k2 hWF1).kp k3 fun _ _ => id
    refine c19f hg3 hok fun r H4 R4 a4 k4 hR4 => lists_ok a4.ans (hw3.kp k4 fun _ _ => id).ans (isort_len hok) fun H5 k5 => ?_
    exact hQ H5 ((((k1.trans k2 fun b hb => .inr (hF1 b hb)).trans k3 fun _ => False.elim).trans k4 fun _ => False.elim).trans k5 fun _ => False.elim)
  | succ d ih =>
    intro H1 i PV PE F1 hi hs1 hP1 hP2 k1 hF1 hy1 hFy hx1 hxF hg1 hGF1 hw1 hWF1
    have hx : A[i]? = some (A[i]'(by omega)) := List.getElem?_eq_getElem (by omega)
    generalize A[i]'(by omega) = x at hx
    have hdr := drop_cons hx
    have hxd : x ∈ A.drop i := by rw [hdr]; exact List.mem_cons_self ..
    have hxA := List.mem_of_getElem? hx
    have hxs : (A.map AL.s)[i]? = some x.s := by rw [List.getElem?_map, hx]; rfl
    obtain ⟨a, ha, hi0, ca⟩ := hy1.rd.get hxs
    have ax := hx1 x hxd
    have hlx := hl x hxA
    have hxD : ∀ b, x.R b → D b := fun b hb => (hA.fp b).2 (.inr ⟨x, hxA, hb⟩)
    refine hX _ _ ⟨fun _ => ⟨a, ha, by omega, by omega, _, ca.1, c32 hs1 ax (fun b hb hb' => hxF x hxd b hb' hb) (by omega) (by omega) (by omega) fun H2 PV2 PE2 F2 hs2 k2 hF2 l1 l2 l3 l4 => ?_⟩, fun hb => absurd (of_decide_eq_false hb) (by omega)⟩
    have hdx : ∀ z ∈ A.drop (i + 1), ∀ b, z.R b → ¬ x.R b := fun z hz b hb hb' => by
      have := hA.dj.sublist (List.drop_sublist i A)
      rw [hdr] at this
      exact (List.pairwise_cons.1 this).1 z hz b hb' hb
    have hsub : ∀ z ∈ A.drop (i + 1), z ∈ A.drop i := fun z hz => by rw [hdr]; exact List.mem_cons_of_mem _ hz
    have sk1 := k1.size
    rw [wr (by omega) (by omega)]
    refine ih H2 (i + 1) PV2 PE2 F2 (by omega) hs2 (by omega) (by omega) (k1.trans k2 fun b hb => .inr (hb.elim (hF1 b) fun h => hD0 b (hxD b h))) (fun b hb => ?_) (hy1.kp k2 fun b hb hb' => ?_) (fun b hb hb' => ?_) (fun z hz => (hx1 z (hsub z hz)).kp k2 fun b hb hb' => ?_) (fun z hz b hb hb' => ?_) (hg1.kp k2 fun b hb hb' => ?_) (fun b hb hb' => ?_) (hw1.kp k2 fun b hb hb' => ?_) (fun b hb hb' => ?_)
    · rcases hF2 b hb with h | h | h
      · exact hF1 b h
      · exact hD0 b (hxD b h)
      · omega
    · rcases hb' with h | h
      · exact hFy b h hb
      · exact hA.own x hxA b h hb
    · rcases hF2 b hb with h | h | h
      · exact hFy b h hb'
      · exact hA.own x hxA b h hb'
      · have := hy1.lt hb'; omega
    · rcases hb' with h | h
      · exact hxF z (hsub z hz) b hb h
      · exact hdx z hz b hb h
    · rcases hF2 b hb' with h | h | h
      · exact hxF z (hsub z hz) b hb h
      · exact hdx z hz b hb h
      · have := (hx1 z (hsub z hz)).lt hb; omega
    · rcases hb' with h | h
      · exact hGF1 b hb h
      · exact hGD b hb (hxD b h)
    · rcases hF2 b hb' with h | h | h
      · exact hGF1 b hb h
      · exact hGD b hb (hxD b h)
      · have := hg1.lt hb; omega
    · rcases hb' with h | h
      · exact hWF1 b hb h
      · exact hWD b hb (hxD b h)
    · rcases hF2 b hb' with h | h | h
      · exact hWF1 b hb h
      · exact hWD b hb (hxD b h)
      · have := hw1.lt hb; omega

/-- Behind the gathering. -/
theorem c21_end {H : Hp} {A B : List AL} {y z : Sl} {D E G : Nat → Prop} {g : Nat} {s : St} {Q : Bool → Hp → Prop} (hA : Coll H y A D) (hB : Coll H z B E) (hl : ∀ x ∈ A, x.evs.length ≤ 8192) (hAl : A.length ≤ 4194304) (he : A.map AL.evs = B.map AL.evs) (hg : GP H G s g) (hok : s.Ok) (hGD : ∀ b, G b → ¬ D b)
    {H0 : Hp} (k0 : Kp No H0 H) (hD0 : ∀ b, D b → H0.size ≤ b) (hQ : ∀ H', Kp No H0 H' → Q true H') : F21_1 Q (some ⟨g, 0, none⟩) y z H := by
  intro H1 e1
  have k1 := (Kp.refl No H).push' e1
  have s1 := size_push' e1
  have b1 := Row.new' e1
  have sk0 := k0.size
  have hs1 : HS H1 H.size [] [] 0 0 (fun b => b = H.size ∨ False ∨ False) := by
    have nilb : ∀ b, ¬ Sl.nil.at b := fun b hb => by cases hb
    refine ⟨Sl.nil, Sl.nil, 0, fun _ => False, fun _ => False, b1, ⟨Lst.nil _ _, fun i p hp => (by simp at hp), fun i p hp => (by simp at hp), List.Pairwise.nil, fun p hp => (by simp at hp), fun b => ⟨False.elim, fun h => ?_⟩, fun p hp => (by simp at hp)⟩,
      ⟨Lst.nil _ _, fun i p hp => (by simp at hp), fun i p hp => (by simp at hp), List.Pairwise.nil, fun p hp => (by simp at hp), fun b => ⟨False.elim, fun h => ?_⟩, fun p hp => (by simp at hp)⟩, fun _ => False.elim, id, id, fun _ => Iff.rfl, fun b hb => ?_⟩
    · rcases h with h | ⟨p, hp, _⟩
      · exact nilb b h
      · simp at hp
    · rcases h with h | ⟨p, hp, _⟩
      · exact nilb b h
      · simp at hp
    · rcases hb with h | h | h
      · omega
      · exact h.elim
      · exact h.elim
  have hA1 := hA.no k1
  have hB1 := hB.no k1
  have hyn := hA1.lst.n
  have hzn := hB1.lst.n
  have hAB := congrArg List.length he
  simp only [List.length_map] at hyn hzn hAB
  intro X hX
  suffices Gl : ∀ (d : Nat) (H2 : Hp) (i : Nat), i + d = A.length → Kp No H1 H2 → X i H2 from Gl A.length H1 0 (by omega) (Kp.refl _ _)
  intro d
  induction d with
  | zero =>
    intro H2 i hi k2
    refine hX _ _ ⟨fun hb => absurd (of_decide_eq_true hb) (by omega), fun _ => ?_⟩
    have hg2 := (hg.no k1).no k2
    refine c19f hg2 hok fun r H3 R3 a3 k3 hR3 => c38 a3.ans (isort_len hok) fun r4 H4 R4 a4 k4 hR4 => ?_
    have k24 := k3.trans k4 fun _ => False.elim
    have k14 := k2.trans k24 fun _ => False.elim
    have sk2 := k2.size
    have sk3 := k3.size
    refine c21_fill (hA1.no k14) hl hAl (hs1.no k14) (fun b hb hD => ?_) (hg2.no k24) hok hGD (fun b hb hF => ?_) a4 (fun b hb hD => ?_) (fun b hb hF => ?_) (H0 := H0) ((k0.trans k1 fun _ => False.elim).trans k14 fun _ => False.elim) hD0 (fun b hb => ?_) hQ
    · have := hA.lt hD
      rcases hb with h | h | h
      · omega
      · exact h
      · exact h
    · have := hg.lt hb
      rcases hF with h | h | h
      · omega
      · exact h
      · exact h
    · have := hA.lt hD
      have := hR4 b hb
      omega
    · have := hR4 b hb
      rcases hF with h | h | h
      · omega
      · exact h
      · exact h
    · rcases hb with h | h | h
      · omega
      · exact h.elim
      · exact h.elim
  | succ d ih =>
    intro H2 i hi k2
    have hx : A[i]? = some (A[i]'(by omega)) := List.getElem?_eq_getElem (by omega)
    generalize A[i]'(by omega) = x at hx
    have hw : B[i]? = some (B[i]'(by omega)) := List.getElem?_eq_getElem (by omega)
    generalize B[i]'(by omega) = w at hw
    have hxw : x.evs = w.evs := by
      have := congrArg (fun l : List (List EV) => l[i]?) he
      simpa only [List.getElem?_map, hx, hw, Option.map_some, Option.some.injEq] using this
    have hA2 := hA1.no k2
    have hB2 := hB1.no k2
    obtain ⟨a, ha, hi0, ca⟩ := hA2.lst.rd.get (show (A.map AL.s)[i]? = some x.s by rw [List.getElem?_map, hx]; rfl)
    obtain ⟨a', ha', hi0', ca'⟩ := hB2.lst.rd.get (show (B.map AL.s)[i]? = some w.s by rw [List.getElem?_map, hw]; rfl)
    have ax := hA2.ans x (List.mem_of_getElem? hx)
    have aw := hB2.ans w (List.mem_of_getElem? hw)
    rw [← hxw] at aw
    refine hX _ _ ⟨fun _ => ⟨a, ha, by omega, by omega, _, ca.1, a', ha', by omega, by omega, _, ca'.1, lists_ok ax.ans aw.ans (Nat.le_trans (hl x (List.mem_of_getElem? hx)) (by decide)) fun H3 k3 => ⟨fun hf => (by cases hf), fun _ => ?_⟩⟩, fun hb => absurd (of_decide_eq_false hb) (by omega)⟩
    rw [wr (by omega) (by omega)]
    exact ih H3 (i + 1) (by omega) (k2.trans k3 fun _ => False.elim)

theorem c21 {late room : Int} {script : Sl} {Ops : List OP} {H0 : Hp} {Q : Bool → Hp → Prop} (hgood : ¬ badNew late room) (hs : RdL oF H0 script Ops) (hl : Ops.length ≤ 1048576) (hv : ∀ o ∈ Ops, RdL vF H0 o.sl o.vs ∧ o.vs.length ≤ 1048576)
    (hQ : ∀ H', Kp No H0 H' → Q true H') : F21 late room script H0 Q := by
  have hn := hs.n
  refine c8 (fun h => absurd h hgood) fun _ H1 g hb hp k1 hg hh => ⟨fun hf => (by cases hf), fun _ => ?_⟩
  have gp1 : GP H1 (fpv g hb Sl.nil []) (st0 late room) g := by
    obtain ⟨L, p⟩ := hp
    have hL : L = [] := by
      have := p.perm.length_eq
      exact List.eq_nil_of_length_eq_zero (by simpa [st0] using this)
    subst hL
    exact ⟨hb, Sl.nil, [], p, List.Pairwise.nil, fun _ => Iff.rfl⟩
  have sk1 := k1.size
  intro X hX
  suffices Gl : ∀ (d : Nat) (H : Hp) (i : Nat) (y z : Sl) (held : Int) (A B : List AL) (F D E : Nat → Prop) (s : St), i + d = Ops.length → Kp No H0 H → GP H F s g → s.Ok → s.count ≤ i → (∀ b, F b → H0.size ≤ b) → Coll H y A D → Coll H z B E → (∀ b, D b → H0.size ≤ b) → (∀ b, E b → H0.size ≤ b) → (∀ b, F b → ¬ D b) → (∀ b, F b → ¬ E b) → (∀ b, D b → ¬ E b) →
      (∀ x ∈ A, x.evs.length ≤ 8192) → A.length ≤ 3 * i → A.map AL.evs = B.map AL.evs → X y z held i H from
    Gl Ops.length H1 0 Sl.nil Sl.nil 0 [] [] _ _ _ _ (by omega) k1 gp1 (st0_ok hgood) (Int.le_refl _) (fun b hb => by
      rcases hb with (h | h | h) | ⟨x, hx, _⟩
      · omega
      · omega
      · cases h
      · simp at hx) (Coll.nil _) (Coll.nil _) (fun _ => False.elim) (fun _ => False.elim) (fun _ _ => id) (fun _ _ => id) (fun _ => False.elim) (fun x hx => by simp at hx) (by simp) rfl
  intro d
  induction d with
  | zero =>
    intro H i y z held A B F D E s hi k hg ok hc hF hA hB hD hE hFD hFE hDE hAl hAn he
    refine hX _ _ _ _ _ ⟨fun hb => absurd (of_decide_eq_true hb) (by omega), fun _ => ?_⟩
    exact c21_end hA hB hAl (by omega) he hg ok hFD k hD hQ
  | succ d ih =>
    intro H i y z held A B F D E s hi k hg ok hc hF hA hB hD hE hFD hFE hDE hAl hAn he
    have hx : Ops[i]? = some (Ops[i]'(by omega)) := List.getElem?_eq_getElem (by omega)
    generalize Ops[i]'(by omega) = o at hx
    have hov := hv o (List.mem_of_getElem? hx)
    have hw : IntKind.i64.wrap ((i : Int) + 1) = ((i + 1 : Nat) : Int) := wr (by omega) (by omega)
    obtain ⟨a, ha, hi0, ca⟩ := (hs.kp0 k).get hx
    refine hX _ _ _ _ _ ⟨fun _ => ⟨a, ha, by omega, by omega, _, _, _, _, _, _, ca, fun H2 e2 => ?_⟩, fun hb => absurd (of_decide_eq_false hb) (by omega)⟩
    have b2 := Row.new' e2
    have s2 := size_push' e2
    refine ⟨b2.mayall, fun H3 e3 => ?_⟩
    have b3 := b2.fill' e3 rfl
    have k13 : Kp No H H3 := ((Kp.refl No H).push' e2).sets' e3 (.inr (Nat.le_refl _))
    have k03 := k.trans k13 fun _ => False.elim
    refine ⟨_, _, _, cells_sub (i := 2) (m := [.string o.ty, .int .i64 o.tm, Sl.v o.sl]) b3.all rfl, c9 (hov.1.kp0 k03) hov.2 fun H4 l h4 hlc k4 hln => ?_⟩
    intro H5 e5
    have b5 := Row.new' e5
    have s5 := size_push' e5
    have s3 := size_sets' e3
    have s4 := k4.size
    refine ⟨b5.mayall, fun H6 e6 => ?_⟩
    have b6 := b5.fill' e6 rfl
    have b36 := ((k4.row b3 id).push' e5).sets_ne' e6 (by show H.size ≠ H4.size; omega)
    have k46 : Kp No H4 H6 := ((Kp.refl No H4).push' e5).sets' e6 (.inr (Nat.le_refl _))
    have s6 := size_sets' e6
    refine ⟨_, _, _, b6.all, b36.mayw (o := 2) (i := 0) (by simp), fun H7 e7 => ?_⟩
    have b7 := b36.sets' (oo := 2) e7 (by simp)
    have k67 := (Kp.refl (fun b => b = H.size) H6).sets' e7 (.inl rfl)
    have s7 := size_sets' e7
    have k17 : Kp No H H7 := ((k13.trans k4 fun _ => False.elim).trans k46 fun _ => False.elim).sets' e7 (.inr (Nat.le_refl _))
    have k07 := k.trans k17 fun _ => False.elim
    have h7 : Lst vF H7 l (hL o.vs) := (h4.kp k46 fun _ _ => id).kp k67 fun b hb e => by have := hln b hb; omega
    have hcutn : (⟨l.b, o.vs.length, o.vs.length + 34⟩ : Sl).n = o.vs.length := rfl
    have hrc : RdL vF H7 ⟨l.b, o.vs.length, o.vs.length + 34⟩ o.vs := h7.rd.pre (s := ⟨l.b, o.vs.length, o.vs.length + 34⟩) rfl rfl
    have g7 := hg.no k17
    have lg : ∀ a, (⟨l.b, o.vs.length, o.vs.length + 34⟩ : Sl).b = some a → a.block ≠ g := fun a ha e => by
      have : l.at a.block := h7.at_of_blk ⟨a, ha, rfl⟩
      obtain ⟨hb', sl', L', p', _⟩ := g7
      exact h7.ne p'.row (by decide) (e ▸ this)
    have sk := k.size
    refine ⟨_, _, _, _, _, _, b7.all, c10 (kd := o.kind) (now := o.now) (tm := o.tm) (ty := o.ty) (vals := o.vs) g7 ok (by omega) hrc lg hov.2 fun r8 H8 F8 R8 g8 a8 k8 hF8 hR8 hFR8 => ?_⟩
    have hok8 := stepF_ok ok o.kind o.now (e := ⟨o.ty, o.tm, o.vs⟩) hov.2
    have hlen8 := stepF_len ok o.kind o.now ⟨o.ty, o.tm, o.vs⟩
    generalize stepF s o.kind o.now ⟨o.ty, o.tm, o.vs⟩ = st at g8 a8 hok8 hlen8
    obtain ⟨evs, s8⟩ := st
    simp only at g8 a8 hok8 hlen8
    have k08 : Kp No H0 H8 := k07.trans k8 fun b hb => .inr (hF b hb)
    have hlF : ∀ b, l.at b → ¬ F b := fun b hb hF' => by have := hln b hb; have := hg.lt hF'; omega
    have hl8 : RdL vF H8 l (hL o.vs) := (h7.kp k8 hlF).rd
    have hA7 := hA.no k17
    have hB7 := hB.no k17
    have hA8 := hA7.kp k8 fun b hb hb' => hFD b hb' hb
    have hB8 := hB7.kp k8 fun b hb hb' => hFE b hb' hb
    have sk8 := k8.size
    have sk17 := k17.size
    have hR0 : ∀ b, R8 b → H0.size ≤ b := fun b hb => (hR8 b hb).elim (hF b) (by omega)
    have hRD : ∀ b, R8 b → ¬ D b := fun b hb hD' => by
      rcases hR8 b hb with h | h
      · exact hFD b h hD'
      · have := hA.lt hD'; omega
    have hRE : ∀ b, R8 b → ¬ E b := fun b hb hD' => by
      rcases hR8 b hb with h | h
      · exact hFE b h hD'
      · have := hB.lt hD'; omega
    have hF80 : ∀ b, F8 b → H0.size ≤ b := fun b hb => (hF8 b hb).elim (hF b) (by omega)
    have hF8D : ∀ b, F8 b → ¬ D b := fun b hb hD' => by
      rcases hF8 b hb with h | h
      · exact hFD b h hD'
      · have := hA.lt hD'; omega
    have hF8E : ∀ b, F8 b → ¬ E b := fun b hb hD' => by
      rcases hF8 b hb with h | h
      · exact hFE b h hD'
      · have := hB.lt hD'; omega
    obtain ⟨a2, ha2, hi2, ca2⟩ := (hs.kp0 k08).get hx
    have ce : cells H8 ((a2.add ((i : Int).toNat * 6)).add 2) [.string o.ty, .int .i64 o.tm, Sl.v o.sl] 0 := cells_sub (i := 2) ca2 rfl
    refine ⟨a2, ha2, by omega, by omega, _, _, _, ce, c13 hl8 (hov.1.kp0 k08) hov.2 fun H9 k9 => ⟨fun hf => (by cases hf), fun _ => ?_⟩⟩
    have k09 := k08.trans k9 fun _ => False.elim
    have skip : F21_3 Q X script (some ⟨g, 0, none⟩) i y z held H9 := by
      show X _ _ _ _ _
      rw [hw]
      exact ih H9 (i + 1) y z held A B F8 D E s8 (by omega) k09 (g8.no k9) hok8.1 (by have := hok8.2.2; omega) hF80 (hA8.no k9) (hB8.no k9) hD hE hF8D hF8E hDE hAl (by omega) he
    refine ⟨fun _ => skip, fun _ => ⟨fun _ => skip, fun _ => ?_⟩⟩
    have g9 := g8.no k9
    have a9 := a8.kp k9 fun _ _ => id
    refine c19f g9 hok8.1 fun q10 H10 R10 a10 k10 hR10 => c19f (g9.no k10) hok8.1 fun q11 H11 R11 a11 k11 hR11 H12 e12 => ?_
    have s9 := k9.size
    have s10 := k10.size
    have s11 := k11.size
    have s12 := size_push' e12
    have k1112 := (Kp.refl No H11).push' e12
    have k912 : Kp No H9 H12 := (k10.trans k11 fun _ => False.elim).trans k1112 fun _ => False.elim
    have b12 : Row H12 H11.size 50 ([(⟨r8, R8, evs⟩ : AL), ⟨q10, R10, (isort s8.C).map NE.e⟩, ⟨q11, R11, (isort s8.C).map NE.e⟩].map AL.s |>.flatMap (sF 50).f) := Row.new' e12
    have d1 : ∀ b, R8 b → ¬ R10 b := fun b hb hb' => by have := a9.lt hb; have := hR10 b hb'; omega
    have d2 : ∀ b, R8 b → ¬ R11 b := fun b hb hb' => by have := a9.lt hb; have := hR11 b hb'; omega
    have d3 : ∀ b, R10 b → ¬ R11 b := fun b hb hb' => by have := a10.lt hb; have := hR11 b hb'; omega
    have hA12 : Coll H12 y A D := ((hA8.no k9).no k10 |>.no k11).no k1112
    have hB12 : Coll H12 z B E := ((hB8.no k9).no k10 |>.no k11).no k1112
    have il := isort_len hok8.1
    have il8 := isort_len8 hok8.1
    refine hA12.append (N := [(⟨r8, R8, evs⟩ : AL), ⟨q10, R10, (isort s8.C).map NE.e⟩, ⟨q11, R11, (isort s8.C).map NE.e⟩]) (fun x hx => ?_) ?_ (fun x hx b hb hD' => ?_) rfl b12 (by simp; omega) fun y13 H13 D13 hA13 k13' hD13 => ?_
    · simp only [List.mem_cons, List.not_mem_nil, or_false] at hx
      rcases hx with rfl | rfl | rfl
      · exact a9.kp k912 fun _ _ => id
      · exact (a10.kp k11 fun _ _ => id).kp k1112 fun _ _ => id
      · exact a11.kp k1112 fun _ _ => id
    · refine List.pairwise_cons.2 ⟨fun x hx => ?_, List.pairwise_cons.2 ⟨fun x hx => ?_, List.pairwise_singleton _ _⟩⟩
      · simp only [List.mem_cons, List.not_mem_nil, or_false] at hx
        rcases hx with rfl | rfl
        · exact d1
        · exact d2
      · rw [List.mem_singleton] at hx
        subst hx
        exact d3
    · have hlt := hA.lt hD'
      simp only [List.mem_cons, List.not_mem_nil, or_false] at hx
      rcases hx with rfl | rfl | rfl
      · exact hRD b hb hD'
      · have := hR10 b hb; omega
      · have := hR11 b hb; omega
    have hyD : ∀ b, y.at b → D b := fun b hb => (hA12.fp b).2 (.inl hb)
    have g13 := ((g9.no k912).kp k13' fun b hb hb' => hF8D b hb (hyD b hb'))
    have hB13 := hB12.kp k13' fun b hb hb' => hDE b (hyD b hb') hb
    have k013 : Kp No H0 H13 := (k09.trans k912 fun _ => False.elim).trans k13' fun b hb => .inr (hD b (hyD b hb))
    have n1 := hA13.ans ⟨r8, R8, evs⟩ (by simp)
    have n2 := hA13.ans ⟨q10, R10, (isort s8.C).map NE.e⟩ (by simp)
    have n3 := hA13.ans ⟨q11, R11, (isort s8.C).map NE.e⟩ (by simp)
    have s13 := k13'.size
    refine c38 n1.ans hok8.2.1 fun t14 H14 R14 a14 k14 hR14 => c38 (n2.kp k14 fun _ _ => id).ans il fun t15 H15 R15 a15 k15 hR15 => c38 ((n3.kp k14 fun _ _ => id).kp k15 fun _ _ => id).ans il fun t16 H16 R16 a16 k16 hR16 H17 e17 => ?_
    have s14 := k14.size
    have s15 := k15.size
    have s16 := k16.size
    have s17 := size_push' e17
    have k1617 := (Kp.refl No H16).push' e17
    have k1317 : Kp No H13 H17 := ((k14.trans k15 fun _ => False.elim).trans k16 fun _ => False.elim).trans k1617 fun _ => False.elim
    have b17 : Row H17 H16.size 50 ([(⟨t14, R14, evs⟩ : AL), ⟨t15, R15, (isort s8.C).map NE.e⟩, ⟨t16, R16, (isort s8.C).map NE.e⟩].map AL.s |>.flatMap (sF 50).f) := Row.new' e17
    have hBl : B.length = A.length := by have := congrArg List.length he; simpa using this.symm
    refine (hB13.no k1317).append (N := [(⟨t14, R14, evs⟩ : AL), ⟨t15, R15, (isort s8.C).map NE.e⟩, ⟨t16, R16, (isort s8.C).map NE.e⟩]) (fun x hx => ?_) ?_ (fun x hx b hb hE' => ?_) rfl b17 (by simp; omega) fun z18 H18 E18 hB18 k18 hE18 => ?_
    · simp only [List.mem_cons, List.not_mem_nil, or_false] at hx
      rcases hx with rfl | rfl | rfl
      · exact ((a14.kp k15 fun _ _ => id).kp k16 fun _ _ => id).kp k1617 fun _ _ => id
      · exact (a15.kp k16 fun _ _ => id).kp k1617 fun _ _ => id
      · exact a16.kp k1617 fun _ _ => id
    · refine List.pairwise_cons.2 ⟨fun x hx b hb hb' => ?_, List.pairwise_cons.2 ⟨fun x hx b hb hb' => ?_, List.pairwise_singleton _ _⟩⟩
      · have := a14.lt hb
        simp only [List.mem_cons, List.not_mem_nil, or_false] at hx
        rcases hx with rfl | rfl
        · have := hR15 b hb'; omega
        · have := hR16 b hb'; omega
      · have := a15.lt hb
        rw [List.mem_singleton] at hx
        subst hx
        have := hR16 b hb'; omega
    · have hlt := hB13.lt hE'
      simp only [List.mem_cons, List.not_mem_nil, or_false] at hx
      rcases hx with rfl | rfl | rfl
      · have := hR14 b hb; omega
      · have := hR15 b hb; omega
      · have := hR16 b hb; omega
    have hzE : ∀ b, z.at b → E b := fun b hb => (hB12.fp b).2 (.inl hb)
    have k018 : Kp No H0 H18 := (k013.trans k1317 fun _ => False.elim).trans k18 fun b hb => .inr (hE b (hzE b hb))
    have hD13x : ∀ b, D13 b → b < H13.size := fun b hb => hA13.lt hb
    have hD13E : ∀ b, D13 b → ¬ E b := fun b hb hE' => by
      have := hB.lt hE'
      rcases hD13 b hb with h | ⟨x, hx, h⟩ | h
      · exact hDE b h hE'
      · simp only [List.mem_cons, List.not_mem_nil, or_false] at hx
        rcases hx with rfl | rfl | rfl
        · exact hRE b h hE'
        · have := hR10 b h; omega
        · have := hR11 b h; omega
      · omega
    show X _ _ _ _ _
    rw [hw]
    refine ih H18 (i + 1) y13 z18 _ (A ++ [(⟨r8, R8, evs⟩ : AL), ⟨q10, R10, (isort s8.C).map NE.e⟩, ⟨q11, R11, (isort s8.C).map NE.e⟩]) (B ++ [(⟨t14, R14, evs⟩ : AL), ⟨t15, R15, (isort s8.C).map NE.e⟩, ⟨t16, R16, (isort s8.C).map NE.e⟩]) F8 D13 E18 s8 (by omega) k018 ((g13.no k1317).kp k18 fun b hb hb' => hF8E b hb (hzE b hb')) hok8.1 (by have := hok8.2.2; omega) hF80 ((hA13.no k1317).kp k18 fun b hb hb' => hD13E b hb (hzE b hb')) hB18 (fun b hb => ?_) (fun b hb => ?_) (fun b hb hD' => ?_) (fun b hb hE' => ?_) (fun b hb hE' => ?_) (fun x hx => ?_) (by simp; omega) (by rw [List.map_append, List.map_append, he]; rfl)
    · rcases hD13 b hb with h | ⟨x, hx, h⟩ | h
      · exact hD b h
      · simp only [List.mem_cons, List.not_mem_nil, or_false] at hx
        rcases hx with rfl | rfl | rfl
        · exact hR0 b h
        · have := hR10 b h; omega
        · have := hR11 b h; omega
      · omega
    · rcases hE18 b hb with h | ⟨x, hx, h⟩ | h
      · exact hE b h
      · simp only [List.mem_cons, List.not_mem_nil, or_false] at hx
        rcases hx with rfl | rfl | rfl
        · have := hR14 b h; omega
        · have := hR15 b h; omega
        · have := hR16 b h; omega
      · omega
    · have hlt := g8.lt hb
      rcases hD13 b hD' with h | ⟨x, hx, h⟩ | h
      · exact hF8D b hb h
      · simp only [List.mem_cons, List.not_mem_nil, or_false] at hx
        rcases hx with rfl | rfl | rfl
        · exact hFR8 b hb h
        · have := hR10 b h; omega
        · have := hR11 b h; omega
      · omega
    · have hlt := g8.lt hb
      rcases hE18 b hE' with h | ⟨x, hx, h⟩ | h
      · exact hF8E b hb h
      · simp only [List.mem_cons, List.not_mem_nil, or_false] at hx
        rcases hx with rfl | rfl | rfl
        · have := hR14 b h; omega
        · have := hR15 b h; omega
        · have := hR16 b h; omega
      · omega
    · have hlt := hD13x b hb
      rcases hE18 b hE' with h | ⟨x, hx, h⟩ | h
      · exact hD13E b hb h
      · simp only [List.mem_cons, List.not_mem_nil, or_false] at hx
        rcases hx with rfl | rfl | rfl
        · have := hR14 b h; omega
        · have := hR15 b h; omega
        · have := hR16 b h; omega
      · omega
    · rcases List.mem_append.1 hx with hx | hx
      · exact hAl x hx
      · simp only [List.mem_cons, List.not_mem_nil, or_false] at hx
        rcases hx with rfl | rfl | rfl
        · exact hlen8
        · exact il8
        · exact il8

end Go.Hw
