/- A catalog's list; SchemaNames. Own work of this session. -/
import Derived.Test.YtbhfkpdalilhcaaDoorT9
set_option linter.unusedVariables false
namespace Go.Hw
open Go

theorem Lst.cap' {α : Type} {t k : Nat} {F : Fmt α t k} {H : Hp} {s : Sl} {L : List α} (h : Lst F H s L) : s.n ≤ s.c := by
  rcases h.own with ⟨h0, _⟩ | ⟨_, _, _, _, _, _, g5, g6⟩
  · rw [h0]; decide
  · exact g5
theorem Kp.no2' {H H' H'' : Hp} (h : Kp No H H') (k : Kp No H' H'') : Kp No H H'' := h.trans k fun _ h => h.elim

/-- An entry of a catalog: its name, where its attributes lie, these, when it came. -/
structure CE where
  n : ByteArray
  s : Sl
  A : List (ByteArray × Int)
  t : Nat
def ents (Z : List CE) : ML ByteArray (ByteArray × Sl) := Z.map fun z => (z.n, (z.n, z.s), z.t)
structure CatH (H : Hp) (cb mr : Nat) (Z : List CE) (c : Nat) : Prop where
  row : Row H cb 72 [.map (some mr)]
  m : mapAt mk9 mv27 H (some mr) (ents Z) c
  wf : MapWf (ents Z) c
  l : ∀ z ∈ Z, Lst aF H z.s z.A ∧ z.A.length ≤ 16
  nd : (Z.map CE.n).Nodup
theorem CatH.kp {S : Nat → Prop} {H H' : Hp} {cb mr : Nat} {Z : List CE} {c : Nat} (h : CatH H cb mr Z c) (k : Kp S H H') (h1 : ¬ S cb) (h2 : ¬ S mr) (h3 : ∀ z ∈ Z, ∀ b, z.s.at b → ¬ S b) : CatH H' cb mr Z c :=
  ⟨k.row h.row h1, h.m.kp k h2, h.wf, fun z hz => ⟨(h.l z hz).1.kp k (h3 z hz), (h.l z hz).2⟩, h.nd⟩
theorem CatH.no {H H' : Hp} {cb mr : Nat} {Z : List CE} {c : Nat} (h : CatH H cb mr Z c) (k : Kp No H H') : CatH H' cb mr Z c := h.kp k id id fun _ _ _ _ => id

/-- A list that was told: of each type the name and a list of its own. -/
structure Told (H : Hp) (sl : Sl) (M : List (ByteArray × Sl)) (D : List CE) (B : Nat) : Prop where
  l : Lst tF H sl M
  len : M.length = D.length
  a : ∀ (i : Nat) (m : ByteArray × Sl) (z : CE), M[i]? = some m → D[i]? = some z → m.1 = z.n ∧ Lst aF H m.2 z.A ∧ ∀ b, m.2.at b → B ≤ b
  ne : M.Pairwise fun x y => ∀ b, x.2.at b → ¬ y.2.at b
  b : ∀ b, sl.at b → B ≤ b

theorem nodup_of_map {α β : Type} (f : α → β) : ∀ {l : List α}, (l.map f).Nodup → l.Nodup
  | [], _ => List.Pairwise.nil
  | a :: l, h => by
    rw [List.map_cons, List.nodup_cons] at h
    rw [List.nodup_cons]
    exact ⟨fun ha => h.1 (List.mem_map_of_mem ha), nodup_of_map f h.2⟩

theorem ce_inj : ∀ {l : List CE}, (l.map CE.t).Nodup → ∀ {x y : CE}, x ∈ l → y ∈ l → x.t = y.t → x = y
  | [], _, _, _, hx, _, _ => by cases hx
  | a :: l, hn, x, y, hx, hy, e => by
    rw [List.map_cons, List.nodup_cons] at hn
    rcases List.mem_cons.1 hx with hxa | hx
    · rcases List.mem_cons.1 hy with hya | hy
      · rw [hxa, hya]
      · have := List.mem_map_of_mem (f := CE.t) hy
        rw [← e, hxa] at this
        exact absurd this hn.1
    · rcases List.mem_cons.1 hy with hya | hy
      · have := List.mem_map_of_mem (f := CE.t) hx
        rw [e, hya] at this
        exact absurd this hn.1
      · exact ce_inj hn.2 hx hy e
theorem nodup_len : ∀ {l m : List Nat}, l.Nodup → (∀ x ∈ l, x ∈ m) → l.length ≤ m.length
  | [], _, _, _ => Nat.zero_le _
  | a :: l, m, h, hs => by
    rw [List.nodup_cons] at h
    have ha := hs a (List.mem_cons_self ..)
    have h1 := List.length_erase_of_mem ha
    have h2 := List.length_pos_of_mem ha
    have := nodup_len (l := l) (m := m.erase a) h.2 fun x hx => (List.mem_erase_of_ne (fun e : x = a => h.1 (by rw [← e]; exact hx))).2 (hs x (List.mem_cons_of_mem _ hx))
    simp only [List.length_cons]
    omega

section
variable {H : Hp} {cb mr c : Nat} {Z : List CE}

/-- The list, sorted by name. -/
theorem c18 {Q : Sl → Hp → Prop} (h : CatH H cb mr Z c) (hZ : Z.length ≤ 64)
    (hQ : ∀ sl M D H', D.Perm Z → D.Pairwise (fun x y => ¬ cmpS y.n x.n < 0) → Told H' sl M D H.size → Kp No H H' → Q sl H') : F18 (some ⟨cb, 0, none⟩) H Q := by
  refine ⟨_, rfl, some mr, h.row.cell_of (i := 0) rfl, ents Z, c, h.m, fun H5 e5 => ?_⟩
  have k5 : Kp No H H5 := (Kp.refl No H).push' e5
  have s5 := size_push' e5
  have hwf := h.wf
  have hit5 : mIter H5 ⟨H.size, 0, none⟩ (some mr) c [] c := ⟨H.size, rfl, by subst e5; simp [clk]⟩
  intro X hX
  suffices G : ∀ (d : Nat) (sl : Sl) (M : List (ByteArray × Sl)) (D : List CE) (H' : Hp), D.length + d = Z.length → (∀ z ∈ D, z ∈ Z) → (D.map CE.t).Nodup → mIter H' ⟨H.size, 0, none⟩ (some mr) c (D.map CE.t) c → Told H' sl M D H.size → Kp No H H' → X sl H' from
    G Z.length Sl.nil [] [] H5 (by simp) (fun z hz => by cases hz) (by simp) hit5 ⟨Lst.nil _ _, rfl, fun i m z hm => by simp at hm, List.Pairwise.nil, fun b hb => by cases hb⟩ k5
  intro d
  induction d with
  | zero =>
    intro sl M D H' hd hD hnd hi ht k
    refine hX _ _ ⟨some mr, c, D.map CE.t, c, ents Z, c, hi, (h.no k).m, hwf, hwf.2, Nat.le_refl _, fun hall => ?_, fun en hen hns => ?_⟩
    · have hDn := nodup_of_map CE.t hnd
      have hZt : (Z.map CE.t).Nodup := by
        have := hwf.1
        unfold ents at this
        rw [List.map_map] at this
        exact this
      have hperm : D.Perm Z := by
        refine (List.perm_ext_iff_of_nodup hDn (nodup_of_map CE.t hZt)).2 fun z => ⟨hD z, fun hz => ?_⟩
        have := hall (z.n, (z.n, z.s), z.t) (List.mem_map_of_mem (f := fun z : CE => (z.n, (z.n, z.s), z.t)) hz)
        obtain ⟨y, hy, e⟩ := List.mem_map.1 this
        have hyZ := hD y hy
        have : y = z := by
          exact ce_inj hZt hyZ hz e
        rw [← this]; exact hy
      -- sorted
      refine ⟨M, ht.l, by rw [ht.len]; have := hperm.length_eq; omega, fun M' H49 hp hs hl k49 => ?_⟩
      -- the entries follow
      have hz : ∃ D' : List CE, D'.Perm D ∧ M'.length = D'.length ∧ ∀ (i : Nat) (m : ByteArray × Sl) (z : CE), M'[i]? = some m → D'[i]? = some z → m.1 = z.n ∧ Lst aF H' m.2 z.A ∧ ∀ b, m.2.at b → H.size ≤ b := by
        have e1 : (M.zip D).map Prod.fst = M := List.map_fst_zip (by rw [ht.len]; exact Nat.le_refl _)
        have e2 : (M.zip D).map Prod.snd = D := List.map_snd_zip (by rw [ht.len]; exact Nat.le_refl _)
        have hR : ∀ p ∈ M.zip D, p.1.1 = p.2.n ∧ Lst aF H' p.1.2 p.2.A ∧ ∀ b, p.1.2.at b → H.size ≤ b := by
          intro p hp
          obtain ⟨i, hi⟩ := List.getElem?_of_mem hp
          rw [List.getElem?_zip_eq_some] at hi
          exact ht.a i p.1 p.2 hi.1 hi.2
        -- a permutation of the first parts is one of the pairs
        have key : ∀ (l : List ((ByteArray × Sl) × CE)) (N : List (ByteArray × Sl)), N.Perm (l.map Prod.fst) → ∃ l' : List ((ByteArray × Sl) × CE), l'.Perm l ∧ l'.map Prod.fst = N := by
          intro l N hN
          generalize hK : l.map Prod.fst = K at hN
          induction hN generalizing l with
          | nil =>
            have : l = [] := by cases l <;> simp_all
            subst this
            exact ⟨[], List.Perm.refl _, rfl⟩
          | cons x h ih =>
            cases l with
            | nil => cases hK
            | cons a l =>
              injection hK with h1 h2
              obtain ⟨l', g1, g2⟩ := ih l h2
              exact ⟨a :: l', g1.cons a, by rw [List.map_cons, g2, h1]⟩
          | swap x y l0 =>
            cases l with
            | nil => cases hK
            | cons a l =>
              cases l with
              | nil => cases hK
              | cons b l =>
                injection hK with h1 h2
                injection h2 with h2 h3
                exact ⟨b :: a :: l, List.Perm.swap _ _ _, by rw [List.map_cons, List.map_cons, h1, h2, h3]⟩
          | trans h1 h2 ih1 ih2 =>
            obtain ⟨l1, g1, g2⟩ := ih2 l hK
            obtain ⟨l2, g3, g4⟩ := ih1 l1 g2
            exact ⟨l2, g3.trans g1, g4⟩
        obtain ⟨l', g1, g2⟩ := key (M.zip D) M' (by rw [e1]; exact hp)
        refine ⟨l'.map Prod.snd, ?_, by rw [← g2]; simp, fun i m z hm hz => ?_⟩
        · have := g1.map Prod.snd
          rwa [e2] at this
        · rw [← g2, List.getElem?_map, Option.map_eq_some_iff] at hm
          rw [List.getElem?_map, Option.map_eq_some_iff] at hz
          obtain ⟨p, hp1, rfl⟩ := hm
          obtain ⟨q, hq1, rfl⟩ := hz
          rw [hp1] at hq1
          injection hq1 with hq1
          subst hq1
          exact hR p (g1.mem_iff.1 (List.mem_of_getElem? hp1))
      obtain ⟨D', hDp, hlen', hR'⟩ := hz
      have hnat : ∀ m ∈ M', ∀ b, m.2.at b → ¬ sl.at b := fun m hm b hb hh => by
        obtain ⟨i, hi⟩ := List.getElem?_of_mem hm
        have hil : i < D'.length := by have := (List.getElem?_eq_some_iff.1 hi).1; omega
        have hz := hR' i m _ hi (List.getElem?_eq_getElem hil)
        obtain ⟨sp, hrow⟩ := ht.l.row hh
        exact hz.2.1.ne hrow (by decide) hb
      refine hQ sl M' D' H49 (hDp.trans hperm) ?_ ⟨hl, hlen', fun i m z hm hz => ?_, ?_, ht.b⟩ (k.trans k49 fun b hb => .inr (ht.b b hb))
      · unfold SortedT at hs
        rw [List.pairwise_iff_getElem] at hs ⊢
        intro i j hi hj hij
        have h1 := hR' i (M'[i]'(by omega)) (D'[i]) (List.getElem?_eq_getElem _) (List.getElem?_eq_getElem _)
        have h2 := hR' j (M'[j]'(by omega)) (D'[j]) (List.getElem?_eq_getElem _) (List.getElem?_eq_getElem _)
        have := hs i j (by omega) (by omega) hij
        rwa [h1.1, h2.1] at this
      · have := hR' i m z hm hz
        exact ⟨this.1, this.2.1.kp k49 fun b hb hh => hnat m (List.mem_of_getElem? hm) b hb hh, this.2.2⟩
      · exact (hp.pairwise_iff (fun {x y} hxy b hb hh => hxy b hh hb)).2 ht.ne
    · -- nothing can be left
      exfalso
      obtain ⟨z, hz, rfl⟩ := List.mem_map.1 hen
      have hn : ((z :: D).map CE.t).Nodup := by
        rw [List.map_cons, List.nodup_cons]
        exact ⟨hns, hnd⟩
      have := nodup_len (m := Z.map CE.t) hn fun t ht => by
        obtain ⟨y, hy, rfl⟩ := List.mem_map.1 ht
        rcases List.mem_cons.1 hy with rfl | hy
        · exact List.mem_map_of_mem hz
        · exact List.mem_map_of_mem (hD y hy)
      simp at this
      omega
  | succ d ih =>
    intro sl M D H' hd hD hnd hi ht k
    have hcat := h.no k
    refine hX _ _ ⟨some mr, c, D.map CE.t, c, ents Z, c, hi, hcat.m, hwf, hwf.2, Nat.le_refl _, fun hall => ?_, fun en hen hns => ?_⟩
    · exfalso
      have hZt : (Z.map CE.t).Nodup := by
        have := hwf.1
        unfold ents at this
        rw [List.map_map] at this
        exact this
      have := nodup_len (m := D.map CE.t) hZt fun t ht => by
        obtain ⟨z, hz, rfl⟩ := List.mem_map.1 ht
        exact hall (z.n, (z.n, z.s), z.t) (List.mem_map_of_mem (f := fun z : CE => (z.n, (z.n, z.s), z.t)) hz)
      simp at this
      omega
    · obtain ⟨z, hz, rfl⟩ := List.mem_map.1 hen
      have hns : z.t ∉ D.map CE.t := hns
      intro H26 e26
      obtain ⟨hi26, m26⟩ := nextM_after hi hcat.m hen e26
      have k26 : Kp (fun x => x = H.size) H' H26 := (Kp.refl _ _).seto' e26 (.inl rfl)
      have hsz := k.size
      have hsz5 : H.size < H'.size := by
        obtain ⟨r, e, hr⟩ := hi
        injection e with e
        rw [e]
        exact (Array.getElem?_eq_some_iff.1 hr).1
      have s26 := k26.size
      have kk26 : Kp No H H26 := k.trans k26 fun b hb => .inr (by omega)
      have hcat26 := h.no kk26
      -- no row lies where the iterator is
      have nit : ∀ {H2 : Hp} {t : Nat} {l : List Value}, H2 = H' → ¬ Row H2 H.size t l := fun {H2 t l} e hr => by
        subst e
        obtain ⟨r, e, hr'⟩ := hi
        injection e with e
        subst e
        unfold Row at hr
        rw [hr'] at hr
        cases hr
      have ht26 : Told H26 sl M D H.size := ⟨ht.l.kp k26 fun b hb e => by
          subst e
          obtain ⟨sp, hr⟩ := ht.l.row hb
          exact nit rfl hr, ht.len, fun i m z hm hz => ⟨(ht.a i m z hm hz).1, (ht.a i m z hm hz).2.1.kp k26 fun b hb e => by
          subst e
          obtain ⟨sp, hr⟩ := (ht.a i m z hm hz).2.1.row hb
          exact nit rfl hr, (ht.a i m z hm hz).2.2⟩, ht.ne, ht.b⟩
      intro H32 e32
      have k32 : Kp No H26 H32 := (Kp.refl No _).push' e32
      have r32 := Row.new' e32
      refine ⟨r32.mayw (by simp), fun H34 e34 => ?_⟩
      have x34 : Row H34 H26.size 27 [.string z.n, Sl.v z.s] := r32.fill' e34 rfl
      have k34 : Kp No H26 H34 := k32.sets' e34 (.inr (Nat.le_refl _))
      have hcat34 := hcat26.no k34
      have hzA := hcat34.l z hz
      have s34 := k34.size
      refine ⟨z.n, z.s, x34.all, c25 hzA.1.rd (by omega) fun r H40 lr fr k40 => fun H44 e44 => ?_⟩
      have k44 : Kp No H40 H44 := (Kp.refl No _).push' e44
      have x44 : Row H44 H40.size 27 (tF.f (z.n, r)) := Row.new' e44
      have s40 := k40.size
      have s44 := size_push' e44
      have kk44 : Kp No H26 H44 := (k34.no2' k40).no2' k44
      have l44 : Lst tF H44 sl M := ht26.l.kp kk44 fun _ _ => id
      have hMl : M.length ≤ 64 := by have := ht.len; omega
      refine l44.append1 x44 rfl (by omega) (by omega) fun r48 H46 l46 k46 g46 => ?_
      have hsl : ∀ b, sl.at b → b < H26.size := fun b hb => ht26.l.lt hb
      -- the iterator's block is kept
      have hne : ¬ sl.at H.size := fun hb => by
        obtain ⟨sp, hr⟩ := ht.l.row hb
        exact nit rfl hr
      have hi46 : mIter H46 ⟨H.size, 0, none⟩ (some mr) c ((D ++ [z]).map CE.t) c := by
        obtain ⟨rr, e, hr⟩ := hi26
        refine ⟨rr, e, ?_⟩
        injection e with e
        rw [← e] at hr ⊢
        rw [k46.blk _ (by omega) hne, kk44.blk _ (by omega) id, hr]
        simp
      have fr46 : ∀ b, r.at b → ¬ sl.at b := fun b hb hh => by have := fr b hb; have := hsl b hh; omega
      refine ih r48 (M ++ [(z.n, r)]) (D ++ [z]) H46 (by simp; omega) (fun y hy => ?_) ?_ hi46 ⟨l46, by simp [ht.len], fun i m y hm hy => ?_, ?_, fun b hb => ?_⟩ ((kk26.no2' kk44).trans k46 fun b hb => .inr (ht.b b hb))
      · rcases List.mem_append.1 hy with hy | hy
        · exact hD y hy
        · rw [List.mem_singleton] at hy
          rw [hy]; exact hz
      · rw [List.map_append, List.nodup_append]
        refine ⟨hnd, by simp, fun a ha b hb => ?_⟩
        have hb : b = z.t := by simpa using hb
        subst hb
        intro e
        subst e
        exact hns ha
      · by_cases hil : i < M.length
        · rw [List.getElem?_append_left hil] at hm
          rw [List.getElem?_append_left (by have := ht.len; omega)] at hy
          have := ht26.a i m y hm hy
          refine ⟨this.1, (this.2.1.kp kk44 fun _ _ => id).kp k46 fun b hb hh => ?_, this.2.2⟩
          obtain ⟨sp, hr⟩ := ht26.l.row hh
          exact this.2.1.ne hr (by decide) hb
        · rw [List.getElem?_append_right (by omega)] at hm
          rw [List.getElem?_append_right (by have := ht.len; omega)] at hy
          have h0 : i - M.length = 0 := by
            have := (List.getElem?_eq_some_iff.1 hm).1
            simp at this; omega
          rw [h0] at hm
          rw [show i - D.length = 0 from by have := ht.len; omega] at hy
          have hm : (z.n, r) = m := by simpa using hm
          have hy : z = y := by simpa using hy
          subst hm hy
          exact ⟨rfl, (lr.kp k44 fun _ _ => id).kp k46 fun b hb hh => fr46 b hb hh, fun b hb => by have := fr b hb; show H.size ≤ b; omega⟩
      · rw [List.pairwise_append]
        refine ⟨ht.ne, List.pairwise_singleton _ _, fun x hx y hy b hb hh => ?_⟩
        rw [List.mem_singleton] at hy
        subst hy
        obtain ⟨i, hi'⟩ := List.getElem?_of_mem hx
        have hil : i < D.length := by have := (List.getElem?_eq_some_iff.1 hi').1; have := ht.len; omega
        have hx' := (ht26.a i x _ hi' (List.getElem?_eq_getElem hil)).2.1.lt hb
        have := fr b hh
        omega
      · rcases g46 b hb with hb | hb
        · exact ht.b b hb
        · omega
end
end Go.Hw
