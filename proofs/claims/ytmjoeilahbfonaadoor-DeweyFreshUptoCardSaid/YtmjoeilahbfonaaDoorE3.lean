/- Rows left as they are until all are there. Own work of this session. -/
import Derived.Test.YtmjoeilahbfonaaDoorE2
set_option linter.unusedVariables false
namespace Go.Hw
open Go

/-- Behind the script: every row is what it was; then each is written full, then all are written on. -/
theorem c23_1 {H0 H : Hp} {asl wsl : Sl} {PS : List (PP Int)} {Q : Bool → Hp → Prop} (hP : Rst iF H H0.size No PS) (h5 : Lst s22 H asl (PS.map (·.a))) (h6 : Lst s22 H wsl (PS.map (·.b))) (hk : Kp No H0 H) (hpl : PS.length ≤ 3000000) (hQ : ∀ H', Kp No H0 H' → Q true H') : F23_1 Q asl wsl H := by
  intro H1 e1
  have hlo := hk.size
  have k1 : Kp No H H1 := (Kp.refl No _).push' e1
  have s1 := size_push' e1
  have b1 := Bk.new e1
  have n5 := h5.n
  have n6 := h6.n
  rw [List.length_map] at n5 n6
  have p1 := hP.no k1
  have l5 := h5.kp k1 fun _ _ => id
  have l6 := h6.kp k1 fun _ _ => id
  intro X hX
  suffices G1 : ∀ (d i : Nat), i + d = PS.length → X (i : Int) H1 from G1 PS.length 0 (by omega)
  intro d
  induction d with
  | succ d ih =>
    intro i hi
    obtain ⟨p, gp⟩ : ∃ p, PS[i]? = some p := ⟨_, List.getElem?_eq_getElem (by omega)⟩
    obtain ⟨la, lb, ll⟩ := p1.e p (List.mem_of_getElem? gp)
    have gp5 : (PS.map (·.a))[i]? = some p.a := by rw [List.getElem?_map, gp]; rfl
    have gp6 : (PS.map (·.b))[i]? = some p.b := by rw [List.getElem?_map, gp]; rfl
    obtain ⟨a, ha, _, ca⟩ := l5.rd.get gp5
    obtain ⟨c, hc, _, cc⟩ := l6.rd.get gp6
    refine hX _ _ ⟨fun _ => ⟨a, ha, by omega, by omega, p.a, ca.1, c, hc, by omega, by omega, p.b, cc.1, c15 (la.iv (by omega)) (lb.iv (by omega)) ?_⟩, fun hh => absurd (of_decide_eq_false hh) (by omega)⟩
    rw [decide_eq_true rfl]
    refine ⟨fun hh => (by cases hh), fun _ => ?_⟩
    rw [wr (by omega) (by omega)]
    exact ih (i + 1) (by omega)
  | zero =>
    intro i hi
    refine hX _ _ ⟨fun hh => absurd (of_decide_eq_true hh) (by omega), fun _ => ?_⟩
    intro Y hY
    suffices G2 : ∀ (d i : Nat) (rest : List (PP Int)) (G : Nat → Prop) (HH : Hp) (ls : Sl) (sz : Int) (R : List BR), i + d = PS.length → rest = PS.drop i → R.length ≤ i → Bk G HH H.size ls sz 0 R → Rst iF HH H0.size G rest → Lst s22 HH asl (PS.map (·.a)) → (∀ x, G x → ¬ asl.at x ∧ H0.size ≤ x) → Kp No H0 HH → Y (i : Int) HH from
      G2 PS.length 0 PS _ H1 _ _ [] (by omega) rfl (Nat.le_refl _) b1 (hP.kp k1 (fun _ h => h.elim) fun x hx hl => by omega) l5 (fun x hx => ⟨fun hm => by have := h5.lt hm; omega, by omega⟩) (hk.trans k1 fun _ h => h.elim)
    intro d
    induction d with
    | zero =>
      intro i rest G HH ls sz R hi hrest hR hb hr l5 hG hk'
      refine hY _ _ ⟨fun hh => absurd (of_decide_eq_true hh) (by omega), fun _ => c42 hb (by omega) fun H2 R2 hR2 b2 k2 => c22 b2 (by omega) (hQ H2 (hk'.trans k2 fun x hx => .inr (hG x hx).2))⟩
    | succ d ih =>
      intro i rest G HH ls sz R hi hrest hR hb hr l5 hG hk'
      have hil : i < PS.length := by omega
      obtain ⟨p, gp⟩ : ∃ p, PS[i]? = some p := ⟨_, List.getElem?_eq_getElem hil⟩
      have hrest' : rest = p :: PS.drop (i + 1) := by
        rw [hrest, List.drop_eq_getElem_cons hil]
        rw [List.getElem?_eq_getElem hil] at gp
        injection gp with gp
        rw [gp]
      subst hrest'
      obtain ⟨la, lb, ll⟩ := hr.e p List.mem_cons_self
      have gp5 : (PS.map (·.a))[i]? = some p.a := by rw [List.getElem?_map, gp]; rfl
      obtain ⟨a, ha, _, ca⟩ := l5.rd.get gp5
      have hsz := hk'.size
      refine hY _ _ ⟨fun _ => ⟨a, ha, by omega, by omega, p.a, ca.1, c41 hb la (fun x hx => (hr.g p List.mem_cons_self x (.inl hx)).2) (by omega) (by omega) fun H' ls' sz' R' hR' hb' k' => ?_⟩, fun hh => absurd (of_decide_eq_false hh) (by omega)⟩
      have ks := k'.size
      have hR2 : R'.length ≤ R.length + 1 := by rcases hR' with e | e <;> rw [e] <;> simp
      rw [wr (by omega) (by omega)]
      have t5 : ∀ x, (G x ∨ p.a.at x) → ¬ asl.at x := fun x hx hm => by
        rcases hx with hx | hx
        · exact (hG x hx).1 hm
        · exact (la.row hx).elim fun _ h1 => (l5.row hm).elim fun _ h2 => h1.ne_type h2 (by decide) rfl
      have lo' : ∀ x, (G x ∨ p.a.at x) → H0.size ≤ x := fun x hx => by
        rcases hx with hx | hx
        · exact (hG x hx).2
        · exact (hr.g p List.mem_cons_self x (.inl hx)).1
      refine ih (i + 1) _ _ H' ls' sz' R' (by omega) rfl (by omega) hb' (hr.tail k' fun x hx hl => ?_) (l5.kp k' fun x hx hh => t5 x hh hx) (fun x hx => ?_) (hk'.trans k' fun x hx => .inr (lo' x hx))
      · rcases hx with hx | hx | hx
        · exact .inl hx
        · exact .inr hx
        · omega
      · rcases hx with hx | hx | hx
        · exact hG x hx
        · exact ⟨t5 x (.inr hx), lo' x (.inr hx)⟩
        · exact ⟨fun hm => by have := l5.lt hm; omega, by omega⟩

theorem c23 {H : Hp} {sl : Sl} {Ops : List OP} {Q : Bool → Hp → Prop} (h : RdL opF H sl Ops) (ho : ∀ o ∈ Ops, OpIv H o) (hl : Ops.length ≤ 1048576) (hQ : ∀ H', Kp No H H' → Q true H') : F23 sl H Q := by
  have hn := h.n
  have h2n : IntKind.i64.wrap (2 * (sl.n : Int)) = ((2 * Ops.length : Nat) : Int) := by rw [wr (by omega) (by omega)]; omega
  intro X hX
  suffices G1 : ∀ (d i : Nat) (al wl : Sl) (sz : Int) (PS : List (PP Int)) (H' : Hp), i + d = 2 * Ops.length → PS.length = i → Rst iF H' H.size No PS → Lst s22 H' al (PS.map (·.a)) → Lst s22 H' wl (PS.map (·.b)) → (∀ x, al.at x ∨ wl.at x → H.size ≤ x) → (∀ x, al.at x → ¬ wl.at x) → Kp No H H' → X al wl sz (i : Int) H' from
    G1 (2 * Ops.length) 0 Sl.nil Sl.nil 0 [] H (by omega) rfl Rst.nil (Lst.nil _ _) (Lst.nil _ _) (fun x hx => by rcases hx with hx | hx <;> cases hx) (fun x hx => by cases hx) (Kp.refl _ _)
  intro d
  induction d with
  | zero =>
    intro i al wl sz PS H' hi hps hr la lw hg hd k
    refine hX _ _ _ _ _ ⟨fun hh => ?_, fun _ => c23_1 hr la lw k (by omega) hQ⟩
    rw [h2n] at hh
    exact absurd (of_decide_eq_true hh) (by omega)
  | succ d ih =>
    intro i al wl sz PS H' hi hps hr la lw hg hd k
    have hw2 : IntKind.i64.wrap (Int.tdiv (i : Int) 2) = ((i / 2 : Nat) : Int) := by
      have : Int.tdiv (i : Int) 2 = ((i / 2 : Nat) : Int) := by
        rw [Int.tdiv_eq_ediv_of_nonneg (by omega)]; omega
      rw [this, wr (by omega) (by omega)]
    have gi : Ops[i / 2]? = some (Ops[i / 2]'(by omega)) := List.getElem?_eq_getElem (by omega)
    have hmem : Ops[i / 2]'(by omega) ∈ Ops := List.getElem_mem _
    generalize Ops[i / 2]'(by omega) = o at gi hmem
    have oiv := (ho o hmem).no k
    obtain ⟨a, hab, han, ca⟩ := (h.kp0 k).get gi
    have hs := k.size
    refine hX _ _ _ _ _ ⟨fun _ => ⟨fun _ => ?_, fun _ => c23_1 hr la lw k (by omega) hQ⟩, fun hh => ?_⟩
    · rw [hw2]
      refine ⟨a, hab, by omega, by omega, o.k, o.v, o.w, o.s, ca, fun H18 e18 => ?_⟩
      have k18 : Kp No H' H18 := (Kp.refl No _).push' e18
      have s18 := size_push' e18
      have r18 := Row.new' e18
      refine ⟨r18.mayw (by decide), fun H20 e20 => ?_⟩
      have r20 : Row H20 H'.size 41 [.int .i64 o.k, Sl.v o.v, Sl.v o.w, .string o.s] := r18.fill' e20 rfl
      have k20 : Kp No H' H20 := k18.sets' e20 (.inr (Nat.le_refl _))
      have s20 := size_sets' e20
      refine ⟨o.v, r20.cell_of (i := 1) rfl, o.v, r20.cell_of (i := 1) rfl, c34 (oiv.v.no k20) (by have := oiv.lv; omega) fun r29 H27 l29 f29 c29 k27 => ?_⟩
      have r27 := k27.row r20 id
      have s27 := k27.size
      have vn := oiv.v.rd.n
      have r29n := l29.n
      rw [rm_len] at r29n
      have ev : ((o.v.n : Int)).toNat = o.V.length := by omega
      refine ⟨r27.cell_of (i := 1) rfl, by omega, Nat.zero_le _, by omega, Nat.le_refl _, r27.some (i := 1) (by simp), r27.frz 1, fun H35 e35 => ?_⟩
      rw [ev] at e35
      have r35 : Row H35 H'.size 41 [.int .i64 o.k, Sl.v (Sl.cut r29 1 0 o.V.length r29.c), Sl.v o.w, .string o.s] := r27.set' e35
      have k35' : Kp (fun x => x = H'.size) H27 H35 := (Kp.refl _ _).set' e35 (.inl rfl)
      have s35 := size_set' e35
      have k35 : Kp No H' H35 := (k20.trans k27 fun _ h => h.elim).trans k35' fun x hx => .inr (by omega)
      have c35v : Iv H35 (Sl.cut r29 1 0 o.V.length r29.c) o.V := cut_iv (l29.kp k35' fun x hx hh => by have := f29 x hx; omega) (by have := oiv.lv; omega)
      refine ⟨o.k, _, o.w, o.s, r35.all, c20 (o := ⟨o.k, Sl.cut r29 1 0 o.V.length r29.c, o.w, o.s, o.V, o.W⟩) c35v oiv.lv fun r46 H44 L hL l46 f46 k44 => fun H47 e47 => ?_⟩
      have s44 := k44.size
      have kk44 : Kp No H' H44 := k35.trans k44 fun _ h => h.elim
      have k47 : Kp No H44 H47 := (Kp.refl No _).push' e47
      have s47 := size_push' e47
      have kk47 : Kp No H' H47 := kk44.trans k47 fun _ h => h.elim
      have x47 : Row H47 H44.size 22 (s22.f r46) := Row.new' e47
      refine (la.kp kk47 fun _ _ => id).append1 x47 rfl (by rw [List.length_map]; omega) (by rw [List.length_map]; omega) fun r51 H49 l51 k49 h51 => ?_
      have s49 := k49.size
      have n46 : ∀ x, r46.at x → ¬ al.at x := fun x hx hh => by have := f46 x hx; have := la.lt hh; omega
      have l46' := (l46.kp k47 fun _ _ => id).kp k49 n46
      have n54 := l46'.n
      refine (Lst.nil iF H49).append (xs := r46) l46'.rd rfl (by simp; omega) (by simp; omega) fun r54 H52 l54 k52' h54 => ?_
      have k52 : Kp No H49 H52 := k52'.mono fun x _ hx => by cases hx
      rw [List.nil_append] at l54
      have s52 := k52.size
      have f54 : ∀ x, r54.at x → x = H49.size := fun x hx => by
        rcases h54 x hx with hx | hx
        · cases hx
        · exact hx
      intro H55 e55
      have k55 : Kp No H52 H55 := (Kp.refl No _).push' e55
      have s55 := size_push' e55
      have x55 : Row H55 H52.size 22 (s22.f r54) := Row.new' e55
      have k4755 : Kp al.at H47 H55 := (k49.trans k52 fun _ h => h.elim).trans k55 fun _ h => h.elim
      have lw55 : Lst s22 H55 wl (PS.map (·.b)) := (lw.kp kk47 fun _ _ => id).kp k4755 fun x hx hh => hd x hh hx
      refine lw55.append1 x55 rfl (by rw [List.length_map]; omega) (by rw [List.length_map]; omega) fun r59 H57 l59 k57 h59 => ?_
      rw [wr (x := (i : Int) + 1) (by omega) (by omega)]
      have lwlt : ∀ x, wl.at x → x < H'.size := fun x hx => lw.lt hx
      have lalt : ∀ x, al.at x → x < H'.size := fun x hx => la.lt hx
      have f51 : ∀ x, r51.at x → al.at x ∨ x = H47.size := h51
      have kk57 : Kp (fun x => al.at x ∨ wl.at x) H' H57 := ((kk47.mono fun x _ hx => hx.elim).trans k4755 fun x hx => .inl (.inl hx)).trans k57 fun x hx => .inl (.inr hx)
      have l51' : Lst s22 H57 r51 (PS.map (·.a) ++ [r46]) := ((l51.kp k52 fun _ _ => id).kp k55 fun _ _ => id).kp k57 fun x hx hh => by
        rcases f51 x hx with h | h
        · exact hd x h hh
        · have := lwlt x hh; omega
      have l46e : Lst iF H57 r46 L := ((l46'.kp k52 fun _ _ => id).kp k55 fun _ _ => id).kp k57 fun x hx hh => by have := f46 x hx; have := lwlt x hh; omega
      have l54e : Lst iF H57 r54 L := (l54.kp k55 fun _ _ => id).kp k57 fun x hx hh => by have := f54 x hx; have := lwlt x hh; omega
      have hrr : Rst iF H57 H.size No (PS ++ [⟨r46, r54, L⟩]) := by
        refine (hr.ty kk57 fun x hx hlt => ?_).add ⟨l46e, l54e, by show L.length ≤ 2000000; omega⟩ (fun x hx => ⟨?_, id⟩) (fun q hq x hx => ⟨fun hh => ?_, fun hy hh => ?_⟩) fun x hx hy => ?_
        · rcases hx with hx | hx
          · obtain ⟨sp, hrow⟩ := la.row hx
            exact ⟨22, _, hrow, by decide⟩
          · obtain ⟨sp, hrow⟩ := lw.row hx
            exact ⟨22, _, hrow, by decide⟩
        · rcases hx with hx | hx
          · have := f46 x hx; omega
          · have := f54 x hx; omega
        · have := hr.lt q hq x hx
          have := f46 x hh
          omega
        · have := hr.lt q hq x hx
          have := f54 x hh
          omega
        · have := l46'.lt hx
          have := f54 x hy
          omega
      refine ih (i + 1) r51 r59 _ (PS ++ [⟨r46, r54, L⟩]) H57 (by omega) (by simp; omega) hrr (by rw [List.map_append]; exact l51') (by rw [List.map_append]; exact l59) (fun x hx => ?_) (fun x hx hy => ?_) (k.trans kk57 fun x hx => .inr (hg x hx))
      · rcases hx with hx | hx
        · rcases f51 x hx with hx | hx
          · exact hg x (.inl hx)
          · omega
        · rcases h59 x hx with hx | hx
          · exact hg x (.inr hx)
          · omega
      · have h51lt := l51.lt hx
        rcases f51 x hx with hx | hx <;> rcases h59 x hy with hy | hy
        · exact hd x hx hy
        · have := lalt x hx; omega
        · have := lwlt x hy; omega
        · omega
    · rw [h2n] at hh
      exact absurd (of_decide_eq_false hh) (by omega)
end Go.Hw
