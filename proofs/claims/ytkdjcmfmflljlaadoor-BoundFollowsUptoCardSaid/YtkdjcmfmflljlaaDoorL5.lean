/- What holds; what is told; BoundLeast's function. Own work of this session. -/
import Derived.Test.YtkdjcmfmflljlaaDoorL4
import Derived.Test.YtkdjcmfmflljlaaDoorP7
set_option linter.unusedVariables false
namespace Go.Hw
open Go

abbrev valsRow (V : Nat → VT) : List Value := (V 0).row ++ ((V 1).row ++ ((V 2).row ++ ((V 3).row ++ ((V 4).row ++ (V 5).row))))
def vi (V : Nat → VT) (i : Int) : VT := V i.toNat
def yesV (x : RelM) (V : Nat → VT) : VT × Int :=
  if x.f = 0 then binP x.o (vi V x.l) x.c else if x.f = 1 then binP x.o x.c (vi V x.l) else if x.f = 2 then binP x.o (vi V x.l) (vi V x.r) else if x.f = 4 then unP 2 (vi V x.l) else (vi V x.l, 0)
def yesP (x : RelM) (V : Nat → VT) : Bool := decide ((yesV x V).2 = 0) && sameT (vtT (yesV x V).1) (vtT (truthV true))
theorem yesP_iff (x : RelM) (V : Nat → VT) : yesP x V = true ↔ yesV x V = (truthV true, 0) := by
  unfold yesP
  rw [Bool.and_eq_true, decide_eq_true_iff, sameT_iff]
  constructor
  · rintro ⟨h1, h2⟩
    have : (yesV x V).1 = truthV true := by
      have := congrArg ofT h2
      rwa [ofT_vtT, ofT_vtT] at this
    exact Prod.ext this h1
  · intro h; rw [h]; exact ⟨rfl, rfl⟩
def findP (K : List (ER × VT)) (e : ER) : Option VT := (K.find? fun p => sameE p.1 e).map Prod.snd
section
variable {H H0 : Hp} {V : Nat → VT}
theorem vals_at {b : Nat} (h : Row H b 26 (valsRow V)) {i : Int} (hi : 0 ≤ i ∧ i < 6) : cells H (Addr.add ⟨b, 0, none⟩ (i.toNat * 4)) (vi V i).row 0 := by
  obtain ⟨h1, h2⟩ := hi
  have : i = 0 ∨ i = 1 ∨ i = 2 ∨ i = 3 ∨ i = 4 ∨ i = 5 := by omega
  rcases this with rfl | rfl | rfl | rfl | rfl | rfl
  · exact rowcs (i := 0) h rfl
  · exact rowcs (i := 4) h rfl
  · exact rowcs (i := 8) h rfl
  · exact rowcs (i := 12) h rfl
  · exact rowcs (i := 16) h rfl
  · exact rowcs (i := 20) h rfl
theorem c8 {x : RelM} {Q : Bool → Hp → Prop} (hx : TOk x) (hw : WantsH H) (hQ : ∀ H', Kp No H H' → Q (yesP x V) H') :
    F8 x.o x.l x.r x.c.k x.c.n x.c.s x.c.b x.f (V 0).k (V 0).n (V 0).s (V 0).b (V 1).k (V 1).n (V 1).s (V 1).b (V 2).k (V 2).n (V 2).s (V 2).b (V 3).k (V 3).n (V 3).s (V 3).b (V 4).k (V 4).n (V 4).s (V 4).b (V 5).k (V 5).n (V 5).s (V 5).b H Q := by
  intro H1 e1 H3 e3
  have k3 : Kp No H H3 := ((Kp.refl No H).push' e1).push' e3
  have s1 := size_push' e1
  have s3 := size_push' e3
  have x3 : Row H3 H.size 31 (rlF.f x) := (Row.new' e1).push' e3
  have v3 : Row H3 H1.size 26 (valsRow V) := Row.new' e3
  refine ⟨_, rowc (i := 1) x3 rfl, hx.l.1, hx.l.2, _, _, _, _, vals_at v3 hx.l, fun H14 e14 => ?_⟩
  have k14 : Kp No H3 H14 := (Kp.refl _ _).push' e14
  have y14 : Row H14 H3.size 25 zeroV.row := Row.new' e14
  refine ⟨y14.mayw (by simp), fun H16 e16 => ?_⟩
  have y16 : Row H16 H3.size 25 (vi V x.l).row := y14.fill' e16 rfl
  have k16 : Kp No H3 H16 := k14.box ((Kp.refl _ _).sets' e16 (.inl rfl)) (Nat.le_refl _)
  have x16 := k16.row x3 id
  have v16 := k16.row v3 id
  have kA := k3.no2 k16
  have hw16 := hw.no kA
  have last : ∀ (r : VT × Int) (H2 : Hp), yesV x V = r → Kp No H16 H2 → mayw H2 ⟨H3.size, 0, none⟩ 4 0 ∧ ∀ H' : Hp, H' = sets H2 ⟨H3.size, 0, none⟩ r.1.row 0 → F8_1 Q ⟨H3.size, 0, none⟩ r.2 H' := fun r H2 er k2 => by
    have y2 := k2.row y16 id
    refine ⟨y2.mayw (by simp), fun H' e' => ?_⟩
    have y' : Row H' H3.size 25 r.1.row := y2.fill' e' rfl
    have k' : Kp (fun x => x = H3.size) H2 H' := (Kp.refl _ _).sets' e' (.inl rfl)
    have hq := hQ H' ((kA.no2 k2).box k' (by omega))
    unfold yesP at hq
    rw [er] at hq
    refine ⟨fun h0 => ⟨_, _, _, _, y'.all, ?_⟩, fun h0 => ?_⟩
    · rw [h0, Bool.true_and] at hq; exact hq
    · rw [h0, Bool.false_and] at hq; exact hq
  unfold yesV at last
  refine ⟨_, rowc (i := 7) x16 rfl, fun f0 => ⟨_, x16.cell_of (i := 0) rfl, _, rowc (i := 1) x16 rfl, hx.l.1, hx.l.2, _, _, _, _, vals_at v16 hx.l, _, _, _, _, rowcs (i := 3) (m := x.c.row) x16 rfl, c21 hw16 fun H2 k2 => ⟨rowc (i := 1) (k2.row x16 id) rfl, last _ H2 ?_ k2⟩⟩, fun f0 => ⟨fun f1 => ⟨_, x16.cell_of (i := 0) rfl, _, _, _, _, rowcs (i := 3) (m := x.c.row) x16 rfl, _, rowc (i := 1) x16 rfl, hx.l.1, hx.l.2, _, _, _, _, vals_at v16 hx.l, c21 hw16 fun H2 k2 => ⟨rowc (i := 1) (k2.row x16 id) rfl, last _ H2 ?_ k2⟩⟩, fun f1 => ⟨fun f2 => ⟨_, x16.cell_of (i := 0) rfl, _, rowc (i := 1) x16 rfl, hx.l.1, hx.l.2, _, _, _, _, vals_at v16 hx.l, _, rowc (i := 2) x16 rfl, hx.r.1, hx.r.2, _, _, _, _, vals_at v16 hx.r, c21 hw16 fun H2 k2 => ⟨rowc (i := 2) (k2.row x16 id) rfl, rowc (i := 1) (k2.row x16 id) rfl, last _ H2 ?_ k2⟩⟩, fun f2 => ⟨fun f4 => ⟨_, rowc (i := 1) x16 rfl, hx.l.1, hx.l.2, _, _, _, _, vals_at v16 hx.l, c22 hw16 fun H2 k2 => last _ H2 ?_ k2⟩, fun f4 => ?_⟩⟩⟩⟩
  · rw [if_pos (of_decide_eq_true f0)]
  · rw [if_neg (of_decide_eq_false f0), if_pos (of_decide_eq_true f1)]
  · rw [if_neg (of_decide_eq_false f0), if_neg (of_decide_eq_false f1), if_pos (of_decide_eq_true f2)]
  · rw [if_neg (of_decide_eq_false f0), if_neg (of_decide_eq_false f1), if_neg (of_decide_eq_false f2), if_pos (of_decide_eq_true f4)]
  · have hq := hQ H16 kA
    unfold yesP yesV at hq
    rw [if_neg (of_decide_eq_false f0), if_neg (of_decide_eq_false f1), if_neg (of_decide_eq_false f2), if_neg (of_decide_eq_false f4)] at hq
    exact ⟨fun _ => ⟨_, _, _, _, y16.all, hq⟩, fun h => absurd rfl (of_decide_eq_false h)⟩
theorem c12 {sl q : Sl} {K : List (ER × VT)} {e : ER} {Q : Int → Int → ByteArray → Bool → Bool → Hp → Prop} (hk : RdL knF H sl K) (hK : K.length ≤ 1000000) (hq : q.n = 0) (hQ : ∀ H', Kp No H H' → QO Q (findP K e) H') : F12 sl e.k e.o e.vk e.vi e.vs e.vb e.v e.p e.a q H Q := by
  intro H1 e1 H3 e3
  have k3 : Kp No H H3 := ((Kp.refl No H).push' e1).push' e3
  have s1 := size_push' e1
  have x3 : Row H3 H.size 41 (e.row q) := (Row.new' e1).push' e3
  have z3 : Row H3 H1.size 25 zeroV.row := Row.new' e3
  have hn := hk.n
  intro X hX
  suffices ∀ d i H', i + d = K.length → findP (K.drop i) e = findP K e → Kp No H3 H' → X i H' from this _ 0 H3 (Nat.zero_add _) rfl (Kp.refl _ _)
  have fin : ∀ (H' : Hp) (o : Option VT), Kp No H3 H' → findP K e = o → mayw H' ⟨H1.size, 0, none⟩ 4 0 ∧ ∀ H'' : Hp, H'' = sets H' ⟨H1.size, 0, none⟩ (o.getD zeroV).row 0 → ∃ (x61 : Int) (x62 : Int) (x63 : ByteArray) (x64 : Bool), cells H'' ⟨H1.size, 0, none⟩ [.int .i64 x61, .int .i64 x62, .string x63, .bool x64] 0 ∧ Q x61 x62 x63 x64 o.isSome H'' := fun H' o k e' => by
    refine ret4 (K := fun a b c d H => Q a b c d o.isSome H) (k.row z3 id) rfl (o.getD zeroV) fun H'' _ k' => ?_
    have := hQ H'' ((k3.no2 k).box k' (by omega))
    rw [e'] at this
    exact this
  intro d
  induction d with
  | zero =>
    intro i H' hi hf k
    refine hX _ _ ⟨fun hh => absurd (of_decide_eq_true hh) (by omega), fun _ => ?_⟩
    rw [List.drop_of_length_le (by omega)] at hf
    exact fin H' none k hf.symm
  | succ d ih =>
    intro i H' hi hf k
    obtain ⟨p, gp⟩ : ∃ p, K[i]? = some p := ⟨_, List.getElem?_eq_getElem (by omega)⟩
    have hdr : K.drop i = p :: K.drop (i + 1) := by
      obtain ⟨hlt, e⟩ := List.getElem?_eq_some_iff.1 gp
      rw [List.drop_eq_getElem_cons hlt, e]
    rw [hdr] at hf
    have en : ((i : Nat) : Int).toNat = i := by omega
    have hk' := (hk.kp0 k3).kp0 k
    obtain ⟨a, ea, han, ca⟩ := hk'.get gp
    have x' := k.row x3 id
    have c1 : cells H' (Addr.add a (i * 14)) (p.1.row Sl.nil) 0 := by
      have := cells_sub (i := 0) (m := p.1.row Sl.nil) ca rfl
      have h0 := cells_add (H := H') (a := Addr.add a (i * 14)) (l := p.1.row Sl.nil) (i := 0) (j := 0)
      exact h0.1 this
    refine hX _ _ ⟨fun _ => ⟨a, ea, by omega, by omega, _, _, _, _, _, _, _, _, _, _, by rw [en]; exact c1, _, _, _, _, _, _, _, _, _, _, x'.all, c30 (a := p.1) (b := e) rfl hq fun H37 k37 => ⟨fun hs => ?_, fun hs => ?_⟩⟩, fun hh => absurd (of_decide_eq_false hh) (by omega)⟩
    · have hf' : findP K e = some p.2 := by
        rw [← hf]; unfold findP; rw [List.find?_cons_of_pos (p := fun p : ER × VT => sameE p.1 e) hs]; rfl
      obtain ⟨a', ea', _, ca'⟩ := (hk'.kp0 k37).get gp
      rw [ea] at ea'; cases ea'
      refine ⟨a, ea, by omega, by omega, _, _, _, _, by rw [en]; exact cells_sub (i := 10) (m := p.2.row) ca' rfl, ?_⟩
      exact fin H37 (some p.2) (k.no2 k37) hf'
    · rw [wr (by omega) (by omega), show ((i : Int) + 1) = ((i + 1 : Nat) : Int) by omega]
      refine ih (i + 1) H37 (by omega) ?_ (k.no2 k37)
      rw [← hf]; unfold findP; rw [List.find?_cons_of_neg (p := fun p : ER × VT => sameE p.1 e) (by rw [hs]; decide)]

/-! ## BoundLeast -/
def T3 (Kf : Bool → Prop) (vb y90 : Addr) (y89 : Int) (H : Hp) : Prop :=
 ∃ x296 : Int, cell H vb = some (iv x296) ∧ (
 ((decide (x296 = 3)) = true → (∃ x300 : Bool, cell H (Addr.add vb 3) = some (bv x300) ∧ (
 (x300 = true → (∃ (x304 : Int) (x305 : Int) (x306 : ByteArray) (x307 : Bool), cells H vb [(iv x304), (iv x305), (sv x306), (bv x307)] 0 ∧ (
 (0 : Int) ≤ y89 ∧ y89 < ((6 : Nat) : Int) ∧ (
 ∃ (x311 : Int) (x312 : Int) (x313 : ByteArray) (x314 : Bool), cells H (Addr.add y90 (y89.toNat * 4)) [(iv x311), (iv x312), (sv x313), (bv x314)] 0 ∧ (
 Kf (!(decide (x304 = x311) && (decide (x305 = x312) && (seq x306 x313 && (x307 == x314)))))))))) ∧
 (x300 = false → (Kf false))))) ∧
 ((decide (x296 = 3)) = false → (Kf false)))
def T2 (Kf : Bool → Prop) (vb y90 : Addr) (y89 : Int) (H : Hp) : Prop :=
 ∃ x234 : Int, cell H vb = some (iv x234) ∧ (
 ((decide (x234 = 2)) = true → (∃ x238 : ByteArray, cell H (Addr.add vb 2) = some (sv x238) ∧ (
 ((!(seq x238 (ByteArray.mk #[]))) = true → (∃ (x242 : Int) (x243 : Int) (x244 : ByteArray) (x245 : Bool), cells H vb [(iv x242), (iv x243), (sv x244), (bv x245)] 0 ∧ (
 (0 : Int) ≤ y89 ∧ y89 < ((6 : Nat) : Int) ∧ (
 ∃ (x249 : Int) (x250 : Int) (x251 : ByteArray) (x252 : Bool), cells H (Addr.add y90 (y89.toNat * 4)) [(iv x249), (iv x250), (sv x251), (bv x252)] 0 ∧ (
 ((!(decide (x242 = x249) && (decide (x243 = x250) && (seq x244 x251 && (x245 == x252))))) = true → (Kf true)) ∧
 ((!(decide (x242 = x249) && (decide (x243 = x250) && (seq x244 x251 && (x245 == x252))))) = false → (∃ x256 : Int, cell H vb = some (iv x256) ∧ (
 ((decide (x256 = 3)) = true → (∃ x260 : Bool, cell H (Addr.add vb 3) = some (bv x260) ∧ (
 (x260 = true → (∃ (x264 : Int) (x265 : Int) (x266 : ByteArray) (x267 : Bool), cells H vb [(iv x264), (iv x265), (sv x266), (bv x267)] 0 ∧ (
 (0 : Int) ≤ y89 ∧ y89 < ((6 : Nat) : Int) ∧ (
 ∃ (x271 : Int) (x272 : Int) (x273 : ByteArray) (x274 : Bool), cells H (Addr.add y90 (y89.toNat * 4)) [(iv x271), (iv x272), (sv x273), (bv x274)] 0 ∧ (
 Kf (!(decide (x264 = x271) && (decide (x265 = x272) && (seq x266 x273 && (x267 == x274)))))))))) ∧
 (x260 = false → (Kf false))))) ∧
 ((decide (x256 = 3)) = false → (Kf false)))))))))) ∧
 ((!(seq x238 (ByteArray.mk #[]))) = false → (∃ x276 : Int, cell H vb = some (iv x276) ∧ (
 ((decide (x276 = 3)) = true → (∃ x280 : Bool, cell H (Addr.add vb 3) = some (bv x280) ∧ (
 (x280 = true → (∃ (x284 : Int) (x285 : Int) (x286 : ByteArray) (x287 : Bool), cells H vb [(iv x284), (iv x285), (sv x286), (bv x287)] 0 ∧ (
 (0 : Int) ≤ y89 ∧ y89 < ((6 : Nat) : Int) ∧ (
 ∃ (x291 : Int) (x292 : Int) (x293 : ByteArray) (x294 : Bool), cells H (Addr.add y90 (y89.toNat * 4)) [(iv x291), (iv x292), (sv x293), (bv x294)] 0 ∧ (
 Kf (!(decide (x284 = x291) && (decide (x285 = x292) && (seq x286 x293 && (x287 == x294)))))))))) ∧
 (x280 = false → (Kf false))))) ∧
 ((decide (x276 = 3)) = false → (Kf false)))))))) ∧
 ((decide (x234 = 2)) = false → (∃ x296 : Int, cell H vb = some (iv x296) ∧ (
 ((decide (x296 = 3)) = true → (∃ x300 : Bool, cell H (Addr.add vb 3) = some (bv x300) ∧ (
 (x300 = true → (∃ (x304 : Int) (x305 : Int) (x306 : ByteArray) (x307 : Bool), cells H vb [(iv x304), (iv x305), (sv x306), (bv x307)] 0 ∧ (
 (0 : Int) ≤ y89 ∧ y89 < ((6 : Nat) : Int) ∧ (
 ∃ (x311 : Int) (x312 : Int) (x313 : ByteArray) (x314 : Bool), cells H (Addr.add y90 (y89.toNat * 4)) [(iv x311), (iv x312), (sv x313), (bv x314)] 0 ∧ (
 Kf (!(decide (x304 = x311) && (decide (x305 = x312) && (seq x306 x313 && (x307 == x314)))))))))) ∧
 (x300 = false → (Kf false))))) ∧
 ((decide (x296 = 3)) = false → (Kf false))))))

theorem t3 {Kf : Bool → Prop} {xb vb : Nat} {v : VT} {i : Int} (x : Row H xb 25 v.row) (y : Row H vb 26 (valsRow V)) (hi : 0 ≤ i ∧ i < 6) (hk : v.k = (vi V i).k) (hb : Below v (vi V i)) (hK : Kf false) : T3 Kf ⟨xb, 0, none⟩ ⟨vb, 0, none⟩ i H := by
  have h3 := (hb hk).2.2
  refine ⟨_, x.cell_of (i := 0) rfl, fun hk3 => ⟨_, rowc (i := 3) x rfl, fun hvb => ⟨_, _, _, _, x.all, hi.1, hi.2, _, _, _, _, vals_at y hi, ?_⟩, fun _ => hK⟩, fun _ => hK⟩
  have e := h3 (of_decide_eq_true hk3) hvb
  have : (decide (v.k = (vi V i).k) && (decide (v.n = (vi V i).n) && (seq v.s (vi V i).s && (v.b == (vi V i).b)))) = true := by
    rw [← e]; simp [seq_dec']
  rw [this]; exact hK
theorem t2 {Kf : Bool → Prop} {xb vb : Nat} {v : VT} {i : Int} (x : Row H xb 25 v.row) (y : Row H vb 26 (valsRow V)) (hi : 0 ≤ i ∧ i < 6) (hk : v.k = (vi V i).k) (hb : Below v (vi V i)) (hK : Kf false) : T2 Kf ⟨xb, 0, none⟩ ⟨vb, 0, none⟩ i H := by
  have h2 := (hb hk).2.1
  have T := t3 x y hi hk hb hK
  refine ⟨_, x.cell_of (i := 0) rfl, fun hk2 => ⟨_, rowc (i := 2) x rfl, fun hs => ⟨_, _, _, _, x.all, hi.1, hi.2, _, _, _, _, vals_at y hi, fun h => ?_, fun _ => T⟩, fun _ => T⟩, fun _ => T⟩
  have hne : v.s ≠ E := fun e => by rw [e] at hs; simp [seq_dec'] at hs
  have e := h2 (of_decide_eq_true hk2) hne
  have : (decide (v.k = (vi V i).k) && (decide (v.n = (vi V i).n) && (seq v.s (vi V i).s && (v.b == (vi V i).b)))) = true := by
    rw [← e]; simp [seq_dec']
  rw [this] at h; cases h
end
end Go.Hw
