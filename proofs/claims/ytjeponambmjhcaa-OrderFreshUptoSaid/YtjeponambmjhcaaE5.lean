/- What is handed in, with marks behind it; copies. Own work of this session. -/
import Derived.Test.YtjeponambmjhcaaE4
set_option linter.unusedVariables false
namespace Go.Hw
open Go

theorem made_toList (z : Array Value) : ∀ m : Nat, (made z m).toList = (List.replicate m z.toList).flatten
  | 0 => by simp [made, Builtin.zeroCells]
  | m + 1 => by
    have ih := made_toList z m
    unfold made Builtin.zeroCells at ih ⊢
    rw [Array.toList_map, Array.toList_range] at ih ⊢
    rw [Nat.succ_mul, List.range_add, List.map_append, ih, List.replicate_succ', List.flatten_append]
    congr 1
    simp only [List.map_map, List.flatten_cons, List.flatten_nil, List.append_nil]
    apply List.ext_getElem?
    intro i
    simp only [List.getElem?_map]
    by_cases hi : i < z.size
    · rw [List.getElem?_range hi]
      show some (z[(m * z.size + i) % z.size]!) = _
      rw [Nat.add_comm, Nat.add_mul_mod_self_right, Nat.mod_eq_of_lt hi, getElem!_pos z i hi]
      simp [hi]
    · rw [List.getElem?_eq_none (by simp; omega), List.getElem?_eq_none (by simpa using Nat.le_of_not_lt hi)]
      rfl

theorem made_flat {α : Type} {t k : Nat} (F : Fmt α t k) (x : α) (m : Nat) {z : Array Value} (hz : z.toList = F.f x) : (made z m).toList = (List.replicate m x).flatMap F.f := by
  rw [made_toList, hz]
  induction m with
  | zero => rfl
  | succ m ih => rw [List.replicate_succ, List.replicate_succ, List.flatten_cons, List.flatMap_cons, ih]

def zv : VT := ⟨0, 0, ByteArray.mk #[], false⟩
def mki (n : Int) : VT := ⟨9, n, ByteArray.mk #[], false⟩
def tl : List VT := (List.range 34).map fun j : Nat => mki (-(j : Int) - 1)
def hL (vals : List VT) : List VT := vals ++ tl
theorem tl_len : tl.length = 34 := by simp [tl]
theorem hL_len (vals : List VT) : (hL vals).length = vals.length + 34 := by simp [hL, tl_len]
theorem hL_lo {vals : List VT} {i : Nat} (h : i < vals.length) : (hL vals)[i]? = vals[i]? := List.getElem?_append_left h
theorem hL_hi {vals : List VT} {i : Nat} (h : vals.length ≤ i) (h2 : i < vals.length + 34) : (hL vals)[i]? = some (mki ((vals.length : Int) - i - 1)) := by
  rw [hL, List.getElem?_append_right h, tl, List.getElem?_map, List.getElem?_range (by omega)]
  simp only [Option.map_some]
  congr 2
  omega

theorem set_mid {α : Type} {A B : List α} {i : Nat} {x : α} (hx : A[i]? = some x) (hl : A.length = B.length) : (A.take i ++ B.drop i).set i x = A.take (i + 1) ++ B.drop (i + 1) := by
  have hi := (List.getElem?_eq_some_iff.1 hx).1
  have e : (A.take i).length = i := by simp; omega
  rw [take_succ hx, List.set_append, if_neg (by omega), e, Nat.sub_self, drop_cons (List.getElem?_eq_getElem (show i < B.length by omega)), List.set_cons_zero, List.append_assoc]
  rfl

theorem c9 {H : Hp} {ty : ByteArray} {tm : Int} {vs : Sl} {vals : List VT} {Q : ByteArray → Int → Sl → Sl → Hp → Prop} (hv : RdL vF H vs vals) (hvl : vals.length ≤ 1048576)
    (hQ : ∀ H' l, Lst vF H' l (hL vals) → l.c = vals.length + 34 → Kp No H H' → (∀ b, l.at b → H.size ≤ b) → Q ty tm ⟨l.b, vals.length, vals.length + 34⟩ l H') : F9 ty tm vs H Q := by
  intro H1 e1 H3 e3
  have k1 := (Kp.refl No H).push' e1
  have k3 := k1.push' e3
  have s1 := size_push' e1
  have s3 := size_push' e3
  have r1 := (Row.new' e1).push' e3
  have r3 := Row.new' e3
  have hn := hv.n
  have hw : IntKind.i64.wrap ((vs.n : Int) + 34) = ((vals.length + 34 : Nat) : Int) := by rw [hn, wr (by omega) (by omega)]; omega
  refine ⟨_, r1.cell_of (i := 2) rfl, ?_⟩
  rw [hw]
  refine ⟨by omega, by omega, by omega, by omega, fun H7 e7 => ?_⟩
  have s7 := size_push' e7
  have k7 := k3.push' e7
  have r17 := r1.push' e7
  have r37 := r3.push' e7
  have b7 : Row H7 H3.size 49 ((List.replicate (vals.length + 34) zv).flatMap vF.f) := by
    have := Row.new' e7
    rw [show (((vals.length + 34 : Nat) : Int)).toNat = vals.length + 34 from rfl, made_flat vF zv _ (z := #[.int .i64 0, .int .i64 0, .string (ByteArray.mk #[]), .bool false]) rfl] at this
    exact this
  have hl7 : Lst vF H7 (Sl.mk (some ⟨H3.size, 0, none⟩) (vals.length + 34) (vals.length + 34)) (List.replicate (vals.length + 34) zv) :=
    ⟨.inr ⟨H3.size, [], rfl, by simpa using b7, by rw [fl_len vF.len]; simp, by simp [fl_len vF.len], Nat.le_refl _, by show vals.length + 34 ≤ _; omega⟩⟩
  generalize hl : (Sl.mk (some ⟨H3.size, 0, none⟩) (vals.length + 34) (vals.length + 34) : Sl) = l at hl7
  have hlb : ∀ b, l.at b → b = H3.size := fun b hb => by
    subst hl
    have : H3.size = b := by simpa [Sl.at] using hb
    exact this.symm
  have hln : l.n = vals.length + 34 := by subst hl; rfl
  have hlc : l.c = vals.length + 34 := by subst hl; rfl
  show F9_L2 Q _ _ _ (Sl.mk (some ⟨H3.size, 0, none⟩) (vals.length + 34) (vals.length + 34)) 0 H7
  rw [hl, hn]
  intro X hX
  suffices G : ∀ (d : Nat) (H8 : Hp) (i : Nat), i + d = vals.length + 34 → Kp (fun b => b = H3.size) H7 H8 → Lst vF H8 l ((hL vals).take i ++ (List.replicate (vals.length + 34) zv).drop i) → X i H8 from
    G (vals.length + 34) H7 0 (by omega) (Kp.refl _ _) (by simpa using hl7)
  intro d
  induction d with
  | zero =>
    intro H8 i hi k8 h8
    have k08 : Kp No H H8 := k7.trans k8 fun b hb => .inr (by omega)
    rw [List.drop_eq_nil_of_le (by simp; omega), List.append_nil, List.take_of_length_le (by rw [hL_len]; omega)] at h8
    have b1 := k8.row r17 (by omega)
    have b3 := k8.row r37 (by omega)
    refine hX _ _ ⟨fun hb => absurd (of_decide_eq_true hb) (by omega), fun _ => ⟨by omega, Nat.zero_le _, by show vals.length ≤ l.c; omega, Nat.le_refl _, b1.some (i := 2) (by simp), b1.frz 2, fun H9 e9 => ?_⟩⟩
    have b19 := b1.set' e9
    have b39 := b3.set_ne' e9 (by show H1.size ≠ H.size; omega)
    have k9 := k08.set' e9 (.inr (Nat.le_refl _))
    have h9 := h8.kp ((Kp.refl (fun b => b = H.size) H8).set' e9 (.inl rfl)) (fun b hb e => by have := hlb b hb; omega)
    have hcut : Sl.cut l 4 0 vals.length l.c = ⟨l.b, vals.length, vals.length + 34⟩ := by
      rw [← hl]
      unfold Sl.cut
      simp only [Option.map_some, add_mk, Nat.zero_mul, Nat.add_zero, Nat.sub_zero, ite_self]
    refine ⟨_, _, _, b19.all, b39.mayall, fun H10 e10 => ⟨_, _, _, (b39.fill' e10 rfl).all, ?_⟩⟩
    have h10 := h9.kp ((Kp.refl (fun b => b = H1.size) H9).sets' e10 (.inl rfl)) (fun b hb e => by have := hlb b hb; omega)
    have := hQ H10 l h10 hlc (k9.sets' e10 (.inr (by show H.size ≤ H1.size; omega))) (fun b hb => by have := hlb b hb; omega)
    rw [← hcut] at this
    exact this
  | succ d ih =>
    intro H8 i hi k8 h8
    have hwi : IntKind.i64.wrap (IntKind.i64.wrap (((vals.length : Nat) : Int) - i) - 1) = (vals.length : Int) - i - 1 := by
      rw [wr (x := ((vals.length : Nat) : Int) - i) (by omega) (by omega), wr (by omega) (by omega)]
    refine hX _ _ ⟨fun _ => ?_, fun hb => absurd (of_decide_eq_false hb) (by omega)⟩
    rw [hwi]
    refine c15 fun H9 k9 => ?_
    have h9 := h8.kp k9 fun _ _ => id
    have hlen : ((hL vals).take i ++ (List.replicate (vals.length + 34) zv).drop i).length = vals.length + 34 := by
      rw [List.length_append, List.length_take, hL_len, List.length_drop, List.length_replicate]; omega
    obtain ⟨a, ha, hat, hin, hmay, hset⟩ := h9.set (i := i) (by omega) (mki ((vals.length : Int) - i - 1))
    refine ⟨a, ha, by omega, by omega, hmay, fun H10 e10 => ?_⟩
    obtain ⟨h10, k10⟩ := hset H10 e10
    have k810 : Kp (fun b => b = H3.size) H7 H10 := (k8.trans k9 fun _ => False.elim).trans k10 fun b hb => .inl (hlb b hb)
    have hstep : IntKind.i64.wrap ((i : Int) + 1) = ((i + 1 : Nat) : Int) := wr (by omega) (by omega)
    refine ⟨fun hq => ?_, fun hq => ?_⟩
    · have hq := of_decide_eq_true hq
      have hx : vals[i]? = some (vals[i]'(by omega)) := List.getElem?_eq_getElem (by omega)
      generalize vals[i]'(by omega) = x at hx
      have b1 := k810.row r17 (by omega)
      have k010 : Kp No H H10 := k7.trans k810 fun b hb => .inr (by omega)
      obtain ⟨a', ha', hi0, ca⟩ := (hv.kp0 k010).get hx
      obtain ⟨a2, ha2, hat2, hin2, hmay2, hset2⟩ := h10.set (i := i) (by rw [List.length_set]; omega) x
      refine ⟨_, b1.cell_of (i := 2) rfl, a', ha', by omega, by omega, _, _, _, _, ca, a2, ha2, by omega, by omega, hmay2, fun H11 e11 => ?_⟩
      obtain ⟨h11, k11⟩ := hset2 H11 e11
      rw [List.set_set, set_mid (by rw [hL_lo (by omega)]; exact hx) (by rw [hL_len]; simp)] at h11
      show X _ _
      rw [hstep]
      exact ih H11 (i + 1) (by omega) (k810.trans k11 fun b hb => .inl (hlb b hb)) h11
    · have hq := of_decide_eq_false hq
      rw [set_mid (hL_hi (by omega) (by omega)) (by rw [hL_len]; simp)] at h10
      show X _ _
      rw [hstep]
      exact ih H10 (i + 1) (by omega) k810 h10

theorem c13 {H : Hp} {l vs : Sl} {ty : ByteArray} {tm : Int} {vals : List VT} {Q : Bool → Hp → Prop} (hl : RdL vF H l (hL vals)) (hv : RdL vF H vs vals) (hvl : vals.length ≤ 1048576) (hQ : ∀ H', Kp No H H' → Q true H') : F13 l ty tm vs H Q := by
  intro H1 e1
  have k1 := (Kp.refl No H).push' e1
  have b1 := Row.new' e1
  have hn := hv.n
  have hln := hl.n
  rw [hL_len] at hln
  have hw : IntKind.i64.wrap ((vs.n : Int) + 34) = ((vals.length + 34 : Nat) : Int) := by rw [hn, wr (by omega) (by omega)]; omega
  refine ⟨_, b1.cell_of (i := 2) rfl, ?_⟩
  rw [hw]
  refine ⟨fun hb => absurd (of_decide_eq_true hb) (by omega), fun _ => ?_⟩
  rw [hn]
  intro X hX
  suffices G : ∀ (d : Nat) (H2 : Hp) (i : Nat), i + d = vals.length + 34 → Kp No H1 H2 → X i H2 from G (vals.length + 34) H1 0 (by omega) (Kp.refl _ _)
  intro d
  induction d with
  | zero => exact fun H2 i hi k2 => hX _ _ ⟨fun hb => absurd (of_decide_eq_true hb) (by omega), fun _ => hQ H2 (k1.trans k2 fun _ => False.elim)⟩
  | succ d ih =>
    intro H2 i hi k2
    have k02 := k1.trans k2 fun _ => False.elim
    have hstep : IntKind.i64.wrap ((i : Int) + 1) = ((i + 1 : Nat) : Int) := wr (by omega) (by omega)
    refine hX _ _ ⟨fun _ => ⟨fun hq => ?_, fun hq => ?_⟩, fun hb => absurd (of_decide_eq_false hb) (by omega)⟩
    · have hq := of_decide_eq_true hq
      have hx : vals[i]? = some (vals[i]'(by omega)) := List.getElem?_eq_getElem (by omega)
      generalize vals[i]'(by omega) = x at hx
      obtain ⟨a, ha, hi0, ca⟩ := (hl.kp0 k02).get (show (hL vals)[i]? = some x by rw [hL_lo (by omega)]; exact hx)
      obtain ⟨a', ha', hi0', ca'⟩ := (hv.kp0 k02).get hx
      refine ⟨a, ha, by omega, by omega, _, _, _, _, ca, _, (k2.row b1 id).cell_of (i := 2) rfl, a', ha', by omega, by omega, _, _, _, _, ca', fun hc => ?_, fun _ => ⟨fun hc => absurd (of_decide_eq_true hc) (by omega), fun _ => ⟨fun hf => (by cases hf), fun _ => ?_⟩⟩⟩
      · simp [seq_refl] at hc
      · rw [hstep]
        exact ih H2 (i + 1) (by omega) k2
    · have hq := of_decide_eq_false hq
      obtain ⟨a, ha, hi0, ca⟩ := (hl.kp0 k02).get (hL_hi (vals := vals) (i := i) (by omega) (by omega))
      have hwi : IntKind.i64.wrap (IntKind.i64.wrap (((vals.length : Nat) : Int) - i) - 1) = (vals.length : Int) - i - 1 := by
        rw [wr (x := ((vals.length : Nat) : Int) - i) (by omega) (by omega), wr (by omega) (by omega)]
      refine ⟨fun _ => ⟨a, ha, by omega, by omega, _, _, _, _, ca, ?_⟩, fun hc => absurd (of_decide_eq_false hc) (by omega)⟩
      rw [hwi]
      refine c15 fun H3 k3 => ?_
      have k03 := k02.trans k3 fun _ => False.elim
      obtain ⟨a2, ha2, _, ca2⟩ := (hl.kp0 k03).get (hL_hi (vals := vals) (i := i) (by omega) (by omega))
      have e2 : a2 = a := by rw [ha] at ha2; exact (Option.some.inj ha2).symm
      subst e2
      refine ⟨ca2, fun hf => ?_, fun _ => ?_⟩
      · simp [mki, seq_refl] at hf
      · rw [hstep]
        exact ih H3 (i + 1) (by omega) (k2.trans k3 fun _ => False.elim)

theorem c38 {H : Hp} {l : Sl} {evs : List EV} {Q : Sl → Hp → Prop} (ha : Ans H l evs) (hel : evs.length ≤ 1048576) (hQ : ∀ r H' R, AnsF H' R r evs → Kp No H H' → (∀ b, R b → H.size ≤ b) → Q r H') : F38 l H Q := by
  obtain ⟨E, hl, hv, he⟩ := ha
  have hlE : E.length = evs.length := by have := congrArg List.length he; simpa using this
  have hln := hl.n
  intro X hX
  suffices G : ∀ (d : Nat) (H1 : Hp) (i : Nat) (r : Sl) (G : List EC), i + d = E.length → Kp No H H1 → Lst eF H1 r G → Vals H1 G → Dj G → G.map EC.ev = (E.take i).map EC.ev → (∀ b, r.at b → H.size ≤ b) → (∀ x ∈ G, ∀ b, x.sl.at b → H.size ≤ b) → X r i H1 from
    G E.length H 0 Sl.nil [] (by omega) (Kp.refl _ _) (Lst.nil _ _) (fun x hx => by simp at hx) List.Pairwise.nil rfl (fun b hb => by cases hb) (fun x hx => by simp at hx)
  intro d
  induction d with
  | zero =>
    intro H1 i r G hi k hr hvG hdG heG hrn hGn
    rw [List.take_of_length_le (by omega), he] at heG
    refine hX _ _ _ ⟨fun hb => absurd (of_decide_eq_true hb) (by omega), fun _ => hQ r H1 (fun b => r.at b ∨ ∃ x ∈ G, x.sl.at b) ⟨G, hr, hvG, hdG, heG, fun _ => Iff.rfl⟩ k fun b hb => ?_⟩
    rcases hb with h | ⟨x, hx, h⟩
    · exact hrn b h
    · exact hGn x hx b h
  | succ d ih =>
    intro H1 i r G hi k hr hvG hdG heG hrn hGn
    have hx : E[i]? = some (E[i]'(by omega)) := List.getElem?_eq_getElem (by omega)
    generalize E[i]'(by omega) = x at hx
    obtain ⟨a, ha, hi0, ca⟩ := (hl.rd.kp0 k).get hx
    have hxv := hv x (List.mem_of_getElem? hx)
    have hGl : G.length = i := by have := congrArg List.length heG; simp at this; omega
    refine hX _ _ _ ⟨fun _ => ⟨a, ha, by omega, by omega, _, _, _, ca, c11 (hxv.1.rd.kp0 k) hxv.2 fun r2 H2 h2 k2 hr2 H3 e3 => ?_⟩, fun hb => absurd (of_decide_eq_false hb) (by omega)⟩
    have k3 := k2.push' e3
    have s2 := k2.size
    have s3 := size_push' e3
    have b3 : Row H3 H2.size 32 (eF.f ⟨x.ty, x.tm, r2, x.vs⟩) := Row.new' e3
    refine (hr.kp k3 fun _ _ => id).append1 b3 rfl (by omega) (by omega) fun r4 H4 h4 k4 hr4 => ?_
    have k14 : Kp r.at H1 H4 := (k3.mono fun _ _ => False.elim).trans k4 fun _ => .inl
    have k24 : Kp r.at H2 H4 := (((Kp.refl No H2).push' e3).mono fun _ _ => False.elim).trans k4 fun _ => .inl
    have ks := k.size
    rw [wr (by omega) (by omega)]
    refine ih H4 (i + 1) r4 (G ++ [⟨x.ty, x.tm, r2, x.vs⟩]) (by omega) (k.trans k14 fun b hb => .inr (hrn b hb)) h4 ?_ ?_ ?_ ?_ ?_
    · intro y hy
      rcases List.mem_append.1 hy with hy | hy
      · exact (hvG.kp k14 fun b l hb rr => hr.ne rr (by decide) hb) y hy
      · rw [List.mem_singleton] at hy
        subst hy
        refine ⟨h2.kp k24 fun b hb hb' => ?_, hxv.2⟩
        obtain ⟨_, rr⟩ := h2.row hb
        exact (hr.kp k2 fun _ _ => id).ne rr (by decide) hb'
    · rw [Dj, List.pairwise_append]
      refine ⟨hdG, List.pairwise_singleton _ _, fun y hy z hz b hyb hzb => ?_⟩
      rw [List.mem_singleton] at hz
      subst hz
      have := (hvG y hy).1.lt hyb
      have := hr2 b hzb
      omega
    · rw [List.map_append, heG, take_succ hx, List.map_append]; rfl
    · intro b hb
      rcases hr4 b hb with h | h
      · exact hrn b h
      · omega
    · intro y hy b hb
      rcases List.mem_append.1 hy with hy | hy
      · exact hGn y hy b hb
      · rw [List.mem_singleton] at hy
        subst hy
        have := hr2 b hb
        omega

theorem c16 {H : Hp} {hh : Nat} {PV PE : List (Sl × Sl)} {F R : Nat → Prop} {l : Sl} {evs : List EV} {Q : Hp → Prop} (hs : HS H hh PV PE PV.length PE.length F) (hr : AnsF H R l evs) (hFR : ∀ b, F b → ¬ R b) (hel : evs.length ≤ 1048576) (hPV : PV.length + evs.length ≤ 1099511627775) (hPE : PE.length ≤ 1099511627775)
    (hQ : ∀ H' PV' PE' F', HS H' hh PV' PE' PV'.length PE'.length F' → Kp (fun b => F b ∨ R b) H H' → (∀ b, F' b → F b ∨ R b ∨ H.size ≤ b) → PV'.length ≤ PV.length + evs.length → PE'.length ≤ PE.length + 1 → Q H') : F16 (some ⟨hh, 0, none⟩) l H Q := by
  refine c32 hs hr hFR hel (by omega) (by omega) fun H1 PV1 PE1 F1 h1 k1 hF1 hl1 hl2 hl3 hl4 => ?_
  refine c33 h1 hl3 hl4 (by omega) (by omega) fun H2 PV2 PE2 h2 k2 e2 e3 => ?_
  refine hQ H2 PV2 PE2 F1 h2 (k1.trans k2 fun b hb => ?_) hF1 (by omega) (by omega)
  rcases hF1 b hb with h | h | h
  · exact .inl (.inl h)
  · exact .inl (.inr h)
  · exact .inr h

end Go.Hw
