/- Strings and truth values: groups, constants. Own work of this session. -/
import Derived.Test.YtkdjcmfmflljlaaDoorB13
import Derived.Test.YtkdjcmfmflljlaaDoorHwM
set_option linter.unusedVariables false
namespace Go.Hw
open Go

abbrev T4 := Int × Int × ByteArray × Bool
def vtT (v : VT) : T4 := (v.k, v.n, v.s, v.b)
def ofT (t : T4) : VT := ⟨t.1, t.2.1, t.2.2.1, t.2.2.2⟩
structure Wo where
  G : List Nat
  M : ML Int T4
  c : Nat
def wtie (S : Sys) (G : List Nat) (l : Leaf) : List Nat := if l.two = true ∧ kindP S l.a ≠ 1 then tieP G l.a l.b else G
def sameT (a b : T4) : Bool := decide (a.1 = b.1) && (decide (a.2.1 = b.2.1) && (seq a.2.2.1 b.2.2.1 && (a.2.2.2 == b.2.2.2)))
theorem sameT_iff (a b : T4) : sameT a b = true ↔ a = b := by
  obtain ⟨a1, a2, a3, a4⟩ := a
  obtain ⟨b1, b2, b3, b4⟩ := b
  simp [sameT, seq_dec']
def wput (S : Sys) (G : List Nat) : List Leaf → ML Int T4 × Nat → Option (ML Int T4 × Nat)
  | [], st => some st
  | l :: ls, st =>
    if l.two = true ∨ kindP S l.a = 1 then wput S G ls st
    else if ((mget st.1 (root G l.a : Int)).isSome && !(sameT ((mget st.1 (root G l.a : Int)).getD (0, 0, E, false)) (vtT l.v))) = true then none
    else wput S G ls (mput st.1 st.2 (root G l.a : Int) (vtT l.v))
def wordsP (S : Sys) (L : List Leaf) : Option Wo :=
  match wput S (L.foldl (wtie S) (List.range S.refs.length)) L ([], 0) with
  | none => none
  | some st => some ⟨L.foldl (wtie S) (List.range S.refs.length), st.1, st.2⟩
theorem wtie_len (S : Sys) (G : List Nat) (l : Leaf) : (wtie S G l).length = G.length := by unfold wtie; split; exact tie_len _ _ _; rfl
theorem wfold_len (S : Sys) : ∀ (L : List Leaf) (G : List Nat), (L.foldl (wtie S) G).length = G.length
  | [], _ => rfl
  | l :: L, G => by rw [List.foldl_cons, wfold_len S L, wtie_len]

/-- Words in memory. -/
structure WoH (H : Hp) (w g : Nat) (gs : Sl) (m : Nat) (W : Wo) : Prop where
  row : Row H w 108 [.pointer (some ⟨g, 0, none⟩), .map (some m)]
  gh : GH H g gs W.G
  mp : mapAt mk3 mv25 H (some m) W.M W.c
section
variable {H H0 H' : Hp} {p w g m : Nat} {gs : Sl} {S : Sys} {W : Wo} {Q : Option Addr → Bool → Hp → Prop}
theorem WoH.kp {T : Nat → Prop} (h : WoH H w g gs m W) (k : Kp T H H') (h1 : ¬ T w) (h2 : ¬ T g) (h3 : ∀ b, gs.at b → ¬ T b) (h4 : ¬ T m) : WoH H' w g gs m W := ⟨k.row h.row h1, h.gh.kp k h2 h3, h.mp.kp k h4⟩
theorem WoH.no (h : WoH H w g gs m W) (k : Kp No H H') : WoH H' w g gs m W := h.kp k id id (fun _ _ => id) id
/-- All of it is new. -/
structure WoN (B w g : Nat) (gs : Sl) (m : Nat) : Prop where
  w : B ≤ w
  g : B ≤ g
  s : ∀ b, gs.at b → B ≤ b
  m : B ≤ m

theorem c46_L6 {sl : Sl} {L : List Leaf} (hs : SyH H p S) (hl : RdL leafF H sl L) (hL : L.length ≤ 100000) (hi : ∀ l ∈ L, l.a < S.refs.length) (h : WoH H w g gs m W) (hW : W.G.length = S.refs.length) (hN : WoN H0.size w g gs m) (hk : Kp No H0 H) (hs0 : SyH H0 p S) (hl0 : RdL leafF H0 sl L) (hM : W.M = []) (hc : W.c = 0)
    (hF : wput S W.G L ([], 0) = none → ∀ H', Kp No H0 H' → Q none false H') (hQ : ∀ st H', wput S W.G L ([], 0) = some st → WoH H' w g gs m ⟨W.G, st.1, st.2⟩ → Kp No H0 H' → Q (some ⟨w, 0, none⟩) true H') :
    F46_L6 Q (some ⟨p, 0, none⟩) ⟨w, 0, none⟩ sl (sl.n : Int) 0 H := by
  have hn := hl.n
  intro X hX
  suffices ∀ d i st H', i + d = L.length → WoH H' w g gs m ⟨W.G, st.1, st.2⟩ → wput S W.G (L.drop i) st = wput S W.G L ([], 0) → Kp No H0 H' → X i H' from this _ 0 ([], 0) H (Nat.zero_add _) (by rw [← hM, ← hc]; exact h) rfl hk
  intro d
  induction d with
  | zero =>
    intro i st H' hi' hh h4 k
    refine hX _ _ ⟨fun hh => absurd (of_decide_eq_true hh) (by omega), fun _ => ?_⟩
    rw [List.drop_of_length_le (by omega)] at h4
    exact hQ st H' h4.symm hh k
  | succ d ih =>
    intro i st H' hi' hh h4 k
    obtain ⟨l, gl⟩ : ∃ l, L[i]? = some l := ⟨_, List.getElem?_eq_getElem (by omega)⟩
    have hm := List.mem_of_getElem? gl
    have hdr : L.drop i = l :: L.drop (i + 1) := by
      obtain ⟨hlt, e⟩ := List.getElem?_eq_some_iff.1 gl
      rw [List.drop_eq_getElem_cons hlt, e]
    rw [hdr] at h4
    obtain ⟨a, ea, han, ca⟩ := (hl0.kp0 k).get gl
    have en : ((i : Nat) : Int).toNat = i := by omega
    refine hX _ _ ⟨fun _ => ⟨a, ea, by omega, by omega, _, _, _, _, _, _, _, _, by rw [en]; exact ca, fun H97 e97 => ?_⟩, fun hh => absurd (of_decide_eq_false hh) (by omega)⟩
    have k97 : Kp No H' H97 := (Kp.refl _ _).push' e97
    have y97 : Row H97 H'.size 80 (leafF.f ⟨0, 0, 0, false, zeroV⟩) := Row.new' e97
    refine ⟨y97.mayw (by simp [leafF]), fun H99 e99 => ?_⟩
    have y99 : Row H99 H'.size 80 (leafF.f l) := y97.fill' e99 rfl
    have k99 : Kp No H' H99 := k97.box ((Kp.refl _ _).sets' e99 (.inl rfl)) (Nat.le_refl _)
    have kk := k.no2 k99
    have h99 := hh.no k99
    have nextI : ∀ st' H', WoH H' w g gs m ⟨W.G, st'.1, st'.2⟩ → wput S W.G (L.drop (i + 1)) st' = wput S W.G L ([], 0) → Kp No H0 H' → F46_7 Q X (some ⟨p, 0, none⟩) ⟨w, 0, none⟩ sl (sl.n : Int) i H' := fun st' H' h1 h2 h3 => by
      unfold F46_7
      rw [wr (by omega) (by omega), show ((i : Int) + 1) = ((i + 1 : Nat) : Int) by omega]
      exact ih (i + 1) st' H' (by omega) h1 h2 h3
    have hli := hi l hm
    have sk := kk.size
    have mw := hN.w
    have mg := hN.g
    have mm := hN.m
    refine ⟨_, rowc (i := 3) y99 rfl, fun ht => ?_, fun ht => ⟨_, rowc (i := 1) y99 rfl, c44 (hs0.no kk) hli ⟨fun hk1 => ?_, fun hk1 => ?_⟩⟩⟩
    · rw [wput, if_pos (.inl ht)] at h4
      exact nextI st H99 h99 h4 kk
    · rw [wput, if_pos (.inr (of_decide_eq_true hk1))] at h4
      exact nextI st H99 h99 h4 kk
    · have ht : l.two = false := ht
      rw [wput, if_neg (fun h => h.elim (fun h => by rw [ht] at h; cases h) (of_decide_eq_false hk1))] at h4
      refine ⟨_, h99.row.cell_of (i := 0) rfl, _, rowc (i := 1) y99 rfl, c48 h99.gh (by show l.a < W.G.length; omega) ⟨_, rowc (i := 1) h99.row rfl, st.1, st.2, MapK.of h99.mp, fun H124 e124 => ?_⟩⟩
      have k124 : Kp No H99 H124 := (Kp.refl _ _).push' e124
      have b124 : Row H124 H99.size 25 zeroV.row := Row.new' e124
      refine ⟨b124.mayw (by simp), fun H126 e126 => ?_⟩
      have b126 : Row H126 H99.size 25 (ofT ((mget st.1 (root W.G l.a : Int)).getD (0, 0, E, false))).row := b124.fill' e126 rfl
      have k126 : Kp No H99 H126 := k124.box ((Kp.refl _ _).sets' e126 (.inl rfl)) (Nat.le_refl _)
      have h126 := h99.no k126
      have y126 := k126.row y99 id
      have kA := kk.no2 k126
      have go : ∀ bad, ((mget st.1 (root W.G l.a : Int)).isSome && !(sameT ((mget st.1 (root W.G l.a : Int)).getD (0, 0, E, false)) (vtT l.v))) = bad → F46_8 Q X (some ⟨p, 0, none⟩) ⟨w, 0, none⟩ ⟨H'.size, 0, none⟩ (root W.G l.a : Int) sl (sl.n : Int) i bad H126 := fun bad hbad => by
        refine ⟨fun hb => ?_, fun hb => ⟨_, rowc (i := 1) h126.row rfl, _, _, _, _, rowcs (i := 4) (m := l.v.row) y126 rfl, m, st.1, st.2, rfl, MapK.of h126.mp, fun H157 e157 => ?_⟩⟩
        · rw [if_pos (hbad.trans hb)] at h4
          exact hF h4.symm H126 kA
        · rw [if_neg (by rw [hbad, hb]; decide)] at h4
          have km : Kp (fun x => x = m) H126 H157 := Kp.seto' (Kp.refl _ _) e157 (.inl rfl)
          refine nextI (mput st.1 st.2 (root W.G l.a : Int) (vtT l.v)) H157 ⟨km.row h126.row (fun e => h126.mp.ne h126.row e.symm), h126.gh.kp km (fun e => h126.mp.ne h126.gh.row e.symm) (fun b hb e => by
            subst e
            obtain ⟨sp, r⟩ := h126.gh.l.row hb
            exact h126.mp.ne r rfl), mapAt.put h126.mp.lt e157⟩ h4 (kA.trans km fun b e => .inr (by omega))
      refine ⟨fun hsm => ⟨_, _, _, _, b126.all, _, _, _, _, rowcs (i := 4) (m := l.v.row) y126 rfl, go _ ?_⟩, fun hsm => go _ ?_⟩
      · rw [hsm]; rfl
      · rw [hsm]; rfl
theorem c46_L2 {sl : Sl} {L : List Leaf} (hs0 : SyH H0 p S) (hl0 : RdL leafF H0 sl L) (hL : L.length ≤ 100000) (hi : ∀ l ∈ L, l.a < S.refs.length ∧ (l.two = true → l.b < S.refs.length)) (h : WoH H w g gs m W) (hW : W.G.length = S.refs.length) (hN : WoN H0.size w g gs m) (hk : Kp No H0 H)
    (hQ : ∀ H', WoH H' w g gs m ⟨L.foldl (wtie S) W.G, W.M, W.c⟩ → Kp No H0 H' → F46_1 Q (some ⟨p, 0, none⟩) sl ⟨w, 0, none⟩ H') :
    F46_L2 Q (some ⟨p, 0, none⟩) sl ⟨w, 0, none⟩ sl (sl.n : Int) 0 H := by
  have hn := hl0.n
  intro X hX
  suffices ∀ d i H', i + d = L.length → WoH H' w g gs m ⟨(L.take i).foldl (wtie S) W.G, W.M, W.c⟩ → Kp No H0 H' → X i H' from this _ 0 H (Nat.zero_add _) h hk
  intro d
  induction d with
  | zero =>
    intro i H' hi' hh k
    refine hX _ _ ⟨fun hh => absurd (of_decide_eq_true hh) (by omega), fun _ => ?_⟩
    rw [List.take_of_length_le (by omega)] at hh
    exact hQ H' hh k
  | succ d ih =>
    intro i H' hi' hh k
    obtain ⟨l, gl⟩ : ∃ l, L[i]? = some l := ⟨_, List.getElem?_eq_getElem (by omega)⟩
    have hm := List.mem_of_getElem? gl
    have htk := take_snoc gl
    obtain ⟨a, ea, han, ca⟩ := (hl0.kp0 k).get gl
    have en : ((i : Nat) : Int).toNat = i := by omega
    obtain ⟨i1, i2⟩ := hi l hm
    refine hX _ _ ⟨fun _ => ⟨a, ea, by omega, by omega, _, _, _, _, _, _, _, _, by rw [en]; exact ca, fun H97 e97 => ?_⟩, fun hh => absurd (of_decide_eq_false hh) (by omega)⟩
    have k97 : Kp No H' H97 := (Kp.refl _ _).push' e97
    have y97 : Row H97 H'.size 80 (leafF.f ⟨0, 0, 0, false, zeroV⟩) := Row.new' e97
    refine ⟨y97.mayw (by simp [leafF]), fun H99 e99 => ?_⟩
    have y99 : Row H99 H'.size 80 (leafF.f l) := y97.fill' e99 rfl
    have k99 : Kp No H' H99 := k97.box ((Kp.refl _ _).sets' e99 (.inl rfl)) (Nat.le_refl _)
    have kk := k.no2 k99
    have h99 := hh.no k99
    have hlen := wfold_len S (L.take i) W.G
    have next : ∀ G' H', (L.take (i + 1)).foldl (wtie S) W.G = G' → WoH H' w g gs m ⟨G', W.M, W.c⟩ → Kp No H0 H' → F46_3 Q X (some ⟨p, 0, none⟩) sl ⟨w, 0, none⟩ sl (sl.n : Int) i H' := fun G' H' e h1 h3 => by
      unfold F46_3
      rw [wr (by omega) (by omega), show ((i : Int) + 1) = ((i + 1 : Nat) : Int) by omega]
      exact ih (i + 1) H' (by omega) (by rw [e]; exact h1) h3
    have eG : (L.take (i + 1)).foldl (wtie S) W.G = wtie S ((L.take i).foldl (wtie S) W.G) l := by rw [htk, List.foldl_append]; rfl
    have no : l.two = false ∨ kindP S l.a = 1 → F46_4 Q X (some ⟨p, 0, none⟩) sl ⟨w, 0, none⟩ ⟨H'.size, 0, none⟩ sl (sl.n : Int) i false H99 := fun hc => ⟨fun h => (by cases h), fun _ => next _ H99 (by
      rw [eG, wtie, if_neg]
      rintro ⟨h1, h2⟩
      rcases hc with h | h
      · rw [h] at h1; cases h1
      · exact h2 h) h99 kk⟩
    refine ⟨_, rowc (i := 3) y99 rfl, fun ht => ⟨_, rowc (i := 1) y99 rfl, c44 (hs0.no kk) i1 ?_⟩, fun ht => no (.inl ht)⟩
    by_cases h1 : kindP S l.a = 1
    · rw [show decide (kindP S l.a ≠ 1) = false from decide_eq_false (fun h => h h1)]
      exact no (.inr h1)
    · rw [show decide (kindP S l.a ≠ 1) = true from decide_eq_true h1]
      have mg := hN.g
      refine ⟨fun _ => ⟨_, h99.row.cell_of (i := 0) rfl, _, rowc (i := 1) y99 rfl, _, rowc (i := 2) y99 rfl, c57 h99.gh (by show l.a < ((L.take i).foldl (wtie S) W.G).length; omega) (by have := i2 ht; show l.b < ((L.take i).foldl (wtie S) W.G).length; omega) fun H2 g2 k2 => ?_⟩, fun h => (by cases h)⟩
      refine next (tieP ((L.take i).foldl (wtie S) W.G) l.a l.b) H2 (by rw [eG, wtie, if_pos ⟨ht, h1⟩]) ⟨k2.row h99.row (h99.gh.l.ne h99.row (by decide)), g2, h99.mp.kp k2 fun hb => ?_⟩ (kk.trans k2 fun b hb => .inr (hN.s b hb))
      obtain ⟨sp, r⟩ := h99.gh.l.row hb
      exact h99.mp.ne r rfl
theorem c46 {sl : Sl} {L : List Leaf} (hs : SyH H p S) (hl : RdL leafF H sl L) (hL : L.length ≤ 100000) (hi : ∀ l ∈ L, l.a < S.refs.length ∧ (l.two = true → l.b < S.refs.length))
    (hF : wordsP S L = none → ∀ H', Kp No H H' → Q none false H') (hQ : ∀ W w g gs m H', wordsP S L = some W → WoH H' w g gs m W → WoN H.size w g gs m → Kp No H H' → Q (some ⟨w, 0, none⟩) true H') : F46 (some ⟨p, 0, none⟩) sl H Q := by
  obtain ⟨rs, cs, ks, gs0, g0, R, W0, h1, h2, h3, h4, h5, h6, h7, h8, h9, h10, h11⟩ := hs.ex
  have hrn := h2.n
  have hR : R.length = S.refs.length := by rw [← h3, List.length_map]
  unfold wordsP at hF hQ
  refine ⟨_, rfl, rs, h1.cell_of (i := 0) rfl, ?_⟩
  rw [hrn, hR]
  refine c56 h11 fun g gs H5 g5 hg hgs k5 H8 e8 H10 e10 => ?_
  have k8 : Kp No H5 H8 := (Kp.refl _ _).push' e8
  have k10 : Kp No H8 H10 := (Kp.refl _ _).push' e10
  have s5 := k5.size
  have s8 := size_push' e8
  have r10 : Row H10 H8.size 108 [.pointer (some ⟨g, 0, none⟩), .map (some H5.size)] := Row.new' e10
  have m8 : mapAt mk3 mv25 H8 (some H5.size) [] 0 := mapAt.new e8
  have w10 : WoH H10 H8.size g gs H5.size ⟨List.range S.refs.length, [], 0⟩ := ⟨r10, g5.no (k8.no2 k10), m8.kp k10 id⟩
  have hN : WoN H.size H8.size g gs H5.size := ⟨by omega, hg, hgs, s5⟩
  have kk := k5.no2 (k8.no2 k10)
  refine c46_L2 hs hl hL hi w10 List.length_range hN kk fun H1 w1 k1 => ?_
  refine c46_L6 (hs.no k1) (hl.kp0 k1) hL (fun l hl => (hi l hl).1) w1 (by show (L.foldl (wtie S) _).length = _; rw [wfold_len, List.length_range]) hN k1 hs hl rfl rfl (fun hn H' k' => hF (by rw [hn]) H' k') fun st H' hst w' k' => hQ _ _ g gs _ H' (by rw [hst]) w' hN k'
end
end Go.Hw
