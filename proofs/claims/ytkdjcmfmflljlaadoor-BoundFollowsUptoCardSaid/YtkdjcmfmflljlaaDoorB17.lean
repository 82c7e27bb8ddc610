/- A system solved. Own work of this session. -/
import Derived.Test.YtkdjcmfmflljlaaDoorB16
set_option linter.unusedVariables false
namespace Go.Hw
open Go

def nstep (S : Sys) (N : Nu) (l : Leaf) : Nu := if kindP S l.a = 1 then takeP N l else N
def num0 (n : Nat) : Nu := ⟨List.replicate n minI, List.replicate n maxI, [], false⟩
def numP (S : Sys) (L : List Leaf) : Nu := L.foldl (nstep S) (num0 S.refs.length)
def solveP (S : Sys) (L : List Leaf) : Option (Nu × Wo) :=
  match wordsP S L with
  | none => none
  | some W => match settledP (numP S L) with | none => none | some N => some (N, W)
def valueP (S : Sys) (N : Nu) (W : Wo) (i : Nat) : VT :=
  if kindP S i = 1 then numV (N.least.getD i 0) else match mget W.M (root W.G i : Int) with | some v => ofT v | none => ⟨kindP S i, 0, E, false⟩
def valuesP (S : Sys) (N : Nu) (W : Wo) (n : Nat) : List VT := (List.range n).map (valueP S N W)
theorem nstep_len (S : Sys) (N : Nu) (l : Leaf) : (nstep S N l).least.length = N.least.length ∧ (nstep S N l).most.length = N.most.length ∧ (nstep S N l).order.length ≤ N.order.length + 2 := by
  unfold nstep
  split
  · exact take_len N l
  · exact ⟨rfl, rfl, Nat.le_add_right _ _⟩
theorem nfold_len (S : Sys) : ∀ (L : List Leaf) (N : Nu), (L.foldl (nstep S) N).least.length = N.least.length ∧ (L.foldl (nstep S) N).most.length = N.most.length ∧ (L.foldl (nstep S) N).order.length ≤ N.order.length + 2 * L.length
  | [], _ => ⟨rfl, rfl, Nat.le_refl _⟩
  | l :: L, N => by
    obtain ⟨h1, h2, h3⟩ := nstep_len S N l
    obtain ⟨g1, g2, g3⟩ := nfold_len S L (nstep S N l)
    rw [List.foldl_cons]
    exact ⟨g1.trans h1, g2.trans h2, by rw [List.length_cons]; omega⟩
theorem AbOk.above {n : Nat} {l : Leaf} (h1 : l.a < n) (h2 : l.two = true → l.b < n) (ht : l.two = true) : AbOk n (aboveP l) := by
  have hb := h2 ht
  unfold aboveP
  intro x hx
  repeat' split at hx
  all_goals simp only [List.mem_cons, List.not_mem_nil, or_false] at hx
  · subst hx; exact ⟨h1, hb, .inr rfl⟩
  · subst hx; exact ⟨hb, h1, .inr rfl⟩
  · subst hx; exact ⟨h1, hb, .inl rfl⟩
  · subst hx; exact ⟨hb, h1, .inl rfl⟩
  · rcases hx with rfl | rfl
    · exact ⟨h1, hb, .inl rfl⟩
    · exact ⟨hb, h1, .inl rfl⟩
theorem bound_order (N : Nu) (l : Leaf) : (boundP N l).order = N.order := by
  unfold boundP
  repeat' split
  · exact (raise_len _ _ _).2.2.1
  · rfl
  · exact (raise_len _ _ _).2.2.1
  · rfl
  · exact (raise_len _ _ _).2.2.1
  · rfl
theorem AbOk.nstep {S : Sys} {N : Nu} {l : Leaf} {n : Nat} (h : AbOk n N.order) (h1 : l.a < n) (h2 : l.two = true → l.b < n) : AbOk n (nstep S N l).order := by
  unfold Hw.nstep
  split
  · unfold takeP
    split
    · intro x hx
      rcases List.mem_append.1 hx with hx | hx
      · exact h x hx
      · exact AbOk.above h1 h2 (by assumption) x hx
    · rw [bound_order]; exact h
  · exact h
theorem AbOk.fold {S : Sys} {n : Nat} : ∀ {L : List Leaf} {N : Nu}, AbOk n N.order → (∀ l ∈ L, l.a < n ∧ (l.two = true → l.b < n)) → AbOk n (L.foldl (Hw.nstep S) N).order
  | [], _, h, _ => h
  | l :: L, N, h, hl => by
    rw [List.foldl_cons]
    exact AbOk.fold (h.nstep (hl l (List.mem_cons_self ..)).1 (hl l (List.mem_cons_self ..)).2) fun x hx => hl x (List.mem_cons_of_mem _ hx)

abbrev QV := Sl → Option Addr → Bool → Hp → Prop
section
variable {H H0 H' : Hp} {p nb rb : Nat} {S : Sys} {Q : QV} {ls ms os sl : Sl} {N : Nu} {L : List Leaf}
/-- What stands while a system is solved. -/
structure So (H0 H : Hp) (p nb rb : Nat) (ls ms os : Sl) (N : Nu) : Prop where
  n : NuH H nb ls ms os N
  r : ∃ x y, Row H rb 74 [Sl.v x, .pointer y]
  k : Kp No H0 H
  b1 : H0.size ≤ nb
  b2 : H0.size ≤ rb
  b3 : ∀ b, ls.at b → H0.size ≤ b
  b4 : ∀ b, ms.at b → H0.size ≤ b
  b5 : ∀ b, os.at b → H0.size ≤ b
theorem So.no (h : So H0 H p nb rb ls ms os N) (k : Kp No H H') : So H0 H' p nb rb ls ms os N :=
  ⟨h.n.no k, by obtain ⟨x, y, r⟩ := h.r; exact ⟨x, y, k.row r id⟩, h.k.no2 k, h.b1, h.b2, h.b3, h.b4, h.b5⟩

theorem c26_7 {x : Sl} {y z : Option Addr} {v : Sl} {i : Nat} (r : Row H i 74 [Sl.v x, .pointer y]) (hQ : ∀ H', Kp (fun b => b = i) H H' → Q v z true H') : F26_7 Q ⟨i, 0, none⟩ z v H := by
  refine ⟨r.mayw (by simp), fun H' e => ?_⟩
  have r' : Row H' i 74 [Sl.v v, .pointer z] := r.fill' e rfl
  exact ⟨_, _, r'.all, hQ H' ((Kp.refl _ _).sets' e (.inl rfl))⟩

theorem c26_10 {X8 : Sl → Int → Hp → Prop} {v : VT} {vb : Nat} {vs : Sl} {V : List VT} {i : Nat} {a1 a2 : Addr} {z1 z2 : Option Addr} {n : Int} (x : Row H vb 25 v.row) (hv : Lst vF H vs V) (hV : V.length ≤ 100000) (hi : i ≤ 100000)
    (hQ : ∀ vs' H', Lst vF H' vs' (V ++ [v]) → Kp vs.at H H' → (∀ b, vs'.at b → vs.at b ∨ H.size ≤ b) → X8 vs' (i + 1 : Nat) H') : F26_10 Q X8 z1 a1 a2 z2 vs ⟨vb, 0, none⟩ n i H := by
  refine ⟨_, _, _, _, x.all, fun H218 e218 => ?_⟩
  have k218 : Kp No H H218 := (Kp.refl _ _).push' e218
  have b218 : Row H218 H.size 25 (vF.f v) := Row.new' e218
  have s218 := size_push' e218
  refine (hv.kp k218 fun _ _ => id).append1 b218 rfl (by omega) (by omega) fun r H' l k b => ?_
  rw [wr (by omega) (by omega), show ((i : Int) + 1) = ((i + 1 : Nat) : Int) by omega]
  exact hQ r H' l ((k218.mono fun _ _ h => h.elim).trans k fun b hb => .inl hb) fun b' hb => (b b' hb).imp_right fun h => by omega

theorem c26_8 {W : Wo} {w g m : Nat} {gs : Sl} (hs : SyH H0 p S) (h : So H0 H p nb rb ls ms os N) (hn : N.least.length = S.refs.length) (hw : WoH H w g gs m W) (hG : W.G.length = S.refs.length)
    (hQ : ∀ vs H', Lst vF H' vs (valuesP S N W S.refs.length) → (∀ b, vs.at b → H.size ≤ b) → Kp (fun b => b = rb) H H' → Q vs (some ⟨w, 0, none⟩) true H') :
    F26_6 Q (some ⟨p, 0, none⟩) ⟨rb, 0, none⟩ ⟨nb, 0, none⟩ (some ⟨w, 0, none⟩) false H := by
  obtain ⟨rs, cs, ks, gs0, g0, R, W0, h1, h2, h3, h4, h5, h6, h7, h8, h9, h10, h11⟩ := hs.ex
  have hrn := h2.n
  have hR : R.length = S.refs.length := by rw [← h3, List.length_map]
  refine ⟨fun h => (by cases h), fun _ => ⟨_, rfl, rs, (h.k.row h1 id).cell_of (i := 0) rfl, ?_⟩⟩
  intro X hX
  suffices ∀ d i vs H', i + d = S.refs.length → Lst vF H' vs (valuesP S N W i) → (∀ b, vs.at b → H.size ≤ b) → Kp No H H' → X vs i H' from this _ 0 Sl.nil H (Nat.zero_add _) (Lst.nil _ _) (fun b hb => by cases hb) (Kp.refl _ _)
  intro d
  induction d with
  | zero =>
    intro i vs H' hi hv hb k
    refine hX _ _ _ ⟨fun hh => absurd (of_decide_eq_true hh) (by omega), fun _ => ?_⟩
    obtain ⟨x, y, r⟩ := (h.no k).r
    have e : i = S.refs.length := by omega
    subst e
    have hrb := h.r
    obtain ⟨_, _, r0⟩ := hrb
    refine c26_7 r fun H2 k2 => hQ vs H2 (hv.kp k2 fun b hb' e => ?_) hb ((k.mono fun _ _ h => h.elim).trans k2 fun _ h => .inl h)
    have := hb b hb'; have := r0.lt; omega
  | succ d ih =>
    intro i vs H' hi hv hb k
    have hw' := hw.no k
    have h' := h.no k
    have hvl : (valuesP S N W i).length = i := by simp [valuesP]
    have eV : valuesP S N W (i + 1) = valuesP S N W i ++ [valueP S N W i] := by simp [valuesP, List.range_succ]
    -- the value, in a box of its own
    have fin : ∀ (vb : Nat) (H2 : Hp), Kp No H' H2 → H'.size ≤ vb → Row H2 vb 25 (ofT ((mget W.M (root W.G i : Int)).getD (0, 0, E, false))).row →
        F26_9 Q X (some ⟨p, 0, none⟩) ⟨rb, 0, none⟩ ⟨nb, 0, none⟩ (some ⟨w, 0, none⟩) vs i (rs.n : Int) i ⟨vb, 0, none⟩ ((mget W.M (root W.G i : Int)).isSome) H2 := fun vb H2 k2 hvb x => by
      have kk := k.no2 k2
      have h2 := h'.no k2
      have hv2 := hv.kp k2 fun _ _ => id
      have last : ∀ (v : VT) (H3 : Hp), v = valueP S N W i → Row H3 vb 25 v.row → Kp (fun b => b = vb) H2 H3 → F26_10 Q X (some ⟨p, 0, none⟩) ⟨rb, 0, none⟩ ⟨nb, 0, none⟩ (some ⟨w, 0, none⟩) vs ⟨vb, 0, none⟩ (rs.n : Int) i H3 := fun v H3 ev x3 k3 => by
        have s1 := k2.size
        have hv3 := hv2.kp k3 fun b hb' e => by subst e; have := hv.lt hb'; omega
        refine c26_10 x3 hv3 (by omega) (by omega) fun vs' H4 l4 k4 b4 => ?_
        rw [ev, ← eV] at l4
        have s0 := k.size
        have s3 := k3.size
        refine ih (i + 1) vs' H4 (by omega) l4 (fun b hb' => ?_) ((kk.trans k3 fun b e => .inr (by omega)).trans k4 fun b hb' => .inr (hb b hb'))
        rcases b4 b hb' with h | h
        · exact hb b h
        · omega
      refine c44 (hs.no h2.k) (by omega) ⟨fun hk => ?_, fun hk => ?_⟩
      · have gl : N.least[i]? = some (N.least.getD i 0) := by rw [List.getD_eq_getElem?_getD, List.getElem?_eq_getElem (by omega)]; rfl
        obtain ⟨a, ea, han, ca⟩ := h2.n.l.rd.get gl
        have en : ((i : Nat) : Int).toNat = i := by omega
        refine ⟨ls, h2.n.row.cell_of (i := 0) rfl, a, ea, by omega, by omega, _, by rw [en]; exact ca.1, c49 fun H197 k197 => ?_⟩
        have x197 := k197.row x id
        refine ⟨x197.mayw (by simp), fun H203 e203 => ?_⟩
        have x203 : Row H203 vb 25 (numV (N.least.getD i 0)).row := x197.fill' e203 rfl
        have k203 : Kp (fun b => b = vb) H197 H203 := (Kp.refl _ _).sets' e203 (.inl rfl)
        refine last _ H203 (by rw [valueP, if_pos (of_decide_eq_true hk)]) x203 ?_
        exact (k197.mono fun _ _ h => h.elim).trans k203 fun b hb => .inl hb
      · refine ⟨fun hn => c44 (hs.no h2.k) (by omega) ⟨x.mayw (by simp), fun H210 e210 => ?_⟩, fun hn => last _ H2 ?_ x (Kp.refl _ _)⟩
        · have x210 : Row H210 vb 25 (⟨kindP S i, 0, E, false⟩ : VT).row := x.fill' e210 rfl
          have hn : mget W.M (root W.G i : Int) = none := by simpa using hn
          exact last _ H210 (by rw [valueP, if_neg (of_decide_eq_false hk), hn]) x210 ((Kp.refl _ _).sets' e210 (.inl rfl))
        · have hn : (mget W.M (root W.G i : Int)).isSome = true := by simpa using hn
          obtain ⟨v, hv⟩ := Option.isSome_iff_exists.1 hn
          rw [valueP, if_neg (of_decide_eq_false hk), hv]
          rfl
    refine hX _ _ _ ⟨fun _ => ⟨_, rfl, _, rowc (i := 1) hw'.row rfl, _, rfl, _, hw'.row.cell_of (i := 0) rfl, c48 hw'.gh (by omega) ?_, ?_⟩, fun hh => absurd (of_decide_eq_false hh) (by omega)⟩
    · refine ⟨rowc (i := 1) hw'.row rfl, _, _, MapK.of hw'.mp, fun H154 e154 => ?_⟩
      have k154 : Kp No H' H154 := (Kp.refl _ _).push' e154
      have b154 : Row H154 H'.size 25 zeroV.row := Row.new' e154
      have w2 := hw'.no k154
      refine ⟨MapK.of w2.mp, rowc (i := 1) w2.row rfl, b154.mayw (by simp), fun H158 e158 => ?_⟩
      have b158 : Row H158 H'.size 25 (ofT ((mget W.M (root W.G i : Int)).getD (0, 0, E, false))).row := b154.fill' e158 rfl
      exact fin H'.size H158 (k154.box ((Kp.refl _ _).sets' e158 (.inl rfl)) (Nat.le_refl _)) (Nat.le_refl _) b158
    · intro H163 e163
      have k163 : Kp No H' H163 := (Kp.refl _ _).push' e163
      have b163 : Row H163 H'.size 25 zeroV.row := Row.new' e163
      have w2 := hw'.no k163
      refine ⟨w2.row.cell_of (i := 0) rfl, rowc (i := 1) w2.row rfl, c48 w2.gh (by omega) ⟨rowc (i := 1) w2.row rfl, _, _, MapK.of w2.mp, b163.mayw (by simp), fun H174 e174 => ?_⟩⟩
      have b174 : Row H174 H'.size 25 (ofT ((mget W.M (root W.G i : Int)).getD (0, 0, E, false))).row := b163.fill' e174 rfl
      exact fin H'.size H174 (k163.box ((Kp.refl _ _).sets' e174 (.inl rfl)) (Nat.le_refl _)) (Nat.le_refl _) b174
theorem c26_L4 (hs : SyH H0 p S) (hl : RdL leafF H0 sl L) (hL : L.length ≤ 100000) (hi : ∀ l ∈ L, l.a < S.refs.length ∧ (l.two = true → l.b < S.refs.length)) (h : So H0 H p nb rb ls ms os N) (hn : N.least.length = S.refs.length) (hm : N.most.length = S.refs.length) (ho : N.order = [])
    (hQ : ∀ H' os', So H0 H' p nb rb ls ms os' (L.foldl (nstep S) N) → F26_3 Q (some ⟨p, 0, none⟩) sl ⟨rb, 0, none⟩ ⟨nb, 0, none⟩ H') :
    F26_L4 Q (some ⟨p, 0, none⟩) sl ⟨rb, 0, none⟩ ⟨nb, 0, none⟩ sl (sl.n : Int) 0 H := by
  have hln := hl.n
  intro X hX
  suffices ∀ d i os H', i + d = L.length → So H0 H' p nb rb ls ms os ((L.take i).foldl (nstep S) N) → X i H' from this _ 0 os H (Nat.zero_add _) h
  intro d
  induction d with
  | zero =>
    intro i os H' hi' hh
    refine hX _ _ ⟨fun hh => absurd (of_decide_eq_true hh) (by omega), fun _ => ?_⟩
    rw [List.take_of_length_le (by omega)] at hh
    exact hQ H' os hh
  | succ d ih =>
    intro i os H' hi' hh
    obtain ⟨l, gl⟩ : ∃ l, L[i]? = some l := ⟨_, List.getElem?_eq_getElem (by omega)⟩
    have hm' := List.mem_of_getElem? gl
    have htk := take_snoc gl
    obtain ⟨a, ea, han, ca⟩ := (hl.kp0 hh.k).get gl
    have en : ((i : Nat) : Int).toNat = i := by omega
    obtain ⟨i1, i2⟩ := hi l hm'
    refine hX _ _ ⟨fun _ => ⟨a, ea, by omega, by omega, _, _, _, _, _, _, _, _, by rw [en]; exact ca, fun H97 e97 => ?_⟩, fun hh => absurd (of_decide_eq_false hh) (by omega)⟩
    have k97 : Kp No H' H97 := (Kp.refl _ _).push' e97
    have y97 : Row H97 H'.size 80 (leafF.f ⟨0, 0, 0, false, zeroV⟩) := Row.new' e97
    refine ⟨y97.mayw (by simp [leafF]), fun H99 e99 => ?_⟩
    have y99 : Row H99 H'.size 80 (leafF.f l) := y97.fill' e99 rfl
    have k99 : Kp No H' H99 := k97.box ((Kp.refl _ _).sets' e99 (.inl rfl)) (Nat.le_refl _)
    have h99 := hh.no k99
    obtain ⟨g1, g2, g3⟩ := nfold_len S (L.take i) N
    rw [ho, List.length_nil, List.length_take] at g3
    have eN : (L.take (i + 1)).foldl (nstep S) N = nstep S ((L.take i).foldl (nstep S) N) l := by rw [htk, List.foldl_append]; rfl
    have next : ∀ os' H', So H0 H' p nb rb ls ms os' (nstep S ((L.take i).foldl (nstep S) N) l) → F26_5 Q X (some ⟨p, 0, none⟩) sl ⟨rb, 0, none⟩ ⟨nb, 0, none⟩ sl (sl.n : Int) i H' := fun os' H' h1 => by
      unfold F26_5
      rw [wr (by omega) (by omega), show ((i : Int) + 1) = ((i + 1 : Nat) : Int) by omega]
      exact ih (i + 1) os' H' (by omega) (by rw [eN]; exact h1)
    refine ⟨_, rowc (i := 1) y99 rfl, c44 (hs.no h99.k) i1 ⟨fun hk => ⟨_, _, _, _, _, _, _, _, y99.all, c45 h99.n (by omega) (by omega) (by omega) fun H2 os' n2 k2 b2 => ?_⟩, fun hk => ?_⟩⟩
    · obtain ⟨x, y, r⟩ := h99.r
      refine next os' H2 ⟨by rw [nstep, if_pos (of_decide_eq_true hk)]; exact n2, ⟨x, y, k2.row r ?_⟩, h99.k.trans k2 fun b hb => .inr ?_, h99.b1, h99.b2, h99.b3, h99.b4, fun b hb => ?_⟩
      · rintro ((e | e | e) | e)
        · exact h99.n.row.ne_type r (by decide) e.symm
        · exact h99.n.l.ne r (by decide) e
        · exact h99.n.m.ne r (by decide) e
        · exact h99.n.o.ne r (by decide) e
      · rcases hb with (e | e | e) | e
        · rw [e]; exact h99.b1
        · exact h99.b3 b e
        · exact h99.b4 b e
        · exact h99.b5 b e
      · rcases b2 b hb with e | e
        · exact h99.b5 b e
        · have := h99.k.size; omega
    · refine next os H99 ?_
      rw [nstep, if_neg (of_decide_eq_false hk)]; exact h99
theorem c26 (hs : SyH H p S) (hl : RdL leafF H sl L) (hL : L.length ≤ 100000) (hi : ∀ l ∈ L, l.a < S.refs.length ∧ (l.two = true → l.b < S.refs.length))
    (hF : solveP S L = none → ∀ vs z H', Kp No H H' → Q vs z false H') (hQ : ∀ N W vs w g gs m H', solveP S L = some (N, W) → Lst vF H' vs (valuesP S N W S.refs.length) → WoH H' w g gs m W → Kp No H H' → Q vs (some ⟨w, 0, none⟩) true H') :
    F26 (some ⟨p, 0, none⟩) sl H Q := by
  obtain ⟨rs, cs, ks, gs0, g0, R, W0, h1, h2, h3, h4, h5, h6, h7, h8, h9, h10, h11⟩ := hs.ex
  have hrn := h2.n
  have hR : R.length = S.refs.length := by rw [← h3, List.length_map]
  intro H1 e1 H3 e3
  have k1 : Kp No H H1 := (Kp.refl _ _).push' e1
  have k3 : Kp No H H3 := k1.push' e3
  have s1 := size_push' e1
  have s3 := size_push' e3
  have rb : Row H3 H.size 74 [Sl.v Sl.nil, .pointer none] := (Row.new' e1).push' e3
  have nb : Row H3 H1.size 101 [Sl.v Sl.nil, Sl.v Sl.nil, Sl.v Sl.nil, .bool false] := Row.new' e3
  refine ⟨_, rfl, rs, (k3.row h1 id).cell_of (i := 0) rfl, ?_⟩
  intro X hX
  suffices ∀ d i ls ms H', i + d = S.refs.length → So H H' p H1.size H.size ls ms Sl.nil (num0 i) → X i H' from this _ 0 Sl.nil Sl.nil H3 (Nat.zero_add _) ⟨⟨nb, Lst.nil _ _, Lst.nil _ _, Lst.nil _ _, fun b hb => by cases hb⟩, ⟨_, _, rb⟩, k3, by omega, Nat.le_refl _, (fun b hb => by cases hb), (fun b hb => by cases hb), fun b hb => by cases hb⟩
  intro d
  induction d with
  | zero =>
    intro i ls ms H' hi' h
    refine hX _ _ ⟨fun hh => absurd (of_decide_eq_true hh) (by omega), fun _ => ?_⟩
    have e : i = S.refs.length := by omega
    subst e
    refine c26_L4 hs hl hL hi h (by simp [num0]) (by simp [num0]) rfl fun H2 os2 h2 => ?_
    obtain ⟨f1, f2, f3⟩ := nfold_len S L (num0 S.refs.length)
    have f3 : (numP S L).order.length ≤ 2 * L.length := by have : (num0 S.refs.length).order.length = 0 := rfl; unfold numP; omega
    have f1 : (numP S L).least.length = S.refs.length := f1.trans (by simp [num0])
    have f2 : (numP S L).most.length = S.refs.length := f2.trans (by simp [num0])
    have fO : AbOk S.refs.length (numP S L).order := AbOk.fold (N := num0 S.refs.length) (fun x hx => by cases hx) hi
    have h2 : So H H2 p H1.size H.size ls ms os2 (numP S L) := h2
    have fail : ∀ z H', So H H' p H1.size H.size ls ms os2 (numP S L) ∨ (∃ x y, Row H' H.size 74 [Sl.v x, .pointer y] ∧ Kp No H H') → solveP S L = none → F26_6 Q (some ⟨p, 0, none⟩) ⟨H.size, 0, none⟩ ⟨H1.size, 0, none⟩ z true H' := fun z H' hh hno => by
      obtain ⟨x, y, r, k⟩ : ∃ x y, Row H' H.size 74 [Sl.v x, .pointer y] ∧ Kp No H H' := by
        rcases hh with hh | hh
        · obtain ⟨x, y, r⟩ := hh.r; exact ⟨x, y, r, hh.k⟩
        · exact hh
      refine ⟨fun _ => ⟨r.mayw (by simp), fun H111 e111 => ?_⟩, fun h => (by cases h)⟩
      have r' : Row H111 H.size 74 [Sl.v Sl.nil, .pointer none] := r.fill' e111 rfl
      exact ⟨_, _, r'.all, hF hno _ _ _ (k.box ((Kp.refl _ _).sets' e111 (.inl rfl)) (Nat.le_refl _))⟩
    refine c46 (hs.no h2.k) (hl.kp0 h2.k) hL hi (fun hno H' k' => ⟨fun _ => fail _ H' (.inl (h2.no k')) (by rw [solveP, hno]), fun h => (by cases h)⟩) fun W w g gs m H' hW hw hN k' => ⟨fun h => (by cases h), fun _ => ?_⟩
    have h3 := h2.no k'
    refine c47 h3.n (by rw [f1, f2]) (by rw [f1]; exact fO) (by omega) (by omega) (fun hno H4 k4 => ?_) fun N' H4 hN' n4 l4 k4 => ?_
    · obtain ⟨x, y, r⟩ := h3.r
      exact fail _ H4 (.inr ⟨x, y, k4.row r (h3.n.l.ne r (by decide)), h3.k.trans k4 fun b hb => .inr (h3.b3 b hb)⟩) (by rw [solveP, hW]; simp only; rw [hno])
    · obtain ⟨x, y, r⟩ := h3.r
      have lsl : ∀ {b}, ls.at b → b < H2.size := fun hb => h2.n.l.lt hb
      have hw4 : WoH H4 w g gs m W := hw.kp k4 (fun hb => by have := lsl hb; have := hN.w; omega) (fun hb => by have := lsl hb; have := hN.g; omega) (fun b hb hh => by have := lsl hh; have := hN.s b hb; omega) (fun hb => by have := lsl hb; have := hN.m; omega)
      have h4 : So H H4 p H1.size H.size ls ms os2 N' := ⟨n4, ⟨x, y, k4.row r (h3.n.l.ne r (by decide))⟩, h3.k.trans k4 fun b hb => .inr (h3.b3 b hb), h3.b1, h3.b2, h3.b3, h3.b4, h3.b5⟩
      have hGl : W.G.length = S.refs.length := by
        unfold wordsP at hW
        split at hW
        · cases hW
        · cases hW; exact (wfold_len _ _ _).trans List.length_range
      refine c26_8 hs h4 (by omega) hw4 hGl fun vs H5 lv bv k5 => hQ N' W vs w g gs m H5 (by rw [solveP, hW]; simp only; rw [hN']) lv (hw4.kp k5 (fun e => ?_) (fun e => ?_) (fun b hb e => ?_) fun e => ?_) (h4.k.trans k5 fun b e => .inr (by omega))
      · have := hN.w; have := h2.k.size; have := h2.n.row.lt; omega
      · have := hN.g; have := h2.n.row.lt; omega
      · have := hN.s b hb; have := h2.n.row.lt; omega
      · have := hN.m; have := h2.n.row.lt; omega
  | succ d ih =>
    intro i ls ms H' hi' h
    refine hX _ _ ⟨fun _ => ⟨ls, h.n.row.cell_of (i := 0) rfl, fun H22 e22 => ?_⟩, fun hh => absurd (of_decide_eq_false hh) (by omega)⟩
    have k22 : Kp No H' H22 := (Kp.refl _ _).push' e22
    have b22 : Row H22 H'.size 2 (jF.f minI) := Row.new' e22
    have h22 := h.no k22
    have s22 := size_push' e22
    have hlen : (num0 i).least.length = i := by simp [num0]
    have hlen2 : (num0 i).most.length = i := by simp [num0]
    have es : (num0 i).least ++ [minI] = (num0 (i + 1)).least := by simp [num0, List.replicate_succ']
    have es2 : (num0 i).most ++ [maxI] = (num0 (i + 1)).most := by simp [num0, List.replicate_succ']
    refine h22.n.l.append1 b22 rfl (by omega) (by omega) fun ls' H24 l24 k24 b24 => ?_
    have r24 := k24.row h22.n.row h22.n.nl
    have m24 := h22.n.m.kp k24 fun b hb hh => h22.n.d b hh hb
    have hls' : ∀ b, ls'.at b → H.size ≤ b := fun b hb => by
      rcases b24 b hb with e | e
      · exact h.b3 b e
      · have := h22.k.size; omega
    have hd : ∀ b, ls'.at b → ¬ ms.at b := fun b hb hh => by
      rcases b24 b hb with e | e
      · exact h.n.d b e hh
      · have := h22.n.m.lt hh; omega
    refine ⟨r24.some (by simp), r24.frz 0, fun H27 e27 => ?_⟩
    have k27 : Kp (fun x => x = H1.size) H24 H27 := (Kp.refl _ _).set' e27 (.inl rfl)
    have r27 := r24.set' (i := 0) e27
    have l27 := l24.kp k27 fun b hb e => by subst e; exact l24.ne r24 (by decide) hb
    have m27 := m24.kp k27 fun b hb e => by subst e; exact m24.ne r24 (by decide) hb
    obtain ⟨x, y, rr⟩ := h22.r
    have q24 := k24.row rr (h22.n.l.ne rr (by decide))
    have q27 := k27.row q24 (by omega)
    refine ⟨ms, rowc (i := 1) r27 rfl, fun H33 e33 => ?_⟩
    have k33 : Kp No H27 H33 := (Kp.refl _ _).push' e33
    have b33 : Row H33 H27.size 2 (jF.f maxI) := Row.new' e33
    have s33 := size_push' e33
    have m33 := m27.kp k33 fun _ _ => id
    have l33 := l27.kp k33 fun _ _ => id
    have s24 := k24.size
    have s27 := k27.size
    refine m33.append1 b33 rfl (by omega) (by omega) fun ms' H35 l35 k35 b35 => ?_
    have r35 := k35.row (k33.row r27 id) (m33.ne (k33.row r27 id) (by decide))
    have l35' := l33.kp k35 fun b hb hh => hd b hb hh
    refine ⟨by rw [add_mk]; exact r35.some (by simp), by rw [add_mk]; exact r35.frz _, fun H38 e38 => ?_⟩
    rw [add_mk] at e38
    have k38 : Kp (fun x => x = H1.size) H35 H38 := (Kp.refl _ _).set' e38 (.inl rfl)
    have r38 := r35.set' e38
    rw [wr (by omega) (by omega), show ((i : Int) + 1) = ((i + 1 : Nat) : Int) by omega]
    rw [es] at l35'
    rw [es2] at l35
    have hms' : ∀ b, ms'.at b → H.size ≤ b := fun b hb => by
      rcases b35 b hb with e | e
      · exact h.b4 b e
      · have := h22.k.size; omega
    refine ih (i + 1) ls' ms' H38 (by omega) ⟨⟨r38, l35'.kp k38 fun b hb e => by subst e; exact l35'.ne r35 (by decide) hb, l35.kp k38 fun b hb e => by subst e; exact l35.ne r35 (by decide) hb, Lst.nil _ _, fun b hb hh => ?_⟩, ⟨x, y, k38.row (k35.row (k33.row q27 id) (m33.ne (k33.row q27 id) (by decide))) (by omega)⟩, ?_, h.b1, h.b2, hls', hms', h.b5⟩
    · rcases b35 b hh with e | e
      · exact hd b hb e
      · have := l27.lt hb; omega
    · exact ((((h22.k.trans k24 fun b hb => .inr (h.b3 b hb)).trans k27 fun b e => .inr (by omega)).no2 k33).trans k35 fun b hb => .inr (h.b4 b hb)).trans k38 fun b e => .inr (by omega)
end
end Go.Hw
