/- Solve. Solve: the whole. Own work of this session. -/
import Derived.Test.YtkdjcmfmflljlaaDoorB17
set_option linter.unusedVariables false
namespace Go.Hw
open Go

def knF : Fmt (ER × VT) 51 14 := ⟨fun x => x.1.row Sl.nil ++ x.2.row, fun _ => rfl, by
  intro x v hv
  simp only [List.mem_append, List.mem_cons, List.not_mem_nil, or_false] at hv
  rcases hv with (rfl | rfl | rfl | rfl | rfl | rfl | rfl | rfl | rfl | rfl) | (rfl | rfl | rfl | rfl) <;> rfl, by decide⟩
abbrev TSt := List Int × List (ER × VT)
def tellP (S : Sys) (V : List VT) (st : TSt) (i : Nat) : TSt := if st.1.getD i 0 = 0 then (st.1.set i 1, st.2 ++ [(S.refs.getD i zeroE, V.getD i zeroV)]) else st
def tellL (S : Sys) (V : List VT) (st : TSt) (l : Leaf) : TSt := if l.two = true then tellP S V (tellP S V st l.a) l.b else tellP S V st l.a
def allP (S : Sys) : List Leaf := S.conds.flatMap fun c => c.1.filter (countsP S)
def toldP (S : Sys) (N : Nu) (W : Wo) : List (ER × VT) := ((allP S).foldl (tellL S (valuesP S N W S.refs.length)) (List.replicate S.refs.length 0, [])).2
def answerP (S : Sys) : Option (List (ER × VT)) :=
  if S.K.any oddP = true then none else
    match solveP S (allP S) with
    | none => none
    | some (N, W) => some (toldP S N W)
structure SysOk (S : Sys) : Prop where
  n : S.conds.length ≤ 45
  c : ∀ c ∈ S.conds, c.1.length ≤ 1000 ∧ ∀ l ∈ c.1, LfOk S.refs.length l
theorem readS_ok {conds : List (ER × Fo)} (h : CondsOk conds) : SysOk (readS conds) := by
  have hr := RsOk.start.fold (L := conds) h.l
  rw [Nat.zero_add] at hr
  exact ⟨by show (readP conds).2.length ≤ 45; have := hr.ll; have := h.n; unfold readP; omega, hr.ok⟩
theorem allP_len {S : Sys} (h : SysOk S) : (allP S).length ≤ 45000 ∧ ∀ l ∈ allP S, l.a < S.refs.length ∧ (l.two = true → l.b < S.refs.length) := by
  constructor
  · have : ∀ (C : List (List Leaf × Bool)), (∀ c ∈ C, c.1.length ≤ 1000) → (C.flatMap fun c => c.1.filter (countsP S)).length ≤ 1000 * C.length := by
      intro C
      induction C with
      | nil => intro _; simp
      | cons c C ih =>
        intro hc
        rw [List.flatMap_cons, List.length_append, List.length_cons]
        have h1 := ih fun x hx => hc x (List.mem_cons_of_mem _ hx)
        have h2 := hc c (List.mem_cons_self ..)
        have h3 := List.length_filter_le (countsP S) c.1
        omega
    have := this S.conds fun c hc => (h.c c hc).1
    have := h.n
    unfold allP
    omega
  · intro l hl
    obtain ⟨c, hc, hl⟩ := List.mem_flatMap.1 hl
    have := (h.c c hc).2 l (List.mem_filter.1 hl).1
    exact ⟨this.1, this.2.1⟩
theorem tell_len (S : Sys) (V : List VT) (st : TSt) (i : Nat) : (tellP S V st i).1.length = st.1.length ∧ (tellP S V st i).2.length ≤ st.2.length + 1 := by
  unfold tellP
  split
  · exact ⟨List.length_set, by simp⟩
  · exact ⟨rfl, Nat.le_succ _⟩
theorem tellL_len (S : Sys) (V : List VT) (st : TSt) (l : Leaf) : (tellL S V st l).1.length = st.1.length ∧ (tellL S V st l).2.length ≤ st.2.length + 2 := by
  unfold tellL
  split
  · have h1 := tell_len S V st l.a
    have h2 := tell_len S V (tellP S V st l.a) l.b
    omega
  · have h1 := tell_len S V st l.a
    omega
theorem tells_len (S : Sys) (V : List VT) : ∀ (L : List Leaf) (st : TSt), (L.foldl (tellL S V) st).1.length = st.1.length ∧ (L.foldl (tellL S V) st).2.length ≤ st.2.length + 2 * L.length
  | [], st => ⟨rfl, Nat.le_refl _⟩
  | l :: L, st => by
    have h1 := tellL_len S V st l
    have h2 := tells_len S V L (tellL S V st l)
    rw [List.foldl_cons, List.length_cons]
    omega

section
variable {H H0 H' : Hp} {p td kn sc xb : Nat} {S : Sys} {tl kl vs : Sl} {V : List VT} {st : TSt}
theorem c28 {r : ER} {q : Sl} {Q : Int → Int → Int → Int → ByteArray → Bool → ByteArray → Int → ByteArray → Sl → Hp → Prop} (hq : q.n = 0) (hQ : ∀ H', Kp No H H' → Q r.k r.o r.vk r.vi r.vs r.vb r.v r.p r.a Sl.nil H') : F28 r.k r.o r.vk r.vi r.vs r.vb r.v r.p r.a q H Q := by
  intro X hX
  refine hX _ _ _ _ _ _ _ _ _ _ _ _ fun H1 e1 H3 e3 => ?_
  have k3 : Kp No H H3 := ((Kp.refl No H).push' e1).push' e3
  have s1 := size_push' e1
  have x3 : Row H3 H.size 41 (r.row q) := (Row.new' e1).push' e3
  have z3 : Row H3 H1.size 41 (zeroE.row Sl.nil) := Row.new' e3
  refine ⟨q, rowc (i := 9) x3 rfl, fun X2 hX2 => hX2 _ _ _ ⟨fun hh => absurd (of_decide_eq_true hh) (by omega), fun _ => ⟨by rw [add_mk]; exact x3.some (by simp), by rw [add_mk]; exact x3.frz _, fun H65 e65 => ?_⟩⟩⟩
  rw [add_mk] at e65
  have x65 : Row H65 H.size 41 (r.row Sl.nil) := x3.set' e65
  have k65 : Kp (fun x => x = H.size) H3 H65 := (Kp.refl _ _).set' e65 (.inl rfl)
  have z65 := k65.row z3 (by omega)
  refine ⟨_, _, _, _, _, _, _, _, _, _, x65.all, z65.mayw (by simp), fun H80 e80 => ?_⟩
  have z80 : Row H80 H1.size 41 (r.row Sl.nil) := z65.fill' e80 rfl
  have k80 : Kp (fun x => x = H1.size) H65 H80 := (Kp.refl _ _).sets' e80 (.inl rfl)
  exact ⟨_, _, _, _, _, _, _, _, _, _, z80.all, hQ H80 ((k3.trans k65 fun b e => .inr (by omega)).trans k80 fun b e => .inr (by omega))⟩

/-- What stands while is told. -/
structure Tl (H0 H : Hp) (p td kn sc xb : Nat) (tl kl vs : Sl) (S : Sys) (V : List VT) (st : TSt) : Prop where
  rt : Row H td 47 [Sl.v tl]
  t : Lst iF H tl st.1
  rk : Row H kn 32 [Sl.v kl]
  l : Lst knF H kl st.2
  rc : Row H sc 60 [.pointer (some ⟨p, 0, none⟩)]
  rx : ∃ z, Row H xb 74 [Sl.v vs, .pointer z]
  v : Lst vF H vs V
  s : SyH H0 p S
  k : Kp No H0 H
  bt : ∀ b, tl.at b → H0.size ≤ b
  bk : H0.size ≤ kn
  bl : ∀ b, kl.at b → H0.size ≤ b
theorem Tl.no (h : Tl H0 H p td kn sc xb tl kl vs S V st) (k : Kp No H H') : Tl H0 H' p td kn sc xb tl kl vs S V st :=
  ⟨k.row h.rt id, h.t.kp k fun _ _ => id, k.row h.rk id, h.l.kp k fun _ _ => id, k.row h.rc id, by obtain ⟨z, r⟩ := h.rx; exact ⟨z, k.row r id⟩, h.v.kp k fun _ _ => id, h.s, h.k.no2 k, h.bt, h.bk, h.bl⟩
theorem c27 {i : Nat} {Q : Hp → Prop} (h : Tl H0 H p td kn sc xb tl kl vs S V st) (hi : i < S.refs.length) (hT : st.1.length = S.refs.length) (hV : V.length = S.refs.length) (hn : st.2.length ≤ 200000)
    (hQ : ∀ H' kl', Tl H0 H' p td kn sc xb tl kl' vs S V (tellP S V st i) → (∀ {c u : Nat} {m : List Value}, Row H c u m → u ≠ 3 → u ≠ 32 → u ≠ 51 → Row H' c u m) → Q H') :
    F27 i ⟨td, 0, none⟩ ⟨kn, 0, none⟩ ⟨sc, 0, none⟩ ⟨xb, 0, none⟩ H Q := by
  have gt : st.1[i]? = some (st.1.getD i 0) := by rw [List.getD_eq_getElem?_getD, List.getElem?_eq_getElem (by omega)]; rfl
  obtain ⟨a, ea, han, ca⟩ := h.t.rd.get gt
  have en : ((i : Nat) : Int).toNat = i := by omega
  unfold tellP at hQ
  refine ⟨tl, h.rt.cell_of (i := 0) rfl, a, ea, by omega, by omega, _, by rw [en]; exact ca.1, fun hz => ?_, fun hz => ?_⟩
  · rw [if_pos (of_decide_eq_true hz)] at hQ
    obtain ⟨a', ea', ab, han', hm, hw⟩ := h.t.set (i := i) (by omega) 1
    refine ⟨tl, h.rt.cell_of (i := 0) rfl, a', ea', by omega, by omega, by rw [en]; exact hm.1.1, by rw [en]; exact hm.1.2, fun H16 e16 => ?_⟩
    rw [en] at e16
    obtain ⟨l16, k16⟩ := hw H16 e16
    have ntl : ∀ {c u : Nat} {m : List Value}, Row H c u m → u ≠ 3 → Row H16 c u m := fun r hu => k16.row r (h.t.ne r (Ne.symm hu))
    have k016 : Kp No H0 H16 := h.k.trans k16 fun b hb => .inr (h.bt b hb)
    obtain ⟨rs, cs, ks, gs0, g0, R, W0, h1, h2, h3, h4, h5, h6, h7, h8, h9, h10, h11⟩ := (h.s.no k016).ex
    have hR : R.length = S.refs.length := by rw [← h3, List.length_map]
    obtain ⟨r, gr⟩ : ∃ r, R[i]? = some r := ⟨_, List.getElem?_eq_getElem (by omega)⟩
    have hrm := List.mem_of_getElem? gr
    have ger : S.refs.getD i zeroE = r.1 := by rw [List.getD_eq_getElem?_getD, ← h3, List.getElem?_map, gr]; rfl
    obtain ⟨b, eb, hbn, cb⟩ := h2.get gr
    have gv : V[i]? = some (V.getD i zeroV) := by rw [List.getD_eq_getElem?_getD, List.getElem?_eq_getElem (by omega)]; rfl
    have v16 := h.v.kp k16 (h.v.apart h.t (by decide))
    obtain ⟨c, ec, hcn, cc⟩ := v16.rd.get gv
    obtain ⟨z, rx⟩ := h.rx
    have rx16 := ntl rx (by decide)
    have kn16 := ntl h.rk (by decide)
    have sc16 := ntl h.rc (by decide)
    have td16 := ntl h.rt (by decide)
    have kl16 := h.l.kp k16 (h.l.apart h.t (by decide))
    refine ⟨kl, kn16.cell_of (i := 0) rfl, _, sc16.cell_of (i := 0) rfl, _, rfl, rs, h1.cell_of (i := 0) rfl, b, eb, by omega, by omega, _, _, _, _, _, _, _, _, _, _, by rw [en]; exact cb, vs, rx16.cell_of (i := 0) rfl, c, ec, by omega, by omega, _, _, _, _, by rw [en]; exact cc, c28 (h4 r hrm) fun H54 k54 => ?_⟩
    refine ⟨by rw [en]; exact k54.cz cc (by simp), (k54.row rx16 id).cell_of (i := 0) rfl, (k54.row h1 id).cell_of (i := 0) rfl, (k54.row sc16 id).cell_of (i := 0) rfl, (k54.row kn16 id).cell_of (i := 0) rfl, fun H71 e71 => ?_⟩
    have k71 : Kp No H54 H71 := (Kp.refl _ _).push' e71
    have b71 : Row H71 H54.size 51 (knF.f (r.1, V.getD i zeroV)) := Row.new' e71
    have kA := k54.no2 k71
    have s71 := size_push' e71
    refine ⟨by rw [en]; exact kA.cz cc (by simp), (kA.row rx16 id).cell_of (i := 0) rfl, (kA.row h1 id).cell_of (i := 0) rfl, (kA.row sc16 id).cell_of (i := 0) rfl, (kA.row kn16 id).cell_of (i := 0) rfl, ?_⟩
    refine (kl16.kp kA fun _ _ => id).append1 b71 rfl (by omega) (by omega) fun kl' H78 l78 k78 b78 => ?_
    have klA := kl16.kp kA fun _ _ => id
    have keep1 : ∀ {c u : Nat} {m : List Value}, Row H16 c u m → u ≠ 51 → Row H78 c u m := fun r hu => k78.row (kA.row r id) (klA.ne (kA.row r id) (Ne.symm hu))
    have k078 : Kp No H0 H78 := (k016.no2 kA).trans k78 fun b hb => .inr (h.bl b hb)
    refine ⟨?_, (keep1 rx16 (by decide)).cell_of (i := 0) rfl, (keep1 h1 (by decide)).cell_of (i := 0) rfl, (keep1 sc16 (by decide)).cell_of (i := 0) rfl, ?_⟩
    · rw [en]
      have := (v16.kp kA fun _ _ => id).kp k78 ((v16.kp kA fun _ _ => id).apart klA (by decide))
      obtain ⟨c', ec', _, cc'⟩ := this.rd.get gv
      rw [ec] at ec'; cases ec'
      exact cc'
    have kn78 := keep1 kn16 (by decide)
    refine ⟨kn78.some (by simp), kn78.frz 0, fun H85 e85 => ?_⟩
    have k85 : Kp (fun x => x = kn) H78 H85 := (Kp.refl _ _).set' e85 (.inl rfl)
    have keep2 : ∀ {c u : Nat} {m : List Value}, Row H78 c u m → u ≠ 32 → Row H85 c u m := fun r hu => k85.row r fun e => by subst e; exact r.ne_type kn78 hu rfl
    have keepL : ∀ {α : Type} {t k : Nat} {F : Fmt α t k} {s : Sl} {X : List α}, Lst F H78 s X → t ≠ 32 → Lst F H85 s X := fun l ht => l.kp k85 fun b hb e => by subst e; exact l.ne kn78 ht hb
    have t78 := (l16.kp kA fun _ _ => id).kp k78 ((l16.kp kA fun _ _ => id).apart klA (by decide))
    have v78 := (v16.kp kA fun _ _ => id).kp k78 ((v16.kp kA fun _ _ => id).apart klA (by decide))
    refine hQ H85 kl' ⟨keep2 (keep1 td16 (by decide)) (by decide), keepL t78 (by decide), kn78.set' (i := 0) e85, ?_, keep2 (keep1 sc16 (by decide)) (by decide), ⟨z, keep2 (keep1 rx16 (by decide)) (by decide)⟩, keepL v78 (by decide), h.s, k078.trans k85 fun b e => .inr (by rw [e]; exact h.bk), h.bt, h.bk, fun b hb => ?_⟩ fun r h3 h32 h51 => keep2 (keep1 (ntl r h3) h51) h32
    · rw [ger]; exact keepL l78 (by decide)
    · rcases b78 b hb with e | e
      · exact h.bl b e
      · have := k016.size; have := kA.size; omega
  · rw [if_neg (of_decide_eq_false hz)] at hQ
    exact hQ H kl h fun r _ _ _ => r
end

section
variable {H H0 H' : Hp} {p sc : Nat} {S : Sys} {Q : Sl → Bool → Hp → Prop}
theorem c9_L4 {td kn xb : Nat} {tl kl vs sl : Sl} {L : List Leaf} {V : List VT} {st : TSt} (h : Tl H0 H p td kn sc xb tl kl vs S V st) (hl : RdL leafF H0 sl L) (hL : L.length ≤ 45000) (hi : ∀ l ∈ L, l.a < S.refs.length ∧ (l.two = true → l.b < S.refs.length)) (hT : st.1.length = S.refs.length) (hV : V.length = S.refs.length) (h0 : st.2 = [])
    (hQ : ∀ H' kl', Tl H0 H' p td kn sc xb tl kl' vs S V (L.foldl (tellL S V) st) → F9_3 Q ⟨kn, 0, none⟩ H') :
    F9_L4 Q ⟨kn, 0, none⟩ ⟨td, 0, none⟩ ⟨kn, 0, none⟩ ⟨sc, 0, none⟩ ⟨xb, 0, none⟩ sl (sl.n : Int) 0 H := by
  have hln := hl.n
  intro X hX
  suffices ∀ d i kl H', i + d = L.length → Tl H0 H' p td kn sc xb tl kl vs S V ((L.take i).foldl (tellL S V) st) → X i H' from this _ 0 kl H (Nat.zero_add _) h
  intro d
  induction d with
  | zero =>
    intro i kl H' hi' hh
    refine hX _ _ ⟨fun hh => absurd (of_decide_eq_true hh) (by omega), fun _ => ?_⟩
    rw [List.take_of_length_le (by omega)] at hh
    exact hQ H' kl hh
  | succ d ih =>
    intro i kl H' hi' hh
    obtain ⟨l, gl⟩ : ∃ l, L[i]? = some l := ⟨_, List.getElem?_eq_getElem (by omega)⟩
    have hm' := List.mem_of_getElem? gl
    have htk := take_snoc gl
    obtain ⟨a, ea, han, ca⟩ := (hl.kp0 hh.k).get gl
    have en : ((i : Nat) : Int).toNat = i := by omega
    obtain ⟨i1, i2⟩ := hi l hm'
    have hlen := tells_len S V (L.take i) st
    rw [List.length_take, h0, List.length_nil] at hlen
    refine hX _ _ ⟨fun _ => ⟨a, ea, by omega, by omega, _, _, _, _, _, _, _, _, by rw [en]; exact ca, fun H97 e97 => ?_⟩, fun hh => absurd (of_decide_eq_false hh) (by omega)⟩
    have k97 : Kp No H' H97 := (Kp.refl _ _).push' e97
    have y97 : Row H97 H'.size 80 (leafF.f ⟨0, 0, 0, false, zeroV⟩) := Row.new' e97
    refine ⟨y97.mayw (by simp [leafF]), fun H99 e99 => ?_⟩
    have y99 : Row H99 H'.size 80 (leafF.f l) := y97.fill' e99 rfl
    have k99 : Kp No H' H99 := k97.box ((Kp.refl _ _).sets' e99 (.inl rfl)) (Nat.le_refl _)
    have h99 := hh.no k99
    have eN : (L.take (i + 1)).foldl (tellL S V) st = tellL S V ((L.take i).foldl (tellL S V) st) l := by rw [htk, List.foldl_append]; rfl
    have next : ∀ kl' H' st', tellL S V ((L.take i).foldl (tellL S V) st) l = st' → Tl H0 H' p td kn sc xb tl kl' vs S V st' → F9_5 Q X ⟨kn, 0, none⟩ ⟨td, 0, none⟩ ⟨kn, 0, none⟩ ⟨sc, 0, none⟩ ⟨xb, 0, none⟩ sl (sl.n : Int) i H' := fun kl' H' st' e h1 => by
      unfold F9_5
      rw [wr (by omega) (by omega), show ((i : Int) + 1) = ((i + 1 : Nat) : Int) by omega]
      exact ih (i + 1) kl' H' (by omega) (by rw [eN, e]; exact h1)
    refine ⟨_, rowc (i := 1) y99 rfl, c27 h99 i1 (by omega) hV (by omega) fun H2 kl2 h2 keep => ?_⟩
    have y2 := keep y99 (by decide) (by decide) (by decide)
    have hl1 := tell_len S V ((L.take i).foldl (tellL S V) st) l.a
    refine ⟨_, rowc (i := 3) y2 rfl, fun ht => ⟨_, rowc (i := 2) y2 rfl, c27 h2 (i2 ht) (by omega) hV (by omega) fun H3 kl3 h3 _ => next kl3 H3 _ (by rw [tellL, if_pos ht]) h3⟩, fun ht => next kl2 H2 _ (by rw [tellL, if_neg (by rw [ht]; decide)]) h2⟩
theorem c9_1 {sl : Sl} (hs : SyH H p S) (hsc : Row H sc 60 [.pointer (some ⟨p, 0, none⟩)]) (hok : SysOk S) (hl : RdL leafF H sl (allP S))
    (hF : solveP S (allP S) = none → ∀ H', Kp No H H' → Q Sl.nil false H') (hQ : ∀ N W kl H', solveP S (allP S) = some (N, W) → Lst knF H' kl (toldP S N W) → (∀ b, kl.at b → H.size ≤ b) → Kp No H H' → Q kl true H') : F9_1 Q ⟨sc, 0, none⟩ sl H := by
  obtain ⟨hL, hi⟩ := allP_len hok
  obtain ⟨rs, cs, ks, gs0, g0, R, W0, h1, h2, h3, h4, h5, h6, h7, h8, h9, h10, h11⟩ := hs.ex
  have hrn := h2.n
  have hR : R.length = S.refs.length := by rw [← h3, List.length_map]
  have bx : ∀ (vs : Sl) (z : Option Addr) (H56 H63 : Hp), Kp No H H56 → (∃ H61, H61 = Array.push H56 (.cells #[Sl.v Sl.nil, .pointer none] 74) ∧ H63 = sets H61 ⟨H56.size, 0, none⟩ [Sl.v vs, .pointer z] 0) → Row H63 H56.size 74 [Sl.v vs, .pointer z] ∧ Kp No H56 H63 ∧ H63.size = H56.size + 1 := fun vs z H56 H63 k ⟨H61, e61, e63⟩ => by
    have r61 : Row H61 H56.size 74 [Sl.v Sl.nil, .pointer none] := Row.new' e61
    have k61 : Kp No H56 H61 := (Kp.refl _ _).push' e61
    exact ⟨r61.fill' e63 rfl, k61.box ((Kp.refl _ _).sets' e63 (.inl rfl)) (Nat.le_refl _), by rw [size_sets' e63, size_push' e61]⟩
  refine ⟨_, hsc.cell_of (i := 0) rfl, c26 hs hl (by omega) hi (fun hno vs z H56 k56 H61 e61 => ?_) fun N W vs w g gs m H56 hNW lv hw k56 H61 e61 => ?_⟩
  · refine ⟨(Row.new' (c := #[Sl.v Sl.nil, .pointer none]) e61).mayw (by simp), fun H63 e63 => ?_⟩
    obtain ⟨_, k63, _⟩ := bx vs z H56 H63 k56 ⟨H61, e61, e63⟩
    exact ⟨fun _ => hF hno H63 (k56.no2 k63), fun h => (by cases h)⟩
  · refine ⟨(Row.new' (c := #[Sl.v Sl.nil, .pointer none]) e61).mayw (by simp), fun H63 e63 => ?_⟩
    obtain ⟨x63, k63, s63⟩ := bx vs _ H56 H63 k56 ⟨H61, e61, e63⟩
    have kk := k56.no2 k63
    refine ⟨fun h => (by cases h), fun _ => ⟨_, (kk.row hsc id).cell_of (i := 0) rfl, _, rfl, rs, (kk.row h1 id).cell_of (i := 0) rfl, by omega, by omega, by omega, by omega, fun H73 e73 H79 e79 => ?_⟩⟩
    have en : ((rs.n : Nat) : Int).toNat = S.refs.length := by omega
    rw [en] at e73
    have k73 : Kp No H63 H73 := (Kp.refl _ _).push' e73
    have k79 : Kp No H73 H79 := (Kp.refl _ _).push' e79
    have s73 := size_push' e73
    have s79 := size_push' e79
    have y73 : Row H73 H63.size 3 ((List.replicate S.refs.length 0).flatMap iF.f) := by
      have := Row.new' e73
      have e : (made #[.int .i64 0] S.refs.length).toList = (List.replicate S.refs.length (0 : Int)).flatMap iF.f := by
        simp [made, Builtin.zeroCells, iF, List.flatMap_replicate, Nat.mod_one, List.map_const']
      rw [e] at this; exact this
    have d79 : Row H79 H73.size 47 [Sl.v Sl.nil] := Row.new' e79
    refine ⟨d79.some (by simp), d79.frz 0, fun H81 e81 H85 e85 => ?_⟩
    rw [en] at e81
    have k81 : Kp (fun x => x = H73.size) H79 H81 := (Kp.refl _ _).set' e81 (.inl rfl)
    have d81 := d79.set' (i := 0) e81
    have k85 : Kp No H81 H85 := (Kp.refl _ _).push' e85
    have s81 := k81.size
    have n85 : Row H85 H81.size 32 [Sl.v Sl.nil] := Row.new' e85
    have kB : Kp No H63 H85 := ((k73.no2 k79).trans k81 fun b e => .inr (by omega)).no2 k85
    have kC : Kp No H73 H85 := (k79.trans k81 fun b e => .inr (by omega)).no2 k85
    have sH := k56.size
    refine c9_L4 (S := S) (V := valuesP S N W S.refs.length) (st := (List.replicate S.refs.length 0, [])) ⟨k85.row d81 id, ⟨.inr ⟨H63.size, [], rfl, by simpa using kC.row y73 id, by simp [iF, List.flatMap_replicate], by simp [iF, List.flatMap_replicate], Nat.le_refl _, (by show S.refs.length ≤ 9223372036854775807; omega)⟩⟩, n85, Lst.nil _ _, (kk.no2 kB).row hsc id, ⟨_, kB.row x63 id⟩, lv.kp (k63.no2 kB) fun _ _ => id, hs, kk.no2 kB, fun b hb => ?_, by omega, fun b hb => by cases hb⟩ hl (by omega) hi (by simp) (by simp [valuesP]) rfl fun H2 kl2 h2 => ?_
    · have : H63.size = b := by simpa [Sl.at] using hb
      omega
    · exact ⟨kl2, h2.rk.cell_of (i := 0) rfl, hQ N W kl2 H2 hNW h2.l h2.bl h2.k⟩
theorem c9 {sl : Sl} {CW : List WE} (hc : CsH H0 sl CW) (hok : CondsOk (CW.map Prod.snd))
    (hF : answerP (readS (CW.map Prod.snd)) = none → ∀ H', Kp No H0 H' → Q Sl.nil false H') (hQ : ∀ K kl H', answerP (readS (CW.map Prod.snd)) = some K → Lst knF H' kl K → (∀ b, kl.at b → H0.size ≤ b) → Kp No H0 H' → Q kl true H') : F9 sl H0 Q := by
  refine c23 hc hok fun p H1 hs k1 H4 e4 => ?_
  have sok := readS_ok hok
  generalize readS (CW.map Prod.snd) = S at hF hQ hs sok
  unfold answerP at hF hQ
  have k4 : Kp No H1 H4 := (Kp.refl _ _).push' e4
  have x4 : Row H4 H1.size 60 [.pointer none] := Row.new' e4
  refine ⟨x4.some (by simp), x4.frz 0, fun H6 e6 => ?_⟩
  have x6 : Row H6 H1.size 60 [.pointer (some ⟨p, 0, none⟩)] := x4.set' (i := 0) e6
  have k6 : Kp No H1 H6 := k4.box ((Kp.refl _ _).set' e6 (.inl rfl)) (Nat.le_refl _)
  have s6 := hs.no k6
  have kk := k1.no2 k6
  refine ⟨_, x6.cell_of (i := 0) rfl, c24 s6 ⟨fun ho => ?_, fun ho => ?_⟩⟩
  · rw [if_pos ho] at hF
    exact hF rfl H6 kk
  · rw [if_neg (by rw [ho]; decide)] at hF hQ
    obtain ⟨rs, cs, ks, gs0, g0, R, W, h1, h2, h3, h4, h5, h6, h7, h8, h9, h10, h11⟩ := s6.ex
    refine ⟨_, x6.cell_of (i := 0) rfl, _, rfl, cs, rowc (i := 1) h1 rfl, ?_⟩
    have hcn := h5.l.n
    rw [List.length_map] at hcn
    have hWl : W.length ≤ 45 := by have := sok.n; rw [← h6, List.length_map] at this; exact this
    intro X hX
    suffices ∀ d i sl H', i + d = W.length → Lst leafF H' sl ((W.take i).flatMap fun w => w.2.1.filter (countsP S)) → (∀ b, sl.at b → H6.size ≤ b) → Kp No H6 H' → X sl i H' from this _ 0 Sl.nil H6 (Nat.zero_add _) (Lst.nil _ _) (fun b hb => by cases hb) (Kp.refl _ _)
    intro d
    induction d with
    | zero =>
      intro i sl H' hi hl hb k
      refine hX _ _ _ ⟨fun hh => absurd (of_decide_eq_true hh) (by omega), fun _ => ?_⟩
      rw [List.take_of_length_le (by omega)] at hl
      have hk := kk.no2 k
      have e : (W.flatMap fun w => w.2.1.filter (countsP S)) = allP S := by unfold allP; rw [← h6, List.flatMap_map]
      rw [e] at hl
      refine c9_1 (s6.no k) (k.row x6 id) sok hl.rd (fun hno H2 k2 => hF (by rw [hno]) H2 (hk.no2 k2)) fun N W kl H2 hs' lk bk k2 => hQ _ kl H2 (by rw [hs']) lk (fun b hb => by have := bk b hb; have := hk.size; omega) (hk.no2 k2)
    | succ d ih =>
      intro i sl H' hi hl hb k
      obtain ⟨w, gw⟩ : ∃ w, W[i]? = some w := ⟨_, List.getElem?_eq_getElem (by omega)⟩
      have hm := List.mem_of_getElem? gw
      have htk := take_snoc gw
      have hmc : w.2 ∈ S.conds := by rw [← h6]; exact List.mem_map_of_mem hm
      obtain ⟨c1, c2⟩ := sok.c _ hmc
      have h5' := h5.no k
      obtain ⟨w1, w2⟩ := h5'.x w hm
      obtain ⟨a, ea, han, ca⟩ := h5'.l.get (show (W.map Prod.fst)[i]? = some w.1 by rw [List.getElem?_map, gw]; rfl)
      have en : ((i : Nat) : Int).toNat = i := by omega
      refine hX _ _ _ ⟨fun _ => ⟨a, ea, by omega, by omega, _, _, by rw [en]; exact ca, fun H36 e36 => ?_⟩, fun hh => absurd (of_decide_eq_false hh) (by omega)⟩
      have k36 : Kp No H' H36 := (Kp.refl _ _).push' e36
      have y36 : Row H36 H'.size 68 (rdF.f (Sl.nil, false)) := Row.new' e36
      refine ⟨y36.mayw (by simp [rdF]), fun H38 e38 => ?_⟩
      have y38 : Row H38 H'.size 68 (rdF.f w.1) := y36.fill' e38 rfl
      have k38 : Kp No H' H38 := k36.box ((Kp.refl _ _).sets' e38 (.inl rfl)) (Nat.le_refl _)
      have kA := k.no2 k38
      refine ⟨_, (kA.row x6 id).cell_of (i := 0) rfl, _, _, y38.all, c25 (s6.no kA) (w2.kp0 k38) (by omega) (fun l hl => (c2 l hl).1) fun r48 H46 l48 b48 k46 => ?_⟩
      have hlen : ((W.take i).flatMap fun w => w.2.1.filter (countsP S)).length ≤ 1000 * i := by
        have : ∀ (C : List WC), (∀ c ∈ C, c.2.1.length ≤ 1000) → (C.flatMap fun c => c.2.1.filter (countsP S)).length ≤ 1000 * C.length := by
          intro C
          induction C with
          | nil => intro _; simp
          | cons c C ih =>
            intro hc
            rw [List.flatMap_cons, List.length_append, List.length_cons]
            have h1 := ih fun x hx => hc x (List.mem_cons_of_mem _ hx)
            have h2 := hc c (List.mem_cons_self ..)
            have h3 := List.length_filter_le (countsP S) c.2.1
            omega
        have := this (W.take i) fun c hc => (sok.c c.2 (by rw [← h6]; exact List.mem_map_of_mem (List.mem_of_mem_take hc))).1
        refine Nat.le_trans this ?_
        rw [List.length_take]
        omega
      have hf := List.length_filter_le (countsP S) w.2.1
      have kB := k38.no2 k46
      have hl' := hl.kp kB fun _ _ => id
      refine hl'.append l48.rd rfl (by omega) (by omega) fun r52 H50 l50 k50 b50 => ?_
      rw [wr (by omega) (by omega), show ((i : Int) + 1) = ((i + 1 : Nat) : Int) by omega]
      refine ih (i + 1) r52 H50 (by omega) ?_ (fun b hb' => ?_) ((k.no2 kB).trans k50 fun b hb' => .inr (hb b hb'))
      · rw [htk, List.flatMap_append]
        simpa using l50
      · rcases b50 b hb' with e | e
        · exact hb b e
        · have := (k.no2 kB).size; omega
end
end Go.Hw
