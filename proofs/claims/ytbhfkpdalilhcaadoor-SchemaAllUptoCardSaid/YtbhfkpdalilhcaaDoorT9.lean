/- A declaration written; types compared; blanks. Own work of this session. -/
import Derived.Test.YtbhfkpdalilhcaaDoorT8
set_option linter.unusedVariables false
namespace Go.Hw
open Go

/-- A kind's word. -/
def kw (k : Int) : ByteArray := if k = 1 then S_INT else if k = 2 then S_STR else S_BOOL
/-- The attributes as they are written. -/
def prA : Bool → List (ByteArray × Int) → List UInt8
  | _, [] => []
  | f, a :: l => (if f then [] else S______.data.toList) ++ (((a.1 ++ S_______) ++ kw a.2).data.toList ++ prA false l)
def printT (name : ByteArray) (A : List (ByteArray × Int)) : ByteArray := ⟨(((S_TYPE_ ++ name) ++ S_____).data.toList ++ (prA true A ++ [41])).toArray⟩

theorem Sb.not_row {H : Hp} {B b k t : Nat} {l : List Value} (h : Row H k t l) (ht : t ≠ 5) (hk : k ≠ b) : ¬ Sb H B b k := by
  rintro (e | ⟨_, c, fz, e⟩)
  · exact hk e
  · unfold Row at h
    rw [h] at e
    injection e with e
    injection e with _ e
    exact ht e
theorem Sb.not_lt {H : Hp} {B b k : Nat} (h : k < B) (hB : B ≤ b) : ¬ Sb H B b k := by
  rintro (e | ⟨h2, _⟩)
  · omega
  · omega
theorem nm_size {s : ByteArray} (h : nm s = true) : s.size ≤ 32 := by
  unfold nm at h
  have hl := bytes_len s
  cases hb : bytes s with
  | nil => rw [hb] at hl; simp at hl; omega
  | cons b t =>
    rw [hb] at h hl
    unfold nmL at h
    simp only [Bool.and_eq_true, decide_eq_true_eq] at h
    have := h.1.1.1
    simp at hl
    simp at this
    omega
theorem size_app (a b : ByteArray) : (a ++ b).size = a.size + b.size := ByteArray.size_append
theorem bytes_app (a b : ByteArray) : bytes (a ++ b) = bytes a ++ bytes b := by
  unfold bytes
  rw [ByteArray.data_append]
  simp
/-- A type in which nothing is wrong. -/
theorem wrgL_ok : ∀ {l pre : List (ByteArray × Int)}, wrgL pre l = 0 → ∀ a ∈ l, nm a.1 = true ∧ a.1 ≠ S_time ∧ 1 ≤ a.2 ∧ a.2 ≤ 3 ∧ True
  | [], _, _ => fun a ha => by cases ha
  | a :: l, pre, h => by
    unfold wrgL at h
    split at h
    · cases h
    rename_i h1
    split at h
    · cases h
    rename_i h2
    split at h
    · cases h
    intro b hb
    rcases List.mem_cons.1 hb with rfl | hb
    · have h1 : (nm b.1 && !(seq b.1 S_time)) = true := by simpa using h1
      rw [Bool.and_eq_true] at h1
      refine ⟨h1.1, fun e => ?_, by omega, by omega, trivial⟩
      rw [e, seq_refl] at h1
      exact absurd h1.2 (by decide)
    · exact wrgL_ok h b hb
theorem wrgL_ne : ∀ {l pre : List (ByteArray × Int)}, wrgL pre l = 0 → pre.Pairwise (fun a b => a.1 ≠ b.1) → (pre ++ l).Pairwise fun a b => a.1 ≠ b.1
  | [], pre, _, hp => by simpa using hp
  | a :: l, pre, h, hp => by
    unfold wrgL at h
    split at h
    · cases h
    split at h
    · cases h
    split at h
    · cases h
    rename_i h3
    have := wrgL_ne h (by
      rw [List.pairwise_append]
      refine ⟨hp, List.pairwise_singleton _ _, fun b hb c hc => ?_⟩
      rw [List.mem_singleton] at hc
      subst hc
      intro e
      exact h3 (List.any_eq_true.2 ⟨b, hb, seq_iff.2 e⟩))
    rwa [List.append_assoc] at this
theorem wrg_good {name : ByteArray} {A : List (ByteArray × Int)} (h : wrg name A = 0) : nm name = true ∧ GoodA A := by
  unfold wrg at h
  split at h
  · cases h
  rename_i h1
  split at h
  · cases h
  rename_i h2
  refine ⟨by simpa using h1, by omega, fun a ha => ?_, by simpa using wrgL_ne h List.Pairwise.nil⟩
  have := wrgL_ok h a ha
  exact ⟨this.1, this.2.1, this.2.2.1, this.2.2.2.1⟩

section
variable {H : Hp} {name : ByteArray} {sl : Sl} {A : List (ByteArray × Int)}

theorem prA_snoc : ∀ {l : List (ByteArray × Int)} {f : Bool} {a : ByteArray × Int}, prA f (l ++ [a]) = prA f l ++ prA (f && l.isEmpty) [a]
  | [], f, a => by
    show prA f [a] = [] ++ prA (f && true) [a]
    rw [Bool.and_true, List.nil_append]
  | b :: l, f, a => by
    show (if f then [] else _) ++ (_ ++ prA false (l ++ [a])) = ((if f then [] else _) ++ (_ ++ prA false l)) ++ prA (f && false) [a]
    rw [prA_snoc, Bool.and_false, Bool.false_and, List.append_assoc, List.append_assoc]
theorem prA_len : ∀ {l : List (ByteArray × Int)} {f : Bool}, (∀ a ∈ l, nm a.1 = true) → (prA f l).length ≤ 50 * l.length
  | [], _, _ => Nat.le_refl _
  | a :: l, f, h => by
    have h1 := prA_len (l := l) (f := false) fun b hb => h b (List.mem_cons_of_mem _ hb)
    have h2 := nm_size (h a (List.mem_cons_self ..))
    have h3 : ((a.1 ++ S_______) ++ kw a.2).data.toList.length ≤ 40 := by
      have e : ((a.1 ++ S_______) ++ kw a.2).data.toList.length = ((a.1 ++ S_______) ++ kw a.2).size := rfl
      rw [e, size_app, size_app, show S_______.size = 1 from rfl]
      have : (kw a.2).size ≤ 4 := by
        unfold kw
        split
        · decide
        · split
          · decide
          · decide
      omega
    show ((if f then [] else S______.data.toList) ++ (_ ++ prA false l)).length ≤ _
    rw [List.length_append, List.length_append]
    have h4 : (if f = true then [] else S______.data.toList).length ≤ 2 := by
      split
      · decide
      · decide
    have : (a :: l).length = l.length + 1 := rfl
    omega

theorem c13 {Q : ByteArray → Int → Hp → Prop} (htab : Tabs H) (h : RdL aF H sl A) (hc : sl.n ≤ sl.c) (hl : A.length ≤ 4194304)
    (q1 : wrg name A ≠ 0 → ∀ H', Kp No H H' → Q E (wrg name A) H') (q0 : wrg name A = 0 → ∀ H', Kp No H H' → Q (printT name A) 0 H') : F13 name sl H Q := by
  have hn := h.n
  have hwz := htab.size
  intro H1 e1
  have k1 := (Kp.refl No H).push' e1
  have s1 := size_push' e1
  have t1 : Row H1 H.size 27 [.string name, Sl.v sl] := Row.new' e1
  refine ⟨name, sl, t1.all, c24 (htab.no k1).w (h.kp0 k1) hc (by omega) fun H6 k6 => ⟨fun hh => ?_, fun hh => ?_⟩⟩
  · exact q1 (by simpa using hh) H6 (k1.trans k6 fun _ h => h.elim)
  have w0 : wrg name A = 0 := by
    by_cases e : wrg name A = 0
    · exact e
    · exact absurd e (of_decide_eq_false hh)
  obtain ⟨gn, gA⟩ := wrg_good w0
  have hns := nm_size gn
  have hA16 := gA.len
  have q0 := q0 w0
  have kk6 : Kp No H H6 := k1.trans k6 fun _ h => h.elim
  have s6 := kk6.size
  intro H10 e10
  have k10 : Kp No H6 H10 := (Kp.refl No _).push' e10
  have s10 := size_push' e10
  have b10 : Bld H10 H6.size H6.size [] := Bld.new (Nat.le_refl _) (Row.new' e10)
  have t10 := k10.row (k6.row t1 id) id
  have kk10 : Kp No H H10 := kk6.trans k10 fun _ h => h.elim
  refine ⟨name, t10.cell_of (i := 0) rfl, by rw [show S_TYPE_.size = 5 from rfl]; omega, by rw [size_app, show S_TYPE_.size = 5 from rfl, show S_____.size = 2 from rfl]; omega, ?_⟩
  have hhd : ((S_TYPE_ ++ name) ++ S_____).size ≤ 40 := by rw [size_app, size_app, show S_TYPE_.size = 5 from rfl, show S_____.size = 2 from rfl]; omega
  unfold printT at q0
  generalize (S_TYPE_ ++ name) ++ S_____ = hd at hhd q0 ⊢
  refine ⟨H6.size, H6.size, [], rfl, b10, by show 0 + hd.size ≤ _; omega, by omega, fun H16 b16 k16 => ?_⟩
  have f16 : Kp No H H16 := kk10.trans k16 fun x hx => .inr (by
    rcases hx with hx | ⟨hx, _⟩
    · omega
    · omega)
  have s61 := k6.size
  have t16 := k16.row t10 (Sb.not_row t10 (by decide) (by omega))
  rw [List.nil_append] at b16
  refine ⟨sl, t16.cell_of (i := 1) rfl, ?_⟩
  intro X hX
  suffices G : ∀ (d i : Nat) (H' : Hp), i + d = A.length → Bld H' H6.size H6.size (hd.data.toList ++ prA true (A.take i)) → Kp No H H' → H10.size ≤ H'.size → X (i : Int) H' from
    G A.length 0 H16 (by omega) (by simpa [prA] using b16) f16 k16.size
  intro d
  induction d with
  | zero =>
    intro i H' hi hb k hsz
    rw [List.take_of_length_le (by omega)] at hb
    refine hX _ _ ⟨fun h => absurd (of_decide_eq_true h) (by omega), fun _ => ⟨H6.size, H6.size, _, rfl, hb, ?_, by omega, by omega, by omega, fun H67 b67 k67 => ⟨H6.size, H6.size, _, rfl, b67, by have := k67.size; omega, fun H70 k70 => ?_⟩⟩⟩
    · have := prA_len (l := A) (f := true) fun a ha => (gA.ok a ha).1
      have e : hd.data.toList.length = hd.size := rfl
      rw [List.length_append, e]; omega
    · have f70 : Kp No H H70 := (k.trans k67 fun x hx => .inr (by
        rcases hx with hx | ⟨hx, _⟩
        · omega
        · omega)).trans k70 fun x hx => .inr (by
        rcases hx with hx | ⟨hx, _⟩
        · omega
        · omega)
      have := q0 H70 f70
      rw [← List.append_assoc] at this
      exact this
  | succ d ih =>
    intro i H' hi hb k hsz
    have hil : i < A.length := by omega
    have ga : A[i]? = some (A[i]'hil) := List.getElem?_eq_getElem hil
    have hok := gA.ok _ (List.getElem_mem hil)
    have htk : A.take (i + 1) = A.take i ++ [A[i]'hil] := by simp
    have hpl := prA_len (l := A.take i) (f := true) fun a ha => (gA.ok a (List.mem_of_mem_take ha)).1
    rw [List.length_take] at hpl
    generalize A[i]'hil = a at ga hok htk
    have ean : hd.data.toList.length = hd.size := rfl
    obtain ⟨b, hb', hbn, cb⟩ := (h.kp0 k).get ga
    refine hX _ _ ⟨fun _ => ⟨b, hb', by omega, by omega, a.1, a.2, cb, fun H35 e35 => ?_⟩, fun h => absurd (of_decide_eq_false h) (by omega)⟩
    have k35 : Kp No H' H35 := (Kp.refl No _).push' e35
    have r35 := Row.new' e35
    refine ⟨r35.mayw (by decide), fun H37 e37 => ?_⟩
    have x37 : Row H37 H'.size 38 [.string a.1, .int .i64 a.2] := r35.fill' e37 rfl
    have k37 : Kp No H' H37 := k35.sets' e37 (.inr (Nat.le_refl _))
    have s37 := k37.size
    -- a builder is kept where nothing that was there turns
    have keepB : ∀ {Ha Hb : Hp} {l : List UInt8}, Bld Ha H6.size H6.size l → Kp No Ha Hb → Bld Hb H6.size H6.size l := fun {Ha Hb l} hbl kab w hw => by
      have h0 := hbl { w with heap := Ha } rfl
      rcases h0 with ⟨h1, v, h2, h3, h4⟩ | ⟨h1, v, h2, h3, h4⟩
      · refine .inl ⟨h1, v, ?_, ?_, h4⟩
        · rw [hw]
          have := (Array.getElem?_eq_some_iff.1 h2).1
          rw [kab.blk _ this id]; exact h2
        · refine ⟨h3.1, ?_⟩
          rcases h3.2 with hv | ⟨g, cap, cur, fz, hv, hg1, hg2, rest⟩
          · exact .inl hv
          · refine .inr ⟨g, cap, cur, fz, hv, hg1, ?_, rest⟩
            rw [hw]
            have := (Array.getElem?_eq_some_iff.1 hg2).1
            rw [kab.blk _ this id]; exact hg2
      · refine .inr ⟨h1, v, ?_, ?_, h4⟩
        · rw [hw]
          have := (Array.getElem?_eq_some_iff.1 h2).1
          rw [kab.blk _ this id]; exact h2
        · refine ⟨h3.1, ?_⟩
          rcases h3.2 with hv | ⟨g, cap, cur, fz, hv, hg1, hg2, rest⟩
          · exact .inl hv
          · refine .inr ⟨g, cap, cur, fz, hv, hg1, ?_, rest⟩
            rw [hw]
            have := (Array.getElem?_eq_some_iff.1 hg2).1
            rw [kab.blk _ this id]; exact hg2
    have hb37 := keepB hb k37
    -- behind the comma
    have three : ∀ (l : List UInt8) (H2 : Hp), l.length ≤ 1000 → Bld H2 H6.size H6.size l → Row H2 H'.size 38 [.string a.1, .int .i64 a.2] → Kp No H H2 → H37.size ≤ H2.size → l = hd.data.toList ++ prA true (A.take i) ++ (if (true && (A.take i).isEmpty) then [] else S______.data.toList) →
        F13_3 Q X ⟨H6.size, 0, none⟩ ⟨H'.size, 0, none⟩ sl (sl.n : Int) (i : Int) H2 := fun l H2 hll hb2 x2 k2 hsz2 hl2 => by
      have ns := nm_size hok.1
      have hkk : a.2.toNat = 1 ∨ a.2.toNat = 2 ∨ a.2.toNat = 3 := by omega
      have htab2 := (htab.no k2).k
      have hcell : cell H2 (Addr.add ⟨0, 0, none⟩ (a.2.toNat * 1)) = some (.string (kw a.2)) := by
        have hk2 := cells_iff.1 htab2
        rcases hkk with e | e | e
        · rw [e, show a.2 = 1 from by omega]
          exact hk2 1 _ rfl
        · rw [e, show a.2 = 2 from by omega]
          exact hk2 2 _ rfl
        · rw [e, show a.2 = 3 from by omega]
          exact hk2 3 _ rfl
      have hks : (kw a.2).size ≤ 4 := by
        unfold kw
        split
        · decide
        · split
          · decide
          · decide
      refine ⟨a.1, x2.cell_of (i := 0) rfl, by rw [show S_______.size = 1 from rfl]; omega, a.2, x2.cell_of (i := 1) rfl, by omega, by have := hok.2.2.2; omega, kw a.2, hcell, by rw [size_app, show S_______.size = 1 from rfl]; omega, ?_⟩
      have hts : ((a.1 ++ S_______) ++ kw a.2).size ≤ 40 := by rw [size_app, size_app, show S_______.size = 1 from rfl]; omega
      refine ⟨H6.size, H6.size, l, rfl, hb2, by omega, by omega, fun H60 b60 k60 => ?_⟩
      have nx : ¬ Sb H2 H6.size H6.size H'.size := Sb.not_row x2 (by decide) (by omega)
      have x60 := k60.row x2 nx
      have hne0 : (Addr.add ⟨0, 0, none⟩ (a.2.toNat * 1)).block = 0 := by rw [add_mk]
      refine ⟨?_, x60.cell_of (i := 1) rfl, x60.cell_of (i := 0) rfl, ?_⟩
      · rw [k60.cell (by rw [hne0]; omega) (by rw [hne0]; exact Sb.not_lt (by omega) (Nat.le_refl _))]
        exact hcell
      · rw [wr (by omega) (by omega)]
        refine ih (i + 1) H60 (by omega) ?_ (k2.trans k60 fun x hx => .inr (by
          rcases hx with hx | ⟨hx, _⟩
          · omega
          · omega)) (by have := k60.size; omega)
        have e : hd.data.toList ++ prA true (A.take (i + 1)) = l ++ ((a.1 ++ S_______) ++ kw a.2).data.toList := by
          rw [htk, prA_snoc, hl2]
          show hd.data.toList ++ (prA true (A.take i) ++ ((if (true && (A.take i).isEmpty) then [] else S______.data.toList) ++ (((a.1 ++ S_______) ++ kw a.2).data.toList ++ []))) = _
          simp only [List.append_assoc, List.append_nil]
        rw [e]; exact b60
    refine ⟨fun h0 => ?_, fun h0 => ?_⟩
    · have hi0 : 0 < i := by have := of_decide_eq_true h0; omega
      refine ⟨H6.size, H6.size, _, rfl, hb37, ?_, by omega, fun H46 b46 k46 => ?_⟩
      · rw [List.length_append, ean, show S______.size = 2 from rfl]; omega
      · refine three _ H46 ?_ b46 (k46.row x37 (Sb.not_row x37 (by decide) (by omega))) ((k.trans k37 fun _ h => h.elim).trans k46 fun x hx => .inr (by
          rcases hx with hx | ⟨hx, _⟩
          · omega
          · omega)) k46.size ?_
        · rw [List.length_append, List.length_append, ean]
          have : S______.data.toList.length = 2 := rfl
          omega
        · have : (A.take i).isEmpty = false := by
            rw [List.isEmpty_eq_false_iff]
            intro e
            have := congrArg List.length e
            rw [List.length_take] at this
            have this : min i A.length = 0 := this
            omega
          rw [this]
          rfl
    · have hi0 : i = 0 := by have := of_decide_eq_false h0; omega
      refine three _ H37 ?_ hb37 x37 (k.trans k37 fun _ h => h.elim) (Nat.le_refl _) ?_
      · rw [hi0]
        show (hd.data.toList ++ []).length ≤ 1000
        rw [List.append_nil, ean]; omega
      · rw [hi0]
        show hd.data.toList ++ [] = hd.data.toList ++ [] ++ []
        simp

/-- Are two types the same? -/
theorem c15 {name2 : ByteArray} {sl2 : Sl} {A2 : List (ByteArray × Int)} {Q : Bool → Hp → Prop} (h : RdL aF H sl A) (h2 : RdL aF H sl2 A2) (hl : A.length ≤ 4194304) (hQ : ∀ y H', (y = true ↔ name = name2 ∧ A = A2) → Kp No H H' → Q y H') : F15 name sl name2 sl2 H Q := by
  have hn := h.n
  have hn2 := h2.n
  intro H1 e1 H3 e3
  have k1 := (Kp.refl No H).push' e1
  have s1 := size_push' e1
  have k3 : Kp No H1 H3 := (Kp.refl No _).push' e3
  have kk3 : Kp No H H3 := k1.trans k3 fun _ h => h.elim
  have t3 : Row H3 H.size 27 [.string name, Sl.v sl] := k3.row (Row.new' e1) id
  have u3 : Row H3 H1.size 27 [.string name2, Sl.v sl2] := Row.new' e3
  refine ⟨name, t3.cell_of (i := 0) rfl, name2, u3.cell_of (i := 0) rfl, fun hh => ⟨fun _ => hQ _ _ ?_ kk3, fun h => (by cases h)⟩, fun hh => ⟨sl, t3.cell_of (i := 1) rfl, sl2, u3.cell_of (i := 1) rfl, fun hne => hQ _ _ ?_ kk3, fun hne => ?_⟩⟩
  · have hs := notT hh
    constructor
    · intro h; cases h
    · rintro ⟨e, _⟩
      rw [e, seq_refl] at hs
      cases hs
  · have hne := of_decide_eq_true hne
    constructor
    · intro h; cases h
    · rintro ⟨_, e⟩
      rw [e] at hn
      omega
  have hnm : name = name2 := seq_iff.1 (notF hh)
  have hlen : A.length = A2.length := by
    by_cases e : A.length = A2.length
    · exact e
    · exact absurd (show ((sl.n : Nat) : Int) ≠ ((sl2.n : Nat) : Int) by omega) (of_decide_eq_false hne)
  intro X hX
  suffices G : ∀ (d i : Nat), i + d = A.length → A.take i = A2.take i → X (i : Int) H3 from G A.length 0 (by omega) rfl
  intro d
  induction d with
  | zero =>
    intro i hi ha
    rw [List.take_of_length_le (by omega), List.take_of_length_le (by omega)] at ha
    exact hX _ _ ⟨sl, t3.cell_of (i := 1) rfl, fun h => absurd (of_decide_eq_true h) (by omega), fun _ => hQ _ _ ⟨fun _ => ⟨hnm, ha⟩, fun _ => rfl⟩ kk3⟩
  | succ d ih =>
    intro i hi ha
    have g1 : A[i]? = some (A[i]'(by omega)) := List.getElem?_eq_getElem (by omega)
    have g2 : A2[i]? = some (A2[i]'(by omega)) := List.getElem?_eq_getElem (by omega)
    have tk1 : A.take (i + 1) = A.take i ++ [A[i]'(by omega)] := by simp
    have tk2 : A2.take (i + 1) = A2.take i ++ [A2[i]'(by omega)] := by simp
    generalize A[i]'(by omega) = a at g1 tk1
    generalize A2[i]'(by omega) = b at g2 tk2
    obtain ⟨p, hp, hpn, cp⟩ := (h.kp0 kk3).get g1
    obtain ⟨q, hq, hqn, cq⟩ := (h2.kp0 kk3).get g2
    refine hX _ _ ⟨sl, t3.cell_of (i := 1) rfl, fun _ => ⟨sl, t3.cell_of (i := 1) rfl, p, hp, by omega, by omega, a.1, a.2, cp, sl2, u3.cell_of (i := 1) rfl, q, hq, by omega, by omega, b.1, b.2, cq, fun hd => ?_, fun hd => ?_⟩, fun h => absurd (of_decide_eq_false h) (by omega)⟩
    · refine hQ _ _ ⟨fun h => (by cases h), fun ⟨_, e⟩ => ?_⟩ kk3
      rw [e, g2] at g1
      injection g1 with g1
      rw [g1, seq_refl] at hd
      simp at hd
    · rw [wr (by omega) (by omega)]
      refine ih (i + 1) (by omega) ?_
      have hd := notF hd
      rw [Bool.and_eq_true] at hd
      have e1 := seq_iff.1 hd.1
      have e2 := of_decide_eq_true hd.2
      rw [tk1, tk2, ha, show a = b from Prod.ext e1 e2]

/-! ## blanks -/
def u8F : Fmt Int 5 1 := ⟨fun x => [.int .u8 x], fun _ => rfl, by intro x v hv; simp at hv; rcases hv with rfl; rfl, by decide⟩
def Gap (some' : Bool) (g : ByteArray) : Prop := (bytes g).all blankN = true ∧ g.size ≤ 3 ∧ (some' = true → bytes g ≠ [])
end
end Go.Hw
