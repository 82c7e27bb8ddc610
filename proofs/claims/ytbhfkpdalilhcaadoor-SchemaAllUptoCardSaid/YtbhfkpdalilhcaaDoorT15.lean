/- Both catalogs' calls. Own work of this session. -/
import Derived.Test.YtbhfkpdalilhcaaDoorT14
set_option linter.unusedVariables false
namespace Go.Hw
open Go

/-! ## order of names -/
theorem bytesLess_cmp : ∀ a b : List UInt8, Op.bytesLess a b = decide (Lib.compareBytes a b < 0)
  | [], [] => by unfold Op.bytesLess Lib.compareBytes; rfl
  | _ :: _, [] => by unfold Op.bytesLess Lib.compareBytes; rfl
  | [], _ :: _ => by unfold Op.bytesLess Lib.compareBytes; rfl
  | a :: x, b :: y => by
    unfold Op.bytesLess
    rw [bytesLess_cmp x y, Bool.eq_iff_iff, decide_eq_true_iff, cmpL_neg]
    simp
theorem slt_cmp (a b : ByteArray) : slt a b = decide (cmpS a b < 0) := by
  unfold slt cmpS
  rw [Lib.toList_data, Lib.toList_data, bytesLess_cmp]
theorem cmpS_total {a b : ByteArray} (h1 : ¬ cmpS a b < 0) (h2 : ¬ cmpS b a < 0) : a = b := by
  rcases cmpL_total h1 with e | e
  · exact ByteArray.ext (Array.toList_inj.1 e)
  · exact absurd e h2
theorem cmpS_asymm {a b : ByteArray} (h : cmpS a b < 0) : ¬ cmpS b a < 0 := fun h2 => cmpL_irrefl _ (cmpL_trans h h2)
/-- Not above. -/
def leN (x y : CE) : Prop := ¬ cmpS y.n x.n < 0
theorem leN_trans {x y z : CE} (h1 : leN x y) (h2 : leN y z) : leN x z := fun h => by
  unfold leN cmpS at *
  rcases cmpL_total h1 with e | e
  · exact h2 (by rw [e]; exact h)
  · exact h2 (cmpL_trans h e)

/-! ## what stands under a name -/
section
variable {Z : List CE}
theorem mget_ents_some : ∀ {Z : List CE}, (Z.map CE.n).Nodup → ∀ {z : CE}, z ∈ Z → mget (ents Z) z.n = some (z.n, z.s)
  | [], _, _, h => by cases h
  | y :: Z, hn, z, h => by
    rw [List.map_cons, List.nodup_cons] at hn
    show mget ((y.n, (y.n, y.s), y.t) :: ents Z) z.n = _
    rw [mget_cons]
    rcases List.mem_cons.1 h with e | h
    · rw [e, if_pos rfl]
    · rw [if_neg (fun e : z.n = y.n => hn.1 (e ▸ List.mem_map_of_mem h))]
      exact mget_ents_some hn.2 h
theorem mget_ents_none : ∀ {Z : List CE} {name : ByteArray}, (∀ z ∈ Z, z.n ≠ name) → mget (ents Z) name = none
  | [], _, _ => rfl
  | y :: Z, name, h => by
    show mget ((y.n, (y.n, y.s), y.t) :: ents Z) name = _
    rw [mget_cons, if_neg (fun e => h y (List.mem_cons_self ..) e.symm)]
    exact mget_ents_none fun z hz => h z (List.mem_cons_of_mem _ hz)
theorem name_cases (Z : List CE) (name : ByteArray) : (∃ z ∈ Z, z.n = name) ∨ ∀ z ∈ Z, z.n ≠ name := by
  by_cases h : ∃ z ∈ Z, z.n = name
  · exact .inl h
  · exact .inr fun z hz e => h ⟨z, hz, e⟩
theorem name_inj : ∀ {l : List CE}, (l.map CE.n).Nodup → ∀ {x y : CE}, x ∈ l → y ∈ l → x.n = y.n → x = y
  | [], _, _, _, hx, _, _ => by cases hx
  | a :: l, hn, x, y, hx, hy, e => by
    rw [List.map_cons, List.nodup_cons] at hn
    rcases List.mem_cons.1 hx with hxa | hx
    · rcases List.mem_cons.1 hy with hya | hy
      · rw [hxa, hya]
      · have := List.mem_map_of_mem (f := CE.n) hy
        rw [← e, hxa] at this
        exact absurd this hn.1
    · rcases List.mem_cons.1 hy with hya | hy
      · have := List.mem_map_of_mem (f := CE.n) hx
        rw [e, hya] at this
        exact absurd this hn.1
      · exact name_inj hn.2 hx hy e
/-- Two lists of the same types, both in order, are one. -/
theorem sorted_one {D D' : List CE} (hn : (Z.map CE.n).Nodup) (h : D.Perm Z) (h' : D'.Perm Z) (s : D.Pairwise leN) (s' : D'.Pairwise leN) : D = D' :=
  List.Perm.eq_of_pairwise (fun a b ha hb h1 h2 => name_inj hn (h.mem_iff.1 ha) (h'.mem_iff.1 hb) (cmpS_total h2 h1)) s s' (h.trans h'.symm)
end

section
variable {H : Hp} {cb mr c rb : Nat} {Z : List CE} {s sl : Sl} {M : List (ByteArray × Sl)} {name : ByteArray} {A : List (ByteArray × Int)}

theorem map_ne_row {H : Hp} {mr : Nat} {L : ML ByteArray (ByteArray × Sl)} {c b t : Nat} {l : List Value} (hm : mapAt mk9 mv27 H (some mr) L c) (hr : Row H b t l) : mr ≠ b := hm.ne hr
theorem words_ne_map (hw : WordsH H) {L : ML ByteArray (ByteArray × Sl)} (hm : mapAt mk9 mv27 H (some mr) L c) : 1 ≠ mr := fun e => by
  have h1 := (cells_iff.1 hw) 0 _ (show (words.map Value.string)[0]? = some _ from rfl)
  subst e
  have hm : H[1]? = some (mapo mk9 mv27 L c) := hm
  unfold cell at h1
  rw [show (Addr.add ⟨1, 0, none⟩ (0 + 0)).block = 1 from rfl, hm] at h1
  cases h1

/-- A type is declared. -/
theorem c9c {Q : Int → Hp → Prop} (hw : WordsH H) (h : CatH H cb mr Z c) (hA : RdL aF H sl A) (hc : sl.n ≤ sl.c) (hl : A.length ≤ 4194304) (hs : name.size ≤ 281474976710656)
    (q0 : wrg name A ≠ 0 → ∀ H', Kp No H H' → Q (wrg name A) H') (q1 : wrg name A = 0 → (∃ z ∈ Z, z.n = name) → ∀ H', Kp No H H' → Q 5 H') (q2 : wrg name A = 0 → (∀ z ∈ Z, z.n ≠ name) → 64 ≤ Z.length → ∀ H', Kp No H H' → Q 4 H')
    (q3 : wrg name A = 0 → (∀ z ∈ Z, z.n ≠ name) → Z.length < 64 → ∀ r H', CatH H' cb mr (Z ++ [⟨name, r, A, c⟩]) (c + 1) → (∀ b, r.at b → H.size ≤ b) → Kp (fun x => x = mr) H H' → Q 0 H') : F9 (some ⟨cb, 0, none⟩) name sl H Q := by
  have el : (ents Z).length = Z.length := by unfold ents; rw [List.length_map]
  refine c9 hw h.row h.m hA hc hl hs q0 (fun w0 hg => q1 w0 ?_) (fun w0 hg hl => q2 w0 ?_ (by omega)) fun w0 hg hl r H' lr fr m' k' => ?_
  · rcases name_cases Z name with hz | hz
    · exact hz
    · rw [mget_ents_none hz] at hg; cases hg
  · rcases name_cases Z name with ⟨z, hz, e⟩ | hz
    · rw [← e, mget_ents_some h.nd hz] at hg; cases hg
    · exact hz
  · have hz : ∀ z ∈ Z, z.n ≠ name := by
      rcases name_cases Z name with ⟨z, hz, e⟩ | hz
      · rw [← e, mget_ents_some h.nd hz] at hg; cases hg
      · exact hz
    have hget := mget_ents_none hz
    have hk : name ∉ mkeys (ents Z) := mget_none.1 hget
    have hput : mput (ents Z) c name (name, r) = (ents (Z ++ [⟨name, r, A, c⟩]), c + 1) := by
      have h1 := mput_new (c := c) (v := (name, r)) hk
      have h2 : (mput (ents Z) c name (name, r)).2 = c + 1 := by
        unfold mput
        have : mfind name (ents Z) 0 = none := by
          unfold mget at hget
          cases hf : mfind name (ents Z) 0 with
          | none => rfl
          | some p => rw [hf] at hget; cases hget
        rw [this]
      refine Prod.ext ?_ h2
      rw [h1]
      unfold ents
      rw [List.map_append]
      rfl
    rw [hput] at m'
    refine q3 w0 hz (by omega) r H' ⟨k'.row h.row fun e => h.m.ne h.row e.symm, m', ⟨?_, fun e he => ?_⟩, fun z hz' => ?_, ?_⟩ fr k'
    · have h1 := h.wf.1
      unfold ents at h1 ⊢
      rw [List.map_append, List.map_append, List.nodup_append]
      refine ⟨h1, by simp, fun a ha b hb => ?_⟩
      have hb : b = c := by simpa using hb
      obtain ⟨e, he, rfl⟩ := List.mem_map.1 ha
      have := h.wf.2 e he
      omega
    · unfold ents at he
      rw [List.map_append] at he
      rcases List.mem_append.1 he with he | he
      · have := h.wf.2 e he
        omega
      · have he : e = (name, (name, r), c) := by simpa using he
        subst he
        show c < c + 1
        omega
    · rcases List.mem_append.1 hz' with hz' | hz'
      · refine ⟨(h.l z hz').1.kp k' fun b hb e => ?_, (h.l z hz').2⟩
        subst e
        obtain ⟨sp, hr⟩ := (h.l z hz').1.row hb
        exact h.m.ne hr rfl
      · rw [List.mem_singleton] at hz'
        subst hz'
        refine ⟨lr, ?_⟩
        have := (wrg_good w0).2.len
        exact this
    · rw [List.map_append, List.nodup_append]
      refine ⟨h.nd, by simp, fun a ha b hb => ?_⟩
      have hb : b = name := by simpa using hb
      obtain ⟨z, hz', rfl⟩ := List.mem_map.1 ha
      rw [hb]
      exact hz z hz'

theorem c40 {Q : Int → Hp → Prop} (h : RefH H rb s M Z) (hZ : Z.length ≤ 64) (hA : RdL aF H sl A) (hl : A.length ≤ 4194304)
    (q0 : wrg name A ≠ 0 → ∀ H', Kp No H H' → Q (wrg name A) H') (q1 : wrg name A = 0 → (∃ z ∈ Z, z.n = name) → ∀ H', Kp No H H' → Q 5 H') (q2 : wrg name A = 0 → (∀ z ∈ Z, z.n ≠ name) → 64 ≤ Z.length → ∀ H', Kp No H H' → Q 4 H')
    (q3 : wrg name A = 0 → (∀ z ∈ Z, z.n ≠ name) → Z.length < 64 → ∀ s' m H', (∀ z : CE, z.n = name → z.A = A → RefH H' rb s' (M ++ [m]) (Z ++ [z])) → (∀ b, s'.at b → s.at b ∨ H.size ≤ b) → (∀ b, m.2.at b → H.size ≤ b) → Kp (fun x => x = rb ∨ s.at x) H H' → Q 0 H') : F40 (some ⟨rb, 0, none⟩) name sl H Q := by
  have hn := h.l.n
  have hlen := h.len
  intro H1 e1
  have k1 : Kp No H H1 := (Kp.refl No H).push' e1
  have s1 := size_push' e1
  have t1 : Row H1 H.size 27 [.string name, Sl.v sl] := Row.new' e1
  refine ⟨name, sl, t1.all, c68 (hA.kp0 k1) hl fun H6 k6 => ⟨fun hh => q0 (by simpa using hh) H6 (k1.no2' k6), fun hh => ?_⟩⟩
  have w0 : wrg name A = 0 := by
    by_cases e : wrg name A = 0
    · exact e
    · exact absurd e (of_decide_eq_false hh)
  have kk6 := k1.no2' k6
  have t6 := k6.row t1 id
  have h6 := h.no kk6
  have s6 := k6.size
  refine ⟨name, t6.cell_of (i := 0) rfl, c69 h6 hZ (fun i z hz e => ⟨fun _ => q1 w0 ⟨z, List.mem_of_getElem? hz, e⟩ H6 kk6, fun hh => absurd (of_decide_eq_false hh) (by omega)⟩) fun hz => ⟨fun hh => absurd (of_decide_eq_true hh) (by omega), fun _ => ?_⟩⟩
  refine ⟨_, rfl, s, h6.row.cell_of (i := 0) rfl, fun h64 => q2 w0 hz (by have := of_decide_eq_true h64; omega) H6 kk6, fun h64 => ?_⟩
  have h64 := of_decide_eq_false h64
  refine ⟨_, rfl, s, h6.row.cell_of (i := 0) rfl, name, sl, t6.all, c70 (hA.kp0 kk6) hl fun r H28 lr fr k28 => ?_⟩
  have h28 := h6.no k28
  have s28 := k28.size
  refine ⟨h28.row.cell_of (i := 0) rfl, fun H33 e33 => ?_⟩
  have k33 : Kp No H28 H33 := (Kp.refl No _).push' e33
  have s33 := size_push' e33
  have h33 := h28.no k33
  have x33 : Row H33 H28.size 27 (tF.f (name, r)) := Row.new' e33
  have kk33 : Kp No H H33 := (kk6.no2' k28).no2' k33
  refine ⟨h33.row.cell_of (i := 0) rfl, h33.l.append1 x33 rfl (by omega) (by omega) fun r38 H36 l36 k36 g36 => ?_⟩
  have s36 := k36.size
  have row36 := k36.row h33.row fun hh => h33.l.ne h33.row (by decide) hh
  refine ⟨_, rfl, row36.some (i := 0) (by simp), row36.frz 0, fun H41 e41 => ?_⟩
  have row41 : Row H41 rb 118 [Sl.v r38] := row36.set' e41
  have k41 : Kp (fun x => x = rb) H36 H41 := (Kp.refl _ _).set' e41 (.inl rfl)
  have g38 : ∀ b, r38.at b → s.at b ∨ H33.size ≤ b := fun b hb => by
    rcases g36 b hb with hb | hb
    · exact .inl hb
    · exact .inr (by omega)
  have l41 := l36.kp k41 fun b hb e => by subst e; exact l36.ne row36 (by decide) hb
  -- the others are kept
  have keep : ∀ {q : Sl} {B : List (ByteArray × Int)}, Lst aF H33 q B → Lst aF H41 q B := fun {q B} hq => by
    have h36 := hq.kp k36 fun b hb hh => by
      obtain ⟨sp, hr⟩ := h33.l.row hh
      exact hq.ne hr (by decide) hb
    exact h36.kp k41 fun b hb e => by subst e; exact h36.ne row36 (by decide) hb
  refine q3 w0 hz (by omega) r38 (name, r) H41 (fun z hzn hzA => ⟨row41, l41, by simp; omega, fun i m y hm hy => ?_⟩) (fun b hb => ?_) (fun b hb => by have := fr b hb; omega) ((kk33.mono fun _ _ h => h.elim).trans (k36.mono (T := fun x => x = rb ∨ s.at x) fun _ _ h => .inr h) (fun b hb => .inl hb) |>.trans k41 fun b hb => .inl (.inl hb))
  · by_cases hi : i < M.length
    · rw [List.getElem?_append_left hi] at hm
      rw [List.getElem?_append_left (by omega)] at hy
      have := h33.a i m y hm hy
      exact ⟨this.1, keep this.2⟩
    · rw [List.getElem?_append_right (by omega)] at hm
      rw [List.getElem?_append_right (by omega)] at hy
      have h0 : i - M.length = 0 := by
        have := (List.getElem?_eq_some_iff.1 hm).1
        simp at this; omega
      rw [h0] at hm
      rw [show i - Z.length = 0 from by omega] at hy
      have hm : (name, r) = m := by simpa using hm
      have hy : z = y := by simpa using hy
      subst hm hy
      exact ⟨hzn.symm, by rw [hzA]; exact keep (lr.kp k33 fun _ _ => id)⟩
  · rcases g38 b hb with hb | hb
    · exact .inl hb
    · exact .inr (by have := kk33.size; omega)

/-- A type is told. -/
theorem c42 {Q : ByteArray → Sl → Int → Hp → Prop} (h : CatH H cb mr Z c)
    (q0 : (∀ z ∈ Z, z.n ≠ name) → ∀ H', Kp No H H' → Q E Sl.nil 21 H') (q1 : ∀ z ∈ Z, z.n = name → ∀ r H', Lst aF H' r z.A → (∀ b, r.at b → H.size ≤ b) → Kp No H H' → Q name r 0 H') : F42 (some ⟨cb, 0, none⟩) name H Q := by
  intro H1 e1
  have k1 : Kp No H H1 := (Kp.refl No H).push' e1
  have s1 := size_push' e1
  have z1 : Row H1 H.size 27 [.string E, Sl.v Sl.nil] := Row.new' e1
  have h1 := h.no k1
  refine ⟨_, rfl, some mr, h1.row.cell_of (i := 0) rfl, ents Z, c, MapK.of h1.m, fun H10 e10 => ?_⟩
  have k10 : Kp No H1 H10 := (Kp.refl No _).push' e10
  have s10 := size_push' e10
  have r10 := Row.new' e10
  refine ⟨r10.mayw (by decide), fun H12 e12 => ?_⟩
  have k12 : Kp No H1 H12 := k10.sets' e12 (.inr (Nat.le_refl _))
  have kk12 := k1.no2' k12
  have z12 := k12.row z1 id
  have s12 := size_sets' e12
  rcases name_cases Z name with ⟨z, hz, e⟩ | hz
  · have hget : mget (ents Z) name = some (z.n, z.s) := by rw [← e]; exact mget_ents_some h.nd hz
    rw [hget] at e12 ⊢
    have x12 : Row H12 H1.size 27 [.string z.n, Sl.v z.s] := r10.fill' e12 rfl
    refine ⟨fun hh => (by cases hh), fun _ => ⟨z.n, z.s, x12.all, c25 ((h.no kk12).l z hz).1.rd (by have := (h.l z hz).2; omega) fun r H25 lr fr k25 => ?_⟩⟩
    have z25 := k25.row z12 id
    refine ⟨z25.mayw (by decide), fun H29 e29 => ?_⟩
    have z29 : Row H29 H.size 27 [.string z.n, Sl.v r] := z25.fill' e29 rfl
    have k29 : Kp (fun x => x = H.size) H25 H29 := (Kp.refl _ _).sets' e29 (.inl rfl)
    rw [e] at z29
    exact ⟨name, r, z29.all, q1 z hz e r H29 (lr.kp k29 fun b hb e => by have := fr b hb; omega) (fun b hb => by have := fr b hb; omega) ((kk12.no2' k25).trans k29 fun b hb => .inr (by omega))⟩
  · rw [mget_ents_none hz]
    refine ⟨fun _ => ⟨z12.mayw (by decide), fun H16 e16 => ?_⟩, fun hh => (by cases hh)⟩
    have z16 : Row H16 H.size 27 [.string E, Sl.v Sl.nil] := z12.fill' e16 rfl
    have k16 : Kp (fun x => x = H.size) H12 H16 := (Kp.refl _ _).sets' e16 (.inl rfl)
    exact ⟨_, _, z16.all, q0 hz H16 (kk12.trans k16 fun b hb => .inr (by omega))⟩
theorem c43 {Q : ByteArray → Sl → Int → Hp → Prop} (h : RefH H rb s M Z) (hZ : Z.length ≤ 64) (hA : ∀ z ∈ Z, z.A.length ≤ 16)
    (q0 : (∀ z ∈ Z, z.n ≠ name) → ∀ H', Kp No H H' → Q E Sl.nil 21 H') (q1 : ∀ z ∈ Z, z.n = name → ∀ r H', Lst aF H' r z.A → (∀ b, r.at b → H.size ≤ b) → Kp No H H' → Q name r 0 H') : F43 (some ⟨rb, 0, none⟩) name H Q := by
  have hn := h.l.n
  have hlen := h.len
  intro H1 e1
  have k1 : Kp No H H1 := (Kp.refl No H).push' e1
  have s1 := size_push' e1
  have z1 : Row H1 H.size 27 [.string E, Sl.v Sl.nil] := Row.new' e1
  have h1 := h.no k1
  refine c69 h1 hZ (fun i z hz e => ⟨fun hh => absurd (of_decide_eq_true hh) (by omega), fun _ => ?_⟩) fun hz => ⟨fun _ => ⟨z1.mayw (by decide), fun H7 e7 => ?_⟩, fun hh => absurd (of_decide_eq_false hh) (by omega)⟩
  · have hil := (List.getElem?_eq_some_iff.1 hz).1
    have gm : M[i]? = some (M[i]'(by omega)) := List.getElem?_eq_getElem (by omega)
    have hm := h1.a i _ _ gm hz
    generalize M[i]'(by omega) = m at gm hm
    obtain ⟨p, hp, hpn, cp⟩ := h1.l.rd.get gm
    have hzm := List.mem_of_getElem? hz
    refine ⟨_, rfl, s, h1.row.cell_of (i := 0) rfl, p, hp, by omega, by omega, m.1, m.2, ?_, c70 hm.2.rd (by have := hA z hzm; omega) fun r H24 lr fr k24 => ?_⟩
    · rw [show ((i : Int)).toNat = i from by omega]
      exact cp
    · have z24 := k24.row z1 id
      refine ⟨z24.mayw (by decide), fun H28 e28 => ?_⟩
      have z28 : Row H28 H.size 27 [.string m.1, Sl.v r] := z24.fill' e28 rfl
      have k28 : Kp (fun x => x = H.size) H24 H28 := (Kp.refl _ _).sets' e28 (.inl rfl)
      rw [hm.1, e] at z28
      exact ⟨name, r, z28.all, q1 z hzm e r H28 (lr.kp k28 fun b hb e => by have := fr b hb; omega) (fun b hb => by have := fr b hb; omega) ((k1.no2' k24).trans k28 fun b hb => .inr (by omega))⟩
  · have z7 : Row H7 H.size 27 [.string E, Sl.v Sl.nil] := z1.fill' e7 rfl
    have k7 : Kp (fun x => x = H.size) H1 H7 := (Kp.refl _ _).sets' e7 (.inl rfl)
    exact ⟨_, _, z7.all, q0 hz H7 (k1.trans k7 fun b hb => .inr (by omega))⟩

/-- An event is looked at. -/
theorem c11c {ty : ByteArray} {time : Int} {vs : Sl} {V : List VT} {Q : Int → Hp → Prop} (h : CatH H cb mr Z c) (hV : RdL vF H vs V) (hl : V.length ≤ 4611686018427387904)
    (q0 : (∀ z ∈ Z, z.n ≠ ty) → ∀ H', Kp No H H' → Q 21 H') (q1 : ∀ z ∈ Z, z.n = ty → ∀ H', Kp No H H' → Q (chk time V z.A) H') : F11 (some ⟨cb, 0, none⟩) ty time vs H Q := by
  refine c11 h.row h.m hV hl (fun hg => q0 ?_) fun n' asl hg => ?_
  · rcases name_cases Z ty with ⟨z, hz, e⟩ | hz
    · rw [← e, mget_ents_some h.nd hz] at hg; cases hg
    · exact hz
  · rcases name_cases Z ty with ⟨z, hz, e⟩ | hz
    · rw [← e, mget_ents_some h.nd hz] at hg
      injection hg with hg
      injection hg with _ hg
      subst hg
      exact ⟨z.A, (h.l z hz).1.rd, q1 z hz e⟩
    · rw [mget_ents_none hz] at hg; cases hg
theorem c47 {ty : ByteArray} {time : Int} {vs : Sl} {V : List VT} {Q : Int → Hp → Prop} (h : RefH H rb s M Z) (hZ : Z.length ≤ 64) (hA : ∀ z ∈ Z, z.A.length ≤ 16) (hV : RdL vF H vs V) (hl : V.length ≤ 4611686018427387904)
    (q0 : (∀ z ∈ Z, z.n ≠ ty) → ∀ H', Kp No H H' → Q 21 H') (q1 : ∀ z ∈ Z, z.n = ty → ∀ H', Kp No H H' → Q (chk time V z.A) H') : F47 (some ⟨rb, 0, none⟩) ty time vs H Q := by
  have hn := h.l.n
  have hlen := h.len
  intro H1 e1
  have k1 : Kp No H H1 := (Kp.refl No H).push' e1
  have s1 := size_push' e1
  have o1 : Row H1 H.size 33 [.string ty, .int .i64 time, Sl.v vs] := Row.new' e1
  have h1 := h.no k1
  refine ⟨ty, o1.cell_of (i := 0) rfl, c69 h1 hZ (fun i z hz e => ⟨fun hh => absurd (of_decide_eq_true hh) (by omega), fun _ => ?_⟩) fun hz => ⟨fun _ => q0 hz H1 k1, fun hh => absurd (of_decide_eq_false hh) (by omega)⟩⟩
  have hil := (List.getElem?_eq_some_iff.1 hz).1
  have gm : M[i]? = some (M[i]'(by omega)) := List.getElem?_eq_getElem (by omega)
  have hm := h1.a i _ _ gm hz
  generalize M[i]'(by omega) = m at gm hm
  obtain ⟨p, hp, hpn, cp⟩ := h1.l.rd.get gm
  have hzm := List.mem_of_getElem? hz
  have hQ := q1 z hzm e
  unfold chk at hQ
  have hVn := hV.n
  have hAn := hm.2.n
  have hAl := hA z hzm
  have one : ∀ y : Bool, (y = true ↔ (time < 0 ∨ 4611686018427387904 < time)) → F47_1 Q (some ⟨rb, 0, none⟩) ⟨H.size, 0, none⟩ (i : Int) y H1 := fun y hy => by
    refine ⟨fun hh => ?_, fun hh => ⟨_, rfl, s, h1.row.cell_of (i := 0) rfl, p, hp, by omega, by omega, m.2, ?_, vs, o1.cell_of (i := 2) rfl, fun hne => ?_, fun hne => ?_⟩⟩
    · rw [if_pos (hy.1 hh)] at hQ
      exact hQ H1 k1
    · rw [show ((i : Int)).toNat = i from by omega]
      exact cp.2.1
    · rw [if_neg (fun h => by rw [hy.2 h] at hh; cases hh), if_pos (by have := of_decide_eq_true hne; omega)] at hQ
      exact hQ H1 k1
    have hlen' : V.length = z.A.length := by
      by_cases e : V.length = z.A.length
      · exact e
      · exact absurd (show ((m.2.n : Nat) : Int) ≠ ((vs.n : Nat) : Int) by omega) (of_decide_eq_false hne)
    rw [if_neg (fun h => by rw [hy.2 h] at hh; cases hh), if_neg (by omega)] at hQ
    generalize hR : chkL V z.A = R at hQ
    intro X hX
    suffices G : ∀ (d j : Nat) (H' : Hp), j + d = V.length → chkL (V.drop j) (z.A.drop j) = R → Kp No H1 H' → X (j : Int) H' from G V.length 0 H1 (by omega) hR (Kp.refl _ _)
    intro d
    induction d with
    | zero =>
      intro j H' hj ha k
      rw [List.drop_eq_nil_of_le (by omega)] at ha
      refine hX _ _ ⟨fun hh => absurd (of_decide_eq_true hh) (by omega), fun _ => ?_⟩
      have := hQ H' (k1.no2' k)
      rw [← ha] at this
      exact this
    | succ d ih =>
      intro j H' hj ha k
      have hjv : j < V.length := by omega
      have hja : j < z.A.length := by omega
      have gv : V[j]? = some (V[j]'hjv) := List.getElem?_eq_getElem hjv
      have ga : z.A[j]? = some (z.A[j]'hja) := List.getElem?_eq_getElem hja
      rw [List.drop_eq_getElem_cons hjv, List.drop_eq_getElem_cons hja] at ha
      generalize V[j]'hjv = v at gv ha
      generalize z.A[j]'hja = a at ga ha
      unfold chkL at ha
      have kk : Kp No H H' := k1.no2' k
      obtain ⟨b, hb, hbn, cb'⟩ := (hV.kp0 kk).get gv
      obtain ⟨g, hg', hgn, cg⟩ := (hm.2.rd.kp0 k).get ga
      have o' := k.row o1 id
      have hjt : ((j : Int)).toNat = j := by omega
      have cv : cell H' (Addr.add b (((j : Int)).toNat * 4)) = some (.int .i64 v.k) := by
        rw [hjt]
        have := cb'.1
        rwa [show (b.add (j * 4)).add 0 = b.add (j * 4) from by rw [add_add, Nat.add_zero]] at this
      have ca : cell H' (Addr.add (Addr.add g (((j : Int)).toNat * 2)) 1) = some (.int .i64 a.2) := by rw [hjt]; exact cg.2.1
      refine hX _ _ ⟨fun _ => ⟨vs, o'.cell_of (i := 2) rfl, b, hb, by omega, by omega, v.k, cv, g, hg', by omega, by omega, a.2, ca, fun h1 => ?_, fun h1 => ⟨vs, o'.cell_of (i := 2) rfl, b, hb, by omega, by omega, v.k, v.n, v.s, v.b, by rw [hjt]; exact cb', c71 fun H63 k63 => ⟨fun h2 => ?_, fun h2 => ?_⟩⟩⟩, fun hh => absurd (of_decide_eq_false hh) (by omega)⟩
      · rw [if_pos (of_decide_eq_true h1)] at ha
        rw [← ha] at hQ
        exact hQ H' kk
      · rw [if_neg (of_decide_eq_false h1), if_pos (notT h2)] at ha
        rw [← ha] at hQ
        exact hQ H63 (kk.no2' k63)
      · rw [if_neg (of_decide_eq_false h1), if_neg (by rw [notF h2]; decide)] at ha
        rw [wr (by omega) (by omega)]
        exact ih (j + 1) H63 (by omega) ha (k.no2' k63)
  refine ⟨time, o1.cell_of (i := 1) rfl, fun h => one true ⟨fun _ => .inl (of_decide_eq_true h), fun _ => rfl⟩, fun h => ⟨time, o1.cell_of (i := 1) rfl, one _ ⟨fun h2 => .inr (of_decide_eq_true h2), fun h2 => decide_eq_true ?_⟩⟩⟩
  have := of_decide_eq_false h
  omega
end
end Go.Hw
