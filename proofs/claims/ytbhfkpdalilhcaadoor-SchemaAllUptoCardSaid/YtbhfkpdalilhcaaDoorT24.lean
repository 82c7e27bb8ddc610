/- A step, played by both. Own work of this session. -/
import Derived.Test.YtbhfkpdalilhcaaDoorT23
set_option linter.unusedVariables false
namespace Go.Hw
open Go

theorem rowcs {H : Hp} {b t i : Nat} {l m : List Value} (h : Row H b t l) (e : (l.drop i).take m.length = m) : cells H (Addr.add ⟨b, 0, none⟩ i) m 0 := by
  rw [add_mk]; exact h.cells (by rw [Nat.add_zero, Nat.zero_add]; exact e)
theorem attrP_len {r : List Nat} {A : Atts} : (attrP r A).2.2.length ≤ A.length + 1 := by
  unfold attrP
  split
  · exact Nat.le_succ _
  split
  · exact Nat.le_succ _
  split
  · exact Nat.le_succ _
  split
  · exact Nat.le_succ _
  split
  · exact Nat.le_succ _
  · simp
theorem loopP_len : ∀ (k : Nat) (r : List Nat) (A : Atts), (loopP k r A).2.2.length ≤ A.length + k
  | 0, r, A => Nat.le_refl _
  | k + 1, r, A => by
    rw [loopP]
    split
    · split <;> exact Nat.le_add_right _ _
    split
    · split
      · have := loopP_len k (attrP r A).2.1 (attrP r A).2.2
        have := @attrP_len r A
        omega
      · have := @attrP_len r A
        omega
    split
    · split
      · have := loopP_len k (attrP (nxt r) A).2.1 (attrP (nxt r) A).2.2
        have := @attrP_len (nxt r) A
        omega
      · have := @attrP_len (nxt r) A
        omega
    · exact Nat.le_add_right _ _
theorem declP_len (b : List Nat) : (declP b).2.2.2.length ≤ 17 := by
  unfold declP
  simp only []
  split
  · exact Nat.zero_le _
  split
  · exact Nat.zero_le _
  split
  · exact Nat.zero_le _
  split
  · exact Nat.zero_le _
  · generalize nxt (nxt (nxt (skipB b))) = r
    have h := loopP_len 17 r []
    generalize loopP 17 r [] = q at h ⊢
    exact h
/-- Both readings of a text come out alike. -/
theorem c14f (t : ByteArray) : ∃ (n : ByteArray) (A : Atts) (at_ e : Int), A.length ≤ 17 ∧ (∀ {H : Hp} {Q : ByteArray → Sl → Int → Int → Hp → Prop}, Tabs H → (∀ r H', Lst aF H' r A → (∀ b, r.at b → H.size ≤ b) → Kp No H H' → Q n r at_ e H') → F14 t H Q) ∧
    (∀ {H : Hp} {Q : ByteArray → Sl → Int → Int → Hp → Prop}, (∀ r H', Lst aF H' r A → (∀ b, r.at b → H.size ≤ b) → Kp No H H' → Q n r at_ e H') → F50 t H Q) := by
  have nl : ∀ {H1 : Hp} (b : Nat), Sl.nil.at b → H1.size ≤ b := fun b h => by cases h
  by_cases hs : t.size ≤ 4096
  · by_cases h0 : (declP (bytes t)).1 = 0
    · exact ⟨(declP (bytes t)).2.2.1, (declP (bytes t)).2.2.2, 0, 0, declP_len _, fun ht q => c14 ht (fun h => absurd hs (Nat.not_le.2 h)) (fun _ h => absurd h0 h) fun _ _ sl H' hl hb k => q sl H' hl hb k,
        fun q => c50 (fun h => absurd hs (Nat.not_le.2 h)) (fun _ h => absurd h0 h) fun _ _ sl H' hl hb k => q sl H' hl hb k⟩
    · exact ⟨E, [], ((t.size - (declP (bytes t)).2.1.length : Nat) : Int), (declP (bytes t)).1, Nat.zero_le _, fun ht q => c14 ht (fun h => absurd hs (Nat.not_le.2 h)) (fun _ _ H' k => q Sl.nil H' (Lst.nil _ _) nl k) fun _ h => absurd h h0,
        fun q => c50 (fun h => absurd hs (Nat.not_le.2 h)) (fun _ _ H' k => q Sl.nil H' (Lst.nil _ _) nl k) fun _ h => absurd h h0⟩
  · exact ⟨E, [], 0, 2, Nat.zero_le _, fun ht q => c14 ht (fun _ H' k => q Sl.nil H' (Lst.nil _ _) nl k) (fun h => absurd h hs) fun h => absurd h hs,
      fun q => c50 (fun _ H' k => q Sl.nil H' (Lst.nil _ _) nl k) (fun h => absurd h hs) fun h => absurd h hs⟩
section
variable {H H' : Hp} {hb pb cb mr rb : Nat} {s : Sl} {M : List (ByteArray × Sl)} {Z Z' : List CE} {c c' : Nat} {O : Nat → Prop} {ta tv : Sl}
/-- Of the document's a place is written; the catalog stays. -/
theorem CatH.kpR (h : CatH H cb mr Z c) (r : RefH H rb s M Z') (k : Kp (fun x => x = rb ∨ s.at x) H H') : CatH H' cb mr Z c := by
  refine h.kp k (fun g => ?_) (fun g => ?_) fun z hz b hb g => ?_
  · rcases g with rfl | g
    · exact absurd (h.row.inj r.row).2 (by decide)
    · exact r.l.ne h.row (by decide) g
  · rcases g with e | g
    · exact map_ne_row h.m r.row e
    · obtain ⟨sp, g⟩ := r.l.row g
      exact map_ne_row h.m g rfl
  · obtain ⟨sp, x⟩ := (h.l z hz).1.row hb
    rcases g with rfl | g
    · exact absurd (x.inj r.row).2 (by decide)
    · exact r.l.ne x (by decide) g
/-- The map is written; the document's stays. -/
theorem RefH.kpM (r : RefH H rb s M Z') (h : mapAt mk9 mv27 H (some mr) (ents Z) c) (k : Kp (fun x => x = mr) H H') : RefH H' rb s M Z' := by
  refine ⟨k.row r.row fun g => map_ne_row h r.row g.symm, r.l.kp k fun b hb g => ?_, r.len, fun i m z hm hz => ⟨(r.a i m z hm hz).1, (r.a i m z hm hz).2.kp k fun b hb g => ?_⟩⟩
  · obtain ⟨sp, x⟩ := r.l.row hb
    exact map_ne_row h x g.symm
  · obtain ⟨sp, x⟩ := (r.a i m z hm hz).2.row hb
    exact map_ne_row h x g.symm
/-- Both have one more. -/
theorem PairX.ext {B : Nat} {s' : Sl} {m : ByteArray × Sl} {z : CE} (h : PairX H hb pb cb mr rb s M Z c O) (hB : H.size ≤ B) (hrow : Row H' pb 101 [.pointer (some ⟨cb, 0, none⟩), .pointer (some ⟨rb, 0, none⟩), .pointer (some ⟨hb, 0, none⟩)])
    (hc : CatH H' cb mr (Z ++ [z]) c') (hr : RefH H' rb s' (M ++ [m]) (Z ++ [z])) (hl : Z.length < 64) (hs : ∀ b, s'.at b → s.at b ∨ B ≤ b) (hz : ∀ b, z.s.at b → B ≤ b) (hm : ∀ b, m.2.at b → B ≤ b) (hsz : H.size ≤ H'.size) :
    PairX H' hb pb cb mr rb s' (M ++ [m]) (Z ++ [z]) c' (fun b => O b ∨ (B ≤ b ∧ b < H'.size)) := by
  refine ⟨hrow, hc, hr, by rw [List.length_append, List.length_singleton]; omega, .inl h.opb, .inl h.ocb, .inl h.omr, .inl h.orb, fun b g => ?_, fun y hy b g => ?_, fun y hy b g => ?_, fun b g => ?_⟩
  · rcases hs b g with e | e
    · exact .inl (h.os b e)
    · obtain ⟨sp, x⟩ := hr.l.row g
      exact .inr ⟨e, x.lt⟩
  · rcases List.mem_append.1 hy with e | e
    · exact .inl (h.oz y e b g)
    · rw [List.mem_singleton] at e; subst e
      obtain ⟨sp, x⟩ := (hc.l y (List.mem_append.2 (.inr (List.mem_singleton.2 rfl)))).1.row g
      exact .inr ⟨hz b g, x.lt⟩
  · rcases List.mem_append.1 hy with e | e
    · exact .inl (h.om y e b g)
    · rw [List.mem_singleton] at e; subst e
      have hlen := h.rf.len
      have g1 : (M ++ [y])[M.length]? = some y := by rw [List.getElem?_append_right (Nat.le_refl _), Nat.sub_self]; rfl
      have g2 : (Z ++ [z])[M.length]? = some z := by rw [hlen, List.getElem?_append_right (Nat.le_refl _), Nat.sub_self]; rfl
      obtain ⟨sp, x⟩ := (hr.a _ _ _ g1 g2).2.row g
      exact .inr ⟨hm b g, x.lt⟩
  · rcases g with g | g
    · exact Nat.lt_of_lt_of_le (h.lt b g) hsz
    · exact g.2
end
/-- What a step stands in. -/
structure StepC (H : Hp) (hb pb : Nat) (O : Nat → Prop) (ta tv : Sl) (o : SOp) (sa sv : Sl) : Prop where
  p : PairH H hb pb O
  h : HH H hb ta tv
  dj : ∀ b, O b → ¬ HO hb ta tv b
  tb : Tabs H
  nt : ∀ b, b ≤ 1 → ¬ (O b ∨ HO hb ta tv b)
  rdA : ∀ Hx, Kp (fun b => O b ∨ HO hb ta tv b) H Hx → RdL aF Hx sa o.A
  rdV : ∀ Hx, Kp (fun b => O b ∨ HO hb ta tv b) H Hx → RdL vF Hx sv o.V
  la : o.A.length ≤ 4194304
  lv : o.V.length ≤ 4194304
  ln : o.name.size ≤ 281474976710656
section
variable {H : Hp} {hb pb : Nat} {O : Nat → Prop} {ta tv : Sl} {o : SOp} {sa sv : Sl}
theorem StepC.tabs (h : StepC H hb pb O ta tv o sa sv) {Hx : Hp} (k : Kp (fun b => O b ∨ HO hb ta tv b) H Hx) : Tabs Hx := h.tb.kp k (h.nt 0 (by omega)) (h.nt 1 (by omega))
/-- Two types are asked for by name. -/
theorem st2 {Q : Bool → Hp → Prop} {H1 : Hp} {p : Nat} (h : StepC H hb pb O ta tv o sa sv) (k1 : Kp No H H1) (r1 : Row H1 p 65 (o.row sa sv)) (hQ : ∀ H', Kp No H1 H' → Q true H') :
    ∃ a50 : Addr, some (⟨pb, 0, none⟩ : Addr) = some a50 ∧ (
 ∃ x53 : (Option Addr), cell H1 a50 = some (.pointer x53) ∧ (
 ∃ x55 : ByteArray, cell H1 (Addr.add ⟨p, 0, none⟩ 4) = some (.string x55) ∧ (
 (F42 x53 x55 H1 (fun (r58 : ByteArray) (r59 : Sl) (r60 : Int) (H56 : Hp) => 
 ∀ H61 : Hp, H61 = Array.push H56 (.cells #[.string E, Sl.v Sl.nil] 27) → (
 mayw H61 ⟨H56.size, 0, none⟩ 2 0 ∧ ∀ H63 : Hp, H63 = sets H61 ⟨H56.size, 0, none⟩ [.string r58, (Sl.v r59)] 0 → (
 F22_1 Q (some ⟨pb, 0, none⟩) ⟨p, 0, none⟩ ⟨H56.size, 0, none⟩ r60 H63)))) ∧
 (∀ H68 : Hp, H68 = Array.push H1 (.cells #[.string E, Sl.v Sl.nil] 27) → (
 cell H68 (Addr.add ⟨p, 0, none⟩ 4) = some (.string x55) ∧ cell H68 a50 = some (.pointer x53) ∧ (
 F42 x53 x55 H68 (fun (r74 : ByteArray) (r75 : Sl) (r76 : Int) (H72 : Hp) => 
 mayw H72 ⟨H1.size, 0, none⟩ 2 0 ∧ ∀ H77 : Hp, H77 = sets H72 ⟨H1.size, 0, none⟩ [.string r74, (Sl.v r75)] 0 → (
 F22_1 Q (some ⟨pb, 0, none⟩) ⟨p, 0, none⟩ ⟨H1.size, 0, none⟩ r76 H77)))))))) := by
  obtain ⟨cb, mr, rb, s, M, Z, c, x⟩ := h.p
  have x1 := x.no k1
  obtain ⟨n0, A0, e0, hA0, f42, f43⟩ := c42f (name := o.text) x.cat
  have two : ∀ (b b' : Nat) (sl sl' : Sl) (Hx : Hp), Row Hx b 27 [.string n0, Sl.v sl] → Row Hx b' 27 [.string n0, Sl.v sl'] → Lst aF Hx sl A0 → Lst aF Hx sl' A0 → Kp No H1 Hx → F22_2 Q ⟨b, 0, none⟩ e0 ⟨b', 0, none⟩ e0 Hx := fun b b' sl sl' Hx rb rb' l l' k =>
    ⟨fun _ => ⟨_, _, rb.all, _, _, rb'.all, same15 l.rd l'.rd (by omega) fun H' k' => hQ H' (k.trans k' fun _ h => h.elim)⟩, fun g => absurd rfl (of_decide_eq_false g)⟩
  -- a box filled behind the call
  have behind : ∀ {Hx Hy : Hp} {r : Sl} {C : Nat → Hp → Prop}, Lst aF Hy r A0 → Kp No Hx Hy → (∀ b Hz, Row Hz b 27 [.string n0, Sl.v r] → Lst aF Hz r A0 → Kp No Hx Hz → C b Hz) →
      ∀ H93 : Hp, H93 = Array.push Hy (.cells #[.string E, Sl.v Sl.nil] 27) → (mayw H93 ⟨Hy.size, 0, none⟩ 2 0 ∧ ∀ H95 : Hp, H95 = sets H93 ⟨Hy.size, 0, none⟩ [.string n0, (Sl.v r)] 0 → C Hy.size H95) := fun {Hx Hy r C} l k hC H93 e93 => by
    have r93 := Row.new' e93
    have k93 : Kp No Hy H93 := (Kp.refl _ _).push' e93
    refine ⟨r93.mayw (by simp), fun H95 e95 => ?_⟩
    have k95 : Kp No Hy H95 := k93.sets' e95 (.inr (Nat.le_refl _))
    exact hC _ _ (r93.fill' e95 rfl) (l.kp k95 fun _ _ => id) (k.trans k95 fun _ h => h.elim)
  -- a box laid ahead of it
  have ahead : ∀ {Hx H100 H104 : Hp} {r : Sl} {C : Nat → Hp → Prop}, H100 = Array.push Hx (.cells #[.string E, Sl.v Sl.nil] 27) → Lst aF H104 r A0 → (∀ b, r.at b → H100.size ≤ b) → Kp No H100 H104 → (∀ b Hz, Row Hz b 27 [.string n0, Sl.v r] → Lst aF Hz r A0 → Kp No Hx Hz → C b Hz) →
      mayw H104 ⟨Hx.size, 0, none⟩ 2 0 ∧ ∀ H109 : Hp, H109 = sets H104 ⟨Hx.size, 0, none⟩ [.string n0, (Sl.v r)] 0 → C Hx.size H109 := fun {Hx H100 H104 r C} e100 l hb k hC => by
    have s100 := size_push' e100
    have r104 := k.row (Row.new' e100) id
    refine ⟨r104.mayw (by simp), fun H109 e109 => ?_⟩
    have k109 : Kp (fun x => x = Hx.size) H104 H109 := (Kp.refl (fun x => x = Hx.size) _).sets' e109 (.inl rfl)
    exact hC _ _ (r104.fill' e109 rfl) (l.kp k109 fun b g e => by have := hb b g; omega) ((((Kp.refl (fun _ => False) Hx).push' e100).trans k fun _ h => h.elim).trans k109 fun b e => .inr (Nat.le_of_eq e.symm))
  have one : ∀ (b : Nat) (sl : Sl) (Hx : Hp), Row Hx b 27 [.string n0, Sl.v sl] → Lst aF Hx sl A0 → Kp No H1 Hx → F22_1 Q (some ⟨pb, 0, none⟩) ⟨p, 0, none⟩ ⟨b, 0, none⟩ e0 Hx := fun b sl Hx rb l k => by
    have xx := x1.no k
    refine ⟨_, rfl, _, rowc (i := 1) xx.row rfl, _, rowc (i := 4) (k.row r1 id) rfl, f43 xx.rf xx.len fun r90 H88 l90 b90 k88 => ?_, fun H100 e100 => ?_⟩
    · exact behind l90 k88 fun b' Hz rz lz kz => two b b' sl r90 Hz (kz.row rb id) rz (l.kp kz fun _ _ => id) lz (k.trans kz fun _ h => h.elim)
    · have x100 := xx.no ((Kp.refl (fun _ => False) Hx).push' e100)
      refine ⟨rowc (i := 4) ((k.push' e100).row r1 id) rfl, rowc (i := 1) x100.row rfl, f43 x100.rf x100.len fun r106 H104 l106 b106 k104 => ?_⟩
      exact ahead e100 l106 b106 k104 fun b' Hz rz lz kz => two b b' sl r106 Hz (kz.row rb id) rz (l.kp kz fun _ _ => id) lz (k.trans kz fun _ h => h.elim)
  refine ⟨_, rfl, _, x1.row.cell_of (i := 0) rfl, _, rowc (i := 4) r1 rfl, f42 x1.cat fun r58 H56 l58 b58 k56 => ?_, fun H68 e68 => ?_⟩
  · exact behind l58 k56 fun b' Hz rz lz kz => one b' r58 Hz rz lz kz
  · have k68 : Kp No H1 H68 := (Kp.refl _ _).push' e68
    have x68 := x1.no k68
    exact ⟨rowc (i := 4) (k68.row r1 id) rfl, x68.row.cell_of (i := 0) rfl, f42 x68.cat fun r74 H72 l74 b74 k72 => ahead e68 l74 b74 k72 fun b' Hz rz lz kz => one b' r74 Hz rz lz kz⟩
end
end Go.Hw
