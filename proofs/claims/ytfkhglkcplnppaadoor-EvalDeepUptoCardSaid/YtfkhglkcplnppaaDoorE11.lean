/- EvalDeep: the law. Own work of this session. -/
import Derived.Test.YtfkhglkcplnppaaDoorE10
set_option linter.unusedVariables false
namespace Go.Hw
open Go

section
variable {H : Hp} {n : Int} {be bd bw bm : Nat} {qe qd qw qm : Sl}

/-- The four questions. -/
theorem deep4 {A : Nat → Prop} {Q : Bool → Hp → Prop} (hw : WantsH H) (h1 : -9223372036854775808 ≤ n) (h2 : n ≤ 9223372036854775807)
    (re : Row H be 41 ((chR n 31).row qe)) (xe : Ex A H qe (chK n 31)) (rd : Row H bd 41 ((chR n 32).row qd)) (xd : Ex A H qd (chK n 32))
    (rw' : Row H bw 41 ((wdR n 7).row qw)) (xw : Ex A H qw (wdK n 7)) (rm : Row H bm 41 ((opE 5 3).row qm)) (xm : Ex A H qm (moK n)) (hQ : ∀ H', Kp No H H' → Q true H') :
    ∃ (x170 : Int) (x171 : Int) (x172 : Int) (x173 : Int) (x174 : ByteArray) (x175 : Bool) (x176 : ByteArray) (x177 : Int) (x178 : ByteArray) (x179 : Sl), cells H ⟨be, 0, none⟩ [(.int .i64 x170), (.int .i64 x171), (.int .i64 x172), (.int .i64 x173), (.string x174), (.bool x175), (.string x176), (.int .i64 x177), (.string x178), (Sl.v x179)] 0 ∧ (
 F13 x170 x171 x172 x173 x174 x175 x176 x177 x178 x179 Sl.nil Sl.nil (ByteArray.mk #[]) (ByteArray.mk #[]) 0 Sl.nil Sl.nil (IntKind.i64.wrap (0 - n)) H (fun (r182 : Bool) (H180 : Hp) => 
 (r182 = true → (∃ (x186 : Int) (x187 : Int) (x188 : Int) (x189 : Int) (x190 : ByteArray) (x191 : Bool) (x192 : ByteArray) (x193 : Int) (x194 : ByteArray) (x195 : Sl), cells H180 ⟨bd, 0, none⟩ [(.int .i64 x186), (.int .i64 x187), (.int .i64 x188), (.int .i64 x189), (.string x190), (.bool x191), (.string x192), (.int .i64 x193), (.string x194), (Sl.v x195)] 0 ∧ (
 F15 x186 x187 x188 x189 x190 x191 x192 x193 x194 x195 Sl.nil Sl.nil (ByteArray.mk #[]) (ByteArray.mk #[]) 0 Sl.nil Sl.nil 71 H180 (fun (r198 : Bool) (H196 : Hp) => 
 (r198 = true → (∃ (x202 : Int) (x203 : Int) (x204 : Int) (x205 : Int) (x206 : ByteArray) (x207 : Bool) (x208 : ByteArray) (x209 : Int) (x210 : ByteArray) (x211 : Sl), cells H196 ⟨bw, 0, none⟩ [(.int .i64 x202), (.int .i64 x203), (.int .i64 x204), (.int .i64 x205), (.string x206), (.bool x207), (.string x208), (.int .i64 x209), (.string x210), (Sl.v x211)] 0 ∧ (
 F13 x202 x203 x204 x205 x206 x207 x208 x209 x210 x211 Sl.nil Sl.nil (ByteArray.mk #[]) (ByteArray.mk #[]) 0 Sl.nil Sl.nil (wdV n 7) H196 (fun (r214 : Bool) (H212 : Hp) => 
 (r214 = true → (∃ (x218 : Int) (x219 : Int) (x220 : Int) (x221 : Int) (x222 : ByteArray) (x223 : Bool) (x224 : ByteArray) (x225 : Int) (x226 : ByteArray) (x227 : Sl), cells H212 ⟨bm, 0, none⟩ [(.int .i64 x218), (.int .i64 x219), (.int .i64 x220), (.int .i64 x221), (.string x222), (.bool x223), (.string x224), (.int .i64 x225), (.string x226), (Sl.v x227)] 0 ∧ (
 F15 x218 x219 x220 x221 x222 x223 x224 x225 x226 x227 Sl.nil Sl.nil (ByteArray.mk #[]) (ByteArray.mk #[]) 0 Sl.nil Sl.nil 71 H212 (fun (r230 : Bool) (H228 : Hp) => 
 Q r230 H228)))) ∧
 (r214 = false → (Q false H212)))))) ∧
 (r198 = false → (Q false H196)))))) ∧
 (r182 = false → (Q false H180)))) := by
  have e31 : chV n 31 = IntKind.i64.wrap (0 - n) := (chV_two h1 h2 15).2
  refine ⟨_, _, _, _, _, _, _, _, _, _, re.all, c13 (A := A) (m := zM) zEnv hw xe (by rw [ch_nodes]; omega) (by rw [← e31]; exact top_ch zM n) fun H1 k1 => ⟨fun _ => ?_, fun h => (by cases h)⟩⟩
  refine ⟨_, _, _, _, _, _, _, _, _, _, (k1.row rd id).all, c15 (A := A) (m := zM) zEnv (hw.no k1) (xd.no k1) (by rw [ch_nodes]; omega) (top_deep zM n) fun H2 k2 => ⟨fun _ => ?_, fun h => (by cases h)⟩⟩
  have k2 := k1.no2 k2
  refine ⟨_, _, _, _, _, _, _, _, _, _, (k2.row rw' id).all, c13 (A := A) (m := zM) zEnv (hw.no k2) (xw.no k2) (by have := wd_nodes n 7; omega) (top_wd zM n) fun H3 k3 => ⟨fun _ => ?_, fun h => (by cases h)⟩⟩
  have k3 := k2.no2 k3
  exact ⟨_, _, _, _, _, _, _, _, _, _, (k3.row rm id).all, c15 (A := A) (m := zM) zEnv (hw.no k3) (xm.no k3) (by rw [mo_nodes]; omega) (top_mo zM n) fun H4 k4 => hQ H4 (k3.no2 k4)⟩

theorem c7_3 {A : Nat → Prop} {Q : Bool → Hp → Prop} (hw : WantsH H) (h1 : -9223372036854775808 ≤ n) (h2 : n ≤ 9223372036854775807) (hA : ∀ b, H.size ≤ b → A b)
    (re : Row H be 41 ((chR n 31).row qe)) (xe : Ex A H qe (chK n 31)) (rd : Row H bd 41 ((chR n 32).row qd)) (xd : Ex A H qd (chK n 32))
    (rww : Row H bw 41 ((wdR n 7).row qw)) (xw : Ex A H qw (wdK n 7)) (hQ : ∀ H', Kp No H H' → Q true H') : F7_3 Q n ⟨be, 0, none⟩ ⟨bd, 0, none⟩ ⟨bw, 0, none⟩ (wdV n 7) H := by
  have z10 : Row (Array.push H (.cells #[(.int .i64 0), (.int .i64 0), (.int .i64 0), (.int .i64 0), (.string (ByteArray.mk #[])), (.bool false), (.string (ByteArray.mk #[])), (.int .i64 0), (.string (ByteArray.mk #[])), (Sl.v Sl.nil)] 41)) H.size 41 ((⟨0, 0, 0, 0, E, false, E, 0, E⟩ : ER).row Sl.nil) := Row.new' rfl
  -- the last box is laid in Hb, 'more' stands written: all is asked
  have fin : ∀ (Hb Hc : Hp) (bm : Nat) (q : Sl), Kp No H Hb → Ex A Hb q (moK n) → (∃ l : List Value, Row Hb bm 41 l ∧ l.length = 10) → H.size ≤ bm → Ex (fun b => b ≠ bm) Hb q (moK n) → Hc = sets Hb ⟨bm, 0, none⟩ [(.int .i64 5), (.int .i64 3), (.int .i64 0), (.int .i64 0), (.string E), (.bool false), (.string E), (.int .i64 0), (.string E), (Sl.v q)] 0 → ∀ K : Prop, ((∀ {A' : Nat → Prop}, WantsH Hc → Row Hc be 41 ((chR n 31).row qe) → Ex (fun _ => True) Hc qe (chK n 31) → Row Hc bd 41 ((chR n 32).row qd) → Ex (fun _ => True) Hc qd (chK n 32) → Row Hc bw 41 ((wdR n 7).row qw) → Ex (fun _ => True) Hc qw (wdK n 7) → Row Hc bm 41 ((opE 5 3).row q) → Ex (fun _ => True) Hc q (moK n) → (∀ H', Kp No Hc H' → Q true H') → K)) → K := by
    intro Hb Hc bm q kb xq ⟨l, rl, hl⟩ hbm xq' e K hK
    have kc : Kp (fun x => x = bm) Hb Hc := (Kp.refl _ _).sets' e (.inl rfl)
    have rm : Row Hc bm 41 ((opE 5 3).row q) := rl.fill' e (by simp [hl])
    have kk : Kp No H Hc := kb.box kc hbm
    exact hK (A' := A) (hw.no kk) (kk.row re id) ((xe.no kk).mono fun _ _ => trivial) (kk.row rd id) ((xd.no kk).mono fun _ _ => trivial) (kk.row rww id) ((xw.no kk).mono fun _ _ => trivial) rm ((xq'.kp kc fun b hb h => hb h).mono fun _ _ => trivial) fun H' k' => hQ H' (kk.no2 k')
  refine ⟨_, _, _, _, _, _, _, _, _, _, rww.all, c19 fun H139 k139 => ⟨(k139.row rww id).all, ?_, ?_⟩, fun H311 e311 => ?_⟩
  · refine c18 (A := fun b => A b ∧ b < H139.size ∨ H139.size ≤ b) (ra := wdR n 7) (rb := litE 1) (ka := wdK n 7) (kb := .nil) (((xw.no k139).lt).mono fun _ h => .inl h) (Ex.nil _ _) (fun b h => .inr h) fun q152 H152 k152 x152 H164 e164 => ?_
    have kk := k139.no2 k152
    have k164 : Kp No H H164 := kk.push' e164
    have r164 := Row.new' e164
    refine ⟨r164.mayw (by simp), fun H166 e166 => ?_⟩
    have x164 := (x152.lt).no ((Kp.refl No H152).push' e164)
    refine fin H164 H166 H152.size q152 k164 (x164.mono fun b h => ?_) ⟨_, r164, rfl⟩ kk.size (x164.mono fun b h => ?_) e166 _ fun {A'} a1 a2 a3 a4 a5 a6 a7 a8 a9 a10 => deep4 (A := fun _ => True) a1 h1 h2 a2 a3 a4 a5 a6 a7 a8 a9 a10
    · rcases h.1 with h | h
      · exact h.1
      · exact hA b (by have := k139.size; omega)
    · have := h.2; omega
  · intro H231 e231
    have k231 : Kp No H139 H231 := (Kp.refl _ _).push' e231
    refine ⟨((k139.no2 k231).row rww id).all, ?_⟩
    have s231 := size_push' e231
    refine c18 (A := fun b => A b ∧ b < H139.size ∨ H231.size ≤ b) (ra := wdR n 7) (rb := litE 1) (ka := wdK n 7) (kb := .nil) ((((xw.no k139).lt).mono fun _ h => .inl h).no k231) (Ex.nil _ _) (fun b h => .inr h) fun q234 H234 k234 x234 => ?_
    have kk := k139.no2 (k231.no2 k234)
    have r234 := k234.row (Row.new' e231) id
    refine ⟨r234.mayw (by simp), fun H246 e246 => ?_⟩
    refine fin H234 H246 H139.size q234 kk (x234.mono fun b h => ?_) ⟨_, r234, rfl⟩ k139.size (x234.mono fun b h => ?_) e246 _ fun {A'} a1 a2 a3 a4 a5 a6 a7 a8 a9 a10 => deep4 (A := fun _ => True) a1 h1 h2 a2 a3 a4 a5 a6 a7 a8 a9 a10
    · rcases h with h | h
      · exact h.1
      · exact hA b (by have := k139.size; omega)
    · rcases h with h | h
      · have := h.2; omega
      · omega
  · have k311 : Kp No H H311 := (Kp.refl _ _).push' e311
    refine ⟨(k311.row rww id).all, c19 fun H314 k314 => ⟨((k311.no2 k314).row rww id).all, ?_⟩⟩
    have s311 := size_push' e311
    have kh := k311.no2 k314
    have sz := k314.size
    refine c18 (A := fun b => A b ∧ b < H.size ∨ H314.size ≤ b) (ra := wdR n 7) (rb := litE 1) (ka := wdK n 7) (kb := .nil) (((xw.lt).mono fun _ h => .inl h).no kh) (Ex.nil _ _) (fun b h => .inr h) fun q234 H234 k234 x234 => ?_
    have kk := kh.no2 k234
    have r234 := (k314.no2 k234).row (Row.new' e311) id
    refine ⟨r234.mayw (by simp), fun H246 e246 => ?_⟩
    refine fin H234 H246 H.size q234 kk (x234.mono fun b h => ?_) ⟨_, r234, rfl⟩ (Nat.le_refl _) (x234.mono fun b h => ?_) e246 _ fun {A'} a1 a2 a3 a4 a5 a6 a7 a8 a9 a10 => deep4 (A := fun _ => True) a1 h1 h2 a2 a3 a4 a5 a6 a7 a8 a9 a10
    · rcases h with h | h
      · exact h.1
      · exact hA b (by omega)
    · rcases h with h | h
      · have := h.2; omega
      · omega

theorem c7_4 {Q : Bool → Hp → Prop} {A : Nat → Prop} (hw : WantsH H) (hbw : 0 < bw) (h1 : -9223372036854775808 ≤ n) (h2 : n ≤ 9223372036854775807) (n1 : be ≠ bw) (n2 : bd ≠ bw)
    (re : Row H be 41 ((chR n 31).row qe)) (xe : Ex (fun b => b ≠ bw) H qe (chK n 31)) (rd : Row H bd 41 ((chR n 32).row qd)) (xd : Ex (fun b => b ≠ bw) H qd (chK n 32))
    (rww : Row H bw 41 ((litE n).row Sl.nil)) (hQ : ∀ H', Kp (fun b => b = bw) H H' → Q true H') : F7_L4 Q n ⟨be, 0, none⟩ ⟨bd, 0, none⟩ ⟨bw, 0, none⟩ n 0 H := by
  intro X hX
  suffices G : ∀ (d i : Nat) (q : Sl) (H' : Hp), i + d = 7 → Row H' bw 41 ((wdR n i).row q) → Ex (fun b => b ≠ bw) H' q (wdK n i) → Kp (fun b => b = bw) H H' → X (wdV n i) (i : Int) H' from G 7 0 Sl.nil H rfl rww (Ex.nil _ _) (Kp.refl _ _)
  intro d
  induction d with
  | zero =>
    intro i q H' hi rq xq k
    obtain rfl : i = 7 := by omega
    refine hX _ _ _ ⟨fun g => absurd (of_decide_eq_true g) (by omega), fun _ => ?_⟩
    have hb : ∀ b, b ≠ bw → ¬ b = bw := fun b h => h
    exact c7_3 (A := fun b => b ≠ bw) (hw.kp k (by omega)) h1 h2 (fun b hb => by have := rq.lt; omega) (k.row re n1) (xe.kp k hb) (k.row rd n2) (xd.kp k hb) rq xq fun H'' k' => hQ H'' (k.trans (k'.mono fun _ _ h => h.elim) fun b hb => .inl hb)
  | succ d ih =>
    intro i q H' hi rq xq k
    refine hX _ _ _ ⟨fun _ => ⟨_, _, _, _, _, _, _, _, _, _, rq.all, _, _, _, _, _, _, _, _, _, _, rq.all, c18 (A := fun b => b ≠ bw) (ra := wdR n i) (rb := wdR n i) (ka := wdK n i) (kb := wdK n i) xq xq (fun b hb => by have := rq.lt; omega) fun q2 H2 k2 x2 => ?_⟩, fun g => absurd (of_decide_eq_false g) (by omega)⟩
    have r2 := k2.row rq id
    refine ⟨r2.mayw (by simp), fun H3 e3 => ?_⟩
    have r3 : Row H3 bw 41 ((opE 5 3).row q2) := r2.fill' e3 rfl
    have k3 : Kp (fun b => b = bw) H2 H3 := (Kp.refl _ _).sets' e3 (.inl rfl)
    rw [wr (x := (i : Int) + 1) (by omega) (by omega), show ((i : Int) + 1) = ((i + 1 : Nat) : Int) from by omega]
    exact ih (i + 1) q2 H3 (by omega) r3 (x2.kp k3 fun b h => h) ((k.trans (k2.mono fun _ _ h => h.elim) fun b hb => .inl hb).trans k3 fun b hb => .inl hb)

theorem c7 {Q : Bool → Hp → Prop} (hw : WantsH H) (h1 : -9223372036854775808 ≤ n) (h2 : n ≤ 9223372036854775807) (hQ : ∀ H', Kp No H H' → Q true H') : F7 n H Q := by
  refine c8 hw fun H1 k1 => ⟨fun h => (by cases h), fun _ => c19 fun H5 k5 H17 e17 => ?_⟩
  have kk5 := k1.no2 k5
  have k17 := kk5.push' e17
  have r17 := Row.new' e17
  refine ⟨r17.mayw (by simp), fun H19 e19 => ?_⟩
  have r19 : Row H19 H5.size 41 ((litE n).row Sl.nil) := r17.fill' e19 rfl
  have k19 : Kp No H H19 := k17.sets' e19 (.inr kk5.size)
  have hsz := hw.size
  have h5 := kk5.size
  intro X hX
  suffices G : ∀ (d i : Nat) (q : Sl) (H' : Hp), i + d = 31 → Row H' H5.size 41 ((chR n i).row q) → Ex (fun b => b ≠ H5.size) H' q (chK n i) → Kp (fun b => b = H5.size) H19 H' → X (i : Int) H' from G 31 0 Sl.nil H19 rfl r19 (Ex.nil _ _) (Kp.refl _ _)
  intro d
  induction d with
  | zero =>
    intro i q H' hi rq xq k
    obtain rfl : i = 31 := by omega
    refine hX _ _ ⟨fun g => absurd (of_decide_eq_true g) (by omega), fun _ => ?_⟩
    have kk : Kp No H H' := k19.box k h5
    refine ⟨_, _, _, _, _, _, _, _, _, _, rq.all, fun H55 e55 H57 e57 => ?_⟩
    have k55 : Kp No H' H55 := (Kp.refl _ _).push' e55
    have k57 : Kp No H' H57 := k55.push' e57
    have s55 := size_push' e55
    have s57 := size_push' e57
    have r55 : Row H57 H'.size 41 ((chR n 31).row q) := (Row.new' e55).push' e57
    have r57 := Row.new' e57
    refine ⟨r57.mayw (by simp), fun H59 e59 => ?_⟩
    have k59a : Kp (fun x => x = H55.size) H57 H59 := (Kp.refl _ _).sets' e59 (.inl rfl)
    have k59 : Kp No H' H59 := k57.box k59a (by omega)
    have rd : Row H59 H55.size 41 ((chR n 32).row (Sl.mk (some ⟨H'.size, 0, none⟩) 1 1)) := r57.fill' e59 rfl
    have xd : Ex (fun b => b < H55.size) H59 (Sl.mk (some ⟨H'.size, 0, none⟩) 1 1) (chK n 32) := by
      refine ⟨rfl, ⟨H'.size, 0, none⟩, q, rfl, by show H'.size < H55.size; omega, ?_, xq.n, ?_, trivial⟩
      · rw [add_mk]
        have := k59a.row r55 (by show H'.size ≠ H55.size; omega)
        exact this.cells rfl
      · exact (xq.lt.no k59).f.mono fun b h => by have := h.2; omega
    refine c19 fun H62 k62 H74 e74 => ?_
    have k74 : Kp No H59 H74 := k62.push' e74
    have r74 := Row.new' e74
    have sz59 := k59.size
    have sz62 := k62.size
    have l59 := rd.lt
    refine ⟨r74.mayw (by simp), fun H76 e76 => ?_⟩
    have rw' : Row H76 H62.size 41 ((litE n).row Sl.nil) := r74.fill' e76 rfl
    have k76 : Kp No H59 H76 := k74.sets' e76 (.inr k62.size)
    have kk76 := kk.no2 (k59.no2 k76)
    have lq := rq.lt
    refine c7_4 (A := fun _ => True) (hw.no kk76) (by omega) h1 h2 (by omega) (by omega) ((k59.no2 k76).row rq id) ((xq.lt.no (k59.no2 k76)).mono fun b h => by have := h.2; omega) (k76.row rd id) ((xd.no k76).mono fun b h => by omega) rw' fun H'' k'' => hQ H'' (kk76.box k'' (by omega))
  | succ d ih =>
    intro i q H' hi rq xq k
    refine hX _ _ ⟨fun _ => ⟨_, _, _, _, _, _, _, _, _, _, rq.all, fun H39 e39 => ?_⟩, fun g => absurd (of_decide_eq_false g) (by omega)⟩
    have k39 : Kp No H' H39 := (Kp.refl _ _).push' e39
    have r39 : Row H39 H'.size 41 ((chR n i).row q) := Row.new' e39
    have rq' := k39.row rq id
    have lq := rq.lt
    refine ⟨rq'.mayw (by simp), fun H41 e41 => ?_⟩
    have r41 : Row H41 H5.size 41 ((chR n (i + 1)).row (Sl.mk (some ⟨H'.size, 0, none⟩) 1 1)) := rq'.fill' e41 rfl
    have k41 : Kp (fun x => x = H5.size) H39 H41 := (Kp.refl _ _).sets' e41 (.inl rfl)
    have rr := k41.row r39 (by show H'.size ≠ H5.size; omega)
    rw [wr (x := (i : Int) + 1) (by omega) (by omega), show ((i : Int) + 1) = ((i + 1 : Nat) : Int) from by omega]
    refine ih (i + 1) _ H41 (by omega) r41 ⟨rfl, ⟨H'.size, 0, none⟩, q, rfl, by show H'.size ≠ H5.size; omega, ?_, xq.n, ((xq.no k39).kp k41 fun b h => h).f, trivial⟩ ((k.trans (k39.mono fun _ _ h => h.elim) fun b hb => .inl hb).trans k41 fun b hb => .inl hb)
    rw [add_mk]
    exact rr.cells rfl
end
end Go.Hw
