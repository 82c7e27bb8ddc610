/- OrderSorted: the whole. Own work of this session. -/
import Derived.Test.YtjeponambmjhcaaDoorN4
set_option linter.unusedVariables false
namespace Go.Hw
open Go

theorem c13q {H0 H : Hp} {g lg i : Nat} {s : St} {time room : Int} {Q : Bool → Hp → Prop} (hr : s.room = room) (hv : SIE H0 H g lg s i) (hi : i < 1048576) (hT : ∀ H', Kp No H0 H' → TabH H')
    (hQ : ∀ H' s', SIE H0 H' g lg s' (i + 1) → s'.room = room → Q true H') : F13 (some ⟨lg, 0, none⟩) (some ⟨g, 0, none⟩) i time room H Q := by
  subst hr
  exact c13p hv hi hT hQ

theorem nothing_out {C : List NE} {m : Int} (h : ∀ x ∈ C, m < x.e.tm) : out m C = [] ∧ rest m C = C := by
  unfold out rest
  refine ⟨?_, List.filter_eq_self.2 fun x hx => decide_eq_true (h x hx)⟩
  rw [List.filter_eq_nil_iff.2 fun x hx => by have := h x hx; simp; omega]
  rfl

theorem wout_all {C : List NE} {W : List WY} {Z : List (NE × WY)} (h : LK C W Z) {m : Int} (hm : ∀ x ∈ C, x.e.tm ≤ m) : (W.filter fun w => !w.gone).length = (wout m Z).length := by
  rw [← h.w, List.length_map, wout, List.length_map, zout, (zsort_perm _).length_eq, List.filter_eq_self.2 fun z hz => decide_eq_true (hm z.1 (by rw [← h.c]; exact List.mem_map_of_mem hz))]

theorem advance_room (s : St) (now : Int) : (advance s now).2.2.room = s.room := by
  unfold advance
  split <;> rfl

/-- Held is as the log has it. -/
theorem SI.held {H0 H H1 : Hp} {g hb lg i : Nat} {gs sl es : Sl} {s : St} {L : List HC} {W : List WY} {st tm : Int} {any : Bool} {Z : List (NE × WY)} {Q : Bool → Hp → Prop} (v : SI H0 H g hb gs s L lg sl W st tm any i Z) (hi : i ≤ 1048576) (hT : ∀ H', Kp No H0 H' → TabH H')
    (ha : Ans H es ((isort s.C).map NE.e)) (hQ : ∀ H', SI H0 H' g hb gs s L lg sl W st tm any i Z → Q true H') : F17 (some ⟨lg, 0, none⟩) es s.mark H Q := by
  obtain ⟨gn, r⟩ := v.l.row
  obtain ⟨E, he, hv, hev⟩ := ha
  have hlen := v.l.len
  have hall := (maxOf_le s.C s.mark).2
  have ho := (out_all hall).1
  have hwl := wout_all v.lk hall
  have hfl : (W.filter fun w => !w.gone).length ≤ W.length := List.length_filter_le ..
  refine c17 r v.l.lst (by omega) (fun w hw => by have := v.l.stp w hw; omega) v.l.inc he (ws := wout (maxOf s.mark s.C) Z) (by rw [hev, ← ho, v.lk.evs]) (by omega) hwl (fun w hw => ?_) (v.lk.sorted _) (fun w hw => ?_) (fun H' k' => hT H' (v.k.trans k' fun _ => False.elim)) fun H' k' => hQ H' (v.no k')
  · obtain ⟨z, hz, rfl⟩ := List.mem_map.1 hw
    exact v.lk.mem (zout_mem.1 hz).1
  · obtain ⟨z, hz, rfl⟩ := List.mem_map.1 hw
    have hz := (zout_mem.1 hz).1
    have h1 : z.1.e.tm = z.2.tm := congrArg EV.tm (v.lk.e z hz)
    have h2 := v.lo z.1 (by rw [← v.lk.c]; exact List.mem_map_of_mem hz)
    omega

structure OP where
  kind : Int
  on : Bool
  ty : ByteArray
  tm : Int
  sl : Sl
  now : Int
  vs : List VT
def oF : Fmt OP 48 6 := ⟨fun o => [.int .i64 o.kind, .bool o.on, .string o.ty, .int .i64 o.tm, Sl.v o.sl, .int .i64 o.now], fun _ => rfl, by intro x v hv; simp at hv; rcases hv with rfl | rfl | rfl | rfl | rfl | rfl <;> rfl, by decide⟩

theorem c4s {late room : Int} {script : Sl} {Ops : List OP} {H0 : Hp} {Q : Bool → Hp → Prop} (hT : ∀ H', Kp No H0 H' → TabH H') (hs : RdL oF H0 script Ops) (hl : Ops.length ≤ 1048575)
    (hQ : ∀ H', Kp No H0 H' → Q true H') : F4 late room script H0 Q := by
  have hn := hs.n
  refine c8 (fun hbad => c6 fun H1 k1 => ?_) fun hgood H1 g hb hp k1 hg hh => c6 fun H2 k2 => ?_
  · have done : F4_1 Q room script none 1 false H1 := ⟨fun hf => (by cases hf), fun _ => ⟨fun _ => ⟨fun _ => ⟨fun _ => hQ H1 k1, fun hf => (by cases hf)⟩, fun hf => (by cases hf)⟩, fun hf => (by cases hf)⟩⟩
    refine ⟨fun hf => (by cases hf), fun _ => ⟨fun h1 => ⟨fun h2 => ⟨fun h3 => ?_, fun _ => done⟩, fun _ => done⟩, fun _ => done⟩⟩
    have h1 := of_decide_eq_true h1
    have h2 := of_decide_eq_true h2
    have h3 := of_decide_eq_true h3
    unfold badNew at hbad
    rw [show (!(decide ((1 : Int) = 0) == decide (room ≤ 4096))) = false from by rw [decide_eq_false (show ¬ room ≤ 4096 by omega)]; rfl]
    exact done
  · have s1 := k1.size
    have s2 := k2.size
    obtain ⟨L, hp⟩ := hp
    have hp2 := hp.no k2
    have main : F4_1 Q room script (some ⟨g, 0, none⟩) 0 false H2 := by
      refine ⟨fun hf => (by cases hf), fun _ => ⟨fun hf => (by cases hf), fun _ => ⟨fun hf => (by cases hf), fun _ H3 e3 => ?_⟩⟩⟩
      have b3 := Row.new' e3
      have k3 := (Kp.refl No H2).push' e3
      have s3 := size_push' e3
      have v0 : SIE H0 H3 g H2.size (st0 late room) 0 := ⟨hb, Sl.nil, L, Sl.nil, [], 0, 0, false, [], ⟨(k1.trans k2 fun _ => False.elim).trans k3 fun _ => False.elim, hp2.no k3, st0_ok hgood, Int.le_refl _, ⟨⟨false, b3⟩, Lst.nil _ _, List.Pairwise.nil, fun w hw => (by simp at hw), Nat.le_refl _⟩,
        ⟨rfl, rfl, fun z hz => (by simp at hz), List.Pairwise.nil⟩, fun h => (by cases h), fun x hx => (by simp [st0] at hx), fun b hb' => (by
          rcases hb' with h | h | h
          · omega
          · omega
          · cases h), by omega, fun b hb => by cases hb⟩⟩
      intro X hX
      suffices G : ∀ (d : Nat) (H : Hp) (i : Nat) (s : St), i + d = Ops.length → SIE H0 H g H2.size s i → s.room = room → X i H from G Ops.length H3 0 _ (by omega) v0 rfl
      intro d
      induction d with
      | zero =>
        intro H i s hi hv hr
        refine hX _ _ ⟨fun hb => absurd (of_decide_eq_true hb) (by omega), fun _ => ?_⟩
        obtain ⟨hb, gs, L, sl, W, st, tm, any, Z, v⟩ := hv
        refine c19 v.p v.ok fun r6 H6 a6 k6 hr6 => ?_
        have v6 := v.no k6
        have n6 : r6.n = s.C.length := by rw [a6.n, List.length_map, (isort_perm _).length_eq]
        have := v.ok.len
        refine ⟨fun _ => c18 v6.p (v6.held (H1 := H6) (by omega) hT a6 fun H' v' => hQ H' v'.k), fun hf => absurd (of_decide_eq_false hf) (by omega)⟩
      | succ d ih =>
        intro H i s hi hv hr
        obtain ⟨hb, gs, L, sl, W, st, tm, any, Z, v⟩ := hv
        have hx : Ops[i]? = some (Ops[i]'(by omega)) := List.getElem?_eq_getElem (by omega)
        generalize Ops[i]'(by omega) = o at hx
        obtain ⟨a, ha, hi0, ca⟩ := (hs.kp0 v.k).get hx
        refine hX _ _ ⟨fun _ => ⟨a, ha, by omega, by omega, _, _, _, _, _, _, ca, fun H4 e4 => ?_⟩, fun hb => absurd (of_decide_eq_false hb) (by omega)⟩
        have b4 := Row.new' e4
        have s4 := size_push' e4
        refine ⟨b4.mayall, fun H5 e5 => ?_⟩
        have b5 := b4.fill' e5 rfl
        have k5 : Kp No H H5 := ((Kp.refl No H).push' e4).sets' e5 (.inr (Nat.le_refl _))
        have v5 := v.no k5
        have next : ∀ (H' : Hp) (s' : St), SIE H0 H' g H2.size s' (i + 1) → s'.room = room → F4_5 Q X room script (some ⟨g, 0, none⟩) ⟨H2.size, 0, none⟩ i H' := by
          intro H' s' v' hr'
          show X _ _
          rw [wr (by omega) (by omega)]
          exact ih H' (i + 1) s' (by omega) v' hr'
        have next6 : ∀ (H' : Hp) (s' : St), SIE H0 H' g H2.size s' (i + 1) → s'.room = room → F4_6 Q X room script (some ⟨g, 0, none⟩) ⟨H2.size, 0, none⟩ i false H' := fun H' s' v' hr' => ⟨fun hf => (by cases hf), fun _ => next H' s' v' hr'⟩
        have v5' : SIE H0 H5 g H2.size s i := ⟨hb, gs, L, sl, W, st, tm, any, Z, v5⟩
        refine ⟨_, b5.cell_of (i := 0) rfl, fun hk => ?_, fun hk => ⟨fun hk2 => ?_, fun hk2 => ⟨fun hk3 => ?_, fun hk3 => ⟨fun hk4 => ?_, fun hk4 => ?_⟩⟩⟩⟩
        · exact ⟨_, b5.cell_of (i := 3) rfl, c13q hr v5' (by omega) hT fun H' s' v' hr' => ⟨fun hf => (by cases hf), fun _ => next H' s' v' hr'⟩⟩
        · refine ⟨_, b5.cell_of (i := 5) rfl, c26 v5.p v5.ok fun r8 H8 gs8 hp8 a8 k8 hs8 => ?_⟩
          obtain ⟨L8, hp8⟩ := hp8
          have b8 := k8.row b5 (fun hf => by have := v.p.lt hf; omega)
          have okA := advance_ok v.ok o.now
          have ctA := advance_count (s := s) o.now
          have hrA := (advance_room s o.now).trans hr
          -- what goes out
          have go : F16 (some ⟨g, 0, none⟩) H8 (fun (r96 : Int) (H94 : Hp) => F15 (some ⟨H2.size, 0, none⟩) r8 r96 H94 (fun (r99 : Bool) (H97 : Hp) => F4_6 Q X room script (some ⟨g, 0, none⟩) ⟨H2.size, 0, none⟩ i (!r99) H97)) := by
            refine c18 hp8 ?_
            by_cases hbad : o.now < 0 ∨ 4611686018427387904 < o.now
            · have e : advance s o.now = ([], 23, s) := if_pos hbad
              rw [e] at hp8 a8 okA ctA hrA ⊢
              have hno := nothing_out v.lo
              refine v5.emits (m := s.mark) (by omega) hT hp8 k8 (fun b hb => .inl (hs8 b hb)) okA ctA (Int.le_refl _) hno.2.symm rfl (by rw [hno.1]; exact a8) fun H' W' Z' st' tm' any' v' => ?_
              exact next6 H' s ⟨_, _, _, _, _, _, _, _, _, v'⟩ hrA
            · have e : advance s o.now = (out (mark' s o.now) s.C, 0, { s with top := top' s o.now, mark := mark' s o.now, C := rest (mark' s o.now) s.C }) := if_neg hbad
              rw [e] at hp8 a8 okA ctA hrA ⊢
              refine v5.emits (m := mark' s o.now) (by omega) hT hp8 k8 (fun b hb => .inl (hs8 b hb)) okA ctA (mark_le s _) rfl rfl a8 fun H' W' Z' st' tm' any' v' => ?_
              exact next6 H' _ ⟨_, _, _, _, _, _, _, _, _, v'⟩ hrA
          have he1 : decide ((advance s o.now).2.1 = 0) = decide (0 ≤ o.now ∧ o.now ≤ 4611686018427387904) := by
            unfold advance
            split
            · rename_i h
              rw [decide_eq_false (show ¬ (0 ≤ o.now ∧ o.now ≤ 4611686018427387904) by omega)]
              rfl
            · rename_i h
              rw [decide_eq_true (show 0 ≤ o.now ∧ o.now ≤ 4611686018427387904 by omega)]
              rfl
          refine ⟨_, b8.cell_of (i := 5) rfl, fun h0 => ⟨_, b8.cell_of (i := 5) rfl, ?_⟩, fun h0 => ?_⟩
          · have h0 := of_decide_eq_true h0
            have : (!(decide ((advance s o.now).2.1 = 0) == decide (o.now ≤ 4611686018427387904))) = false := by
              rw [he1]
              by_cases h : o.now ≤ 4611686018427387904
              · rw [decide_eq_true h, decide_eq_true ⟨h0, h⟩]; rfl
              · rw [decide_eq_false h, decide_eq_false fun hh => h hh.2]; rfl
            rw [this]
            exact ⟨fun hf => (by cases hf), fun _ => go⟩
          · have h0 := of_decide_eq_false h0
            have : (!(decide ((advance s o.now).2.1 = 0) == false)) = false := by
              rw [he1, decide_eq_false fun hh => h0 hh.1]; rfl
            rw [this]
            exact ⟨fun hf => (by cases hf), fun _ => go⟩
        · refine c20 v5.p v5.ok fun r8 H8 gs8 hp8 a8 k8 hs8 hr8 => ?_
          obtain ⟨L8, hp8⟩ := hp8
          have ho := out_all (maxOf_le s.C s.mark).2
          refine c18 hp8 (v5.emits (m := maxOf s.mark s.C) (by omega) hT hp8 k8 (fun b hb => .inl (hs8 b hb)) (flush_ok v.ok) (by show s.count ≤ _; omega) (maxOf_le s.C s.mark).1 ho.2.symm rfl (by rw [ho.1]; exact a8) fun H' W' Z' st' tm' any' v' => ⟨fun hf => (by cases hf), fun _ => next H' _ ⟨_, _, _, _, _, _, _, _, _, v'⟩ hr⟩)
        · refine c19 v5.p v5.ok fun r8 H8 a8 k8 hr8 => ?_
          have v8 := v5.no k8
          exact c18 v8.p (v8.held (H1 := H8) (by omega) hT a8 fun H' v' => ⟨fun hf => (by cases hf), fun _ => next H' s ⟨_, _, _, _, _, _, _, _, _, v'.up⟩ hr⟩)
        · exact next H5 s ⟨_, _, _, _, _, _, _, _, _, v5.up⟩ hr
    unfold badNew at hgood
    refine ⟨fun hf => (by cases hf), fun _ => ⟨fun h1 => ⟨fun h2 => ⟨fun h3 => ?_, fun h => absurd (of_decide_eq_false h) (by omega)⟩, fun h => absurd (of_decide_eq_false h) (by omega)⟩, fun h => absurd (of_decide_eq_false h) (by omega)⟩⟩
    rw [show (!(decide ((0 : Int) = 0) == decide (room ≤ 4096))) = false from by rw [decide_eq_true (show room ≤ 4096 by omega)]; rfl]
    exact main

end Go.Hw
