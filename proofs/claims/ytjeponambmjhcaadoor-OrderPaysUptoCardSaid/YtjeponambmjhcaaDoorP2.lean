/- OrderPays: the walk's contract. Own work of this session. -/
import Derived.Test.YtjeponambmjhcaaDoorP1
set_option linter.unusedVariables false
namespace Go.Hw
open Go

theorem made_one (v : Value) (n : Nat) : (made #[v] n).toList = (List.replicate n v) := by
  unfold made Builtin.zeroCells
  apply List.ext_getElem
  · simp
  · intro i h1 h2
    simp [Nat.mod_one]

theorem made_flat {f : Bool → List Value} (hf : ∀ b, f b = [.bool b]) (b : Bool) (n : Nat) : (List.replicate n b).flatMap f = List.replicate n (Value.bool b) := by
  induction n with
  | zero => rfl
  | succ n ih => rw [List.replicate_succ, List.flatMap_cons, ih, hf, List.replicate_succ]; rfl

def iF : Fmt Int 2 1 := ⟨fun x => [.int .i64 x], fun _ => rfl, by intro x v hv; simp at hv; rcases hv with rfl; rfl, by decide⟩
def bF : Fmt Bool 4 1 := ⟨fun x => [.bool x], fun _ => rfl, by intro x v hv; simp at hv; rcases hv with rfl; rfl, by decide⟩

theorem getD_of {ts : List Int} {j : Nat} {x : Int} (h : ts[j]? = some x) : ts.getD j 0 = x := by
  rw [List.getD_eq_getElem?_getD, h]; rfl

/-- Which ways have been seen: those of the events so far. -/
structure Sn (O : List NE) (j : Nat) (S : List Bool) : Prop where
  s : ∀ (k : Nat) (b : Bool), S[k]? = some b → (b = true ↔ ∃ x ∈ O.take j, x.num = (k : Int) + 1)

theorem nlt_num {O : List NE} (so : O.Pairwise nlt) {n : Nat} {ts : List Int} (pm : O.Perm (evs ts n)) {j k : Nat} {x y : NE} (hj : O[j]? = some x) (hk : O[k]? = some y) (hne : j ≠ k) : x.num ≠ y.num := by
  intro he
  have hx := mem_evs.1 (pm.mem_iff.1 (List.mem_of_getElem? hj))
  have hy := mem_evs.1 (pm.mem_iff.1 (List.mem_of_getElem? hk))
  obtain ⟨a, ha, e1⟩ := hx
  obtain ⟨b, hb, e2⟩ := hy
  have : a = b := by
    have h1 : x.num = (a : Int) + 1 := by rw [e1]; rfl
    have h2 : y.num = (b : Int) + 1 := by rw [e2]; rfl
    omega
  subst this
  obtain ⟨hjl, hj⟩ := List.getElem?_eq_some_iff.1 hj
  obtain ⟨hkl, hk⟩ := List.getElem?_eq_some_iff.1 hk
  have hxy : x = y := e1.trans e2.symm
  rcases Nat.lt_or_gt_of_ne hne with h | h
  · have := List.pairwise_iff_getElem.1 so j k hjl hkl h
    rw [hj, hk, hxy] at this
    exact nlt_asymm _ _ this this
  · have := List.pairwise_iff_getElem.1 so k j hkl hjl h
    rw [hj, hk, hxy] at this
    exact nlt_asymm _ _ this this

theorem c3_seen {times out seen : Sl} {ts : List Int} {E : List EC} {O : List NE} {H0 H : Hp} {Q : Bool → Hp → Prop} (hT : ∀ H', Kp No H0 H' → TabH H') (ht : RdL iF H0 times ts) (hl : ts.length ≤ 4096) (k : Kp No H0 H)
    (ho : Lst eF H out E) (eo : E.map EC.ev = O.map NE.e) (pm : O.Perm (evs ts ts.length)) (so : O.Pairwise nlt) (hs : Lst bF H seen (List.replicate ts.length false)) (ns : ∀ b, seen.at b → H0.size ≤ b)
    (hQ : ∀ H', Kp No H0 H' → Q true H') : F3_L10 Q times out seen (-1) 0 H := by
  have hOl : O.length = ts.length := by rw [pm.length_eq, evs_len]
  have hEl : E.length = ts.length := by have := congrArg List.length eo; simp at this; omega
  have hon := ho.n
  have htn := ht.n
  intro X hX
  suffices G : ∀ (d : Nat) (H : Hp) (j : Nat) (last : Int) (S : List Bool), j + d = ts.length → Kp No H0 H → Lst eF H out E → Lst bF H seen S → S.length = ts.length → Sn O j S →
      ((j = 0 ∧ last = -1) ∨ ∃ x, O[j - 1]? = some x ∧ 0 < j ∧ last = x.num - 1) → X last j H from
    G ts.length H 0 (-1) _ (by omega) k ho hs (by simp) ⟨fun k b hb => by
      have := List.mem_of_getElem? hb
      rw [List.mem_replicate] at this
      simp [this.2]⟩ (.inl ⟨rfl, rfl⟩)
  intro d
  induction d with
  | zero => exact fun H j last S hj k ho hs hS hsn hla => hX _ _ _ ⟨fun hb => absurd (of_decide_eq_true hb) (by omega), fun _ => hQ H k⟩
  | succ d ih =>
    intro H j last S hj k ho hs hS hsn hla
    have hx : E[j]? = some (E[j]'(by omega)) := List.getElem?_eq_getElem (by omega)
    generalize E[j]'(by omega) = x at hx
    have hy : O[j]? = some (O[j]'(by omega)) := List.getElem?_eq_getElem (by omega)
    generalize O[j]'(by omega) = y at hy
    have hxy : x.ev = y.e := by
      have := congrArg (fun l : List EV => l[j]?) eo
      simpa only [List.getElem?_map, hx, hy, Option.map_some, Option.some.injEq] using this
    obtain ⟨i, hi, rfl⟩ := mem_evs.1 (pm.mem_iff.1 (List.mem_of_getElem? hy))
    have hti : ts[i]? = some (ts[i]'hi) := List.getElem?_eq_getElem hi
    generalize ts[i]'hi = t at hti
    have hty : x.ty = T i := congrArg EV.ty hxy
    have htm : x.tm = t := (congrArg EV.tm hxy).trans (getD_of hti)
    obtain ⟨a, ha, hj0, ca⟩ := ho.rd.get hx
    have hc0 : cell H (a.add ((j : Int).toNat * 3)) = some (.string (T i)) := by rw [← hty]; exact ca.1
    have hdl := dec_len_le i
    refine hX _ _ _ ⟨fun _ => ⟨a, ha, by omega, by omega, _, hc0, c12n (hT H k) (by omega) (by omega) fun H2 k2 => ?_⟩, fun hb => absurd (of_decide_eq_false hb) (by omega)⟩
    have k02 := k.trans k2 fun _ => False.elim
    have ho2 := ho.kp k2 fun _ _ => id
    have hs2 := hs.kp k2 fun _ _ => id
    obtain ⟨a2, ha2, hj2, ca2⟩ := ho2.rd.get hx
    obtain ⟨b2, hb2, hi2, cb2⟩ := (ht.kp0 k02).get hti
    have hsi : S[i]? = some (S[i]'(by omega)) := List.getElem?_eq_getElem (by omega)
    generalize S[i]'(by omega) = sb at hsi
    have hsf : sb = false := by
      cases sb with
      | false => rfl
      | true =>
        exfalso
        obtain ⟨z, hz, hzn⟩ := (hsn.s i true hsi).1 rfl
        obtain ⟨m, hm, rfl⟩ := List.getElem_of_mem hz
        rw [List.length_take] at hm
        rw [List.getElem_take] at hzn
        refine nlt_num so pm (List.getElem?_eq_getElem (show m < O.length by omega)) hy (by omega) ?_
        rw [hzn]; rfl
    subst hsf
    obtain ⟨s2, hs2a, hsb2, hsi2, hsc, hsz, hset⟩ := hs2.set1 (i := i) (c := 0) (x := false) (x' := true) (v := .bool true) hsi (by decide) rfl
    have ea : ((s2.add (i * 1)).add 0) = s2.add ((i : Int).toNat * 1) := by rw [add_add]; rfl
    rw [ea] at hsc hsz hset
    obtain ⟨s3, hs3, _, cs⟩ := hs2.rd.get hsi
    obtain rfl : s2 = s3 := Option.some.inj (hs2a.symm.trans hs3)
    have cs0 : cell H2 (s2.add ((i : Int).toNat * 1)) = some (.bool false) := cs.1
    have ct0 : cell H2 (b2.add ((i : Int).toNat * 1)) = some (.int .i64 t) := cb2.1
    have ce1 : cell H2 ((a2.add ((j : Int).toNat * 3)).add 1) = some (.int .i64 t) := by rw [← htm]; exact ca2.2.1
    have hsn2 := hs2.n
    have last2 : F3_12 Q X times out seen j i false H2 := by
      refine ⟨fun hf => (by cases hf), fun _ => ⟨s2, hs2a, by omega, by omega, hsc, hsz, fun H3 e3 => ?_⟩⟩
      obtain ⟨hs3', k3⟩ := hset H3 e3
      rw [wr (by omega) (by omega)]
      refine ih H3 (j + 1) i (S.set i true) (by omega) (k02.trans k3 fun b hb => .inr (ns b hb)) (ho2.kp k3 fun b hb hb' => ho2.disj hs2 (by decide) hb hb') hs3' (by rw [List.length_set]; exact hS) ⟨fun q b hq => ?_⟩ (.inr ⟨_, hy, by omega, ?_⟩)
      · rw [take_succ hy]
        rw [List.getElem?_set] at hq
        by_cases hqi : i = q
        · subst hqi
          rw [if_pos rfl] at hq
          split at hq
          · injection hq with hq
            subst hq
            simp only [true_iff]
            exact ⟨_, List.mem_append_right _ (List.mem_singleton.2 rfl), rfl⟩
          · cases hq
        · rw [if_neg hqi] at hq
          rw [hsn.s q b hq]
          constructor
          · rintro ⟨z, hz, e⟩; exact ⟨z, List.mem_append_left _ hz, e⟩
          · rintro ⟨z, hz, e⟩
            rcases List.mem_append.1 hz with hz | hz
            · exact ⟨z, hz, e⟩
            · rw [List.mem_singleton] at hz
              subst hz
              have : (mk1 ts i).num = (i : Int) + 1 := rfl
              omega
      · show (i : Int) = (i : Int) + 1 - 1
        omega
    have go : F3_11 Q X times out seen last j i false H2 := by
      refine ⟨fun hf => (by cases hf), fun _ => ⟨fun h0 => ?_, fun _ => last2⟩⟩
      have h0 := of_decide_eq_true h0
      rcases hla with ⟨_, hla⟩ | ⟨p, hp, hj1, hla⟩
      · omega
      obtain ⟨q, hq, rfl⟩ := mem_evs.1 (pm.mem_iff.1 (List.mem_of_getElem? hp))
      have htq : ts[q]? = some (ts[q]'hq) := List.getElem?_eq_getElem hq
      generalize ts[q]'hq = u at htq
      have hla : last = q := by rw [hla]; show (q : Int) + 1 - 1 = q; omega
      subst hla
      obtain ⟨b3, hb3, hq2, cb3⟩ := (ht.kp0 k02).get htq
      obtain rfl : b2 = b3 := Option.some.inj (hb2.symm.trans hb3)
      have cq0 : cell H2 (b2.add ((q : Int).toNat * 1)) = some (.int .i64 u) := cb3.1
      have hlt : nlt (mk1 ts q) (mk1 ts i) := by
        obtain ⟨h1, e1⟩ := List.getElem?_eq_some_iff.1 hp
        obtain ⟨h2, e2⟩ := List.getElem?_eq_some_iff.1 hy
        have := List.pairwise_iff_getElem.1 so (j - 1) j h1 h2 (by omega)
        rw [e1, e2] at this
        exact this
      have hlt : u < t ∨ u = t ∧ (q : Int) + 1 < (i : Int) + 1 := by
        have e1 : (mk1 ts q).e.tm = u := getD_of htq
        have e2 : (mk1 ts i).e.tm = t := getD_of hti
        unfold nlt at hlt
        rw [e1, e2] at hlt
        exact hlt
      refine ⟨b2, hb2, by omega, by omega, _, ct0, b2, hb2, by omega, by omega, _, cq0, fun hb => absurd (of_decide_eq_true hb) (by omega), fun _ => ⟨b2, hb2, by omega, by omega, _, ct0, b2, hb2, by omega, by omega, _, cq0, fun hb => ?_, fun _ => last2⟩⟩
      have hb := of_decide_eq_true hb
      rw [decide_eq_false (show ¬ ((i : Int) < (q : Int)) by omega)]
      exact last2
    refine ⟨fun hb => absurd (of_decide_eq_true hb) (by omega), fun _ => ⟨fun hb => absurd (of_decide_eq_true hb) (by omega), fun _ => ⟨s2, hs2a, by omega, by omega, _, cs0, fun hf => (by cases hf), fun _ => ⟨a2, ha2, by omega, by omega, _, ce1, b2, hb2, by omega, by omega, _, ct0, ?_⟩⟩⟩⟩
    rw [decide_eq_false (show ¬ (t ≠ t) from fun h => h rfl)]
    exact go

structure PI (H0 H : Hp) (g hb : Nat) (gs : Sl) (s : St) (L : List HC) (out : Sl) (E : List EC) (O : List NE) (late : Int) (ts : List Int) (i : Nat) : Prop where
  k : Kp No H0 H
  p : PL H g hb gs s L
  v : PV late ts s O i
  o : Lst eF H out E
  eo : E.map EC.ev = O.map NE.e
  n1 : ∀ b, fp g hb gs b → H0.size ≤ b
  n3 : ∀ b, out.at b → H0.size ≤ b

/-- What went out is appended. -/
theorem PI.app {H0 H H1 : Hp} {g hb i : Nat} {gs gs1 out r : Sl} {s s1 : St} {L : List HC} {E : List EC} {O : List NE} {R : List NE} {late : Int} {ts : List Int} {K : Sl → Hp → Prop} (w : PI H0 H g hb gs s L out E O late ts i) (hi : i ≤ 4096) (hR : R.length ≤ 8192)
    (p1 : PA H1 g hb gs1 s1) (ha : Ans H1 r (R.map NE.e)) (k1 : Kp (fp g hb gs) H H1) (hs1 : ∀ b, gs1.at b → gs.at b ∨ H.size ≤ b)
    (hK : ∀ r' H', Kp No H0 H' → PA H' g hb gs1 s1 → (∃ E', Lst eF H' r' E' ∧ E'.map EC.ev = (O ++ R).map NE.e) → (∀ b, fp g hb gs1 b → H0.size ≤ b) → (∀ b, r'.at b → H0.size ≤ b) → K r' H') :
    AppendF H1 33 3 48 #[(.string (ByteArray.mk #[])), (.int .i64 0), (Sl.v Sl.nil)] out r.b r.n K := by
  obtain ⟨L1, p1⟩ := p1
  obtain ⟨E1, h1, _, e1⟩ := ha
  have sz := w.k.size
  have sz1 := k1.size
  have o1 : Lst eF H1 out E := w.o.kp k1 fun b hb' hf => by
    rcases hf with h | h | h
    · exact w.o.ne w.p.row (by decide) (h ▸ hb')
    · exact w.o.ne w.p.hrow (by decide) (h ▸ hb')
    · exact w.o.disj w.p.lst (by decide) hb' h
  have hEl : E.length ≤ 4096 := by
    have h2 := congrArg List.length w.eo
    rw [List.length_map, List.length_map] at h2
    have h3 := w.v.perm.length_eq
    rw [evs_len, List.length_append] at h3
    omega
  have hE1 : E1.length = R.length := by
    have h2 := congrArg List.length e1
    rwa [List.length_map, List.length_map] at h2
  have k01 : Kp No H0 H1 := w.k.trans k1 fun b hb => .inr (w.n1 b hb)
  refine o1.append h1.rd rfl (by omega) (by omega) fun r' H' o' k' hs' => ?_
  refine hK r' H' (k01.trans k' fun b hb => .inr (w.n3 b hb)) ⟨L1, p1.kp k' (fun b hf hS => ?_) fun b l hS rr => ?_⟩ ⟨_, o', by rw [List.map_append, List.map_append, w.eo, e1]⟩ (fun b hb => ?_) fun b hb => ?_
  · rcases hf with h' | h' | h'
    · exact o1.ne p1.row (by decide) (h' ▸ hS)
    · exact o1.ne p1.hrow (by decide) (h' ▸ hS)
    · exact o1.disj p1.lst (by decide) hS h'
  · exact o1.ne rr (by decide) hS
  · rcases hb with h | h | h
    · exact w.n1 b (.inl h)
    · exact w.n1 b (.inr (.inl h))
    · rcases hs1 b h with h | h
      · exact w.n1 b (.inr (.inr h))
      · omega
  · rcases hs' b hb with h | h
    · exact w.n3 b h
    · omega

theorem c3_end {H0 H : Hp} {g hb : Nat} {gs out times : Sl} {s : St} {L : List HC} {E : List EC} {O : List NE} {late : Int} {ts : List Int} {Q : Bool → Hp → Prop} (hT : ∀ H', Kp No H0 H' → TabH H') (ht : RdL iF H0 times ts) (hl : ts.length ≤ 4096) (w : PI H0 H g hb gs s L out E O late ts ts.length)
    (hQ : ∀ H', Kp No H0 H' → Q true H') : F3_7 Q times (some ⟨g, 0, none⟩) out H := by
  have htn := ht.n
  refine c20 w.p w.v.ok fun r H1 gs1 hp1 a1 k1 hs1 hr1 => ?_
  have hC : (flush s).1.length ≤ 8192 := by
    show (isort s.C).length ≤ _
    rw [(isort_perm _).length_eq]
    have := w.v.ok.len; have := w.v.ok.room; omega
  refine w.app hl hC hp1 a1 k1 (fun b hb => .inl (hs1 b hb)) fun r' H2 k2 hp2 ho2 n1 n3 => ?_
  obtain ⟨E2, o2, e2⟩ := ho2
  obtain ⟨pm, so⟩ := w.v.flush
  have hn2 : r'.n = ts.length := by
    rw [o2.n]
    have h2 := congrArg List.length e2
    rw [List.length_map, List.length_map, pm.length_eq, evs_len] at h2
    exact h2
  obtain ⟨L2, p2⟩ := hp2
  refine ⟨fun hb => absurd (of_decide_eq_true hb) (by rw [hn2, htn]; exact fun h => h rfl), fun _ => c19 p2 (flush_ok w.v.ok) fun r3 H3 a3 k3 hr3 => ?_⟩
  have n3' : r3.n = 0 := a3.n
  rw [decide_eq_false (by rw [n3']; exact fun h => h rfl)]
  refine ⟨fun hf => (by cases hf), fun _ => ⟨by omega, by omega, by omega, by omega, fun H4 e4 => ?_⟩⟩
  have k03 := k2.trans k3 fun _ => False.elim
  have k04 := k03.push' e4
  have r4 := Row.new' e4
  have sz := k03.size
  have o4 : Lst eF H4 r' E2 := o2.kp (k3.push' e4) fun _ _ => id
  have hrow : Row H4 H3.size 4 ((List.replicate ts.length false).flatMap bF.f) := by
    have : (made #[(Value.bool false)] ((times.n : Int)).toNat).toList = (List.replicate ts.length false).flatMap bF.f := by
      rw [htn]
      show (made #[(Value.bool false)] ts.length).toList = _
      rw [made_one]
      exact (made_flat (fun _ => rfl) false _).symm
    rw [this] at r4
    exact r4
  refine c3_seen hT ht hl k04 o4 e2 pm so (seen := Sl.mk (some ⟨H3.size, 0, none⟩) ((times.n : Int)).toNat ((times.n : Int)).toNat) ⟨.inr ⟨_, [], rfl, by rw [List.append_nil]; exact hrow, ?_, ?_, ?_, ?_⟩⟩ (fun b hb => ?_) hQ
  · rw [fl_len bF.len, List.length_replicate]; show _ = ((times.n : Int)).toNat * 1; omega
  · rw [List.append_nil, fl_len bF.len, List.length_replicate]; show _ = ((times.n : Int)).toNat * 1; omega
  · exact Nat.le_refl _
  · show ((times.n : Int)).toNat ≤ _; omega
  · injection hb with hb
    injection hb with hb
    omega

theorem c3_push {H0 H : Hp} {g hb : Nat} {times : Sl} {L : List HC} {late : Int} {ts : List Int} {Q : Bool → Hp → Prop} (hT : ∀ H', Kp No H0 H' → TabH H') (ht : RdL iF H0 times ts) (hl : ts.length ≤ 4096) (hla : 0 ≤ late ∧ late ≤ 4611686018427387904)
    (hts : ∀ x ∈ ts, 0 ≤ x ∧ x ≤ 4611686018427387904) (hlate : ∀ i x, ts[i]? = some x → gm (ts.take i) - late ≤ x) (w : PI H0 H g hb Sl.nil (st0 late 4096) L Sl.nil [] [] late ts 0)
    (hQ : ∀ H', Kp No H0 H' → Q true H') : F3_L8 Q times (some ⟨g, 0, none⟩) Sl.nil 0 H := by
  have htn := ht.n
  intro X hX
  suffices G : ∀ (d : Nat) (H : Hp) (i : Nat) (gs : Sl) (s : St) (L : List HC) (out : Sl) (E : List EC) (O : List NE), i + d = ts.length → PI H0 H g hb gs s L out E O late ts i → X out i H from G ts.length H 0 _ _ _ _ _ _ (by omega) w
  intro d
  induction d with
  | zero =>
    intro H i gs s L out E O hi w
    obtain rfl : i = ts.length := by omega
    exact hX _ _ _ ⟨fun hb => absurd (of_decide_eq_true hb) (by omega), fun _ => c3_end hT ht hl w hQ⟩
  | succ d ih =>
    intro H i gs s L out E O hi w
    have hx : ts[i]? = some (ts[i]'(by omega)) := List.getElem?_eq_getElem (by omega)
    generalize ts[i]'(by omega) = x at hx
    obtain ⟨a, ha, hi0, ca⟩ := (ht.kp0 w.k).get hx
    refine hX _ _ _ ⟨fun _ => ⟨a, ha, by omega, by omega, _, ca.1, hT H w.k, by omega, by omega, fun H1 k1 => ?_⟩, fun hb => absurd (of_decide_eq_false hb) (by omega)⟩
    have k01 := w.k.trans k1 fun _ => False.elim
    obtain ⟨a', ha', _, ca'⟩ := (ht.kp0 k01).get hx
    obtain rfl : a = a' := Option.some.inj (ha.symm.trans ha')
    rw [T_itoa]
    refine ⟨ca'.1, c24 fun H2 k2 => ?_⟩
    have k02 := k01.trans k2 fun _ => False.elim
    have k12 := k1.trans k2 fun _ => False.elim
    have w2 : PI H0 H2 g hb gs s L out E O late ts i := ⟨k02, w.p.no k12, w.v, w.o.kp k12 fun _ _ => id, w.eo, w.n1, w.n3⟩
    obtain ⟨R, s', e, v', hR⟩ := w.v.step hx (by omega) hla hts (hlate i x hx)
    have hct := w.v.ct
    refine c23 w2.p w.v.ok (by omega) (RdL.nil vF H2) (fun a ha => by cases ha) (by simp) fun r H3 gs3 hp3 a3 k3 hs3 hr3 => ?_
    rw [e] at hp3 a3 ⊢
    refine ⟨fun hb => absurd rfl (of_decide_eq_true hb), fun _ => ?_⟩
    refine w2.app (by omega) hR hp3 a3 k3 hs3 fun r' H4 k4 hp4 ho4 n1 n3 => ?_
    obtain ⟨E4, o4, e4⟩ := ho4
    obtain ⟨L4, p4⟩ := hp4
    rw [wr (by omega) (by omega)]
    exact ih H4 (i + 1) _ _ _ _ _ _ (by omega) ⟨k4, p4, v', o4, e4, n1, n3⟩

theorem c3_gate {H0 H : Hp} {times : Sl} {late : Int} {ts : List Int} {Q : Bool → Hp → Prop} (hT : ∀ H', Kp No H0 H' → TabH H') (ht : RdL iF H0 times ts) (hl : ts.length ≤ 4096) (hla : 0 ≤ late ∧ late ≤ 4611686018427387904)
    (hts : ∀ x ∈ ts, 0 ≤ x ∧ x ≤ 4611686018427387904) (hlate : ∀ i x, ts[i]? = some x → gm (ts.take i) - late ≤ x) (k : Kp No H0 H)
    (hQ : ∀ H', Kp No H0 H' → Q true H') : F3_2 Q late times H := by
  have hbad : ¬ badNew late 4096 := by unfold badNew; omega
  refine c8 (fun hb => absurd hb hbad) fun _ H1 g hb hp k1 hg hh => ?_
  obtain ⟨L, hp⟩ := hp
  have sz := k.size
  refine ⟨fun hf => (by cases hf), fun _ => ⟨fun hf => absurd rfl (of_decide_eq_true hf), fun _ => ?_⟩⟩
  refine c3_push (hb := hb) (L := L) hT ht hl hla hts hlate ⟨k.trans k1 fun _ => False.elim, hp, PV.start hbad, Lst.nil _ _, rfl, fun b hb' => ?_, fun b hb' => by cases hb'⟩ hQ
  rcases hb' with h | h | h
  · omega
  · omega
  · cases h

theorem c3 {times : Sl} {late : Int} {ts : List Int} {H0 : Hp} {Q : Bool → Hp → Prop} (hT : ∀ H', Kp No H0 H' → TabH H') (ht : RdL iF H0 times ts) (hl63 : ts.length ≤ 1048576) (hQ : ∀ H', Kp No H0 H' → Q true H') : F3 late times H0 Q := by
  have htn := ht.n
  refine c6 fun H1 k1 => ⟨fun hf => (by cases hf), fun _ => ?_⟩
  have early : F3_1 Q late times true H1 := ⟨fun _ => hQ H1 k1, fun hf => by cases hf⟩
  refine ⟨fun _ => early, fun h1 => ⟨fun _ => early, fun h2 => ?_⟩⟩
  have h1 := of_decide_eq_false h1
  have h2 := of_decide_eq_false h2
  by_cases hl : ts.length ≤ 4096
  · rw [decide_eq_false (by omega)]
    refine ⟨fun hf => (by cases hf), fun _ => ?_⟩
    intro X hX
    suffices G : ∀ (d i : Nat), i + d = ts.length → (∀ x ∈ ts.take i, 0 ≤ x ∧ x ≤ 4611686018427387904) → (∀ j x, j < i → ts[j]? = some x → gm (ts.take j) - late ≤ x) → X (gm (ts.take i)) i H1 from
      G ts.length 0 (by omega) (fun x hx => by simp at hx) (fun j x hj => by omega)
    intro d
    induction d with
    | zero =>
      intro i hi hts hlate
      obtain rfl : i = ts.length := by omega
      rw [List.take_of_length_le (Nat.le_refl _)] at hts ⊢
      refine hX _ _ _ ⟨fun hb => absurd (of_decide_eq_true hb) (by omega), fun _ => ?_⟩
      exact c3_gate hT ht hl (by omega) hts (fun j x hx => hlate j x (List.getElem?_eq_some_iff.1 hx).1 hx) k1 hQ
    | succ d ih =>
      intro i hi hts hlate
      have hx : ts[i]? = some (ts[i]'(by omega)) := List.getElem?_eq_getElem (by omega)
      generalize ts[i]'(by omega) = x at hx
      obtain ⟨a, ha, hi0, ca⟩ := (ht.kp0 k1).get hx
      have hg := gm_ok hts
      have out : F3_5 Q X late times (gm (ts.take i)) i true H1 := ⟨fun _ => hQ H1 k1, fun hf => by cases hf⟩
      refine hX _ _ _ ⟨fun _ => ⟨a, ha, by omega, by omega, _, ca.1, fun _ => out, fun hx0 => ⟨a, ha, by omega, by omega, _, ca.1, fun _ => out, fun hx1 => ⟨a, ha, by omega, by omega, _, ca.1, ?_⟩⟩⟩, fun hb => absurd (of_decide_eq_false hb) (by omega)⟩
      have hx0 := of_decide_eq_false hx0
      have hx1 := of_decide_eq_false hx1
      rw [wr (by omega) (by omega)]
      by_cases hlt : x < gm (ts.take i) - late
      · rw [decide_eq_true hlt]; exact out
      · rw [decide_eq_false hlt]
        have next := ih (i + 1) (by omega) (fun y hy => by
          rw [take_succ hx] at hy
          rcases List.mem_append.1 hy with hy | hy
          · exact hts y hy
          · rw [List.mem_singleton] at hy; omega) (fun j y hj hy => by
          by_cases hji : j = i
          · subst hji
            rw [hx] at hy
            injection hy with hy
            omega
          · exact hlate j y (by omega) hy)
        rw [take_succ hx, gm_snoc] at next
        refine ⟨fun hf => (by cases hf), fun _ => ⟨a, ha, by omega, by omega, _, ca.1, fun hgt => ⟨a, ha, by omega, by omega, _, ca.1, ?_⟩, fun hgt => ?_⟩⟩
        · rw [if_pos (of_decide_eq_true hgt)] at next
          show X x (IntKind.i64.wrap ((i : Int) + 1)) H1
          rw [wr (by omega) (by omega)]
          exact next
        · rw [if_neg (of_decide_eq_false hgt)] at next
          show X _ (IntKind.i64.wrap ((i : Int) + 1)) H1
          rw [wr (by omega) (by omega)]
          exact next
  · rw [decide_eq_true (by omega)]
    exact early

end Go.Hw
