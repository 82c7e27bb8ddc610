/- eval: references, functions over events. Own work of this session. -/
import Derived.Test.YtfkhglkcplnppaaDoorE3
set_option linter.unusedVariables false
namespace Go.Hw
open Go

def joinP (o a b : Int) : Int := if o = 2 then IntKind.i64.wrap (a + b) else if o = 3 then (if b < a then b else a) else (if a < b then b else a)
def aggGo (T : List TyM) (a : ByteArray) (o : Int) : Nat → Int → List EvM → Int × Int
  | _, n, [] => (0, n)
  | i, n, x :: l => if (attrP T x a).2 ≠ 0 then ((attrP T x a).2, n) else if (attrP T x a).1.k ≠ 1 then (10, n) else aggGo T a o (i + 1) (if i = 0 then (attrP T x a).1.n else joinP o n (attrP T x a).1.n) l
/-- The value of a function; what is wrong. -/
def aggP (m : EnvM) (r : ER) : VT × Int :=
  if r.o < 1 then (zeroV, 60) else if 4 < r.o then (zeroV, 60) else if r.p ≠ 6 ∧ r.p ≠ 7 then (zeroV, 60) else
  match boundP m r.v with
  | none => (zeroV, 110)
  | some l =>
    if r.p = 7 ∧ takeP m r.v = false then (zeroV, 110)
    else if r.o = 1 then (numV l.length, 0)
    else if (aggGo m.types r.a r.o 0 0 l).1 ≠ 0 then (zeroV, (aggGo m.types r.a r.o 0 0 l).1)
    else if l.length = 0 ∧ r.o ≠ 2 then (zeroV, 110)
    else (numV (aggGo m.types r.a r.o 0 0 l).2, 0)

section
variable {H H0 : Hp} {p0 p1 : Sl} {p2 p3 : ByteArray} {p4 : Int} {p5 p6 : Sl} {m : EnvM}

theorem c69 {name : ByteArray} {Q : Sl → Bool → Hp → Prop} (h : EnvH H0 p0 p1 p2 p3 p4 p5 p6 m) (k0 : Kp No H0 H) (q0 : ∀ H', boundP m name = none → Kp No H H' → Q Sl.nil false H')
    (q1 : ∀ s l H', boundP m name = some l → EvsH H0 s l → Kp No H H' → Q s true H') : F69 p0 p1 p2 p3 p4 p5 p6 name H Q := by
  intro H1 e1
  have k1 : Kp No H H1 := (Kp.refl _ _).push' e1
  have r1 := Row.new' e1
  have h1 := h.no (k0.no2 k1)
  obtain ⟨L, hL0, hLl, hLb⟩ := h.bound
  have hL := hL0.kp0 (k0.no2 k1)
  have hn := hL.n
  have vs : m.vars.length ≤ 4194304 := h.vs
  refine ⟨p0, r1.cell_of rfl, c77 h1.vars h1.vs (fun hf => ?_) fun i hf hi => ?_⟩
  · have e : boundP m name = none := by unfold boundP; rw [hf]; rfl
    exact ⟨fun _ => ⟨fun _ => q0 H1 e k1, fun h => (by cases h)⟩, fun h => absurd (of_decide_eq_false h) (by omega)⟩
  · have e : boundP m name = m.bound[i]? := by unfold boundP; rw [hf]; rfl
    refine ⟨fun h => absurd (of_decide_eq_true h) (by omega), fun _ => ⟨p1, rowc r1 rfl, fun hh => ?_, fun hh => ?_⟩⟩
    · have hh := of_decide_eq_true hh
      exact q0 H1 (by rw [e, List.getElem?_eq_none (by omega)]) k1
    · have hh := of_decide_eq_false hh
      have gs : L[i]? = some (L[i]'(by omega)) := List.getElem?_eq_getElem (by omega)
      generalize L[i]'(by omega) = s at gs
      have gl : m.bound[i]? = some (m.bound[i]'(by omega)) := List.getElem?_eq_getElem (by omega)
      generalize m.bound[i]'(by omega) = l at gl
      obtain ⟨p, hp, hpn, cp⟩ := hL.get gs
      have cp0 : cell H1 (Addr.add p (((i : Int)).toNat * 1)) = some (Sl.v s) := by
        have := cp.1
        rw [add_add, Nat.add_zero] at this
        rwa [show ((i : Int)).toNat = i from by omega]
      exact ⟨p1, rowc r1 rfl, p, hp, by omega, by omega, s, cp0, q1 s l H1 (e.trans gl) (hLb i s l gs gl) k1⟩

theorem c70 {name : ByteArray} {Q : Bool → Hp → Prop} (h : EnvH H p0 p1 p2 p3 p4 p5 p6 m) (hQ : ∀ H', Kp No H H' → Q (takeP m name) H') : F70 p0 p1 p2 p3 p4 p5 p6 name H Q := by
  intro H1 e1
  have k1 : Kp No H H1 := (Kp.refl _ _).push' e1
  have r1 := Row.new' e1
  have q := hQ H1 k1
  unfold takeP at q
  refine ⟨fun hh => ⟨p2, rowc r1 rfl, ?_⟩, fun hh => ?_⟩
  · rw [if_pos hh, ← h.it] at q; exact q
  · rw [if_neg (by rw [hh]; decide)] at q; exact q

/-- An event is laid into its box and handed back. -/
theorem ret3 {b : Nat} {l : List Value} {K : ByteArray → Int → Sl → Hp → Prop} (r : Row H b 36 l) (hl : l.length = 3) (x : ByteArray) (y : Int) (z : Sl) (hK : ∀ H', Kp (fun x => x = b) H H' → K x y z H') :
    mayw H ⟨b, 0, none⟩ 3 0 ∧ ∀ H' : Hp, H' = sets H ⟨b, 0, none⟩ [(.string x), (.int .i64 y), (Sl.v z)] 0 →
      (∃ (x6 : ByteArray) (x7 : Int) (x8 : Sl), cells H' ⟨b, 0, none⟩ [(.string x6), (.int .i64 x7), (Sl.v x8)] 0 ∧ (K x6 x7 x8 H')) := by
  refine ⟨r.mayw (by omega), fun H' e => ?_⟩
  have r' : Row H' b 36 [.string x, .int .i64 y, Sl.v z] := r.fill' e (by simp [hl])
  exact ⟨_, _, _, r'.all, hK H' ((Kp.refl _ _).sets' e (.inl rfl))⟩

theorem c56 {r : ER} {q : Sl} {Q : ByteArray → Int → Sl → Int → Hp → Prop} (h : EnvH H p0 p1 p2 p3 p4 p5 p6 m)
    (hQ : ∀ s H', Kp No H H' → RdL vF H' s (eventP m r.v r.p).1.vals → Q (eventP m r.v r.p).1.ty (eventP m r.v r.p).1.time s (eventP m r.v r.p).2 H') :
    F56 p0 p1 p2 p3 p4 p5 p6 r.k r.o r.vk r.vi r.vs r.vb r.v r.p r.a q H Q := by
  intro H1 e1 H3 e3 H5 e5
  have k1 : Kp No H H1 := (Kp.refl _ _).push' e1
  have k3 : Kp No H H3 := k1.push' e3
  have k5 : Kp No H H5 := k3.push' e5
  have r1 : Row H5 H.size 90 [Sl.v p0, Sl.v p1, .string p2, .string p3, .int .i64 p4, Sl.v p5, Sl.v p6] := ((Row.new' e1).push' e3).push' e5
  have r2 : Row H5 H1.size 41 (r.row q) := (Row.new' e3).push' e5
  have r3 : Row H5 H3.size 36 [.string E, .int .i64 0, Sl.v Sl.nil] := Row.new' e5
  have s1 := size_push' e1
  have s3 := size_push' e3
  have out : ∀ {Hx : Hp} (e : EvM) (n : Int) (s : Sl), Kp No H5 Hx → eventP m r.v r.p = (e, n) → RdL vF H s e.vals → mayw Hx ⟨H3.size, 0, none⟩ 3 0 ∧ ∀ H' : Hp, H' = sets Hx ⟨H3.size, 0, none⟩ [(.string e.ty), (.int .i64 e.time), (Sl.v s)] 0 →
      (∃ (x6 : ByteArray) (x7 : Int) (x8 : Sl), cells H' ⟨H3.size, 0, none⟩ [(.string x6), (.int .i64 x7), (Sl.v x8)] 0 ∧ (Q x6 x7 x8 n H')) := fun {Hx} e n s k he hs => by
    have rr := k.row r3 id
    refine ret3 (K := fun a b c H' => Q a b c n H') rr rfl e.ty e.time s fun H' k' => ?_
    have kk := (k5.no2 k).box k' (by omega)
    have q := hQ s H' kk (by rw [he]; exact hs.kp0 kk)
    rw [he] at q
    exact q
  have last : ∀ (i : Nat) (s : Sl) (l : List EvM) (Hx : Hp), eventP m r.v r.p = atP l i → EvsH H s l → Kp No H5 Hx → (l.length ≠ 0 → i < l.length) → (l.length = 0 → l[i]? = none) → F56_1 Q ⟨H3.size, 0, none⟩ s (i : Int) Hx := fun i s l Hx g hs k hi h0 => by
    obtain ⟨R, hR, hRl, hRe⟩ := hs.rows
    have hn := hR.n
    refine ⟨fun hh => ?_, fun hh => ?_⟩
    · have hh := of_decide_eq_true hh
      refine out zeroE 110 Sl.nil k ?_ (RdL.nil vF H)
      rw [g, atP, h0 (by omega)]
    · have hh := of_decide_eq_false hh
      have hi := hi (by omega)
      have gr : R[i]? = some (R[i]'(by omega)) := List.getElem?_eq_getElem (by omega)
      generalize R[i]'(by omega) = rr at gr
      have ge : l[i]? = some (l[i]'hi) := List.getElem?_eq_getElem hi
      generalize l[i]'hi = e at ge
      obtain ⟨e1, e2, e3⟩ := hRe i rr e gr ge
      obtain ⟨p, hp, hpn, cp⟩ := (hR.kp0 (k5.no2 k)).get gr
      refine ⟨p, hp, by omega, by omega, rr.1, rr.2.1, rr.2.2, by rw [show ((i : Int)).toNat = i from by omega]; exact cp, ?_⟩
      rw [e1, e2]
      exact out e 0 rr.2.2 k (by rw [g, atP, ge]) e3
  have lastn : ∀ (s : Sl) (l : List EvM) (Hx : Hp), eventP m r.v r.p = atP l (l.length - 1) → EvsH H s l → Kp No H5 Hx → F56_2 Q ⟨H3.size, 0, none⟩ s Hx := fun s l Hx g hs k => by
    obtain ⟨R, hR, hRl, hRe⟩ := hs.rows
    have hn := hR.n
    have sm : l.length ≤ 4194304 := hs.small
    unfold F56_2
    rw [wr (by omega) (by omega)]
    by_cases hl : l.length = 0
    · refine ⟨fun hh => ?_, fun hh => absurd (of_decide_eq_false hh) (by omega)⟩
      refine out zeroE 110 Sl.nil k ?_ (RdL.nil vF H)
      rw [g, atP, List.getElem?_eq_none (by omega)]
    · rw [show ((s.n : Int) - 1) = ((l.length - 1 : Nat) : Int) from by omega]
      exact last (l.length - 1) s l Hx g hs k (fun _ => by omega) (fun h => absurd h hl)
  have main : ∀ (s : Sl) (l : List EvM) (H17 : Hp), (boundP m r.v).getD [] = l → EvsH H s l → Kp No H5 H17 → ∀ (b : Bool), (∃ x22 : Int, cell H17 (Addr.add ⟨H1.size, 0, none⟩ 7) = some (.int .i64 x22) ∧ (
 ((decide (x22 = 2)) = true → (∃ (x29 : Sl) (x30 : Sl) (x31 : ByteArray) (x32 : ByteArray) (x33 : Int) (x34 : Sl) (x35 : Sl), cells H17 ⟨H.size, 0, none⟩ [(Sl.v x29), (Sl.v x30), (.string x31), (.string x32), (.int .i64 x33), (Sl.v x34), (Sl.v x35)] 0 ∧ (
 ∃ x37 : ByteArray, cell H17 (Addr.add ⟨H1.size, 0, none⟩ 6) = some (.string x37) ∧ (
 F70 x29 x30 x31 x32 x33 x34 x35 x37 H17 (fun (r40 : Bool) (H38 : Hp) => 
 ((!r40) = true → (mayw H38 ⟨H3.size, 0, none⟩ 3 0 ∧ ∀ H42 : Hp, H42 = sets H38 ⟨H3.size, 0, none⟩ [(.string (ByteArray.mk #[])), (.int .i64 0), (Sl.v Sl.nil)] 0 → (
 ∃ (x45 : ByteArray) (x46 : Int) (x47 : Sl), cells H42 ⟨H3.size, 0, none⟩ [(.string x45), (.int .i64 x46), (Sl.v x47)] 0 ∧ (
 Q x45 x46 x47 110 H42)))) ∧
 ((!r40) = false → (∃ (x50 : ByteArray) (x51 : Int) (x52 : Sl), cells H38 (Addr.add ⟨H.size, 0, none⟩ 3) [(.string x50), (.int .i64 x51), (Sl.v x52)] 0 ∧ (
 mayw H38 ⟨H3.size, 0, none⟩ 3 0 ∧ ∀ H53 : Hp, H53 = sets H38 ⟨H3.size, 0, none⟩ [(.string x50), (.int .i64 x51), (Sl.v x52)] 0 → (
 ∃ (x56 : ByteArray) (x57 : Int) (x58 : Sl), cells H53 ⟨H3.size, 0, none⟩ [(.string x56), (.int .i64 x57), (Sl.v x58)] 0 ∧ (
 Q x56 x57 x58 0 H53)))))))))) ∧
 ((decide (x22 = 2)) = false → (((decide (x22 = 3)) = true → (∃ (x62 : Sl) (x63 : Sl) (x64 : ByteArray) (x65 : ByteArray) (x66 : Int) (x67 : Sl) (x68 : Sl), cells H17 ⟨H.size, 0, none⟩ [(Sl.v x62), (Sl.v x63), (.string x64), (.string x65), (.int .i64 x66), (Sl.v x67), (Sl.v x68)] 0 ∧ (
 ∃ x70 : ByteArray, cell H17 (Addr.add ⟨H1.size, 0, none⟩ 6) = some (.string x70) ∧ (
 F70 x62 x63 x64 x65 x66 x67 x68 x70 H17 (fun (r73 : Bool) (H71 : Hp) => 
 ((!r73) = true → (mayw H71 ⟨H3.size, 0, none⟩ 3 0 ∧ ∀ H75 : Hp, H75 = sets H71 ⟨H3.size, 0, none⟩ [(.string (ByteArray.mk #[])), (.int .i64 0), (Sl.v Sl.nil)] 0 → (
 ∃ (x78 : ByteArray) (x79 : Int) (x80 : Sl), cells H75 ⟨H3.size, 0, none⟩ [(.string x78), (.int .i64 x79), (Sl.v x80)] 0 ∧ (
 Q x78 x79 x80 110 H75)))) ∧
 ((!r73) = false → (F56_2 Q ⟨H3.size, 0, none⟩ s H71))))))) ∧
 ((decide (x22 = 3)) = false → (((decide (x22 = 5)) = true → (F56_2 Q ⟨H3.size, 0, none⟩ s H17)) ∧
 ((decide (x22 = 5)) = false → (((decide (x22 = 1)) = true → (F56_1 Q ⟨H3.size, 0, none⟩ s 0 H17)) ∧
 ((decide (x22 = 1)) = false → (((decide (x22 = 4)) = true → (F56_1 Q ⟨H3.size, 0, none⟩ s 0 H17)) ∧
 ((decide (x22 = 4)) = false → (mayw H17 ⟨H3.size, 0, none⟩ 3 0 ∧ ∀ H86 : Hp, H86 = sets H17 ⟨H3.size, 0, none⟩ [(.string (ByteArray.mk #[])), (.int .i64 0), (Sl.v Sl.nil)] 0 → (
 ∃ (x89 : ByteArray) (x90 : Int) (x91 : Sl), cells H86 ⟨H3.size, 0, none⟩ [(.string x89), (.int .i64 x90), (Sl.v x91)] 0 ∧ (
 Q x89 x90 x91 60 H86)))))))))))))) := fun s l H17 hb hs k17 _ => by
    have r1 := k17.row r1 id
    have r2 := k17.row r2 id
    have h17 := h.no (k5.no2 k17)
    have now : ∀ {Hx : Hp}, Row Hx H.size 90 [Sl.v p0, Sl.v p1, .string p2, .string p3, .int .i64 p4, Sl.v p5, Sl.v p6] → cells Hx (Addr.add ⟨H.size, 0, none⟩ 3) [.string m.now.ty, .int .i64 m.now.time, Sl.v p5] 0 := fun rr => by
      rw [add_mk]
      rw [← h.nty, ← h.ntime]
      exact rr.cells rfl
    refine ⟨r.p, rowc r2 rfl, fun g2 => ⟨p0, p1, p2, p3, p4, p5, p6, r1.all, r.v, rowc r2 rfl, c70 h17 fun H38 k38 => ⟨fun g => ?_, fun g => ?_⟩⟩, fun g2 => ⟨fun g3 => ⟨p0, p1, p2, p3, p4, p5, p6, r1.all, r.v, rowc r2 rfl, c70 h17 fun H38 k38 => ⟨fun g => ?_, fun g => ?_⟩⟩, fun g3 => ⟨fun g5 => ?_, fun g5 => ⟨fun g1 => ?_, fun g1 => ⟨fun g4 => ?_, fun g4 => ?_⟩⟩⟩⟩⟩
    · have t : takeP m r.v = false := by simpa using g
      exact out zeroE 110 Sl.nil (k17.no2 k38) (by unfold eventP; rw [if_pos (of_decide_eq_true g2), if_neg (by rw [t]; decide)]) (RdL.nil vF H)
    · have t : takeP m r.v = true := by simpa using g
      exact ⟨_, _, _, now (k38.row r1 id), out m.now 0 p5 (k17.no2 k38) (by unfold eventP; rw [if_pos (of_decide_eq_true g2), if_pos t]) h.nvals⟩
    · have t : takeP m r.v = false := by simpa using g
      exact out zeroE 110 Sl.nil (k17.no2 k38) (by unfold eventP; rw [if_neg (of_decide_eq_false g2), if_pos (of_decide_eq_true g3), if_neg (by rw [t]; decide)]) (RdL.nil vF H)
    · have t : takeP m r.v = true := by simpa using g
      exact lastn s l H38 (by unfold eventP; rw [if_neg (of_decide_eq_false g2), if_pos (of_decide_eq_true g3), if_pos t, hb]) hs (k17.no2 k38)
    · exact lastn s l H17 (by unfold eventP; rw [if_neg (of_decide_eq_false g2), if_neg (of_decide_eq_false g3), if_pos (of_decide_eq_true g5), hb]) hs k17
    · exact last 0 s l H17 (by unfold eventP; rw [if_neg (of_decide_eq_false g2), if_neg (of_decide_eq_false g3), if_neg (of_decide_eq_false g5), if_pos (of_decide_eq_true g1), hb]) hs k17 (fun _ => by omega) (fun h => List.getElem?_eq_none (by omega))
    · exact last 0 s l H17 (by unfold eventP; rw [if_neg (of_decide_eq_false g2), if_neg (of_decide_eq_false g3), if_neg (of_decide_eq_false g5), if_neg (of_decide_eq_false g1), if_pos (of_decide_eq_true g4), hb]) hs k17 (fun _ => by omega) (fun h => List.getElem?_eq_none (by omega))
    · exact out zeroE 60 Sl.nil k17 (by unfold eventP; rw [if_neg (of_decide_eq_false g2), if_neg (of_decide_eq_false g3), if_neg (of_decide_eq_false g5), if_neg (of_decide_eq_false g1), if_neg (of_decide_eq_false g4)]) (RdL.nil vF H)
  refine ⟨p0, p1, p2, p3, p4, p5, p6, r1.all, r.v, rowc r2 rfl, c69 h k5 (fun H17 hb k17 => ?_) fun s l H17 hb hs k17 => ?_⟩
  · exact main Sl.nil [] H17 (by rw [hb]; rfl) ⟨by simp, [], RdL.nil evF H, rfl, fun i r e hr => by simp at hr⟩ k17 true
  · exact main s l H17 (by rw [hb]; rfl) hs k17 true
end
end Go.Hw
