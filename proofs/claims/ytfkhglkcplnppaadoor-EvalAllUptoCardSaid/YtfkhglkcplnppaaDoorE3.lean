/- eval: attributes, what is bound, the event that is meant. eval: references, functions over events. eval: functions over events. Own work of this session. -/
import Derived.Test.YtfkhglkcplnppaaDoorE1
set_option linter.unusedVariables false
namespace Go.Hw
open Go

def sF : Fmt ByteArray 9 1 := ⟨fun x => [.string x], fun _ => rfl, by intro x v hv; simp at hv; rcases hv with rfl; rfl, by decide⟩
def slF : Fmt Sl 49 1 := ⟨fun x => [Sl.v x], fun _ => rfl, by intro x v hv; simp at hv; rcases hv with rfl; rfl, by decide⟩
def evF : Fmt (ByteArray × Int × Sl) 36 3 := ⟨fun x => [.string x.1, .int .i64 x.2.1, Sl.v x.2.2], fun _ => rfl, by
 intro x v hv
 simp only [List.mem_cons, List.not_mem_nil, or_false] at hv
 rcases hv with rfl | rfl | rfl <;> rfl, by decide⟩
def tF : Fmt (ByteArray × Sl) 86 2 := ⟨fun x => [.string x.1, Sl.v x.2], fun _ => rfl, by
 intro x v hv
 simp only [List.mem_cons, List.not_mem_nil, or_false] at hv
 rcases hv with rfl | rfl <;> rfl, by decide⟩
def aF : Fmt (ByteArray × Int) 83 2 := ⟨fun x => [.string x.1, .int .i64 x.2], fun _ => rfl, by
 intro x v hv
 simp only [List.mem_cons, List.not_mem_nil, or_false] at hv
 rcases hv with rfl | rfl <;> rfl, by decide⟩
abbrev lim : Nat := 4194304
structure EvM where
 ty : ByteArray
 time : Int
 vals : List VT
abbrev TyM := ByteArray × List (ByteArray × Int)
structure EnvM where
 vars : List ByteArray
 bound : List (List EvM)
 it : ByteArray
 now : EvM
 types : List TyM
structure EvsH (H : Hp) (s : Sl) (evs : List EvM) : Prop where
 small : evs.length ≤ lim
 rows : ∃ R : List (ByteArray × Int × Sl), RdL evF H s R ∧ R.length = evs.length ∧ ∀ (i : Nat) (r : ByteArray × Int × Sl) (e : EvM), R[i]? = some r → evs[i]? = some e → r.1 = e.ty ∧ r.2.1 = e.time ∧ RdL vF H r.2.2 e.vals
structure TysH (H : Hp) (s : Sl) (T : List TyM) : Prop where
 small : T.length ≤ lim
 rows : ∃ R : List (ByteArray × Sl), RdL tF H s R ∧ R.length = T.length ∧ ∀ (i : Nat) (r : ByteArray × Sl) (t : TyM), R[i]? = some r → T[i]? = some t → r.1 = t.1 ∧ RdL aF H r.2 t.2 ∧ t.2.length ≤ lim
structure EnvH (H : Hp) (p0 p1 : Sl) (p2 p3 : ByteArray) (p4 : Int) (p5 p6 : Sl) (m : EnvM) : Prop where
 vars : RdL sF H p0 m.vars
 vs : m.vars.length ≤ lim
 bound : ∃ L : List Sl, RdL slF H p1 L ∧ L.length = m.bound.length ∧ ∀ (i : Nat) (s : Sl) (evs : List EvM), L[i]? = some s → m.bound[i]? = some evs → EvsH H s evs
 it : p2 = m.it
 nty : p3 = m.now.ty
 ntime : p4 = m.now.time
 nvals : RdL vF H p5 m.now.vals
 types : TysH H p6 m.types
theorem EvsH.no {H H' : Hp} {s : Sl} {evs : List EvM} (h : EvsH H s evs) (k : Kp No H H') : EvsH H' s evs := by
 obtain ⟨R, h1, h2, h3⟩ := h.rows
 exact ⟨h.small, R, h1.kp0 k, h2, fun i r e hr he => ⟨(h3 i r e hr he).1, (h3 i r e hr he).2.1, (h3 i r e hr he).2.2.kp0 k⟩⟩
theorem TysH.no {H H' : Hp} {s : Sl} {T : List TyM} (h : TysH H s T) (k : Kp No H H') : TysH H' s T := by
 obtain ⟨R, h1, h2, h3⟩ := h.rows
 exact ⟨h.small, R, h1.kp0 k, h2, fun i r t hr ht => ⟨(h3 i r t hr ht).1, (h3 i r t hr ht).2.1.kp0 k, (h3 i r t hr ht).2.2⟩⟩
theorem EnvH.no {H H' : Hp} {p0 p1 : Sl} {p2 p3 : ByteArray} {p4 : Int} {p5 p6 : Sl} {m : EnvM} (h : EnvH H p0 p1 p2 p3 p4 p5 p6 m) (k : Kp No H H') : EnvH H' p0 p1 p2 p3 p4 p5 p6 m := by
 obtain ⟨L, h1, h2, h3⟩ := h.bound
 exact ⟨h.vars.kp0 k, h.vs, ⟨L, h1.kp0 k, h2, fun i s e hs he => (h3 i s e hs he).no k⟩, h.it, h.nty, h.ntime, h.nvals.kp0 k, h.types.no k⟩

def attrP (T : List TyM) (e : EvM) (name : ByteArray) : VT × Int :=
 if seq name S_time = true then (numV e.time, 0) else
 match T.findIdx? (fun t => seq t.1 e.ty) with
 | none => (zeroV, 21)
 | some i => match ((T[i]?).getD (E, [])).2.findIdx? (fun a => seq a.1 name) with
  | none => (zeroV, 82)
  | some j => match e.vals[j]? with
   | none => (zeroV, 22)
   | some v => if v.k ≠ ((((T[i]?).getD (E, [])).2[j]?).getD (E, 0)).2 then (zeroV, 10) else if vld v = true then (v, 0) else (zeroV, 12)
def boundP (m : EnvM) (name : ByteArray) : Option (List EvM) := (m.vars.findIdx? fun x => seq name x).bind fun i => m.bound[i]?
def takeP (m : EnvM) (name : ByteArray) : Bool := if (!(seq name E)) = true then seq name m.it else false
def zeroE : EvM := ⟨E, 0, []⟩
def atP (l : List EvM) (i : Nat) : EvM × Int := match l[i]? with | none => (zeroE, 110) | some e => (e, 0)
def eventP (m : EnvM) (v : ByteArray) (p : Int) : EvM × Int :=
 if p = 2 then (if takeP m v = true then (m.now, 0) else (zeroE, 110))
 else if p = 3 then (if takeP m v = true then atP ((boundP m v).getD []) (((boundP m v).getD []).length - 1) else (zeroE, 110))
 else if p = 5 then atP ((boundP m v).getD []) (((boundP m v).getD []).length - 1)
 else if p = 1 then atP ((boundP m v).getD []) 0
 else if p = 4 then atP ((boundP m v).getD []) 0
 else (zeroE, 60)

section
variable {H : Hp}
theorem fnone {α : Type} {f : α → Bool} {L : List α} (h : ∀ (j : Nat) (x : α), j < L.length → L[j]? = some x → f x = false) : L.findIdx? f = none := by
 rw [List.findIdx?_eq_none_iff]
 intro x hx
 obtain ⟨j, hj⟩ := List.getElem?_of_mem hx
 exact h j x (List.getElem?_eq_some_iff.1 hj).1 hj
theorem fsome {α : Type} {f : α → Bool} {L : List α} {i : Nat} {x : α} (hx : L[i]? = some x) (hf : f x = true) (h : ∀ (j : Nat) (x : α), j < i → L[j]? = some x → f x = false) : L.findIdx? f = some i := by
 rw [List.findIdx?_eq_some_iff_getElem]
 obtain ⟨hi, e⟩ := List.getElem?_eq_some_iff.1 hx
 refine ⟨hi, by rw [e]; exact hf, fun j hj => ?_⟩
 rw [h j _ hj (List.getElem?_eq_getElem (by omega))]
 decide

theorem c77 {L : List ByteArray} {sl : Sl} {name : ByteArray} {Q : Int → Hp → Prop} (h : RdL sF H sl L) (hl : L.length ≤ lim) (q0 : (L.findIdx? fun x => seq name x) = none → Q (-1) H) (q1 : ∀ i, (L.findIdx? fun x => seq name x) = some i → i < L.length → Q (i : Int) H) : F77 sl name H Q := by
 have hn := h.n
 have hl : L.length ≤ 4194304 := hl
 intro X hX
 suffices G : ∀ (d i : Nat), i + d = L.length → (∀ (j : Nat) (x : ByteArray), j < i → L[j]? = some x → seq name x = false) → X (i : Int) H from G L.length 0 (by omega) (fun j x h => by omega)
 intro d
 induction d with
 | zero =>
  intro i hi h0
  refine hX _ _ ⟨fun hh => absurd (of_decide_eq_true hh) (by omega), fun _ => q0 (fnone fun j x hj hx => h0 j x (by omega) hx)⟩
 | succ d ih =>
  intro i hi h0
  have gx : L[i]? = some (L[i]'(by omega)) := List.getElem?_eq_getElem (by omega)
  generalize L[i]'(by omega) = x at gx
  obtain ⟨p, hp, hpn, cp⟩ := h.get gx
  have cp0 : cell H (Addr.add p (i * 1)) = some (.string x) := by
   have := cp.1
   rwa [add_add, Nat.add_zero] at this
  refine hX _ _ ⟨fun _ => ⟨p, hp, by omega, by omega, x, by rw [show ((i : Int)).toNat = i from by omega]; exact cp0, fun hh => q1 i (fsome gx hh h0) (by omega), fun hh => ?_⟩, fun hh => absurd (of_decide_eq_false hh) (by omega)⟩
  rw [wr (by omega) (by omega)]
  refine ih (i + 1) (by omega) fun j y hj hy => ?_
  by_cases e : j = i
  ·subst e; rw [gx] at hy; injection hy with hy; rw [← hy]; exact hh
  ·exact h0 j y (by omega) hy

theorem c42 {L : List (ByteArray × Sl)} {sl : Sl} {p : Addr} {ty : ByteArray} {Q : Int → Hp → Prop} (h : RdL tF H sl L) (hl : L.length ≤ lim) (hp : p.block < H.size) (hc : cell H p = some (.string ty))
  (q0 : ∀ H', (L.findIdx? fun x => seq x.1 ty) = none → Kp No H H' → Q (-1) H') (q1 : ∀ i H', (L.findIdx? fun x => seq x.1 ty) = some i → i < L.length → Kp No H H' → Q (i : Int) H') : F42_43 sl p H Q := by
 have hn := h.n
 have hl : L.length ≤ 4194304 := hl
 intro X hX
 suffices G : ∀ (d i : Nat) (H' : Hp), i + d = L.length → (∀ (j : Nat) (x : ByteArray × Sl), j < i → L[j]? = some x → seq x.1 ty = false) → Kp No H H' → X (i : Int) H' from G L.length 0 H (by omega) (fun j x h => by omega) (Kp.refl _ _)
 intro d
 induction d with
 | zero =>
  intro i H' hi h0 k
  refine hX _ _ ⟨fun hh => absurd (of_decide_eq_true hh) (by omega), fun _ => q0 H' (fnone fun j x hj hx => h0 j x (by omega) hx) k⟩
 | succ d ih =>
  intro i H' hi h0 k
  have gx : L[i]? = some (L[i]'(by omega)) := List.getElem?_eq_getElem (by omega)
  generalize L[i]'(by omega) = x at gx
  obtain ⟨q, hq, hqn, cq⟩ := (h.kp0 k).get gx
  refine hX _ _ ⟨fun _ => ⟨q, hq, by omega, by omega, x.1, x.2, by rw [show ((i : Int)).toNat = i from by omega]; exact cq, fun H1 e1 => ?_⟩, fun hh => absurd (of_decide_eq_false hh) (by omega)⟩
  have k1 : Kp No H H1 := k.push' e1
  have r1 := Row.new' e1
  refine ⟨x.1, r1.cell_of rfl, ty, (k1.cell hp id).trans hc, fun hh => q1 i H1 (fsome gx hh h0) (by omega) k1, fun hh => ?_⟩
  rw [wr (by omega) (by omega)]
  refine ih (i + 1) H1 (by omega) (fun j y hj hy => ?_) k1
  by_cases e : j = i
  ·subst e; rw [gx] at hy; injection hy with hy; rw [← hy]; exact hh
  ·exact h0 j y (by omega) hy

theorem c44 {L : List (ByteArray × Int)} {sl : Sl} {p : Addr} {ty : ByteArray} {Q : Int → Hp → Prop} (h : RdL aF H sl L) (hl : L.length ≤ lim) (hp : p.block < H.size) (hc : cell H p = some (.string ty))
  (q0 : ∀ H', (L.findIdx? fun x => seq x.1 ty) = none → Kp No H H' → Q (-1) H') (q1 : ∀ i H', (L.findIdx? fun x => seq x.1 ty) = some i → i < L.length → Kp No H H' → Q (i : Int) H') : F44_45 sl p H Q := by
 have hn := h.n
 have hl : L.length ≤ 4194304 := hl
 intro X hX
 suffices G : ∀ (d i : Nat) (H' : Hp), i + d = L.length → (∀ (j : Nat) (x : ByteArray × Int), j < i → L[j]? = some x → seq x.1 ty = false) → Kp No H H' → X (i : Int) H' from G L.length 0 H (by omega) (fun j x h => by omega) (Kp.refl _ _)
 intro d
 induction d with
 | zero =>
  intro i H' hi h0 k
  refine hX _ _ ⟨fun hh => absurd (of_decide_eq_true hh) (by omega), fun _ => q0 H' (fnone fun j x hj hx => h0 j x (by omega) hx) k⟩
 | succ d ih =>
  intro i H' hi h0 k
  have gx : L[i]? = some (L[i]'(by omega)) := List.getElem?_eq_getElem (by omega)
  generalize L[i]'(by omega) = x at gx
  obtain ⟨q, hq, hqn, cq⟩ := (h.kp0 k).get gx
  refine hX _ _ ⟨fun _ => ⟨q, hq, by omega, by omega, x.1, x.2, by rw [show ((i : Int)).toNat = i from by omega]; exact cq, fun H1 e1 => ?_⟩, fun hh => absurd (of_decide_eq_false hh) (by omega)⟩
  have k1 : Kp No H H1 := k.push' e1
  have r1 := Row.new' e1
  refine ⟨x.1, r1.cell_of rfl, ty, (k1.cell hp id).trans hc, fun hh => q1 i H1 (fsome gx hh h0) (by omega) k1, fun hh => ?_⟩
  rw [wr (by omega) (by omega)]
  refine ih (i + 1) H1 (by omega) (fun j y hj hy => ?_) k1
  by_cases e : j = i
  ·subst e; rw [gx] at hy; injection hy with hy; rw [← hy]; exact hh
  ·exact h0 j y (by omega) hy

theorem findIdx_map {α β : Type} (R : List α) (T : List β) (f : α → Bool) (g : β → Bool) (hl : R.length = T.length) (h : ∀ (i : Nat) (r : α) (t : β), R[i]? = some r → T[i]? = some t → f r = g t) : R.findIdx? f = T.findIdx? g := by
 induction R generalizing T with
 | nil =>
  cases T with
  | nil => rfl
  | cons => simp at hl
 | cons a R ih =>
  cases T with
  | nil => simp at hl
  | cons b T =>
   rw [List.findIdx?_cons, List.findIdx?_cons, h 0 a b rfl rfl, ih T (by simpa using hl) fun i r t hr ht => h (i + 1) r t (by simpa using hr) (by simpa using ht)]

theorem c28 {ev : EvM} {vals : Sl} {name : ByteArray} {ts : Sl} {T : List TyM} {Q : Int → Int → ByteArray → Bool → Int → Hp → Prop} (hv : RdL vF H vals ev.vals) (ht : TysH H ts T)
  (hQ : ∀ H', Kp No H H' → Q (attrP T ev name).1.k (attrP T ev name).1.n (attrP T ev name).1.s (attrP T ev name).1.b (attrP T ev name).2 H') : F28 ev.ty ev.time vals name ts H Q := by
 intro H1 e1 H3 e3 H5 e5
 have k1 : Kp No H H1 := (Kp.refl _ _).push' e1
 have k3 : Kp No H H3 := k1.push' e3
 have k5 : Kp No H H5 := k3.push' e5
 have r1 : Row H5 H.size 36 [.string ev.ty, .int .i64 ev.time, Sl.v vals] := ((Row.new' e1).push' e3).push' e5
 have r2 : Row H5 H1.size 9 [.string name] := (Row.new' e3).push' e5
 have r3 : Row H5 H3.size 38 zeroV.row := Row.new' e5
 have s1 := size_push' e1
 have s3 := size_push' e3
 have s5 := size_push' e5
 have out : ∀ {Hx : Hp} (v : VT) (n : Int), Kp No H5 Hx → attrP T ev name = (v, n) → mayw Hx ⟨H3.size, 0, none⟩ 4 0 ∧ ∀ H' : Hp, H' = sets Hx ⟨H3.size, 0, none⟩ [(.int .i64 v.k), (.int .i64 v.n), (.string v.s), (.bool v.b)] 0 →
   (∃ (x6 : Int) (x7 : Int) (x8 : ByteArray) (x9 : Bool), cells H' ⟨H3.size, 0, none⟩ [(.int .i64 x6), (.int .i64 x7), (.string x8), (.bool x9)] 0 ∧ (Q x6 x7 x8 x9 n H')) := fun {Hx} v n k e => by
  refine ret4 (K := fun a b c d H' => Q a b c d n H') (k.row r3 id) rfl v fun H' _ k' => ?_
  have q := hQ H' ((k5.no2 k).box k' (by omega))
  rw [e] at q
  exact q
 unfold attrP at out
 refine ⟨name, r2.cell_of rfl, fun hh => ⟨ev.time, rowc r1 rfl, out (numV ev.time) 0 (Kp.refl _ _) (by rw [if_pos hh])⟩, fun hh => ?_⟩
 rw [if_neg (by rw [hh]; decide)] at out
 obtain ⟨R, hR, hRl, hRt⟩ := (ht.no k5).rows
 have tsm : T.length ≤ 4194304 := ht.small
 have eqT : (R.findIdx? fun x => seq x.1 ev.ty) = T.findIdx? (fun t => seq t.1 ev.ty) := findIdx_map R T _ _ hRl fun i r t hr ht => by rw [(hRt i r t hr ht).1]
 refine c42 hR (by rw [hRl]; exact ht.small) (by show H.size < _; omega) (r1.cell_of rfl) (fun H20 hf k20 => ?_) fun i H20 hf hi k20 => ?_
 ·rw [eqT] at hf
  rw [hf] at out
  exact ⟨fun _ => out zeroV 21 k20 rfl, fun h => absurd (of_decide_eq_false h) (by omega)⟩
 rw [eqT] at hf
 rw [hf] at out
 have gr : R[i]? = some (R[i]'hi) := List.getElem?_eq_getElem hi
 generalize R[i]'hi = r at gr
 have gt : T[i]? = some (T[i]'(by omega)) := List.getElem?_eq_getElem (by omega)
 generalize T[i]'(by omega) = t at gt
 obtain ⟨_, hA, hAl⟩ := hRt i r t gr gt
 have hAl' : t.2.length ≤ 4194304 := hAl
 simp only [gt, Option.getD_some] at out
 obtain ⟨p, hp, hpn, cp⟩ := (hR.kp0 k20).get gr
 have it : ((i : Int)).toNat = i := by omega
 have cpa : cell H20 (Addr.add (Addr.add p (i * 2)) 1) = some (Sl.v r.2) := cp.2.1
 have hRn := hR.n
 refine ⟨fun h => absurd (of_decide_eq_true h) (by omega), fun _ => ⟨p, hp, by omega, by omega, r.2, by rw [it]; exact cpa, ?_⟩⟩
 have r2' := k20.row r2 id
 refine c44 (hA.kp0 k20) hAl (by show H1.size < _; have := k20.size; omega) (r2'.cell_of rfl) (fun H38 hf' k38 => ?_) fun j H38 hf' hj k38 => ?_
 ·rw [hf'] at out
  exact ⟨fun _ => out zeroV 82 (k20.no2 k38) rfl, fun h => absurd (of_decide_eq_false h) (by omega)⟩
 rw [hf'] at out
 simp only [] at out
 have kk := k20.no2 k38
 have r1' := kk.row r1 id
 have hv38 := hv.kp0 (k5.no2 kk)
 have hvn := hv.n
 refine ⟨fun h => absurd (of_decide_eq_true h) (by omega), fun _ => ⟨vals, rowc r1' rfl, fun h => ?_, fun h => ?_⟩⟩
 ·have h := of_decide_eq_true h
  rw [List.getElem?_eq_none (by omega)] at out
  exact out zeroV 22 kk rfl
 have h := of_decide_eq_false h
 have gv : ev.vals[j]? = some (ev.vals[j]'(by omega)) := List.getElem?_eq_getElem (by omega)
 generalize ev.vals[j]'(by omega) = v at gv
 have ga : t.2[j]? = some (t.2[j]'hj) := List.getElem?_eq_getElem hj
 generalize t.2[j]'hj = a at ga
 simp only [gv, ga, Option.getD_some] at out
 have jt : ((j : Int)).toNat = j := by omega
 obtain ⟨pv, hpv, hpvn, cpv⟩ := hv38.get gv
 obtain ⟨pa, hpa, hpan, cpa2⟩ := (hA.kp0 kk).get ga
 obtain ⟨p2, hp2, hpn2, cp2⟩ := (hR.kp0 kk).get gr
 have hAn := hA.n
 have cv0 : cell H38 (Addr.add pv (j * 4)) = some (.int .i64 v.k) := by
  have := cpv.1
  rwa [add_add, Nat.add_zero] at this
 refine ⟨vals, rowc r1' rfl, pv, hpv, by omega, by omega, v.k, by rw [jt]; exact cv0, p2, hp2, by omega, by omega, r.2, by rw [it]; exact cp2.2.1, pa, hpa, by omega, by omega, a.2, by rw [jt]; exact cpa2.2.1, fun h10 => ?_, fun h10 => ?_⟩
 ·rw [if_pos (of_decide_eq_true h10)] at out
  exact out zeroV 10 kk rfl
 rw [if_neg (of_decide_eq_false h10)] at out
 refine ⟨vals, rowc r1' rfl, pv, hpv, by omega, by omega, v.k, v.n, v.s, v.b, by rw [jt]; exact cpv, c46 fun H101 k101 => ⟨fun h12 => ?_, fun h12 => ?_⟩⟩
 ·rw [if_neg (by intro e; rw [e] at h12; cases h12)] at out
  exact out zeroV 12 (kk.no2 k101) rfl
 ·rw [if_pos (by cases e : vld v; rw [e] at h12; cases h12; rfl)] at out
  obtain ⟨pv2, hpv2, hpvn2, cpv2⟩ := (hv38.kp0 k101).get gv
  exact ⟨vals, rowc (k101.row r1' id) rfl, pv2, hpv2, by omega, by omega, v.k, v.n, v.s, v.b, by rw [jt]; exact cpv2, out v 0 (kk.no2 k101) rfl⟩
end

def joinP (o a b : Int) : Int := if o = 2 then IntKind.i64.wrap (a + b) else if o = 3 then (if b < a then b else a) else (if a < b then b else a)
def aggGo (T : List TyM) (a : ByteArray) (o : Int) : Nat → Int → List EvM → Int × Int
 | _, n, [] => (0, n)
 | i, n, x :: l => if (attrP T x a).2 ≠ 0 then ((attrP T x a).2, n) else if (attrP T x a).1.k ≠ 1 then (10, n) else aggGo T a o (i + 1) (if i = 0 then (attrP T x a).1.n else joinP o n (attrP T x a).1.n) l
def aggP (m : EnvM) (r : ER) : VT × Int :=
 if r.o < 1 then (zeroV, 60) else if 4 < r.o then (zeroV, 60) else if r.p ≠ 6 ∧ r.p ≠ 7 then (zeroV, 60) else
 match boundP m r.v with
 | none => (zeroV, 110)
 | some l =>
  if r.p = 7 ∧ takeP m r.v = false then (zeroV, 110)
  else if r.o = 1 then (numV l.length, 0)
  else if (aggGo m.types r.a r.o 0 0 l).1 ≠ 0 then (zeroV, (aggGo m.types r.a r.o 0 0 l).1)
  else if l.length = 0 ∧ r.o ≠ 2 then (zeroV, 110)
  else (numV (aggGo m.types r.a r.o 0 0 l).2, 0)

section
variable {H H0 : Hp} {p0 p1 : Sl} {p2 p3 : ByteArray} {p4 : Int} {p5 p6 : Sl} {m : EnvM}

theorem c69 {name : ByteArray} {Q : Sl → Bool → Hp → Prop} (h : EnvH H0 p0 p1 p2 p3 p4 p5 p6 m) (k0 : Kp No H0 H) (q0 : ∀ H', boundP m name = none → Kp No H H' → Q Sl.nil false H')
  (q1 : ∀ s l H', boundP m name = some l → EvsH H0 s l → Kp No H H' → Q s true H') : F69 p0 p1 p2 p3 p4 p5 p6 name H Q := by
 intro H1 e1
 have k1 : Kp No H H1 := (Kp.refl _ _).push' e1
 have r1 := Row.new' e1
 have h1 := h.no (k0.no2 k1)
 obtain ⟨L, hL0, hLl, hLb⟩ := h.bound
 have hL := hL0.kp0 (k0.no2 k1)
 have hn := hL.n
 have vs : m.vars.length ≤ 4194304 := h.vs
 refine ⟨p0, r1.cell_of rfl, c77 h1.vars h1.vs (fun hf => ?_) fun i hf hi => ?_⟩
 ·have e : boundP m name = none := by unfold boundP; rw [hf]; rfl
  exact ⟨fun _ => ⟨fun _ => q0 H1 e k1, fun h => (by cases h)⟩, fun h => absurd (of_decide_eq_false h) (by omega)⟩
 ·have e : boundP m name = m.bound[i]? := by unfold boundP; rw [hf]; rfl
  refine ⟨fun h => absurd (of_decide_eq_true h) (by omega), fun _ => ⟨p1, rowc r1 rfl, fun hh => ?_, fun hh => ?_⟩⟩
  ·have hh := of_decide_eq_true hh
   exact q0 H1 (by rw [e, List.getElem?_eq_none (by omega)]) k1
  ·have hh := of_decide_eq_false hh
   have gs : L[i]? = some (L[i]'(by omega)) := List.getElem?_eq_getElem (by omega)
   generalize L[i]'(by omega) = s at gs
   have gl : m.bound[i]? = some (m.bound[i]'(by omega)) := List.getElem?_eq_getElem (by omega)
   generalize m.bound[i]'(by omega) = l at gl
   obtain ⟨p, hp, hpn, cp⟩ := hL.get gs
   have cp0 : cell H1 (Addr.add p (((i : Int)).toNat * 1)) = some (Sl.v s) := by
    have := cp.1
    rw [add_add, Nat.add_zero] at this
    rwa [show ((i : Int)).toNat = i from by omega]
   exact ⟨p1, rowc r1 rfl, p, hp, by omega, by omega, s, cp0, q1 s l H1 (e.trans gl) (hLb i s l gs gl) k1⟩

theorem c70 {name : ByteArray} {Q : Bool → Hp → Prop} (h : EnvH H p0 p1 p2 p3 p4 p5 p6 m) (hQ : ∀ H', Kp No H H' → Q (takeP m name) H') : F70 p0 p1 p2 p3 p4 p5 p6 name H Q := by
 intro H1 e1
 have k1 : Kp No H H1 := (Kp.refl _ _).push' e1
 have r1 := Row.new' e1
 have q := hQ H1 k1
 unfold takeP at q
 refine ⟨fun hh => ⟨p2, rowc r1 rfl, ?_⟩, fun hh => ?_⟩
 ·rw [if_pos hh, ← h.it] at q; exact q
 ·rw [if_neg (by rw [hh]; decide)] at q; exact q

theorem ret3 {b : Nat} {l : List Value} {K : ByteArray → Int → Sl → Hp → Prop} (r : Row H b 36 l) (hl : l.length = 3) (x : ByteArray) (y : Int) (z : Sl) (hK : ∀ H', Kp (fun x => x = b) H H' → K x y z H') :
  mayw H ⟨b, 0, none⟩ 3 0 ∧ ∀ H' : Hp, H' = sets H ⟨b, 0, none⟩ [(.string x), (.int .i64 y), (Sl.v z)] 0 →
   (∃ (x6 : ByteArray) (x7 : Int) (x8 : Sl), cells H' ⟨b, 0, none⟩ [(.string x6), (.int .i64 x7), (Sl.v x8)] 0 ∧ (K x6 x7 x8 H')) := by
 refine ⟨r.mayw (by omega), fun H' e => ?_⟩
 have r' : Row H' b 36 [.string x, .int .i64 y, Sl.v z] := r.fill' e (by simp [hl])
 exact ⟨_, _, _, r'.all, hK H' ((Kp.refl _ _).sets' e (.inl rfl))⟩

theorem c56 {r : ER} {q : Sl} {Q : ByteArray → Int → Sl → Int → Hp → Prop} (h : EnvH H p0 p1 p2 p3 p4 p5 p6 m)
  (hQ : ∀ s H', Kp No H H' → RdL vF H' s (eventP m r.v r.p).1.vals → Q (eventP m r.v r.p).1.ty (eventP m r.v r.p).1.time s (eventP m r.v r.p).2 H') :
  F56 p0 p1 p2 p3 p4 p5 p6 r.k r.o r.vk r.vi r.vs r.vb r.v r.p r.a q H Q := by
 intro H1 e1 H3 e3 H5 e5
 have k1 : Kp No H H1 := (Kp.refl _ _).push' e1
 have k3 : Kp No H H3 := k1.push' e3
 have k5 : Kp No H H5 := k3.push' e5
 have r1 : Row H5 H.size 90 [Sl.v p0, Sl.v p1, .string p2, .string p3, .int .i64 p4, Sl.v p5, Sl.v p6] := ((Row.new' e1).push' e3).push' e5
 have r2 : Row H5 H1.size 41 (r.row q) := (Row.new' e3).push' e5
 have r3 : Row H5 H3.size 36 [.string E, .int .i64 0, Sl.v Sl.nil] := Row.new' e5
 have s1 := size_push' e1
 have s3 := size_push' e3
 have out : ∀ {Hx : Hp} (e : EvM) (n : Int) (s : Sl), Kp No H5 Hx → eventP m r.v r.p = (e, n) → RdL vF H s e.vals → mayw Hx ⟨H3.size, 0, none⟩ 3 0 ∧ ∀ H' : Hp, H' = sets Hx ⟨H3.size, 0, none⟩ [(.string e.ty), (.int .i64 e.time), (Sl.v s)] 0 →
   (∃ (x6 : ByteArray) (x7 : Int) (x8 : Sl), cells H' ⟨H3.size, 0, none⟩ [(.string x6), (.int .i64 x7), (Sl.v x8)] 0 ∧ (Q x6 x7 x8 n H')) := fun {Hx} e n s k he hs => by
  have rr := k.row r3 id
  refine ret3 (K := fun a b c H' => Q a b c n H') rr rfl e.ty e.time s fun H' k' => ?_
  have kk := (k5.no2 k).box k' (by omega)
  have q := hQ s H' kk (by rw [he]; exact hs.kp0 kk)
  rw [he] at q
  exact q
 have last : ∀ (i : Nat) (s : Sl) (l : List EvM) (Hx : Hp), eventP m r.v r.p = atP l i → EvsH H s l → Kp No H5 Hx → (l.length ≠ 0 → i < l.length) → (l.length = 0 → l[i]? = none) → F56_1 Q ⟨H3.size, 0, none⟩ s (i : Int) Hx := fun i s l Hx g hs k hi h0 => by
  obtain ⟨R, hR, hRl, hRe⟩ := hs.rows
  have hn := hR.n
  refine ⟨fun hh => ?_, fun hh => ?_⟩
  ·have hh := of_decide_eq_true hh
   refine out zeroE 110 Sl.nil k ?_ (RdL.nil vF H)
   rw [g, atP, h0 (by omega)]
  ·have hh := of_decide_eq_false hh
   have hi := hi (by omega)
   have gr : R[i]? = some (R[i]'(by omega)) := List.getElem?_eq_getElem (by omega)
   generalize R[i]'(by omega) = rr at gr
   have ge : l[i]? = some (l[i]'hi) := List.getElem?_eq_getElem hi
   generalize l[i]'hi = e at ge
   obtain ⟨e1, e2, e3⟩ := hRe i rr e gr ge
   obtain ⟨p, hp, hpn, cp⟩ := (hR.kp0 (k5.no2 k)).get gr
   refine ⟨p, hp, by omega, by omega, rr.1, rr.2.1, rr.2.2, by rw [show ((i : Int)).toNat = i from by omega]; exact cp, ?_⟩
   rw [e1, e2]
   exact out e 0 rr.2.2 k (by rw [g, atP, ge]) e3
 have lastn : ∀ (s : Sl) (l : List EvM) (Hx : Hp), eventP m r.v r.p = atP l (l.length - 1) → EvsH H s l → Kp No H5 Hx → F56_2 Q ⟨H3.size, 0, none⟩ s Hx := fun s l Hx g hs k => by
  obtain ⟨R, hR, hRl, hRe⟩ := hs.rows
  have hn := hR.n
  have sm : l.length ≤ 4194304 := hs.small
  unfold F56_2
  rw [wr (by omega) (by omega)]
  by_cases hl : l.length = 0
  ·refine ⟨fun hh => ?_, fun hh => absurd (of_decide_eq_false hh) (by omega)⟩
   refine out zeroE 110 Sl.nil k ?_ (RdL.nil vF H)
   rw [g, atP, List.getElem?_eq_none (by omega)]
  ·rw [show ((s.n : Int) - 1) = ((l.length - 1 : Nat) : Int) from by omega]
   exact last (l.length - 1) s l Hx g hs k (fun _ => by omega) (fun h => absurd h hl)
 have main : ∀ (s : Sl) (l : List EvM) (H17 : Hp), (boundP m r.v).getD [] = l → EvsH H s l → Kp No H5 H17 → ∀ (b : Bool), (∃ x22 : Int, cell H17 (Addr.add ⟨H1.size, 0, none⟩ 7) = some (.int .i64 x22) ∧ (
 ((decide (x22 = 2)) = true → (∃ (x29 : Sl) (x30 : Sl) (x31 : ByteArray) (x32 : ByteArray) (x33 : Int) (x34 : Sl) (x35 : Sl), cells H17 ⟨H.size, 0, none⟩ [(Sl.v x29), (Sl.v x30), (.string x31), (.string x32), (.int .i64 x33), (Sl.v x34), (Sl.v x35)] 0 ∧ (
 ∃ x37 : ByteArray, cell H17 (Addr.add ⟨H1.size, 0, none⟩ 6) = some (.string x37) ∧ (
 F70 x29 x30 x31 x32 x33 x34 x35 x37 H17 (fun (r40 : Bool) (H38 : Hp) => 
 ((!r40) = true → (mayw H38 ⟨H3.size, 0, none⟩ 3 0 ∧ ∀ H42 : Hp, H42 = sets H38 ⟨H3.size, 0, none⟩ [(.string (ByteArray.mk #[])), (.int .i64 0), (Sl.v Sl.nil)] 0 → (
 ∃ (x45 : ByteArray) (x46 : Int) (x47 : Sl), cells H42 ⟨H3.size, 0, none⟩ [(.string x45), (.int .i64 x46), (Sl.v x47)] 0 ∧ (
 Q x45 x46 x47 110 H42)))) ∧
 ((!r40) = false → (∃ (x50 : ByteArray) (x51 : Int) (x52 : Sl), cells H38 (Addr.add ⟨H.size, 0, none⟩ 3) [(.string x50), (.int .i64 x51), (Sl.v x52)] 0 ∧ (
 mayw H38 ⟨H3.size, 0, none⟩ 3 0 ∧ ∀ H53 : Hp, H53 = sets H38 ⟨H3.size, 0, none⟩ [(.string x50), (.int .i64 x51), (Sl.v x52)] 0 → (
 ∃ (x56 : ByteArray) (x57 : Int) (x58 : Sl), cells H53 ⟨H3.size, 0, none⟩ [(.string x56), (.int .i64 x57), (Sl.v x58)] 0 ∧ (
 Q x56 x57 x58 0 H53)))))))))) ∧
 ((decide (x22 = 2)) = false → (((decide (x22 = 3)) = true → (∃ (x62 : Sl) (x63 : Sl) (x64 : ByteArray) (x65 : ByteArray) (x66 : Int) (x67 : Sl) (x68 : Sl), cells H17 ⟨H.size, 0, none⟩ [(Sl.v x62), (Sl.v x63), (.string x64), (.string x65), (.int .i64 x66), (Sl.v x67), (Sl.v x68)] 0 ∧ (
 ∃ x70 : ByteArray, cell H17 (Addr.add ⟨H1.size, 0, none⟩ 6) = some (.string x70) ∧ (
 F70 x62 x63 x64 x65 x66 x67 x68 x70 H17 (fun (r73 : Bool) (H71 : Hp) => 
 ((!r73) = true → (mayw H71 ⟨H3.size, 0, none⟩ 3 0 ∧ ∀ H75 : Hp, H75 = sets H71 ⟨H3.size, 0, none⟩ [(.string (ByteArray.mk #[])), (.int .i64 0), (Sl.v Sl.nil)] 0 → (
 ∃ (x78 : ByteArray) (x79 : Int) (x80 : Sl), cells H75 ⟨H3.size, 0, none⟩ [(.string x78), (.int .i64 x79), (Sl.v x80)] 0 ∧ (
 Q x78 x79 x80 110 H75)))) ∧
 ((!r73) = false → (F56_2 Q ⟨H3.size, 0, none⟩ s H71))))))) ∧
 ((decide (x22 = 3)) = false → (((decide (x22 = 5)) = true → (F56_2 Q ⟨H3.size, 0, none⟩ s H17)) ∧
 ((decide (x22 = 5)) = false → (((decide (x22 = 1)) = true → (F56_1 Q ⟨H3.size, 0, none⟩ s 0 H17)) ∧
 ((decide (x22 = 1)) = false → (((decide (x22 = 4)) = true → (F56_1 Q ⟨H3.size, 0, none⟩ s 0 H17)) ∧
 ((decide (x22 = 4)) = false → (mayw H17 ⟨H3.size, 0, none⟩ 3 0 ∧ ∀ H86 : Hp, H86 = sets H17 ⟨H3.size, 0, none⟩ [(.string (ByteArray.mk #[])), (.int .i64 0), (Sl.v Sl.nil)] 0 → (
 ∃ (x89 : ByteArray) (x90 : Int) (x91 : Sl), cells H86 ⟨H3.size, 0, none⟩ [(.string x89), (.int .i64 x90), (Sl.v x91)] 0 ∧ (
 Q x89 x90 x91 60 H86)))))))))))))) := fun s l H17 hb hs k17 _ => by
  have r1 := k17.row r1 id
  have r2 := k17.row r2 id
  have h17 := h.no (k5.no2 k17)
  have now : ∀ {Hx : Hp}, Row Hx H.size 90 [Sl.v p0, Sl.v p1, .string p2, .string p3, .int .i64 p4, Sl.v p5, Sl.v p6] → cells Hx (Addr.add ⟨H.size, 0, none⟩ 3) [.string m.now.ty, .int .i64 m.now.time, Sl.v p5] 0 := fun rr => by
   rw [add_mk]
   rw [← h.nty, ← h.ntime]
   exact rr.cells rfl
  refine ⟨r.p, rowc r2 rfl, fun g2 => ⟨p0, p1, p2, p3, p4, p5, p6, r1.all, r.v, rowc r2 rfl, c70 h17 fun H38 k38 => ⟨fun g => ?_, fun g => ?_⟩⟩, fun g2 => ⟨fun g3 => ⟨p0, p1, p2, p3, p4, p5, p6, r1.all, r.v, rowc r2 rfl, c70 h17 fun H38 k38 => ⟨fun g => ?_, fun g => ?_⟩⟩, fun g3 => ⟨fun g5 => ?_, fun g5 => ⟨fun g1 => ?_, fun g1 => ⟨fun g4 => ?_, fun g4 => ?_⟩⟩⟩⟩⟩
  ·have t : takeP m r.v = false := by simpa using g
   exact out zeroE 110 Sl.nil (k17.no2 k38) (by unfold eventP; rw [if_pos (of_decide_eq_true g2), if_neg (by rw [t]; decide)]) (RdL.nil vF H)
  ·have t : takeP m r.v = true := by simpa using g
   exact ⟨_, _, _, now (k38.row r1 id), out m.now 0 p5 (k17.no2 k38) (by unfold eventP; rw [if_pos (of_decide_eq_true g2), if_pos t]) h.nvals⟩
  ·have t : takeP m r.v = false := by simpa using g
   exact out zeroE 110 Sl.nil (k17.no2 k38) (by unfold eventP; rw [if_neg (of_decide_eq_false g2), if_pos (of_decide_eq_true g3), if_neg (by rw [t]; decide)]) (RdL.nil vF H)
  ·have t : takeP m r.v = true := by simpa using g
   exact lastn s l H38 (by unfold eventP; rw [if_neg (of_decide_eq_false g2), if_pos (of_decide_eq_true g3), if_pos t, hb]) hs (k17.no2 k38)
  ·exact lastn s l H17 (by unfold eventP; rw [if_neg (of_decide_eq_false g2), if_neg (of_decide_eq_false g3), if_pos (of_decide_eq_true g5), hb]) hs k17
  ·exact last 0 s l H17 (by unfold eventP; rw [if_neg (of_decide_eq_false g2), if_neg (of_decide_eq_false g3), if_neg (of_decide_eq_false g5), if_pos (of_decide_eq_true g1), hb]) hs k17 (fun _ => by omega) (fun h => List.getElem?_eq_none (by omega))
  ·exact last 0 s l H17 (by unfold eventP; rw [if_neg (of_decide_eq_false g2), if_neg (of_decide_eq_false g3), if_neg (of_decide_eq_false g5), if_neg (of_decide_eq_false g1), if_pos (of_decide_eq_true g4), hb]) hs k17 (fun _ => by omega) (fun h => List.getElem?_eq_none (by omega))
  ·exact out zeroE 60 Sl.nil k17 (by unfold eventP; rw [if_neg (of_decide_eq_false g2), if_neg (of_decide_eq_false g3), if_neg (of_decide_eq_false g5), if_neg (of_decide_eq_false g1), if_neg (of_decide_eq_false g4)]) (RdL.nil vF H)
 refine ⟨p0, p1, p2, p3, p4, p5, p6, r1.all, r.v, rowc r2 rfl, c69 h k5 (fun H17 hb k17 => ?_) fun s l H17 hb hs k17 => ?_⟩
 ·exact main Sl.nil [] H17 (by rw [hb]; rfl) ⟨by simp, [], RdL.nil evF H, rfl, fun i r e hr => by simp at hr⟩ k17 true
 ·exact main s l H17 (by rw [hb]; rfl) hs k17 true
end

section
variable {H H0 : Hp} {p0 p1 : Sl} {p2 p3 : ByteArray} {p4 : Int} {p5 p6 : Sl} {m : EnvM}

theorem joinV {o a b : Int} (h2 : 2 ≤ o) (h4 : o ≤ 4) {Q : Int → Hp → Prop} (y : Value) (hy : ([.nilFunc, .nilFunc, (.func (.func 78) #[] #[]), (.func (.func 79) #[] #[]), (.func (.func 80) #[] #[])] : List Value)[o.toNat]? = some y) (hQ : Q (joinP o a b) H) : FV57_78_79_80 y a b H Q := by
 have : o = 2 ∨ o = 3 ∨ o = 4 := by omega
 rcases this with rfl | rfl | rfl
 ·exact .inl ⟨(by simpa using hy.symm), hQ⟩
 ·exact .inr (.inl ⟨(by simpa using hy.symm), hQ⟩)
 ·exact .inr (.inr ⟨(by simpa using hy.symm), hQ⟩)

theorem c57 {r : ER} {q : Sl} {Q : Int → Int → ByteArray → Bool → Int → Hp → Prop} (h : EnvH H p0 p1 p2 p3 p4 p5 p6 m)
  (hQ : ∀ H', Kp No H H' → Q (aggP m r).1.k (aggP m r).1.n (aggP m r).1.s (aggP m r).1.b (aggP m r).2 H') : F57 p0 p1 p2 p3 p4 p5 p6 r.k r.o r.vk r.vi r.vs r.vb r.v r.p r.a q H Q := by
 intro H1 e1 H3 e3 H5 e5
 have k1 : Kp No H H1 := (Kp.refl _ _).push' e1
 have k3 : Kp No H H3 := k1.push' e3
 have k5 : Kp No H H5 := k3.push' e5
 have r1 : Row H5 H.size 90 [Sl.v p0, Sl.v p1, .string p2, .string p3, .int .i64 p4, Sl.v p5, Sl.v p6] := ((Row.new' e1).push' e3).push' e5
 have r2 : Row H5 H1.size 41 (r.row q) := (Row.new' e3).push' e5
 have r3 : Row H5 H3.size 38 zeroV.row := Row.new' e5
 have s1 := size_push' e1
 have s3 := size_push' e3
 have out : ∀ {Hx : Hp} (v : VT) (n : Int), Kp No H5 Hx → aggP m r = (v, n) → mayw Hx ⟨H3.size, 0, none⟩ 4 0 ∧ ∀ H' : Hp, H' = sets Hx ⟨H3.size, 0, none⟩ [(.int .i64 v.k), (.int .i64 v.n), (.string v.s), (.bool v.b)] 0 →
   (∃ (x6 : Int) (x7 : Int) (x8 : ByteArray) (x9 : Bool), cells H' ⟨H3.size, 0, none⟩ [(.int .i64 x6), (.int .i64 x7), (.string x8), (.bool x9)] 0 ∧ (Q x6 x7 x8 x9 n H')) := fun {Hx} v n k e => by
  refine ret4 (K := fun a b c d H' => Q a b c d n H') (k.row r3 id) rfl v fun H' _ k' => ?_
  have q := hQ H' ((k5.no2 k).box k' (by omega))
  rw [e] at q
  exact q
 unfold aggP at out
 have go1 : ¬ r.o < 1 → ¬ 4 < r.o → ¬ (r.p ≠ 6 ∧ r.p ≠ 7) → F57_1 Q ⟨H.size, 0, none⟩ ⟨H1.size, 0, none⟩ ⟨H3.size, 0, none⟩ false H5 := by
  intro o1 o2 o3
  rw [if_neg o1, if_neg o2, if_neg o3] at out
  refine ⟨fun h => (by cases h), fun _ => ⟨p0, p1, p2, p3, p4, p5, p6, r1.all, r.v, rowc r2 rfl, c69 h k5 (fun H17 hb k17 => ?_) fun s l H17 hb hs k17 => ?_⟩⟩
  ·rw [hb] at out
   exact ⟨fun _ => ⟨fun _ => out zeroV 110 k17 rfl, fun h => (by cases h)⟩, fun h => (by cases h)⟩
  rw [hb] at out
  simp only [] at out
  obtain ⟨R, hR, hRl, hRe⟩ := hs.rows
  have hRn := hR.n
  have sm : l.length ≤ 4194304 := hs.small
  have go2 : ∀ Hx, Kp No H5 Hx → ¬ (r.p = 7 ∧ takeP m r.v = false) → F57_2 Q ⟨H.size, 0, none⟩ ⟨H1.size, 0, none⟩ ⟨H3.size, 0, none⟩ s false Hx := by
   intro Hx kx o4
   rw [if_neg o4] at out
   have r2x := kx.row r2 id
   refine ⟨fun h => (by cases h), fun _ => ⟨r.o, rowc r2x rfl, fun g1 => ?_, fun g1 => ?_⟩⟩
   ·have g1 := of_decide_eq_true g1
    rw [if_neg g1] at out
    refine ⟨r.o, rowc r2x rfl, fun H71 e71 => ?_⟩
    have k71 : Kp No Hx H71 := (Kp.refl _ _).push' e71
    have r71 := Row.new' e71
    refine ⟨r71.mayw (by simp), fun H72 e72 => ?_⟩
    have r72 : Row H72 Hx.size 120 [.nilFunc, .nilFunc, (.func (.func 78) #[] #[]), (.func (.func 79) #[] #[]), (.func (.func 80) #[] #[])] := r71.fill' e72 rfl
    have k72 : Kp No Hx H72 := k71.sets' e72 (.inr (Nat.le_refl _))
    refine ⟨_, _, _, _, _, r72.all, rowc (k72.row r2x id) rfl, by omega, by omega, ?_⟩
    have hlt : r.o.toNat < ([.nilFunc, .nilFunc, (.func (.func 78) #[] #[]), (.func (.func 79) #[] #[]), (.func (.func 80) #[] #[])] : List Value).length := by simp; omega
    refine ⟨_, List.getElem?_eq_getElem hlt, ?_⟩
    have gy := List.getElem?_eq_getElem hlt
    generalize ([.nilFunc, .nilFunc, (.func (.func 78) #[] #[]), (.func (.func 79) #[] #[]), (.func (.func 80) #[] #[])] : List Value)[r.o.toNat]'hlt = y at gy
    intro X hX
    suffices G : ∀ (d i : Nat) (n : Int) (H' : Hp), i + d = l.length → aggGo m.types r.a r.o 0 0 l = aggGo m.types r.a r.o i n (l.drop i) → Kp No H5 H' → X n (i : Int) H' from G l.length 0 0 H72 (by omega) rfl (kx.no2 k72)
    intro d
    induction d with
    | zero =>
     intro i n H' hi hg k
     rw [List.drop_of_length_le (by omega), aggGo] at hg
     rw [hg] at out
     rw [if_neg (by simp)] at out
     refine hX _ _ _ ⟨fun hh => absurd (of_decide_eq_true hh) (by omega), fun _ => ⟨fun g => ?_, fun g => ?_⟩⟩
     ·have g := of_decide_eq_true g
      refine ⟨r.o, rowc (k.row r2 id) rfl, fun g5 => ?_, fun g5 => ?_⟩
      ·rw [if_pos ⟨by omega, of_decide_eq_true g5⟩] at out
       exact out zeroV 110 k rfl
      ·rw [if_neg (fun h => of_decide_eq_false g5 h.2)] at out
       exact out (numV n) 0 k rfl
     ·have g := of_decide_eq_false g
      rw [if_neg (fun h => g (by omega))] at out
      exact ⟨fun h => (by cases h), fun _ => out (numV n) 0 k rfl⟩
    | succ d ih =>
     intro i n H' hi hg k
     have gr : R[i]? = some (R[i]'(by omega)) := List.getElem?_eq_getElem (by omega)
     generalize R[i]'(by omega) = rr at gr
     have ge : l[i]? = some (l[i]'(by omega)) := List.getElem?_eq_getElem (by omega)
     have dr : l.drop i = l[i]'(by omega) :: l.drop (i + 1) := List.drop_eq_getElem_cons (by omega)
     generalize l[i]'(by omega) = e at ge dr
     obtain ⟨a1, a2, a3⟩ := hRe i rr e gr ge
     obtain ⟨p, hp, hpn, cp⟩ := (hR.kp0 (k5.no2 k)).get gr
     rw [dr, aggGo] at hg
     have it : ((i : Int)).toNat = i := by omega
     refine hX _ _ _ ⟨fun _ => ⟨p, hp, by omega, by omega, rr.1, rr.2.1, rr.2.2, by rw [it]; exact cp, fun H128 e128 => ?_⟩, fun hh => absurd (of_decide_eq_false hh) (by omega)⟩
     have k128 := k.push' e128
     have r128 := Row.new' e128
     refine ⟨r128.mayw (by simp), fun H130 e130 => ?_⟩
     have r130 : Row H130 H'.size 36 [.string rr.1, .int .i64 rr.2.1, Sl.v rr.2.2] := r128.fill' e130 rfl
     have k130 : Kp No H5 H130 := k128.sets' e130 (.inr k.size)
     refine ⟨rr.1, rr.2.1, rr.2.2, r130.all, r.a, rowc (k130.row r2 id) rfl, p6, rowc (k130.row r1 id) rfl, ?_⟩
     rw [a1, a2]
     refine c28 (a3.kp0 (k5.no2 k130)) (h.types.no (k5.no2 k130)) fun H141 k141 H148 e148 => ?_
     generalize attrP m.types e r.a = av at hg
     have kk := k130.no2 k141
     have k148 := kk.push' e148
     have r148 := Row.new' e148
     refine ⟨r148.mayw (by simp), fun H150 e150 => ?_⟩
     have r150 : Row H150 H141.size 38 av.1.row := r148.fill' e150 rfl
     have k150 : Kp No H5 H150 := k148.sets' e150 (.inr kk.size)
     refine ⟨fun g => ?_, fun g => ⟨av.1.k, r150.cell_of rfl, fun g2 => ?_, fun g2 => ?_⟩⟩
     ·have g := of_decide_eq_true g
      rw [if_pos g] at hg
      rw [hg, if_pos (show (av.2, n).1 ≠ 0 from g)] at out
      exact out zeroV av.2 k150 rfl
     ·rw [if_neg (of_decide_eq_false g), if_pos (of_decide_eq_true g2)] at hg
      rw [hg, if_pos (show ((10 : Int), n).1 ≠ 0 from (by decide : (10 : Int) ≠ 0))] at out
      exact out zeroV 10 k150 rfl
     ·rw [if_neg (of_decide_eq_false g), if_neg (of_decide_eq_false g2)] at hg
      refine ⟨fun g3 => ⟨av.1.n, rowc r150 rfl, ?_⟩, fun g3 => ⟨av.1.n, rowc r150 rfl, ?_⟩⟩
      ·unfold F57_6
       rw [wr (by omega) (by omega)]
       have : i = 0 := by have := of_decide_eq_true g3; omega
       rw [if_pos this] at hg
       exact ih (i + 1) _ H150 (by omega) hg k150
      ·refine joinV (o := r.o) (by omega) (by omega) y gy ?_
       unfold F57_6
       rw [wr (by omega) (by omega)]
       have : i ≠ 0 := by have := of_decide_eq_false g3; omega
       rw [if_neg this] at hg
       exact ih (i + 1) _ H150 (by omega) hg k150
   ·have g1 : r.o = 1 := Decidable.of_not_not (of_decide_eq_false g1)
    rw [if_pos g1] at out
    have q := out (numV (l.length : Int)) 0 kx rfl
    unfold F57_3
    rw [show (s.n : Int) = (l.length : Int) from by omega]
    exact q
  have r2' := k17.row r2 id
  have r1' := k17.row r1 id
  refine ⟨fun h => (by cases h), fun _ => ⟨r.p, rowc r2' rfl, fun g => ⟨p0, p1, p2, p3, p4, p5, p6, r1'.all, r.v, rowc r2' rfl, c70 (h.no (k5.no2 k17)) fun H69 k69 => ?_⟩, fun g => ?_⟩⟩
  ·have g := of_decide_eq_true g
   by_cases t : takeP m r.v = true
   ·rw [t]
    exact go2 H69 (k17.no2 k69) (fun hh => by rw [t] at hh; exact absurd hh.2 (by decide))
   ·have t : takeP m r.v = false := by simpa using t
    rw [t]
    rw [if_pos ⟨g, t⟩] at out
    exact ⟨fun _ => out zeroV 110 (k17.no2 k69) rfl, fun h => (by cases h)⟩
  ·exact go2 H17 k17 (fun hh => of_decide_eq_false g hh.1)
 have bad : aggP m r = (zeroV, 60) → F57_1 Q ⟨H.size, 0, none⟩ ⟨H1.size, 0, none⟩ ⟨H3.size, 0, none⟩ true H5 := fun e => ⟨fun _ => out zeroV 60 (Kp.refl _ _) e, fun h => (by cases h)⟩
 unfold aggP at bad
 refine ⟨r.o, rowc r2 rfl, fun g1 => bad (by rw [if_pos (of_decide_eq_true g1)]), fun g1 => ⟨r.o, rowc r2 rfl, fun g2 => bad (by rw [if_neg (of_decide_eq_false g1), if_pos (of_decide_eq_true g2)]), fun g2 => ⟨r.p, rowc r2 rfl, fun g3 => ⟨r.p, rowc r2 rfl, ?_⟩, fun g3 => ?_⟩⟩⟩
 ·by_cases g4 : r.p = 7
  ·rw [decide_eq_false (fun h => h g4)]
   exact go1 (of_decide_eq_false g1) (of_decide_eq_false g2) (fun h => h.2 g4)
  ·rw [decide_eq_true g4]
   exact bad (by rw [if_neg (of_decide_eq_false g1), if_neg (of_decide_eq_false g2), if_pos ⟨of_decide_eq_true g3, g4⟩])
 ·exact go1 (of_decide_eq_false g1) (of_decide_eq_false g2) (fun h => of_decide_eq_false g3 h.1)
end
end Go.Hw
