/- eval: attributes, what is bound, the event that is meant. Own work of this session. -/
import Derived.Test.YtfkhglkcplnppaaDoorE2
set_option linter.unusedVariables false
namespace Go.Hw
open Go

def sF : Fmt ByteArray 9 1 := ⟨fun x => [.string x], fun _ => rfl, by intro x v hv; simp at hv; rcases hv with rfl; rfl, by decide⟩
def slF : Fmt Sl 49 1 := ⟨fun x => [Sl.v x], fun _ => rfl, by intro x v hv; simp at hv; rcases hv with rfl; rfl, by decide⟩
def evF : Fmt (ByteArray × Int × Sl) 36 3 := ⟨fun x => [.string x.1, .int .i64 x.2.1, Sl.v x.2.2], fun _ => rfl, by
  intro x v hv
  simp only [List.mem_cons, List.not_mem_nil, or_false] at hv
  rcases hv with rfl | rfl | rfl <;> rfl, by decide⟩
def tF : Fmt (ByteArray × Sl) 86 2 := ⟨fun x => [.string x.1, Sl.v x.2], fun _ => rfl, by
  intro x v hv
  simp only [List.mem_cons, List.not_mem_nil, or_false] at hv
  rcases hv with rfl | rfl <;> rfl, by decide⟩
def aF : Fmt (ByteArray × Int) 83 2 := ⟨fun x => [.string x.1, .int .i64 x.2], fun _ => rfl, by
  intro x v hv
  simp only [List.mem_cons, List.not_mem_nil, or_false] at hv
  rcases hv with rfl | rfl <;> rfl, by decide⟩
abbrev lim : Nat := 4194304
/-- An event. -/
structure EvM where
  ty : ByteArray
  time : Int
  vals : List VT
abbrev TyM := ByteArray × List (ByteArray × Int)
structure EnvM where
  vars : List ByteArray
  bound : List (List EvM)
  it : ByteArray
  now : EvM
  types : List TyM
structure EvsH (H : Hp) (s : Sl) (evs : List EvM) : Prop where
  small : evs.length ≤ lim
  rows : ∃ R : List (ByteArray × Int × Sl), RdL evF H s R ∧ R.length = evs.length ∧ ∀ (i : Nat) (r : ByteArray × Int × Sl) (e : EvM), R[i]? = some r → evs[i]? = some e → r.1 = e.ty ∧ r.2.1 = e.time ∧ RdL vF H r.2.2 e.vals
structure TysH (H : Hp) (s : Sl) (T : List TyM) : Prop where
  small : T.length ≤ lim
  rows : ∃ R : List (ByteArray × Sl), RdL tF H s R ∧ R.length = T.length ∧ ∀ (i : Nat) (r : ByteArray × Sl) (t : TyM), R[i]? = some r → T[i]? = some t → r.1 = t.1 ∧ RdL aF H r.2 t.2 ∧ t.2.length ≤ lim
/-- Surroundings. -/
structure EnvH (H : Hp) (p0 p1 : Sl) (p2 p3 : ByteArray) (p4 : Int) (p5 p6 : Sl) (m : EnvM) : Prop where
  vars : RdL sF H p0 m.vars
  vs : m.vars.length ≤ lim
  bound : ∃ L : List Sl, RdL slF H p1 L ∧ L.length = m.bound.length ∧ ∀ (i : Nat) (s : Sl) (evs : List EvM), L[i]? = some s → m.bound[i]? = some evs → EvsH H s evs
  it : p2 = m.it
  nty : p3 = m.now.ty
  ntime : p4 = m.now.time
  nvals : RdL vF H p5 m.now.vals
  types : TysH H p6 m.types
theorem EvsH.no {H H' : Hp} {s : Sl} {evs : List EvM} (h : EvsH H s evs) (k : Kp No H H') : EvsH H' s evs := by
  obtain ⟨R, h1, h2, h3⟩ := h.rows
  exact ⟨h.small, R, h1.kp0 k, h2, fun i r e hr he => ⟨(h3 i r e hr he).1, (h3 i r e hr he).2.1, (h3 i r e hr he).2.2.kp0 k⟩⟩
theorem TysH.no {H H' : Hp} {s : Sl} {T : List TyM} (h : TysH H s T) (k : Kp No H H') : TysH H' s T := by
  obtain ⟨R, h1, h2, h3⟩ := h.rows
  exact ⟨h.small, R, h1.kp0 k, h2, fun i r t hr ht => ⟨(h3 i r t hr ht).1, (h3 i r t hr ht).2.1.kp0 k, (h3 i r t hr ht).2.2⟩⟩
theorem EnvH.no {H H' : Hp} {p0 p1 : Sl} {p2 p3 : ByteArray} {p4 : Int} {p5 p6 : Sl} {m : EnvM} (h : EnvH H p0 p1 p2 p3 p4 p5 p6 m) (k : Kp No H H') : EnvH H' p0 p1 p2 p3 p4 p5 p6 m := by
  obtain ⟨L, h1, h2, h3⟩ := h.bound
  exact ⟨h.vars.kp0 k, h.vs, ⟨L, h1.kp0 k, h2, fun i s e hs he => (h3 i s e hs he).no k⟩, h.it, h.nty, h.ntime, h.nvals.kp0 k, h.types.no k⟩

/-- An attribute's value; what is wrong. -/
def attrP (T : List TyM) (e : EvM) (name : ByteArray) : VT × Int :=
  if seq name S_time = true then (numV e.time, 0) else
  match T.findIdx? (fun t => seq t.1 e.ty) with
  | none => (zeroV, 21)
  | some i => match ((T[i]?).getD (E, [])).2.findIdx? (fun a => seq a.1 name) with
    | none => (zeroV, 82)
    | some j => match e.vals[j]? with
      | none => (zeroV, 22)
      | some v => if v.k ≠ ((((T[i]?).getD (E, [])).2[j]?).getD (E, 0)).2 then (zeroV, 10) else if vld v = true then (v, 0) else (zeroV, 12)
def boundP (m : EnvM) (name : ByteArray) : Option (List EvM) := (m.vars.findIdx? fun x => seq name x).bind fun i => m.bound[i]?
def takeP (m : EnvM) (name : ByteArray) : Bool := if (!(seq name E)) = true then seq name m.it else false
def zeroE : EvM := ⟨E, 0, []⟩
def atP (l : List EvM) (i : Nat) : EvM × Int := match l[i]? with | none => (zeroE, 110) | some e => (e, 0)
def eventP (m : EnvM) (v : ByteArray) (p : Int) : EvM × Int :=
  if p = 2 then (if takeP m v = true then (m.now, 0) else (zeroE, 110))
  else if p = 3 then (if takeP m v = true then atP ((boundP m v).getD []) (((boundP m v).getD []).length - 1) else (zeroE, 110))
  else if p = 5 then atP ((boundP m v).getD []) (((boundP m v).getD []).length - 1)
  else if p = 1 then atP ((boundP m v).getD []) 0
  else if p = 4 then atP ((boundP m v).getD []) 0
  else (zeroE, 60)

section
variable {H : Hp}
theorem fnone {α : Type} {f : α → Bool} {L : List α} (h : ∀ (j : Nat) (x : α), j < L.length → L[j]? = some x → f x = false) : L.findIdx? f = none := by
  rw [List.findIdx?_eq_none_iff]
  intro x hx
  obtain ⟨j, hj⟩ := List.getElem?_of_mem hx
  exact h j x (List.getElem?_eq_some_iff.1 hj).1 hj
theorem fsome {α : Type} {f : α → Bool} {L : List α} {i : Nat} {x : α} (hx : L[i]? = some x) (hf : f x = true) (h : ∀ (j : Nat) (x : α), j < i → L[j]? = some x → f x = false) : L.findIdx? f = some i := by
  rw [List.findIdx?_eq_some_iff_getElem]
  obtain ⟨hi, e⟩ := List.getElem?_eq_some_iff.1 hx
  refine ⟨hi, by rw [e]; exact hf, fun j hj => ?_⟩
  rw [h j _ hj (List.getElem?_eq_getElem (by omega))]
  decide

theorem c77 {L : List ByteArray} {sl : Sl} {name : ByteArray} {Q : Int → Hp → Prop} (h : RdL sF H sl L) (hl : L.length ≤ lim) (q0 : (L.findIdx? fun x => seq name x) = none → Q (-1) H) (q1 : ∀ i, (L.findIdx? fun x => seq name x) = some i → i < L.length → Q (i : Int) H) : F77 sl name H Q := by
  have hn := h.n
  have hl : L.length ≤ 4194304 := hl
  intro X hX
  suffices G : ∀ (d i : Nat), i + d = L.length → (∀ (j : Nat) (x : ByteArray), j < i → L[j]? = some x → seq name x = false) → X (i : Int) H from G L.length 0 (by omega) (fun j x h => by omega)
  intro d
  induction d with
  | zero =>
    intro i hi h0
    refine hX _ _ ⟨fun hh => absurd (of_decide_eq_true hh) (by omega), fun _ => q0 (fnone fun j x hj hx => h0 j x (by omega) hx)⟩
  | succ d ih =>
    intro i hi h0
    have gx : L[i]? = some (L[i]'(by omega)) := List.getElem?_eq_getElem (by omega)
    generalize L[i]'(by omega) = x at gx
    obtain ⟨p, hp, hpn, cp⟩ := h.get gx
    have cp0 : cell H (Addr.add p (i * 1)) = some (.string x) := by
      have := cp.1
      rwa [add_add, Nat.add_zero] at this
    refine hX _ _ ⟨fun _ => ⟨p, hp, by omega, by omega, x, by rw [show ((i : Int)).toNat = i from by omega]; exact cp0, fun hh => q1 i (fsome gx hh h0) (by omega), fun hh => ?_⟩, fun hh => absurd (of_decide_eq_false hh) (by omega)⟩
    rw [wr (by omega) (by omega)]
    refine ih (i + 1) (by omega) fun j y hj hy => ?_
    by_cases e : j = i
    · subst e; rw [gx] at hy; injection hy with hy; rw [← hy]; exact hh
    · exact h0 j y (by omega) hy

theorem c42 {L : List (ByteArray × Sl)} {sl : Sl} {p : Addr} {ty : ByteArray} {Q : Int → Hp → Prop} (h : RdL tF H sl L) (hl : L.length ≤ lim) (hp : p.block < H.size) (hc : cell H p = some (.string ty))
    (q0 : ∀ H', (L.findIdx? fun x => seq x.1 ty) = none → Kp No H H' → Q (-1) H') (q1 : ∀ i H', (L.findIdx? fun x => seq x.1 ty) = some i → i < L.length → Kp No H H' → Q (i : Int) H') : F42_43 sl p H Q := by
  have hn := h.n
  have hl : L.length ≤ 4194304 := hl
  intro X hX
  suffices G : ∀ (d i : Nat) (H' : Hp), i + d = L.length → (∀ (j : Nat) (x : ByteArray × Sl), j < i → L[j]? = some x → seq x.1 ty = false) → Kp No H H' → X (i : Int) H' from G L.length 0 H (by omega) (fun j x h => by omega) (Kp.refl _ _)
  intro d
  induction d with
  | zero =>
    intro i H' hi h0 k
    refine hX _ _ ⟨fun hh => absurd (of_decide_eq_true hh) (by omega), fun _ => q0 H' (fnone fun j x hj hx => h0 j x (by omega) hx) k⟩
  | succ d ih =>
    intro i H' hi h0 k
    have gx : L[i]? = some (L[i]'(by omega)) := List.getElem?_eq_getElem (by omega)
    generalize L[i]'(by omega) = x at gx
    obtain ⟨q, hq, hqn, cq⟩ := (h.kp0 k).get gx
    refine hX _ _ ⟨fun _ => ⟨q, hq, by omega, by omega, x.1, x.2, by rw [show ((i : Int)).toNat = i from by omega]; exact cq, fun H1 e1 => ?_⟩, fun hh => absurd (of_decide_eq_false hh) (by omega)⟩
    have k1 : Kp No H H1 := k.push' e1
    have r1 := Row.new' e1
    refine ⟨x.1, r1.cell_of rfl, ty, (k1.cell hp id).trans hc, fun hh => q1 i H1 (fsome gx hh h0) (by omega) k1, fun hh => ?_⟩
    rw [wr (by omega) (by omega)]
    refine ih (i + 1) H1 (by omega) (fun j y hj hy => ?_) k1
    by_cases e : j = i
    · subst e; rw [gx] at hy; injection hy with hy; rw [← hy]; exact hh
    · exact h0 j y (by omega) hy

theorem c44 {L : List (ByteArray × Int)} {sl : Sl} {p : Addr} {ty : ByteArray} {Q : Int → Hp → Prop} (h : RdL aF H sl L) (hl : L.length ≤ lim) (hp : p.block < H.size) (hc : cell H p = some (.string ty))
    (q0 : ∀ H', (L.findIdx? fun x => seq x.1 ty) = none → Kp No H H' → Q (-1) H') (q1 : ∀ i H', (L.findIdx? fun x => seq x.1 ty) = some i → i < L.length → Kp No H H' → Q (i : Int) H') : F44_45 sl p H Q := by
  have hn := h.n
  have hl : L.length ≤ 4194304 := hl
  intro X hX
  suffices G : ∀ (d i : Nat) (H' : Hp), i + d = L.length → (∀ (j : Nat) (x : ByteArray × Int), j < i → L[j]? = some x → seq x.1 ty = false) → Kp No H H' → X (i : Int) H' from G L.length 0 H (by omega) (fun j x h => by omega) (Kp.refl _ _)
  intro d
  induction d with
  | zero =>
    intro i H' hi h0 k
    refine hX _ _ ⟨fun hh => absurd (of_decide_eq_true hh) (by omega), fun _ => q0 H' (fnone fun j x hj hx => h0 j x (by omega) hx) k⟩
  | succ d ih =>
    intro i H' hi h0 k
    have gx : L[i]? = some (L[i]'(by omega)) := List.getElem?_eq_getElem (by omega)
    generalize L[i]'(by omega) = x at gx
    obtain ⟨q, hq, hqn, cq⟩ := (h.kp0 k).get gx
    refine hX _ _ ⟨fun _ => ⟨q, hq, by omega, by omega, x.1, x.2, by rw [show ((i : Int)).toNat = i from by omega]; exact cq, fun H1 e1 => ?_⟩, fun hh => absurd (of_decide_eq_false hh) (by omega)⟩
    have k1 : Kp No H H1 := k.push' e1
    have r1 := Row.new' e1
    refine ⟨x.1, r1.cell_of rfl, ty, (k1.cell hp id).trans hc, fun hh => q1 i H1 (fsome gx hh h0) (by omega) k1, fun hh => ?_⟩
    rw [wr (by omega) (by omega)]
    refine ih (i + 1) H1 (by omega) (fun j y hj hy => ?_) k1
    by_cases e : j = i
    · subst e; rw [gx] at hy; injection hy with hy; rw [← hy]; exact hh
    · exact h0 j y (by omega) hy

theorem findIdx_map {α β : Type} (R : List α) (T : List β) (f : α → Bool) (g : β → Bool) (hl : R.length = T.length) (h : ∀ (i : Nat) (r : α) (t : β), R[i]? = some r → T[i]? = some t → f r = g t) : R.findIdx? f = T.findIdx? g := by
  induction R generalizing T with
  | nil =>
    cases T with
    | nil => rfl
    | cons => simp at hl
  | cons a R ih =>
    cases T with
    | nil => simp at hl
    | cons b T =>
      rw [List.findIdx?_cons, List.findIdx?_cons, h 0 a b rfl rfl, ih T (by simpa using hl) fun i r t hr ht => h (i + 1) r t (by simpa using hr) (by simpa using ht)]

/-- What an attribute comes to is handed back. -/
theorem c28 {ev : EvM} {vals : Sl} {name : ByteArray} {ts : Sl} {T : List TyM} {Q : Int → Int → ByteArray → Bool → Int → Hp → Prop} (hv : RdL vF H vals ev.vals) (ht : TysH H ts T)
    (hQ : ∀ H', Kp No H H' → Q (attrP T ev name).1.k (attrP T ev name).1.n (attrP T ev name).1.s (attrP T ev name).1.b (attrP T ev name).2 H') : F28 ev.ty ev.time vals name ts H Q := by
  intro H1 e1 H3 e3 H5 e5
  have k1 : Kp No H H1 := (Kp.refl _ _).push' e1
  have k3 : Kp No H H3 := k1.push' e3
  have k5 : Kp No H H5 := k3.push' e5
  have r1 : Row H5 H.size 36 [.string ev.ty, .int .i64 ev.time, Sl.v vals] := ((Row.new' e1).push' e3).push' e5
  have r2 : Row H5 H1.size 9 [.string name] := (Row.new' e3).push' e5
  have r3 : Row H5 H3.size 38 zeroV.row := Row.new' e5
  have s1 := size_push' e1
  have s3 := size_push' e3
  have s5 := size_push' e5
  have out : ∀ {Hx : Hp} (v : VT) (n : Int), Kp No H5 Hx → attrP T ev name = (v, n) → mayw Hx ⟨H3.size, 0, none⟩ 4 0 ∧ ∀ H' : Hp, H' = sets Hx ⟨H3.size, 0, none⟩ [(.int .i64 v.k), (.int .i64 v.n), (.string v.s), (.bool v.b)] 0 →
      (∃ (x6 : Int) (x7 : Int) (x8 : ByteArray) (x9 : Bool), cells H' ⟨H3.size, 0, none⟩ [(.int .i64 x6), (.int .i64 x7), (.string x8), (.bool x9)] 0 ∧ (Q x6 x7 x8 x9 n H')) := fun {Hx} v n k e => by
    refine ret4 (K := fun a b c d H' => Q a b c d n H') (k.row r3 id) rfl v fun H' _ k' => ?_
    have q := hQ H' ((k5.no2 k).box k' (by omega))
    rw [e] at q
    exact q
  unfold attrP at out
  refine ⟨name, r2.cell_of rfl, fun hh => ⟨ev.time, rowc r1 rfl, out (numV ev.time) 0 (Kp.refl _ _) (by rw [if_pos hh])⟩, fun hh => ?_⟩
  rw [if_neg (by rw [hh]; decide)] at out
  obtain ⟨R, hR, hRl, hRt⟩ := (ht.no k5).rows
  have tsm : T.length ≤ 4194304 := ht.small
  have eqT : (R.findIdx? fun x => seq x.1 ev.ty) = T.findIdx? (fun t => seq t.1 ev.ty) := findIdx_map R T _ _ hRl fun i r t hr ht => by rw [(hRt i r t hr ht).1]
  refine c42 hR (by rw [hRl]; exact ht.small) (by show H.size < _; omega) (r1.cell_of rfl) (fun H20 hf k20 => ?_) fun i H20 hf hi k20 => ?_
  · rw [eqT] at hf
    rw [hf] at out
    exact ⟨fun _ => out zeroV 21 k20 rfl, fun h => absurd (of_decide_eq_false h) (by omega)⟩
  rw [eqT] at hf
  rw [hf] at out
  have gr : R[i]? = some (R[i]'hi) := List.getElem?_eq_getElem hi
  generalize R[i]'hi = r at gr
  have gt : T[i]? = some (T[i]'(by omega)) := List.getElem?_eq_getElem (by omega)
  generalize T[i]'(by omega) = t at gt
  obtain ⟨_, hA, hAl⟩ := hRt i r t gr gt
  have hAl' : t.2.length ≤ 4194304 := hAl
  simp only [gt, Option.getD_some] at out
  obtain ⟨p, hp, hpn, cp⟩ := (hR.kp0 k20).get gr
  have it : ((i : Int)).toNat = i := by omega
  have cpa : cell H20 (Addr.add (Addr.add p (i * 2)) 1) = some (Sl.v r.2) := cp.2.1
  have hRn := hR.n
  refine ⟨fun h => absurd (of_decide_eq_true h) (by omega), fun _ => ⟨p, hp, by omega, by omega, r.2, by rw [it]; exact cpa, ?_⟩⟩
  have r2' := k20.row r2 id
  refine c44 (hA.kp0 k20) hAl (by show H1.size < _; have := k20.size; omega) (r2'.cell_of rfl) (fun H38 hf' k38 => ?_) fun j H38 hf' hj k38 => ?_
  · rw [hf'] at out
    exact ⟨fun _ => out zeroV 82 (k20.no2 k38) rfl, fun h => absurd (of_decide_eq_false h) (by omega)⟩
  rw [hf'] at out
  simp only [] at out
  have kk := k20.no2 k38
  have r1' := kk.row r1 id
  have hv38 := hv.kp0 (k5.no2 kk)
  have hvn := hv.n
  refine ⟨fun h => absurd (of_decide_eq_true h) (by omega), fun _ => ⟨vals, rowc r1' rfl, fun h => ?_, fun h => ?_⟩⟩
  · have h := of_decide_eq_true h
    rw [List.getElem?_eq_none (by omega)] at out
    exact out zeroV 22 kk rfl
  have h := of_decide_eq_false h
  have gv : ev.vals[j]? = some (ev.vals[j]'(by omega)) := List.getElem?_eq_getElem (by omega)
  generalize ev.vals[j]'(by omega) = v at gv
  have ga : t.2[j]? = some (t.2[j]'hj) := List.getElem?_eq_getElem hj
  generalize t.2[j]'hj = a at ga
  simp only [gv, ga, Option.getD_some] at out
  have jt : ((j : Int)).toNat = j := by omega
  obtain ⟨pv, hpv, hpvn, cpv⟩ := hv38.get gv
  obtain ⟨pa, hpa, hpan, cpa2⟩ := (hA.kp0 kk).get ga
  obtain ⟨p2, hp2, hpn2, cp2⟩ := (hR.kp0 kk).get gr
  have hAn := hA.n
  have cv0 : cell H38 (Addr.add pv (j * 4)) = some (.int .i64 v.k) := by
    have := cpv.1
    rwa [add_add, Nat.add_zero] at this
  refine ⟨vals, rowc r1' rfl, pv, hpv, by omega, by omega, v.k, by rw [jt]; exact cv0, p2, hp2, by omega, by omega, r.2, by rw [it]; exact cp2.2.1, pa, hpa, by omega, by omega, a.2, by rw [jt]; exact cpa2.2.1, fun h10 => ?_, fun h10 => ?_⟩
  · rw [if_pos (of_decide_eq_true h10)] at out
    exact out zeroV 10 kk rfl
  rw [if_neg (of_decide_eq_false h10)] at out
  refine ⟨vals, rowc r1' rfl, pv, hpv, by omega, by omega, v.k, v.n, v.s, v.b, by rw [jt]; exact cpv, c46 fun H101 k101 => ⟨fun h12 => ?_, fun h12 => ?_⟩⟩
  · rw [if_neg (by intro e; rw [e] at h12; cases h12)] at out
    exact out zeroV 12 (kk.no2 k101) rfl
  · rw [if_pos (by cases e : vld v; rw [e] at h12; cases h12; rfl)] at out
    obtain ⟨pv2, hpv2, hpvn2, cpv2⟩ := (hv38.kp0 k101).get gv
    exact ⟨vals, rowc (k101.row r1' id) rfl, pv2, hpv2, by omega, by omega, v.k, v.n, v.s, v.b, by rw [jt]; exact cpv2, out v 0 (kk.no2 k101) rfl⟩
end
end Go.Hw
