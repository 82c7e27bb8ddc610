/- The document's own buffer: rows on the heap. Own work of this session. -/
import Derived.Test.YtphnfleopkcmlaaB10
set_option linter.unusedVariables false
namespace Go.Hw
open Go

def rF : Fmt (Option Addr) 87 1 := ⟨fun x => [.pointer x], fun _ => rfl, by intro x v hv; simp at hv; rcases hv with rfl; rfl, by decide⟩
structure RN where
  ad : Nat
  mark : Mk
def hdp : List RN → Option Addr
  | [] => none
  | x :: _ => some ⟨x.ad, 0, none⟩
def Chain (F : Nat → Prop) (H : Hp) : List RN → Prop
  | [] => True
  | x :: t => F x.ad ∧ Row H x.ad 89 [.int .i64 x.mark.1, .int .i64 x.mark.2, .pointer (hdp t), .int .i64 ((t.length + 1 : Nat) : Int)] ∧ Chain F H t
abbrev marksR (c : List RN) : List Mk := c.map (·.mark)
def rq (x : Option (List RN)) : Option Addr := match x with | none => none | some c => hdp c
def rowsR (R : List (Option (List RN))) : Fn := fnOf (R.map (Option.map marksR))

theorem Chain.kp {F S : Nat → Prop} {H H' : Hp} (k : Kp S H H') (hs : ∀ b, F b → ¬ S b) : ∀ {c : List RN}, Chain F H c → Chain F H' c
  | [], _ => trivial
  | x :: t, ⟨h1, h2, h3⟩ => ⟨h1, k.row h2 (hs _ h1), Chain.kp k hs h3⟩
theorem Chain.mono {F F2 : Nat → Prop} {H : Hp} (hF : ∀ b, F b → F2 b) : ∀ {c : List RN}, Chain F H c → Chain F2 H c
  | [], _ => trivial
  | x :: t, ⟨h1, h2, h3⟩ => ⟨hF _ h1, h2, h3.mono hF⟩
/-- An address has one row. -/
theorem Chain.un {F : Nat → Prop} {H : Hp} : ∀ {c d : List RN}, Chain F H c → Chain F H d → hdp c = hdp d → c = d
  | [], [], _, _, _ => rfl
  | [], y :: s, _, _, e => by cases e
  | x :: t, [], _, _, e => by cases e
  | x :: t, y :: s, ⟨_, h2, h3⟩, ⟨_, g2, g3⟩, e => by
    have e : x.ad = y.ad := by
      simp only [hdp, Option.some.injEq] at e
      injection e
    rw [← e] at g2
    have := (h2.inj g2).1
    injection this with e1 this
    injection this with e2 this
    injection this with e3 _
    injection e1 with _ e1
    injection e2 with _ e2
    injection e3 with e3
    have := h3.un g3 e3
    obtain ⟨a, m1, m2⟩ := x
    obtain ⟨b, k1, k2⟩ := y
    simp only at e e1 e2
    subst e e1 e2 this
    rfl

structure RJ (F : Nat → Prop) (H : Hp) (g : Nat) (st : Int) (n : Nat) (rs : Sl) (R : List (Option (List RN))) : Prop where
  row : Row H g 74 [.int .i64 st, Sl.v rs]
  fg : F g
  st1 : 1 ≤ st ∧ st ≤ 8
  lt : ∀ b, F b → b < H.size
  rl : Lst rF H rs (R.map rq)
  rf : ∀ b, rs.at b → F b
  rlen : R.length ≤ n
  ch : ∀ c, some c ∈ R → c ≠ [] ∧ Chain F H c ∧ c.length ≤ n ∧ ∀ x ∈ c, 0 ≤ x.mark.1 ∧ x.mark.1 < st
def RI (F : Nat → Prop) (H : Hp) (g : Nat) (st : Int) (n : Nat) (f : Fn) : Prop := ∃ rs R, RJ F H g st n rs R ∧ f = rowsR R

section
variable {F S : Nat → Prop} {H H' : Hp} {g n : Nat} {st : Int} {f : Fn} {rs : Sl} {R : List (Option (List RN))}
theorem RJ.kp (h : RJ F H g st n rs R) (k : Kp S H H') (hs : ∀ b, F b → ¬ S b) : RJ F H' g st n rs R :=
  ⟨k.row h.row (hs _ h.fg), h.fg, h.st1, fun b hb => Nat.lt_of_lt_of_le (h.lt b hb) k.size, h.rl.kp k fun b hb => hs b (h.rf b hb), h.rf, h.rlen, fun c hc => by obtain ⟨h1, h2, h3⟩ := h.ch c hc; exact ⟨h1, h2.kp k hs, h3⟩⟩
theorem RI.kp (h : RI F H g st n f) (k : Kp S H H') (hs : ∀ b, F b → ¬ S b) : RI F H' g st n f := by
  obtain ⟨_, _, h1, h2⟩ := h
  exact ⟨_, _, h1.kp k hs, h2⟩
theorem RI.lt (h : RI F H g st n f) : ∀ b, F b → b < H.size := by
  obtain ⟨_, _, h1, h2⟩ := h
  exact h1.lt
theorem RI.more {n' : Nat} (h : RI F H g st n f) (hn : n ≤ n') : RI F H g st n' f := by
  obtain ⟨_, _, h1, h2⟩ := h
  exact ⟨_, _, ⟨h1.row, h1.fg, h1.st1, h1.lt, h1.rl, h1.rf, Nat.le_trans h1.rlen hn, fun c hc => by obtain ⟨a, b, c, d⟩ := h1.ch c hc; exact ⟨a, b, by omega, d⟩⟩, h2⟩

theorem rowsR_none {i : Nat} (h : R.length ≤ i) : rowsR R i = none := by
  unfold rowsR fnOf
  rw [List.getElem?_eq_none (by simpa using h)]; rfl
theorem rowsR_get {i : Nat} (h : i < R.length) : rowsR R i = R[i].map marksR := by
  unfold rowsR
  rw [fnOf_map]
  unfold fnOf
  rw [List.getElem?_eq_getElem h]; rfl
theorem rowsR_at (R : List (Option (List RN))) (i : Int) : atI (rowsR R) i = (atI (fnOf R) i).map marksR := by
  unfold atI rowsR
  split
  · rfl
  · rw [fnOf_map]
theorem rowsR_lay (p : List RN) : IsLeast (rowsR R) (lay R p).1 ∧ rowsR (lay R p).2 = upd (rowsR R) (lay R p).1 (some (marksR p)) := by
  have h1 := lay_map marksR R p
  have h2 := lay_least (R.map (Option.map marksR)) (marksR p)
  rw [h1] at h2
  exact h2
theorem runR_of {i : Int} {p : List RN} (ha : atI (fnOf R) i = some p) : ¬ i < 0 ∧ i.toNat < R.length ∧ R[i.toNat]? = some (some p) ∧ some p ∈ R := by
  unfold atI at ha
  split at ha
  · cases ha
  · rename_i h0
    unfold fnOf at ha
    cases hr : R[i.toNat]? with
    | none => rw [hr] at ha; cases ha
    | some x =>
      rw [hr] at ha
      have : x = some p := ha
      subst this
      exact ⟨h0, (List.getElem?_eq_some_iff.1 hr).1, rfl, List.mem_of_getElem? hr⟩

/-- New. -/
theorem c10 {Q : Option Addr → Int → Hp → Prop} (q1 : ¬ (1 ≤ st ∧ st ≤ 8) → Q none 1 H) (q2 : 1 ≤ st ∧ st ≤ 8 → ∀ H' g, RI (fun b => H.size ≤ b ∧ b < H'.size) H' g st 0 (fun _ => none) → Kp No H H' → Q (some ⟨g, 0, none⟩) 0 H') : F10 st H Q := by
  refine ⟨fun hh => ?_, fun hh => ⟨fun hh2 => ?_, fun hh2 => ?_⟩⟩
  · have := of_decide_eq_true hh
    exact ⟨fun _ => q1 (by omega), fun hh => by cases hh⟩
  · have := of_decide_eq_true hh2
    exact q1 (by omega)
  · have h1 := of_decide_eq_false hh
    have h2 := of_decide_eq_false hh2
    intro H6 e6
    have s6 := size_push' e6
    have k6 := (Kp.refl No H).push' e6
    have r6 : Row H6 H.size 74 [.int .i64 st, Sl.v Sl.nil] := Row.new' e6
    refine q2 ⟨by omega, by omega⟩ H6 H.size ⟨Sl.nil, [], ⟨r6, ⟨by omega, by omega⟩, ⟨by omega, by omega⟩, fun b hb => hb.2, Lst.nil _ _, fun b hb => (by cases hb), Nat.le_refl _, fun p hp => (by cases hp)⟩, ?_⟩ k6
    funext i; simp [rowsR, fnOf]

/-- Is there such a run? -/
theorem c44 {i : Int} {Q : Bool → Hp → Prop} (b : RJ F H g st n rs R) (hn : n ≤ 1000000) (hQ : Q (atI (rowsR R) i).isSome H) : F44 (some ⟨g, 0, none⟩) i H Q := by
  have hrn := b.rl.n
  have hrl := b.rlen
  rw [List.length_map] at hrn
  rw [rowsR_at] at hQ
  unfold atI at hQ
  refine ⟨fun hh => ⟨_, rfl, rs, b.row.cell_of (i := 1) rfl, fun hh2 => ?_, fun hh2 => ?_⟩, fun hh => ?_⟩
  · have h1 := of_decide_eq_true hh
    have h2 := of_decide_eq_true hh2
    rw [if_neg (by omega)] at hQ
    have hlt : i.toNat < R.length := by omega
    obtain ⟨p, hp, _, cp⟩ := b.rl.rd.get (i := i.toNat) (x := rq R[i.toNat]) (by rw [List.getElem?_map, List.getElem?_eq_getElem hlt]; rfl)
    refine ⟨_, rfl, rs, b.row.cell_of (i := 1) rfl, p, hp, by omega, by omega, _, cp.1, ?_⟩
    unfold fnOf at hQ
    rw [List.getElem?_eq_getElem hlt] at hQ
    cases hr : R[i.toNat] with
    | none => rw [hr] at hQ; exact hQ
    | some c =>
      rw [hr] at hQ
      have hc := (b.ch c (hr ▸ List.getElem_mem hlt)).1
      cases c with
      | nil => exact absurd rfl hc
      | cons x t => exact hQ
  · have h1 := of_decide_eq_true hh
    have h2 := of_decide_eq_false hh2
    rw [if_neg (by omega)] at hQ
    unfold fnOf at hQ
    rw [List.getElem?_eq_none (by omega)] at hQ
    exact hQ
  · have h1 := of_decide_eq_false hh
    rw [if_pos (by omega)] at hQ
    exact hQ

/-- A row is laid. -/
theorem c43 {c : List RN} {Q : Int → Hp → Prop} {stv : Value} (row : Row H g 74 [stv, Sl.v rs]) (rl : Lst rF H rs (R.map rq)) (hc : ∀ c, some c ∈ R → c ≠ []) (hl : R.length ≤ 1000000) (hcn : c ≠ [])
    (hQ : ∀ H' rs', Row H' g 74 [stv, Sl.v rs'] → Lst rF H' rs' ((lay R c).2.map rq) → (∀ b, rs'.at b → rs.at b ∨ H.size ≤ b) → Kp (fun b => b = g ∨ rs.at b) H H' → Q (lay R c).1 H') : F43 (some ⟨g, 0, none⟩) (hdp c) H Q := by
  have hn := rl.n
  rw [List.length_map] at hn
  intro X hX
  suffices G : ∀ (d i : Nat), i + d = R.length → (∀ j, j < i → ∃ x, R[j]? = some (some x)) → X (i : Int) H from G R.length 0 (by omega) fun j hj => by omega
  intro d
  induction d with
  | zero =>
    intro i hi hb
    refine hX _ _ ⟨_, rfl, rs, row.cell_of (i := 1) rfl, fun hh => absurd (of_decide_eq_true hh) (by omega), fun _ => ?_⟩
    have hi' : idx R = none := by
      rw [idx_none]
      intro x hx
      obtain ⟨j, hj, rfl⟩ := List.getElem_of_mem hx
      obtain ⟨y, hy⟩ := hb j (by omega)
      rw [List.getElem?_eq_getElem hj] at hy
      injection hy with hy
      rw [hy]; simp
    refine ⟨_, rfl, rs, row.cell_of (i := 1) rfl, fun H38 e38 => ?_⟩
    have k38 : Kp No H H38 := (Kp.refl No _).push' e38
    have s38 := size_push' e38
    have b38 : Row H38 H.size 87 (rF.f (hdp c)) := Row.new' e38
    have hlen : (R.map rq).length = R.length := List.length_map ..
    refine (rl.kp k38 fun _ _ => id).append1 b38 rfl (by omega) (by omega) fun r42 H40 l40 k40 hs40 => ?_
    have r40 := k40.row (k38.row row id) fun hb => (rl.row hb).elim fun _ hr => row.ne_type hr (by decide) rfl
    refine ⟨_, rfl, r40.some (i := 1) (by simp), r40.frz 1, fun H45 e45 => ?_⟩
    have r45 : Row H45 g 74 [stv, Sl.v r42] := r40.set' (i := 1) e45
    have k45 : Kp (fun b => b = g) H40 H45 := (Kp.refl _ _).set' e45 (.inl rfl)
    refine ⟨_, rfl, r42, r45.cell_of (i := 1) rfl, ?_⟩
    have hn2 := l40.n
    rw [List.length_append, hlen, List.length_singleton] at hn2
    have ew : IntKind.i64.wrap ((r42.n : Int) - 1) = (R.length : Int) := by rw [wr (by omega) (by omega)]; omega
    rw [ew]
    have e : lay R c = (R.length, R ++ [some c]) := by unfold lay; rw [hi']
    have := hQ H45 r42
    rw [e] at this
    refine this r45 ?_ (fun b hb => ?_) (((k38.dec fun _ h => h.elim).trans k40 fun b hb => .inl (.inr hb)).trans k45 fun b hb => .inl (.inl hb))
    · have := l40.kp k45 fun b hb hh => (l40.row hb).elim fun _ hr => hr.ne_type r40 (by decide) hh
      simpa [rq] using this
    · rcases hs40 b hb with hb | hb
      · exact .inl hb
      · exact .inr (by omega)
  | succ d ih =>
    intro i hi hb
    have hil : i < R.length := by omega
    obtain ⟨p, hp, _, cp⟩ := rl.rd.get (i := i) (x := rq R[i]) (by rw [List.getElem?_map, List.getElem?_eq_getElem hil]; rfl)
    refine hX _ _ ⟨_, rfl, rs, row.cell_of (i := 1) rfl, fun _ => ⟨_, rfl, rs, row.cell_of (i := 1) rfl, p, hp, by omega, by omega, _, cp.1, fun hh => ?_, fun hh => ?_⟩, fun hh => absurd (of_decide_eq_false hh) (by omega)⟩
    · have hx : R[i] = none := by
        cases hr : R[i] with
        | none => rfl
        | some c' =>
          rw [hr] at hh
          have := hc c' (hr ▸ List.getElem_mem hil)
          cases c' with
          | nil => exact absurd rfl this
          | cons x t => cases hh
      have hi' : idx R = some i := by
        cases hx2 : idx R with
        | none => exact absurd hx (idx_none.1 hx2 _ (List.getElem_mem hil))
        | some k =>
          obtain ⟨k1, k2⟩ := idx_some hx2
          rcases Nat.lt_trichotomy k i with hlt | rfl | hlt
          · obtain ⟨y, hy⟩ := hb k hlt
            rw [k1] at hy; cases hy
          · rfl
          · obtain ⟨y, hy⟩ := k2 i hlt
            rw [List.getElem?_eq_getElem hil, hx] at hy; cases hy
      obtain ⟨a, ha, hsa, hin', hc2, hz, hset⟩ := rl.set1 (i := i) (c := 0) (x := rq none) (x' := hdp c) (v := .pointer (hdp c)) (by rw [List.getElem?_map, List.getElem?_eq_getElem hil, hx]; rfl) (by decide) rfl
      have ea : ((a.add (i * 1)).add 0) = a.add ((i : Int).toNat * 1) := by rw [add_add]; rfl
      rw [ea] at hc2 hz hset
      refine ⟨_, rfl, rs, row.cell_of (i := 1) rfl, a, ha, by omega, by omega, hc2, hz, fun H30 e30 => ?_⟩
      obtain ⟨l30, k30⟩ := hset H30 e30
      have e : lay R c = (i, R.set i (some c)) := by unfold lay; rw [hi']
      have := hQ H30 rs
      rw [e] at this
      refine this (k30.row row fun hb => (rl.row hb).elim fun _ hr => row.ne_type hr (by decide) rfl) ?_ (fun b hb => .inl hb) (k30.dec fun b hb => .inr hb)
      rw [List.map_set]; exact l30
    · rw [wr (by omega) (by omega)]
      refine ih (i + 1) (by omega) fun j hj => ?_
      by_cases hji : j = i
      · subst hji
        cases hr : R[j] with
        | none => rw [hr] at hh; cases hh
        | some c' => exact ⟨c', by rw [List.getElem?_eq_getElem hil, hr]⟩
      · exact hb j (by omega)

theorem RJ.lay_ {c : List RN} {rs' : Sl} (b : RJ F H g st n rs R) (row : Row H' g 74 [.int .i64 st, Sl.v rs']) (hs : H.size ≤ H'.size) (rl : Lst rF H' rs' ((lay R c).2.map rq)) (hrs : ∀ b, rs'.at b → Ext F H.size H'.size b) (hcn : c ≠ []) (hc : Chain (Ext F H.size H'.size) H' c) (hlen : c.length ≤ n + 1) (hm : ∀ x ∈ c, 0 ≤ x.mark.1 ∧ x.mark.1 < st)
    (hold : ∀ c, some c ∈ R → Chain F H' c) : IsLeast (rowsR R) (lay R c).1 ∧ RI (Ext F H.size H'.size) H' g st (n + 1) (upd (rowsR R) (lay R c).1 (some (marksR c))) := by
  obtain ⟨l1, l2⟩ := rowsR_lay (R := R) c
  refine ⟨l1, rs', _, ⟨row, .inl b.fg, b.st1, fun x hx => ?_, rl, hrs, ?_, fun d hd => ?_⟩, l2.symm⟩
  · rcases hx with hx | hx
    · exact Nat.lt_of_lt_of_le (b.lt x hx) hs
    · exact hx.2
  · have := lay_len R c
    have := b.rlen
    omega
  · rcases lay_mem hd with e | m
    · rw [e]; exact ⟨hcn, hc, hlen, hm⟩
    · obtain ⟨h1, h2, h3, h4⟩ := b.ch d m
      exact ⟨h1, (hold d m).mono fun _ h => .inl h, by omega, h4⟩
end
end Go.Hw
