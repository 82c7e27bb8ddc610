/- EvalBoth. Own work of this session. -/
import Derived.Test.YtfkhglkcplnppaaDoorE14
set_option linter.unusedVariables false
namespace Go.Hw
open Go

def bR : Nat → ER
  | 0 => refE S_d 1 S_x
  | 1 => refE S_a 1 S_y
  | _ => opE 5 3
def bK : Nat → Fo
  | 0 => .nil
  | 1 => .nil
  | _ => .cons (litE 1) .nil (.cons (refE S_a 1 S_s) .nil .nil)
def bN : Nat → Int
  | 0 => 110
  | 1 => 82
  | _ => 10
def bQ (q : Sl) : Nat → Sl
  | 0 => Sl.nil
  | 1 => Sl.nil
  | _ => q
def nx : Nat → Nat
  | 0 => 1
  | 1 => 2
  | _ => 0
def or1 (l : Nat) : Fo := .cons (truthE true) .nil (.cons (bR l) (bK l) .nil)
def and1 (l : Nat) : Fo := .cons (truthE false) .nil (.cons (bR l) (bK l) .nil)
def or2 (l : Nat) : Fo := .cons (bR l) (bK l) (.cons (bR (nx l)) (bK (nx l)) .nil)
def orx (b : Bool) (l : Nat) : Fo := .cons (truthE b) .nil (.cons (bR l) (bK l) .nil)
theorem t_or1_0 : topP exM (opE 5 13) (or1 0) = (zeroV, bN 0) := by kernel_rfl
theorem t_or1_1 : topP exM (opE 5 13) (or1 1) = (zeroV, bN 1) := by kernel_rfl
theorem t_or1_2 : topP exM (opE 5 13) (or1 2) = (zeroV, bN 2) := by kernel_rfl
theorem t_or1 : ∀ {l : Nat}, l < 3 → topP exM (opE 5 13) (or1 l) = (zeroV, bN l)
  | 0, _ => t_or1_0
  | 1, _ => t_or1_1
  | 2, _ => t_or1_2
theorem t_and1_0 : topP exM (opE 5 12) (and1 0) = (zeroV, bN 0) := by kernel_rfl
theorem t_and1_1 : topP exM (opE 5 12) (and1 1) = (zeroV, bN 1) := by kernel_rfl
theorem t_and1_2 : topP exM (opE 5 12) (and1 2) = (zeroV, bN 2) := by kernel_rfl
theorem t_and1 : ∀ {l : Nat}, l < 3 → topP exM (opE 5 12) (and1 l) = (zeroV, bN l)
  | 0, _ => t_and1_0
  | 1, _ => t_and1_1
  | 2, _ => t_and1_2
theorem t_or2_0 : topP exM (opE 5 13) (or2 0) = (zeroV, bN 0) := by kernel_rfl
theorem t_or2_1 : topP exM (opE 5 13) (or2 1) = (zeroV, bN 1) := by kernel_rfl
theorem t_or2_2 : topP exM (opE 5 13) (or2 2) = (zeroV, bN 2) := by kernel_rfl
theorem t_or2 : ∀ {l : Nat}, l < 3 → topP exM (opE 5 13) (or2 l) = (zeroV, bN l)
  | 0, _ => t_or2_0
  | 1, _ => t_or2_1
  | 2, _ => t_or2_2
/-- What one condition is worth. -/
def h1 (c : ER × Fo) : Bool := if (topP exM c.1 c.2).2 ≠ 0 then false else if (topP exM c.1 c.2).1.k ≠ 3 then false else (topP exM c.1 c.2).1.b
theorem h_orx_0t : h1 (opE 5 13, orx true 0) = false := by kernel_rfl
theorem h_orx_0f : h1 (opE 5 13, orx false 0) = false := by kernel_rfl
theorem h_orx_1t : h1 (opE 5 13, orx true 1) = false := by kernel_rfl
theorem h_orx_1f : h1 (opE 5 13, orx false 1) = false := by kernel_rfl
theorem h_orx_2t : h1 (opE 5 13, orx true 2) = false := by kernel_rfl
theorem h_orx_2f : h1 (opE 5 13, orx false 2) = false := by kernel_rfl
theorem h_orx : ∀ {l : Nat}, l < 3 → ∀ b, h1 (opE 5 13, orx b l) = false
  | 0, _, true => h_orx_0t
  | 0, _, false => h_orx_0f
  | 1, _, true => h_orx_1t
  | 1, _, false => h_orx_1f
  | 2, _, true => h_orx_2t
  | 2, _, false => h_orx_2f
theorem h_truth (b : Bool) : h1 (truthE b, .nil) = b := by cases b <;> kernel_rfl
theorem h_lit : h1 (litE 1, .nil) = false := by kernel_rfl
def foL : List (ER × Fo) → Fo
  | [] => .nil
  | c :: l => .cons c.1 c.2 (foL l)
theorem foL_len : ∀ l, (foL l).len = l.length
  | [] => rfl
  | c :: l => by simp [foL, Fo.len, foL_len l]
theorem foL_holds : ∀ l, holdsP exM (foL l) = l.all h1
  | [] => rfl
  | c :: l => by
    rw [foL, holdsP, List.all_cons, ← foL_holds l]
    unfold h1
    by_cases a : (topP exM c.1 c.2).2 ≠ 0
    · rw [if_pos a, if_pos a]; rfl
    · rw [if_neg a, if_neg a]
      by_cases b : (topP exM c.1 c.2).1.k ≠ 3
      · rw [if_pos b, if_pos b]; rfl
      · rw [if_neg b, if_neg b]
        cases (topP exM c.1 c.2).1.b <;> simp
def exF : Fmt (ER × Sl) 41 10 := ⟨fun x => x.1.row x.2, fun _ => rfl, by
  intro x v hv
  simp only [ER.row, List.mem_cons, List.not_mem_nil, or_false] at hv
  rcases hv with rfl | rfl | rfl | rfl | rfl | rfl | rfl | rfl | rfl | rfl <;> rfl, by decide⟩
theorem foL_small {l : List (ER × Fo)} (h : ∀ c ∈ l, c.2.nodes ≤ 4194304) : (foL l).small := by
  induction l with
  | nil => trivial
  | cons c l ih => exact ⟨h c (List.mem_cons_self ..), ih fun c' hc => h c' (List.mem_cons_of_mem _ hc)⟩

section
variable {H H0 : Hp} {p0 p1 : Sl} {p2 p3 : ByteArray} {p4 : Int} {p5 p6 : Sl} {be bb bn : Nat} {qb : Sl}

/-- What lies ready for each round. -/
structure Rdy (H0 : Hp) (p0 p1 : Sl) (p2 p3 : ByteArray) (p4 : Int) (p5 p6 : Sl) (be bb bn : Nat) (qb : Sl) : Prop where
  w : WantsH H0
  e : EnvH H0 p0 p1 p2 p3 p4 p5 p6 exM
  re : Row H0 be 43 (envRow p0 p1 p2 p3 p4 p5 p6)
  rb : Row H0 bb 64 ((bR 0).row Sl.nil ++ (bR 1).row Sl.nil ++ (bR 2).row qb)
  rn : Row H0 bn 65 [.int .i64 110, .int .i64 82, .int .i64 10]
  x : Ex (fun b => b < H0.size) H0 qb (bK 2)
theorem Rdy.bad (h : Rdy H0 p0 p1 p2 p3 p4 p5 p6 be bb bn qb) (k : Kp No H0 H) {l : Nat} (hl : l < 3) : cells H (Addr.add ⟨bb, 0, none⟩ (l * 10)) ((bR l).row (bQ qb l)) 0 := by
  have r := k.row h.rb id
  rw [add_mk]
  match l, hl with
  | 0, _ => exact r.cells rfl
  | 1, _ => exact r.cells rfl
  | 2, _ => exact r.cells rfl
theorem Rdy.no (h : Rdy H0 p0 p1 p2 p3 p4 p5 p6 be bb bn qb) (k : Kp No H0 H) {l : Nat} (hl : l < 3) : cell H (Addr.add ⟨bn, 0, none⟩ (l * 1)) = some (.int .i64 (bN l)) := by
  have r := k.row h.rn id
  match l, hl with
  | 0, _ => exact rowc r rfl
  | 1, _ => exact rowc r rfl
  | 2, _ => exact rowc r rfl
theorem Rdy.kids (h : Rdy H0 p0 p1 p2 p3 p4 p5 p6 be bb bn qb) (k : Kp No H0 H) {l : Nat} (hl : l < 3) : Ex (fun b => b < H0.size) H (bQ qb l) (bK l) := by
  match l, hl with
  | 0, _ => exact Ex.nil _ _
  | 1, _ => exact Ex.nil _ _
  | 2, _ => exact h.x.no k

/-- The conditions so far. -/
structure Cnd (H0 H : Hp) (q : Sl) (cs : List (ER × Fo)) (z : Nat) : Prop where
  k : Kp No H0 H
  at' : ∀ b, q.at b → H0.size ≤ b
  rows : ∃ R : List (ER × Sl), Lst exF H q R ∧ R.length = cs.length ∧ ∀ (j : Nat) (r : ER × Sl) (c : ER × Fo), R[j]? = some r → cs[j]? = some c → r.1 = c.1 ∧ Ex (fun b => ¬ q.at b ∧ b ≠ z) H r.2 c.2
  sm : ∀ c ∈ cs, c.2.nodes ≤ 4194304
theorem Cnd.no {H' : Hp} {q : Sl} {cs : List (ER × Fo)} {z : Nat} (h : Cnd H0 H q cs z) (k : Kp No H H') : Cnd H0 H' q cs z := by
  obtain ⟨R, h1, h2, h3⟩ := h.rows
  exact ⟨h.k.no2 k, h.at', ⟨R, h1.kp k fun _ _ => id, h2, fun j r c hr hc => ⟨(h3 j r c hr hc).1, (h3 j r c hr hc).2.no k⟩⟩, h.sm⟩
theorem Cnd.ex {q : Sl} {cs : List (ER × Fo)} {z : Nat} (h : Cnd H0 H q cs z) : Ex (fun _ => True) H q (foL cs) := by
  obtain ⟨R, h1, h2, h3⟩ := h.rows
  have hn := h1.rd.n
  refine ⟨by rw [foL_len]; omega, ?_⟩
  suffices G : ∀ (l : List (ER × Fo)) (i : Nat), cs.drop i = l → FoA (fun _ => True) H q.b i (foL l) from G cs 0 rfl
  intro l
  induction l with
  | nil => intro i _; trivial
  | cons c l ih =>
    intro i hi
    have hc : cs[i]? = some c := by
      have := congrArg (·[0]?) hi
      simpa using this
    have hlt : i < cs.length := (List.getElem?_eq_some_iff.1 hc).1
    have gr : R[i]? = some (R[i]'(by omega)) := List.getElem?_eq_getElem (by omega)
    generalize R[i]'(by omega) = r at gr
    obtain ⟨e, x⟩ := h3 i r c gr hc
    obtain ⟨p, hp, _, cp⟩ := h1.rd.get gr
    have cp : cells H (p.add (i * 10)) (r.1.row r.2) 0 := cp
    rw [e] at cp
    refine ⟨p, r.2, hp, trivial, cp, x.n, x.f.mono fun _ _ => trivial, ih (i + 1) ?_⟩
    have := congrArg (List.drop 1) hi
    simpa [Nat.add_comm] using this

theorem Cnd.z {q : Sl} {cs : List (ER × Fo)} {z z' : Nat} (h : Cnd H0 H q cs z) (hz : H.size ≤ z') : Cnd H0 H q cs z' := by
  obtain ⟨R, h1, h2, h3⟩ := h.rows
  exact ⟨h.k, h.at', ⟨R, h1, h2, fun j r c hr hc => ⟨(h3 j r c hr hc).1, ((h3 j r c hr hc).2.lt).mono fun b hb => ⟨hb.1.1, by have := hb.2; omega⟩⟩⟩, h.sm⟩
/-- The box z is written. -/
theorem Cnd.wr {H' : Hp} {q : Sl} {cs : List (ER × Fo)} {z : Nat} (h : Cnd H0 H q cs z) (k : Kp (fun x => x = z) H H') (hz : H0.size ≤ z) (hq : ¬ q.at z) : Cnd H0 H' q cs z := by
  obtain ⟨R, h1, h2, h3⟩ := h.rows
  exact ⟨h.k.box k hz, h.at', ⟨R, h1.kp k fun b hb hh => hq (by have hh : b = z := hh; subst hh; exact hb), h2, fun j r c hr hc => ⟨(h3 j r c hr hc).1, (h3 j r c hr hc).2.kp k fun b hb => hb.2⟩⟩, h.sm⟩

/-- A condition is put behind them. -/
theorem Cnd.app {q : Sl} {cs : List (ER × Fo)} {r : ER} {kq : Sl} {kd : Fo} {H1 : Hp} {K : Sl → Hp → Prop} {z : Nat} (h : Cnd H0 H q cs z) (hl : cs.length ≤ 100) (e : H1 = Array.push H (.cells #[(.int .i64 r.k), (.int .i64 r.o), (.int .i64 r.vk), (.int .i64 r.vi), (.string r.vs), (.bool r.vb), (.string r.v), (.int .i64 r.p), (.string r.a), (Sl.v kq)] 41))
    (x : Ex (fun b => ¬ q.at b ∧ b ≠ z) H kq kd) (hs : kd.nodes ≤ 4194304) (hK : ∀ q' H', Cnd H0 H' q' (cs ++ [(r, kd)]) z → K q' H') :
    AppendF H1 41 10 120 #[(.int .i64 0), (.int .i64 0), (.int .i64 0), (.int .i64 0), (.string (ByteArray.mk #[])), (.bool false), (.string (ByteArray.mk #[])), (.int .i64 0), (.string (ByteArray.mk #[])), (Sl.v Sl.nil)] q ((Sl.mk (some ⟨H.size, 0, none⟩) 1 1)).b ((Sl.mk (some ⟨H.size, 0, none⟩) 1 1)).n K := by
  obtain ⟨R, h1, h2, h3⟩ := h.rows
  have k1 : Kp No H H1 := (Kp.refl _ _).push' e
  have r1 : Row H1 H.size 41 (exF.f (r, kq)) := Row.new' e
  have s1 := size_push' e
  have s0 := h.k.size
  refine (h1.kp k1 fun _ _ => id).append1 r1 rfl (by omega) (by omega) fun q' H' l' k' g' => ?_
  have stay : ∀ {s : Sl} {f : Fo}, Ex (fun b => ¬ q.at b ∧ b ≠ z) H s f → Ex (fun b => ¬ q'.at b ∧ b ≠ z) H' s f := fun xs => by
    refine ((xs.lt.no k1).kp k' fun b hb => hb.1.1).mono fun b hb => ⟨fun hh => ?_, hb.1.2⟩
    rcases g' b hh with hh | hh
    · exact hb.1.1 hh
    · have := hb.2; omega
  refine hK q' H' ⟨(h.k.no2 k1).trans k' fun b hb => .inr (h.at' b hb), fun b hb => ?_, ⟨R ++ [(r, kq)], l', by simp [h2], fun j y c hy hc => ?_⟩, fun c hc => ?_⟩
  · rcases g' b hb with hb | hb
    · exact h.at' b hb
    · omega
  · by_cases hj : j < R.length
    · rw [List.getElem?_append_left hj] at hy
      rw [List.getElem?_append_left (by omega)] at hc
      exact ⟨(h3 j y c hy hc).1, stay (h3 j y c hy hc).2⟩
    · have hj' : j = R.length := by
        have := (List.getElem?_eq_some_iff.1 hy).1
        simp at this; omega
      subst hj'
      rw [List.getElem?_append_right (Nat.le_refl _), Nat.sub_self] at hy
      rw [h2, List.getElem?_append_right (Nat.le_refl _), Nat.sub_self] at hc
      obtain rfl : (r, kq) = y := by simpa using hy
      obtain rfl : (r, kd) = c := by simpa using hc
      exact ⟨rfl, stay x⟩
  · rcases List.mem_append.1 hc with hc | hc
    · exact h.sm c hc
    · obtain rfl : c = (r, kd) := by simpa using hc
      exact hs
end
end Go.Hw
