/- EvalPlaces: plain. Own work of this session. -/
import Derived.Test.YtfkhglkcplnppaaDoorE14
set_option linter.unusedVariables false
namespace Go.Hw
open Go

def plM (NS : List Int) (now time : Int) (it : ByteArray) : EnvM := ⟨[S_b, S_a, S_b], [evsF 0 NS, [evM 7 70 S_a], [evM 8 80 S_c]], it, evM time now S_n, tyT⟩
theorem pfi_a : ([S_b, S_a, S_b].findIdx? fun x => seq S_a x) = some 1 := by kernel_rfl
theorem pfi_b : ([S_b, S_a, S_b].findIdx? fun x => seq S_b x) = some 0 := by kernel_rfl
theorem pfi_z : ([S_b, S_a, S_b].findIdx? fun x => seq S_z x) = none := by kernel_rfl
section
variable {NS : List Int} {now time : Int} {it : ByteArray}
theorem pb_a : boundP (plM NS now time it) S_a = some [evM 7 70 S_a] := by unfold boundP plM; simp only [pfi_a]; rfl
theorem pb_b : boundP (plM NS now time it) S_b = some (evsF 0 NS) := by unfold boundP plM; simp only [pfi_b]; rfl
theorem pb_z : boundP (plM NS now time it) S_z = none := by unfold boundP plM; simp only [pfi_z]; rfl
theorem pt_b : takeP (plM NS now time S_b) S_b = true := by
  have h : seq S_b E = false := by kernel_rfl
  unfold takeP; rw [h]; exact seq_self _
theorem pt_a : takeP (plM NS now time S_b) S_a = false := by
  have h : seq S_a E = false := by kernel_rfl
  have h2 : seq S_a S_b = false := by kernel_rfl
  unfold takeP; rw [h]; exact h2
theorem pt_e : takeP (plM NS now time E) S_b = false := by
  have h : seq S_b E = false := by kernel_rfl
  unfold takeP; rw [h]; exact h

/-- A reference to an event that is there; to none. -/
theorem ref_ok {m : EnvM} {v a : ByteArray} {p : Int} {e : EvM} {n : Int} (h : eventP m v p = (e, 0)) (ha : attrP m.types e a = (numV n, 0)) : topP m (refE v p a) .nil = (numV n, 0) := by
  rw [top_ref, h, if_neg (fun h => h rfl)]; exact ha
theorem ref_no {m : EnvM} {v a : ByteArray} {p : Int} {e : EvM} {n : Int} (h : eventP m v p = (e, n)) (hn : n ≠ 0) : topP m (refE v p a) .nil = (zeroV, n) := by
  rw [top_ref, h, if_pos hn]
theorem ev2 {m : EnvM} {v : ByteArray} (h : takeP m v = true) : eventP m v 2 = (m.now, 0) := by unfold eventP; rw [if_pos rfl, if_pos h]
theorem ev2n {m : EnvM} {v : ByteArray} (h : takeP m v = false) : eventP m v 2 = (zeroE, 110) := by unfold eventP; rw [if_pos rfl, if_neg (by rw [h]; decide)]
theorem ev3n {m : EnvM} {v : ByteArray} (h : takeP m v = false) : eventP m v 3 = (zeroE, 110) := by unfold eventP; rw [if_neg (by decide), if_pos rfl, if_neg (by rw [h]; decide)]
theorem ev3 {m : EnvM} {v : ByteArray} (h : takeP m v = true) : eventP m v 3 = atP ((boundP m v).getD []) (((boundP m v).getD []).length - 1) := by unfold eventP; rw [if_neg (by decide), if_pos rfl, if_pos h]
theorem ev5 (m : EnvM) (v : ByteArray) : eventP m v 5 = atP ((boundP m v).getD []) (((boundP m v).getD []).length - 1) := by unfold eventP; rw [if_neg (by decide), if_neg (by decide), if_pos rfl]
theorem ev1' (m : EnvM) (v : ByteArray) : eventP m v 1 = atP ((boundP m v).getD []) 0 := by unfold eventP; rw [if_neg (by decide), if_neg (by decide), if_neg (by decide), if_pos rfl]
theorem ev4 (m : EnvM) (v : ByteArray) : eventP m v 4 = atP ((boundP m v).getD []) 0 := by unfold eventP; rw [if_neg (by decide), if_neg (by decide), if_neg (by decide), if_neg (by decide), if_pos rfl]

theorem q_now : topP (plM NS now time S_b) (refE S_b 2 S_x) .nil = (numV now, 0) := ref_ok (ev2 pt_b) (attr_x time now S_n)
theorem q_time : topP (plM NS now time S_b) (refE S_b 2 S_time) .nil = (numV time, 0) := ref_ok (ev2 pt_b) (attr_time _ _)
theorem e_a1 : eventP (plM NS now time it) S_a 1 = (evM 7 70 S_a, 0) := by rw [ev1', pb_a]; rfl
theorem e_a5 : eventP (plM NS now time it) S_a 5 = (evM 7 70 S_a, 0) := by rw [ev5, pb_a]; rfl
theorem q_a1 : topP (plM NS now time S_b) (refE S_a 1 S_x) .nil = (numV 70, 0) := ref_ok e_a1 (attr_x 7 70 S_a)
theorem q_a5 : topP (plM NS now time S_b) (refE S_a 5 S_time) .nil = (numV 7, 0) := ref_ok e_a5 (attr_time _ _)
theorem q_a2 : topP (plM NS now time S_b) (refE S_a 2 S_x) .nil = (zeroV, 110) := ref_no (ev2n pt_a) (by decide)
theorem q_a3 : topP (plM NS now time S_b) (refE S_a 3 S_x) .nil = (zeroV, 110) := ref_no (ev3n pt_a) (by decide)
theorem q_z1 : topP (plM NS now time S_b) (refE S_z 1 S_x) .nil = (zeroV, 110) := ref_no (e := zeroE) (by rw [ev1', pb_z]; rfl) (by decide)
theorem q_a1y : topP (plM NS now time S_b) (refE S_a 1 S_y) .nil = (zeroV, 82) := by
  rw [top_ref, e_a1, if_neg (fun h => h rfl)]
  exact attr_none 7 70 S_a (by kernel_rfl) (by kernel_rfl) (by kernel_rfl)
theorem e_nil {p : Int} (hp : p = 1 ∨ p = 4 ∨ p = 5 ∨ p = 3) : eventP (plM [] now time S_b) S_b p = (zeroE, 110) := by
  rcases hp with rfl | rfl | rfl | rfl
  · rw [ev1', pb_b]; rfl
  · rw [ev4, pb_b]; rfl
  · rw [ev5, pb_b]; rfl
  · rw [ev3 pt_b, pb_b]; rfl
theorem q_nil {p : Int} (hp : p = 1 ∨ p = 4 ∨ p = 5 ∨ p = 3) (hn : NS = []) : topP (plM NS now time S_b) (refE S_b p S_x) .nil = (zeroV, 110) := by
  subst hn; exact ref_no (e_nil hp) (by decide)
theorem e_first {x p : Int} (hp : p = 1 ∨ p = 4) (hx : NS[0]? = some x) : eventP (plM NS now time it) S_b p = (evM 0 x S_s, 0) := by
  have e : atP (evsF 0 NS) 0 = (evM 0 x S_s, 0) := by unfold atP; rw [evsF_get, hx]; rfl
  rcases hp with rfl | rfl
  · rw [ev1', pb_b]; exact e
  · rw [ev4, pb_b]; exact e
theorem e_last {x : Int} {k : Nat} (hk : k + 1 = NS.length) (hx : NS[k]? = some x) : atP (evsF 0 NS) ((evsF 0 NS).length - 1) = (evM (k : Int) x S_s, 0) := by
  unfold atP
  rw [evsF_len, ← hk, Nat.add_sub_cancel, evsF_get, hx]
  simp
theorem q_first {x p : Int} (hp : p = 1 ∨ p = 4) (hx : NS[0]? = some x) : topP (plM NS now time it) (refE S_b p S_x) .nil = (numV x, 0) := ref_ok (e_first hp hx) (attr_x 0 x S_s)
theorem q_last5 {x : Int} {k : Nat} (hk : k + 1 = NS.length) (hx : NS[k]? = some x) : topP (plM NS now time it) (refE S_b 5 S_x) .nil = (numV x, 0) :=
  ref_ok (e := evM (k : Int) x S_s) (by rw [ev5, pb_b]; exact e_last hk hx) (attr_x _ x S_s)
theorem q_last5t {x : Int} {k : Nat} (hk : k + 1 = NS.length) (hx : NS[k]? = some x) : topP (plM NS now time it) (refE S_b 5 S_time) .nil = (numV (k : Int), 0) :=
  ref_ok (e := evM (k : Int) x S_s) (by rw [ev5, pb_b]; exact e_last hk hx) (attr_time _ _)
theorem q_last3 {x : Int} {k : Nat} (hk : k + 1 = NS.length) (hx : NS[k]? = some x) : topP (plM NS now time S_b) (refE S_b 3 S_x) .nil = (numV x, 0) :=
  ref_ok (e := evM (k : Int) x S_s) (by rw [ev3 pt_b, pb_b]; exact e_last hk hx) (attr_x _ x S_s)
theorem q_e2 : topP (plM NS now time E) (refE S_b 2 S_x) .nil = (zeroV, 110) := ref_no (ev2n pt_e) (by decide)
theorem q_e3 : topP (plM NS now time E) (refE S_b 3 S_x) .nil = (zeroV, 110) := ref_no (ev3n pt_e) (by decide)
end
end Go.Hw
