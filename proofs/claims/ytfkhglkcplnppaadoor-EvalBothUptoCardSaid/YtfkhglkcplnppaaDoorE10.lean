/- EvalDeep. Own work of this session. -/
import Derived.Test.YtfkhglkcplnppaaDoorE9
set_option linter.unusedVariables false
namespace Go.Hw
open Go

def chR (n : Int) : Nat → ER
  | 0 => litE n
  | _ + 1 => opE 4 1
def chK (n : Int) : Nat → Fo
  | 0 => .nil
  | i + 1 => .cons (chR n i) (chK n i) .nil
def chV (n : Int) : Nat → Int
  | 0 => n
  | i + 1 => IntKind.i64.wrap (0 - chV n i)
def wdR (n : Int) : Nat → ER
  | 0 => litE n
  | _ + 1 => opE 5 3
def wdK (n : Int) : Nat → Fo
  | 0 => .nil
  | i + 1 => .cons (wdR n i) (wdK n i) (.cons (wdR n i) (wdK n i) .nil)
def wdV (n : Int) : Nat → Int
  | 0 => n
  | i + 1 => IntKind.i64.wrap (wdV n i + wdV n i)
def zM : EnvM := ⟨[], [], E, zeroE, []⟩

theorem fits_num (a : Int) (l : List Int) : fitsP 1 (numV a) (l.map numV) = true := by
  unfold fitsP
  rw [if_pos (by rw [List.all_eq_true]; intro x hx; obtain ⟨y, _, rfl⟩ := List.mem_map.1 hx; rfl)]
  rfl
theorem all_num (l : List Int) : (l.map numV).all vld = true := by
  rw [List.all_eq_true]; intro x hx; obtain ⟨y, _, rfl⟩ := List.mem_map.1 hx; exact vld_num y
theorem un_neg (a : Int) : unP 1 (numV a) = (numV (IntKind.i64.wrap (0 - a)), 0) := by
  have h : refusP 1 1 2 (numV a) [numV a] = 0 := by
    unfold refusP
    rw [if_neg (by omega), if_neg (by omega), if_pos (show [numV a].all vld = true from all_num [a]), if_pos (show fitsP (wantOf 1) (numV a) [numV a] = true from fits_num a [a])]
  unfold unP
  rw [h, if_neg (by simp), if_pos rfl]
  rfl
theorem bin_add (a b : Int) : binP 3 (numV a) (numV b) = (numV (IntKind.i64.wrap (a + b)), 0) := by
  have h : refusP 3 3 13 (numV a) [numV a, numV b] = 0 := by
    unfold refusP
    rw [if_neg (by omega), if_neg (by omega), if_pos (show [numV a, numV b].all vld = true from all_num [a, b]), if_pos (show fitsP (wantOf 3) (numV a) [numV a, numV b] = true from fits_num a [a, b])]
  unfold binP
  rw [h, if_neg (by simp), if_pos rfl]
  rfl
theorem ev_lit (m : EnvM) (n : Int) : evalP m (litE n) .nil = (numV n, 0) := by
  unfold evalP ev1
  rw [if_pos (show (litE n).k = 1 from rfl)]
  exact if_pos (vld_num' n)
theorem ev_neg {m : EnvM} {r : ER} {k : Fo} {a : Int} (h : evalP m r k = (numV a, 0)) : evalP m (opE 4 1) (.cons r k .nil) = (numV (IntKind.i64.wrap (0 - a)), 0) := by
  have e : evK m (.cons r k .nil) = ([numV a], 0) := by
    rw [evK, show ev1 m r k.len (evK m k) = (numV a, 0) from h, if_neg (fun h => h rfl)]; rfl
  unfold evalP
  rw [e]
  exact un_neg a
theorem ev_add {m : EnvM} {r r' : ER} {k k' : Fo} {a b : Int} (h : evalP m r k = (numV a, 0)) (h' : evalP m r' k' = (numV b, 0)) : evalP m (opE 5 3) (.cons r k (.cons r' k' .nil)) = (numV (IntKind.i64.wrap (a + b)), 0) := by
  have e : evK m (.cons r k (.cons r' k' .nil)) = ([numV a, numV b], 0) := by
    rw [evK, show ev1 m r k.len (evK m k) = (numV a, 0) from h, if_neg (fun h => h rfl), evK, show ev1 m r' k'.len (evK m k') = (numV b, 0) from h', if_neg (fun h => h rfl)]; rfl
  unfold evalP
  rw [e]
  exact bin_add a b
theorem ev_ch (m : EnvM) (n : Int) : ∀ i, evalP m (chR n i) (chK n i) = (numV (chV n i), 0)
  | 0 => ev_lit m n
  | i + 1 => ev_neg (ev_ch m n i)
theorem ev_wd (m : EnvM) (n : Int) : ∀ i, evalP m (wdR n i) (wdK n i) = (numV (wdV n i), 0)
  | 0 => ev_lit m n
  | i + 1 => ev_add (ev_wd m n i) (ev_wd m n i)
theorem ch_nodes (n : Int) : ∀ i, (chK n i).nodes = i
  | 0 => rfl
  | i + 1 => by simp only [chK, Fo.nodes, ch_nodes n i]; omega
theorem ch_deep (n : Int) : ∀ (i : Nat) (d : Int), 0 ≤ d → (chK n (i + 1)).deep d = d + i
  | 0, d, hd => by simp only [chK, Fo.deep]; omega
  | i + 1, d, hd => by
    have := ch_deep n i (d + 1) (by omega)
    simp only [chK, Fo.deep] at this ⊢
    omega
theorem wd_nodes (n : Int) : ∀ i, (wdK n i).nodes + 2 = 2 ^ (i + 1)
  | 0 => rfl
  | i + 1 => by
    have := wd_nodes n i
    simp only [wdK, Fo.nodes, Nat.pow_succ] at this ⊢
    omega
theorem wd_deep (n : Int) : ∀ (i : Nat) (d : Int), 0 ≤ d → (wdK n i).deep d ≤ d + i
  | 0, d, hd => by simp only [wdK, Fo.deep]; omega
  | i + 1, d, hd => by
    have := wd_deep n i (d + 1) (by omega)
    simp only [wdK, Fo.deep]
    omega
theorem top_ok {m : EnvM} {r : ER} {k : Fo} {v : VT × Int} (h : evalP m r k = v) (hd : k.deep 2 ≤ 32) (hn : k.nodes ≤ 255) : topP m r k = v := by
  unfold topP
  rw [if_neg (by omega), if_neg (by omega), h]
theorem top_ch (m : EnvM) (n : Int) : topP m (chR n 31) (chK n 31) = (numV (chV n 31), 0) :=
  top_ok (ev_ch m n 31) (by have : (chK n 31).deep 2 = 2 + (30 : Nat) := ch_deep n 30 2 (by omega); omega) (by rw [ch_nodes]; omega)
theorem top_deep (m : EnvM) (n : Int) : topP m (chR n 32) (chK n 32) = (zeroV, 71) := by
  have : (chK n 32).deep 2 = 2 + (31 : Nat) := ch_deep n 31 2 (by omega)
  unfold topP
  rw [if_pos (by omega)]
theorem top_wd (m : EnvM) (n : Int) : topP m (wdR n 7) (wdK n 7) = (numV (wdV n 7), 0) :=
  top_ok (ev_wd m n 7) (by have := wd_deep n 7 2 (by omega); omega) (by have := wd_nodes n 7; omega)
def moK (n : Int) : Fo := .cons (wdR n 7) (wdK n 7) (.cons (litE 1) .nil .nil)
theorem mo_nodes (n : Int) : (moK n).nodes = 256 := by
  have := wd_nodes n 7
  simp only [moK, Fo.nodes] at this ⊢
  omega
theorem top_mo (m : EnvM) (n : Int) : topP m (opE 5 3) (moK n) = (zeroV, 71) := by
  have := mo_nodes n
  unfold topP
  by_cases h : 32 < max 1 ((moK n).deep 2)
  · rw [if_pos h]
  · rw [if_neg h, if_pos (by omega)]
theorem negw {x : Int} (h1 : -9223372036854775808 ≤ x) (h2 : x ≤ 9223372036854775807) : IntKind.i64.wrap (0 - x) = if x = -9223372036854775808 then x else -x := by
  by_cases h : x = -9223372036854775808
  · subst h; rfl
  · rw [if_neg h, wr (by omega) (by omega)]; omega
theorem chV_two {n : Int} (h1 : -9223372036854775808 ≤ n) (h2 : n ≤ 9223372036854775807) : ∀ i, chV n (2 * i) = n ∧ chV n (2 * i + 1) = IntKind.i64.wrap (0 - n)
  | 0 => ⟨rfl, rfl⟩
  | i + 1 => by
    obtain ⟨a, b⟩ := chV_two h1 h2 i
    have c : chV n (2 * (i + 1)) = n := by
      show IntKind.i64.wrap (0 - chV n (2 * i + 1)) = n
      rw [b, negw h1 h2]
      split
      · rename_i e; subst e; rfl
      · rw [wr (by omega) (by omega)]; omega
    refine ⟨c, ?_⟩
    show IntKind.i64.wrap (0 - chV n (2 * (i + 1))) = _
    rw [c]

section
variable {H : Hp}
theorem zEnv : EnvH H Sl.nil Sl.nil E E 0 Sl.nil Sl.nil zM :=
  ⟨RdL.nil sF H, by decide, ⟨[], RdL.nil slF H, rfl, fun i s e hs => by simp at hs⟩, rfl, rfl, rfl, RdL.nil vF H, ⟨by decide, [], RdL.nil tF H, rfl, fun i r t hr => by simp at hr⟩⟩
theorem FoA.mono {A A' : Nat → Prop} (hA : ∀ b, A b → A' b) : ∀ {f : Fo} {p : Option Addr} {i : Nat}, FoA A H p i f → FoA A' H p i f
  | .nil, _, _, _ => trivial
  | .cons r k s, p, i, ⟨a, q, e, hb, hc, hn, h1, h2⟩ => ⟨a, q, e, hA _ hb, hc, hn, h1.mono hA, h2.mono hA⟩
theorem FoA.lt {A : Nat → Prop} : ∀ {f : Fo} {p : Option Addr} {i : Nat}, FoA A H p i f → FoA (fun b => A b ∧ b < H.size) H p i f
  | .nil, _, _, _ => trivial
  | .cons r k s, p, i, ⟨a, q, e, hb, hc, hn, h1, h2⟩ => by
    have := cells_block hc (fun h => by cases h)
    rw [ablk] at this
    exact ⟨a, q, e, ⟨hb, this⟩, hc, hn, h1.lt, h2.lt⟩
theorem Ex.mono {A A' : Nat → Prop} {q : Sl} {kd : Fo} (h : Ex A H q kd) (hA : ∀ b, A b → A' b) : Ex A' H q kd := ⟨h.n, h.f.mono hA⟩
theorem Ex.lt {A : Nat → Prop} {q : Sl} {kd : Fo} (h : Ex A H q kd) : Ex (fun b => A b ∧ b < H.size) H q kd := ⟨h.n, h.f.lt⟩
end
end Go.Hw
