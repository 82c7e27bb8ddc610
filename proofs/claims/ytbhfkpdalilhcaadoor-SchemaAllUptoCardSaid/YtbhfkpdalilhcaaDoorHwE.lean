/- Rules for append, slicing, copy. Own work of this session. -/
import Derived.Test.YtbhfkpdalilhcaaDoorHwD
namespace Go.Hw
open Go

/-- A slice's value. -/
structure Sl where
  b : Option Addr
  n : Nat
  c : Nat
def Sl.v (s : Sl) : Value := .slice s.b s.n s.c
def Sl.nil : Sl := ⟨none, 0, 0⟩

def rds (H : Hp) (b : Option Addr) (l : List Value) : Prop := match b with | some a => cells H a l 0 | none => l = []
def zs (z : Array Value) (m : Nat) : List Value := (Builtin.zeroCells z m).toList

/-- What stands behind 's = append(s, x...)'. -/
def AppendF (H : Hp) (e k b : Nat) (z : Array Value) (s : Sl) (xb : Option Addr) (xn : Nat) (K : Sl → Hp → Prop) : Prop :=
  ∃ olds news : List Value, olds.length = s.n * k ∧ rds H s.b olds ∧ news.length = xn * k ∧ rds H xb news ∧ (∀ v ∈ news, one v = true) ∧ (s.n + xn) * b ≤ 140737488355328 ∧ s.n + xn ≤ 9223372036854775807 ∧
    (s.n + xn ≤ s.c → (∀ a, s.b = some a → mayw H (a.add (s.n * k)) news.length 0) ∧ K ⟨s.b, s.n + xn, s.c⟩ (match s.b with | some a => sets H (a.add (s.n * k)) news 0 | none => H)) ∧
    (s.c < s.n + xn → ∀ cap, s.n + xn ≤ cap → cap ≤ 9223372036854775807 → K ⟨some ⟨H.size, 0, none⟩, s.n + xn, cap⟩ (H.push (.cells (olds ++ news ++ zs z (cap - (s.n + xn))).toArray e)))

section
variable {P : Program} {w0 : World} {n : Nat} {ρ : Env} {H : Hp} {d : Option Nat} {ty : TypeId} {pos : String} {af : Array Edge} {g : Option (Nat × Bool)}

theorem run_firstCells {w : World} {k m : Nat} {b : Option Addr} {m' c : Nat} {l : List Value} (hl : l.length = m * k) (hr : rds w.heap b l) : (Builtin.firstCells k m (.slice b m' c)).run P w = .ok l.toArray w := by
  cases b with
  | none => simp only [rds] at hr; subst hr; simp [Builtin.firstCells]
  | some a =>
    have := run_loadCells_list (P := P) w a l (fun j v hj => by have := cells_iff.1 hr j v hj; rwa [Nat.zero_add] at this)
    simp only [Builtin.firstCells, ← hl, this]

theorem HOp.append {s x : Operand} {t u e : TypeId} {i : TypeInfo} {z : Value} {e2 : TypeId} {k b : Nat} {sl : Sl} {xb : Option Addr} {xn xc : Nat} {K : Sl → Hp → Prop}
    (hu : Ru P (underlying t) (.slice e)) (hux : Ru P (underlying u) (.slice e2)) (hi : Ru P (typeInfo e) i) (hk : i.size = k) (hb : i.bytes = b) (hz : Ru P (zeroValue e) z)
    (hs : ρ.ev s = sl.v) (hx : ρ.ev x = .slice xb xn xc) (h : AppendF H e k b z.cells sl xb xn K) :
    HOp P w0 n ⟨d, .call ⟨.builtin .append, #[s, x], #[t, u]⟩, ty, pos, af, g⟩ ρ H fun v H' => ∃ r : Sl, v = r.v ∧ K r H' := by
  intro ac w hsim ho hh K' Q' hk'
  subst hh
  obtain ⟨olds, news, l1, r1, l2, r2, hone, hbytes, h63, hin, hout⟩ := h
  subst hk hb
  unfold Oper.wp
  rw [hsim.eval]
  have f1 := run_firstCells (P := P) (w := w) (k := i.size) (m := sl.n) (m' := sl.n) (c := sl.c) l1 r1
  have f2 := run_firstCells (P := P) (w := w) (k := i.size) (m := xn) (m' := xn) (c := xc) l2 r2
  have hsz : (sizeOf e).run P w = .ok i.size w := by simp [sizeOf, hi w]
  have hsl : ρ.ev s = .slice sl.b sl.n sl.c := hs
  by_cases hroom : sl.n + xn ≤ sl.c
  · obtain ⟨hm, hK⟩ := hin hroom
    cases hsb : sl.b with
    | none =>
      have hr : (Builtin.append_ #[t, u] ty #[.slice sl.b sl.n sl.c, .slice xb xn xc]).run P w = .ok (.slice sl.b (sl.n + xn) sl.c) w := by
        simp [Builtin.append_, hu w, hux w, hsz, Builtin.lenOf, hroom, f2, hsb]
      simp only [execOp, resolve, Sem.run_bind, Sem.run_pure, Result.andThen_ok, List.map_toArray, List.map_cons, List.map_nil, hsl, hx, invoke, builtin, hr]
      rw [Oper.upon_value]
      exact hk' _ w (ho.of_eq rfl rfl rfl (KeepsF.refl _)) ⟨⟨sl.b, sl.n + xn, sl.c⟩, rfl, by simpa [hsb] using hK⟩
    | some a =>
      obtain ⟨w', e1, e2, e3, e4, e5⟩ := run_storeCells (P := P) (a := a.add (sl.n * i.size)) news 0 w hone (hm a hsb)
      have hr : (Builtin.append_ #[t, u] ty #[.slice sl.b sl.n sl.c, .slice xb xn xc]).run P w = .ok (.slice sl.b (sl.n + xn) sl.c) w' := by
        simp [Builtin.append_, hu w, hux w, hsz, Builtin.lenOf, hroom, f2, hsb, e1]
      simp only [execOp, resolve, Sem.run_bind, Sem.run_pure, Result.andThen_ok, List.map_toArray, List.map_cons, List.map_nil, hsl, hx, invoke, builtin, hr]
      rw [Oper.upon_value]
      exact hk' _ w' (ho.of_eq e3 e4 e5 (by rw [e2]; exact keepsF_sets ..)) ⟨⟨sl.b, sl.n + xn, sl.c⟩, rfl, by simpa [hsb, e2] using hK⟩
  · have hfit := growslice_fits (need := sl.n + xn) (old := sl.c) (bytes := i.bytes) (by omega) hbytes
    have hfit' : ¬ (Builtin.nextslicecap (sl.n + xn) sl.c * i.bytes > 2 ^ 48) := by
      have : (2 : Nat) ^ 48 = 281474976710656 := by decide
      omega
    have h64 : ¬ (9223372036854775807 < (↑sl.n + ↑xn : Int)) := by omega
    have hmod := Nat.mod_lt (w.tape w.drawn (.appendCap (sl.n + xn) sl.c e)) (show 0 < 9223372036854775808 - (sl.n + xn) by omega)
    have hask : ∀ (m : Nat) (w : World), (askRoom m).run P w = .ok () w := by
      intro m w; unfold askRoom; split <;> simp [mark, Sem.run]
    have f1' := run_firstCells (P := P) (w := w.drew) (k := i.size) (m := sl.n) (m' := sl.n) (c := sl.c) l1 r1
    have f2' := run_firstCells (P := P) (w := w.drew) (k := i.size) (m := xn) (m' := xn) (c := xc) l2 r2
    have hr : ∃ cap, sl.n + xn ≤ cap ∧ cap ≤ 9223372036854775807 ∧ (Builtin.append_ #[t, u] ty #[.slice sl.b sl.n sl.c, .slice xb xn xc]).run P w =
        .ok (.slice (some ⟨w.heap.size, 0, none⟩) (sl.n + xn) cap) (w.drew.alloc (.cells (olds ++ news ++ zs z.cells (cap - (sl.n + xn))).toArray e)) := by
      refine ⟨sl.n + xn + w.tape w.drawn (.appendCap (sl.n + xn) sl.c e) % (9223372036854775808 - (sl.n + xn)), by omega, by omega, ?_⟩
      simp only [Builtin.append_, List.getElem?_toArray, List.getElem?_cons_zero, List.getElem?_cons_succ, Sem.run_bind, hu w, hux w, Result.andThen_ok, hsz, Builtin.lenOf, Sem.run_pure, Bool.false_eq_true, if_false, Sem.run_ite]
      simp [hroom, h64, hi w, hi w.drew, hfit', Question.forced, Question.cut, choose, Sem.run, hask, f1', f2', newRow, newObj, hz w.drew, zs]
      have e1 : ∀ Z : Array Value, olds.toArray ++ (news.toArray ++ Z) = (olds ++ (news ++ Z.toList)).toArray := fun Z => by apply Array.ext'; simp
      rw [e1]
    obtain ⟨cap, hcap1, hcap2, hr⟩ := hr
    simp only [execOp, resolve, Sem.run_bind, Sem.run_pure, Result.andThen_ok, List.map_toArray, List.map_cons, List.map_nil, hsl, hx, invoke, builtin, hr]
    rw [Oper.upon_value]
    exact hk' _ _ (ho.of_eq rfl rfl rfl (keepsF_push ..)) ⟨_, rfl, hout (by omega) cap hcap1 hcap2⟩

/-! ### slicing -/
/-- A bound of a slice expression, where it is left out: another number. -/
def bnd (o : Option Value) (dflt x : Nat) : Prop := match o with | none => x = dflt | some v => ∃ k, ∃ y : Int, v = .int k y ∧ 0 ≤ y ∧ y.toNat = x

theorem sliceBound_ok {w : World} {k : IntKind} {y : Int} {m : Nat} {code : BoundsCode} (h0 : 0 ≤ y) (h1 : y.toNat ≤ m) : (Instr.sliceBound (.int k y) m code).run P w = .ok y.toNat w :=
  run_sliceBound w k y m code h0 (by omega)

theorem HVal.slice {t e : TypeId} {x : Operand} {lo hi mx : Option Operand} {k : Nat} {sl : Sl} (l h m : Nat) (hu : Ru P (underlying t) (.slice e)) (hk : Ru P (sizeOf e) k) (hx : ρ.ev x = sl.v)
    (hl : bnd (lo.map ρ.ev) 0 l) (hh : bnd (hi.map ρ.ev) sl.n h) (hm : bnd (mx.map ρ.ev) sl.c m) (hboth : mx.isSome = true → hi.isSome = true) (h1 : l ≤ h) (h2 : h ≤ m) (h3 : m ≤ sl.c) :
    HVal P ⟨d, .slice t x lo hi mx, ty, pos, af, g⟩ ρ H (Sl.v ⟨if m = l then sl.b else sl.b.map (·.add (l * k)), h - l, m - l⟩) := fun w _ => by
  have hx' : ρ.ev x = .slice sl.b sl.n sl.c := hx
  have key : (Instr.sliceBounds true sl.n sl.c (lo.map ρ.ev) (hi.map ρ.ev) (mx.map ρ.ev)).run P w = .ok (l, h, m) w := by
    cases lo <;> cases hi <;> cases mx <;> simp only [Option.map_none, Option.map_some, bnd] at hl hh hm
    all_goals first
      | (simp at hboth; done)
      | skip
    all_goals (try obtain ⟨kl, yl, el, hl0, hl1⟩ := hl)
    all_goals (try obtain ⟨kh, yh, eh, hh0, hh1⟩ := hh)
    all_goals (try obtain ⟨km, ym, em, hm0, hm1⟩ := hm)
    all_goals (try subst hl)
    all_goals (try subst hh)
    all_goals (try subst hm)
    all_goals (try subst hl1)
    all_goals (try subst hh1)
    all_goals (try subst hm1)
    all_goals simp only [Option.map_none, Option.map_some, Instr.sliceBounds, *, Sem.run_bind, Sem.run_pure, Result.andThen_ok, sliceBound_ok, Option.isSome_some, Option.isSome_none]
  simp only [execOp, Instr.sliceAt, Sem.run_bind, hu w, Result.andThen_ok, Instr.slice, hx', key, hk w, Sem.run_pure, Sl.v]

end
end Go.Hw
