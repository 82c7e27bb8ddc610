/- Rules for operations that write or make memory. Own work of this session. -/
import Derived.Test.YtbhfkpdalilhcaaDoorHwC
namespace Go.Hw
open Go

/-! ## heaps, more -/
def one : Value → Bool
  | .agg _ | .tuple _ => false
  | _ => true

def sets (H : Hp) (a : Addr) : List Value → Nat → Hp
  | [], _ => H
  | v :: l, i => sets (setc H (a.add i) v) a l (i + 1)

/-- Cells that may be written. -/
def mayw (H : Hp) (a : Addr) : Nat → Nat → Prop
  | 0, _ => True
  | m + 1, i => ((cell H (a.add i)).isSome = true ∧ frz H (a.add i) = false) ∧ mayw H a m (i + 1)

theorem cell_setc_isSome (H : Hp) (a b : Addr) (v : Value) : (cell (setc H a v) b).isSome = (cell H b).isSome := by
  unfold cell setc
  rw [Array.getElem?_modify]
  by_cases h : a.block = b.block
  · simp only [h, if_true]
    cases H[b.block]? with
    | none => rfl
    | some o =>
      cases o <;> simp
      · rename_i c e f
        by_cases hs : b.spot.isSome = true
        · simp [hs]
        · simp only [hs]
          by_cases h2 : a.spot.isSome = true
          · simp [h2]
          · simp only [h2]
            by_cases h3 : b.off < c.size
            · simp [h3]
            · simp [h3]
  · simp only [if_neg h]

theorem frz_setc (H : Hp) (a b : Addr) (v : Value) : frz (setc H a v) b = frz H b := by
  unfold frz setc
  rw [Array.getElem?_modify]
  by_cases h : a.block = b.block
  · simp only [h, if_true]
    cases H[b.block]? with
    | none => rfl
    | some o => cases o <;> simp
  · simp only [if_neg h]

theorem keepsF_sets (H : Hp) (a : Addr) (l : List Value) (i : Nat) : KeepsF H (sets H a l i) := by
  induction l generalizing H i with
  | nil => exact KeepsF.refl _
  | cons v l ih => exact (keepsF_setc H (a.add i) v).trans (ih _ _)
theorem frz_sets (H : Hp) (a b : Addr) (l : List Value) (i : Nat) : frz (sets H a l i) b = frz H b := by
  induction l generalizing H i with
  | nil => rfl
  | cons v l ih => rw [sets, ih, frz_setc]

theorem mayw_setc {H : Hp} {a b : Addr} {v : Value} : ∀ {m i : Nat}, mayw H b m i → mayw (setc H a v) b m i
  | 0, _, _ => trivial
  | m + 1, i, ⟨⟨h1, h2⟩, h3⟩ => ⟨⟨by rw [cell_setc_isSome]; exact h1, by rw [frz_setc]; exact h2⟩, mayw_setc h3⟩

theorem run_store1 {P : Program} {w : World} {a : Addr} {v : Value} {m : Mode} (hv : one v = true) (hc : (cell w.heap a).isSome = true) (hf : frz w.heap a = false) : (store a v m).run P w = .ok () (w.setCell a v) := by
  obtain ⟨u, hu⟩ := Option.isSome_iff_exists.1 hc
  have hu' : w.cell? a = some u := hu
  have hf' : w.frozen? a = false := hf
  cases v <;> simp [one] at hv <;> simp [store, Sem.run, hu', hf']

theorem run_storeCells {P : Program} {a : Addr} : ∀ (l : List Value) (i : Nat) (w : World), (∀ v ∈ l, one v = true) → mayw w.heap a l.length i →
    ∃ w', (storeCells a l i).run P w = .ok () w' ∧ w'.heap = sets w.heap a l i ∧ w'.tape = w.tape ∧ w'.os = w.os ∧ w'.output = w.output
  | [], i, w, _, _ => ⟨w, by simp [storeCells], rfl, rfl, rfl, rfl⟩
  | v :: l, i, w, h1, ⟨⟨h2, h3⟩, h4⟩ => by
    obtain ⟨w', e1, e2, e3, e4, e5⟩ := run_storeCells (P := P) (a := a) l (i + 1) (w.setCell (a.add i) v) (fun u hu => h1 u (by simp [hu])) (mayw_setc h4)
    refine ⟨w', ?_, e2, e3, e4, e5⟩
    simp [storeCells, run_store1 (P := P) (m := .plain) (h1 v (by simp)) h2 h3, e1]

section
variable {P : Program} {w0 : World} {n : Nat} {ρ : Env} {H : Hp} {d : Option Nat} {ty : TypeId} {pos : String} {af : Array Edge} {g : Option (Nat × Bool)}

theorem add_zero (a : Addr) : a.add 0 = a := rfl

theorem HOp.store1 {t : TypeId} {x y : Operand} {a : Addr} {v : Value} (hz : Ru P (sizeOf t) 1) (hx : ρ.ev x = .pointer (some a)) (hy : ρ.ev y = v) (hv : one v = true)
    (hc : (cell H a).isSome = true) (hf : frz H a = false) : HOp P w0 n ⟨d, .store t x y, ty, pos, af, g⟩ ρ H fun _ H' => H' = setc H a v := by
  intro ac w hs ho hh K' Q' hk
  subst hh
  have hr := run_store1 (P := P) (w := w) (m := .plain) hv hc hf
  have hvc : v.cells = #[v] := by cases v <;> simp [one] at hv <;> rfl
  unfold Oper.wp
  rw [hs.eval]
  simp [execOp, Instr.storeAt, Instr.sureAddr, storeVar, hx, hy, hvc, hz w, storeCells, add_zero, hr]
  rw [Oper.upon_skip]
  exact hk undef (w.setCell a v) (ho.of_eq rfl rfl rfl (keepsF_setc w.heap a v)) rfl

theorem HOp.storeN {t : TypeId} {x y : Operand} {a : Addr} {l : List Value} (hz : Ru P (sizeOf t) l.length) (hx : ρ.ev x = .pointer (some a)) (hy : ρ.ev y = .agg l.toArray) (hv : ∀ v ∈ l, one v = true)
    (hc : mayw H a l.length 0) : HOp P w0 n ⟨d, .store t x y, ty, pos, af, g⟩ ρ H fun _ H' => H' = sets H a l 0 := by
  intro ac w hs ho hh K' Q' hk
  subst hh
  obtain ⟨w', e1, e2, e3, e4, e5⟩ := run_storeCells (P := P) (a := a) l 0 w hv hc
  unfold Oper.wp
  rw [hs.eval]
  simp [execOp, Instr.storeAt, Instr.sureAddr, storeVar, hx, hy, Value.cells, hz w, e1]
  rw [Oper.upon_skip]
  exact hk undef w' (ho.of_eq e3 e4 e5 (by rw [e2]; exact keepsF_sets ..)) e2

/-- A new block. -/
theorem HOp.alloc {t : TypeId} {z : Value} (hz : Ru P (zeroValue t) z) : HOp P w0 n ⟨d, .alloc t, ty, pos, af, g⟩ ρ H fun v H' => v = .pointer (some ⟨H.size, 0, none⟩) ∧ H' = H.push (.cells z.cells t) := by
  intro ac w hs ho hh K' Q' hk
  subst hh
  unfold Oper.wp
  rw [hs.eval]
  simp [execOp, Instr.alloc, hz w, newVar, newRow, newObj, Sem.run]
  rw [Oper.upon_value]
  exact hk _ _ (ho.of_eq rfl rfl rfl (keepsF_push ..)) ⟨rfl, rfl⟩

theorem HOp.box {t : TypeId} {x : Operand} {v : Value} (hx : ρ.ev x = v) : HOp P w0 n ⟨d, .box t x, ty, pos, af, g⟩ ρ H fun u H' => u = .pointer (some ⟨H.size, 0, none⟩) ∧ H' = H.push (.cells v.cells t) := by
  intro ac w hs ho hh K' Q' hk
  subst hh
  unfold Oper.wp
  rw [hs.eval]
  simp [execOp, Instr.box, hx, newVar, newRow, newObj, Sem.run]
  rw [Oper.upon_value]
  exact hk _ _ (ho.of_eq rfl rfl rfl (keepsF_push ..)) ⟨rfl, rfl⟩

/-- A struct's value, part by part. -/
theorem HVal.build {t : TypeId} {parts : Array (Nat × Operand)} {fs : Array Field} {z : Value} {places : Array (Nat × Nat)} {cs : Array Value} (hu : Ru P (underlying t) (.struct fs)) (hz : Ru P (zeroValue t) z)
    (hp : Ru P (fs.mapM fun f => do pure (f.offset, ← sizeOf f.type)) places) (hf : Instr.fill (places[·]?) z.cells (parts.map fun (i, x) => (i, ρ.ev x)).toList = some cs) :
    HVal P ⟨d, .build t parts, ty, pos, af, g⟩ ρ H (.agg cs) := fun w _ => by
  simp only [execOp, Instr.build, Sem.run_bind, hz w, Result.andThen_ok, hu w, hp w, hf, Sem.run_pure]

theorem HVal.buildA {t e : TypeId} {parts : Array (Nat × Operand)} {len k : Nat} {z : Value} {cs : Array Value} (hu : Ru P (underlying t) (.array len e)) (hz : Ru P (zeroValue t) z)
    (hk : Ru P (sizeOf e) k) (hf : Instr.fill (fun i => some (i * k, k)) z.cells (parts.map fun (i, x) => (i, ρ.ev x)).toList = some cs) :
    HVal P ⟨d, .build t parts, ty, pos, af, g⟩ ρ H (.agg cs) := fun w _ => by
  simp only [execOp, Instr.build, Sem.run_bind, hz w, Result.andThen_ok, hu w, hk w, hf, Sem.run_pure]

theorem HOp.buildSlice {t e : TypeId} {len k : Nat} {parts : Array (Nat × Operand)} {z : Value} {cs : Array Value} (hu : Ru P (underlying t) (.slice e)) (hk : Ru P (sizeOf e) k) (hz : Ru P (zeroValue e) z) (hlt : len * k ≤ 16777216)
    (hf : Instr.fill (fun i => some (i * k, k)) ((Array.range (len * k)).map (z.cells[· % z.cells.size]!)) (parts.map fun (i, x) => (i, ρ.ev x)).toList = some cs) (h0 : len * k ≠ 0) :
    HOp P w0 n ⟨d, .buildSlice t len parts, ty, pos, af, g⟩ ρ H fun v H' => v = .slice (some ⟨H.size, 0, none⟩) len len ∧ H' = H.push (.cells cs e) := by
  intro ac w hs ho hh K' Q' hk'
  subst hh
  unfold Oper.wp
  rw [hs.eval]
  have hn : ¬ (len * k > 2 ^ 24) := by omega
  simp only [execOp, Instr.buildSlice, Sem.run_bind, hu w, Result.andThen_ok, hk w, Sem.run_ite, if_neg hn, if_neg h0, hz w, Sem.run_pure, hf, newRow, newObj, Sem.run]
  rw [Oper.upon_value]
  exact hk' _ _ (ho.of_eq rfl rfl rfl (keepsF_push ..)) ⟨rfl, rfl⟩

theorem HOp.makeSlice {t e : TypeId} {x y : Operand} {l c : Int} {k b : Nat} {kl kc : IntKind} {i : TypeInfo} {z : Value} (hu : Ru P (underlying t) (.slice e)) (hi : Ru P (typeInfo e) i) (hb : i.bytes = b) (hk : Ru P (sizeOf e) k) (hz : Ru P (zeroValue e) z)
    (hx : ρ.ev x = .int kl l) (hy : ρ.ev y = .int kc c) (h0 : 0 ≤ l) (h1 : l ≤ c) (h2 : b * c ≤ 2 ^ 47) (h3 : c ≤ 9223372036854775807) :
    HOp P w0 n ⟨d, .makeSlice t x y, ty, pos, af, g⟩ ρ H fun v H' => v = .slice (some ⟨H.size, 0, none⟩) l.toNat c.toNat ∧
      H' = H.push (.cells ((Array.range (c.toNat * k)).map ((if c.toNat * k = 0 then #[] else z.cells)[· % (if c.toNat * k = 0 then #[] else z.cells : Array Value).size]!)) e) := by
  intro ac w hs ho hh K' Q' hk'
  subst hh
  unfold Oper.wp
  rw [hs.eval]
  have wl : IntKind.i64.wrap l = l := by unfold IntKind.wrap; simp [IntKind.signed, IntKind.bits]; omega
  have wc : IntKind.i64.wrap c = c := by unfold IntKind.wrap; simp [IntKind.signed, IntKind.bits]; omega
  have hcond : (decide (c < 0) || decide ((b : Int) * c > 2 ^ 48) || decide (l < 0) || decide (l > c)) = false := by
    have : (b : Int) * c ≤ 2 ^ 47 := h2
    have e48 : (2 : Int) ^ 48 = 281474976710656 := by decide
    have e47 : (2 : Int) ^ 47 = 140737488355328 := by decide
    simp only [Bool.or_eq_false_iff, decide_eq_false_iff_not]
    exact ⟨⟨⟨by omega, by omega⟩, by omega⟩, by omega⟩
  have hroom : (askRoom (c.toNat * b)).run P w = .ok () w := by
    unfold askRoom
    rw [if_neg]
    · simp
    · simp only [roomBytes]
      have e47 : (2 : Int) ^ 47 = 140737488355328 := by decide
      have : ((c.toNat * b : Nat) : Int) ≤ 140737488355328 := by
        rw [Int.natCast_mul, Int.toNat_of_nonneg (by omega), Int.mul_comm]; omega
      omega
  by_cases hq : c.toNat * k = 0
  · simp only [execOp, Instr.makeSlice, Sem.run_bind, hu w, Result.andThen_ok, asInt, asIntOf, hx, hy, Sem.run_pure, hi w, hb, wl, wc, hcond, Bool.false_eq_true, if_false, hroom, hk w, if_pos hq, newRow, newObj, Sem.run]
    rw [Oper.upon_value]
    exact hk' _ _ (ho.of_eq rfl rfl rfl (keepsF_push ..)) ⟨rfl, by simp only [if_pos hq]⟩
  · simp only [execOp, Instr.makeSlice, Sem.run_bind, hu w, Result.andThen_ok, asInt, asIntOf, hx, hy, Sem.run_pure, hi w, hb, wl, wc, hcond, Bool.false_eq_true, if_false, hroom, hk w, if_neg hq, hz w, newRow, newObj, Sem.run]
    rw [Oper.upon_value]
    exact hk' _ _ (ho.of_eq rfl rfl rfl (keepsF_push ..)) ⟨rfl, by simp only [if_neg hq]⟩

end
end Go.Hw
