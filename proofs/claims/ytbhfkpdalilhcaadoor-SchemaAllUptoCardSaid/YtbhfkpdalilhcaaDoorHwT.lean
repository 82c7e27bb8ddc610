/- Maps ranged over: rules. Own work of this session. -/
import Derived.Test.YtbhfkpdalilhcaaDoorHwS
import Derived.Maps.RangeRun
set_option linter.unusedVariables false
namespace Go.Hw
open Go

/-- An iterator over a map: which, since when, what it has given, when it stepped last. -/
def mIter (H : Hp) (a : Addr) (m : Option Nat) (since : Nat) (seen : List Nat) (last : Nat) : Prop := ∃ r, a = ⟨r, 0, none⟩ ∧ H[r]? = some (.mapIter m since seen.toArray last)
/-- The clock as an iterator notes it. -/
def clk (m : Option Nat) (c : Nat) : Nat := match m with | none => 0 | some _ => c

section
variable {κ ν : Type} {P : Program} {w0 : World} {n : Nat} {ρ : Env} {H : Hp} {d : Option Nat} {ty : TypeId} {pos : String} {af : Array Edge} {gd : Option (Nat × Bool)} {kt et : TypeId} {f : κ → Value} {g : ν → Value}

theorem HOp.rangeM {t : TypeId} {x : Operand} {m : Option Nat} {L : ML κ ν} {c : Nat} (ht : Ru P (underlying t) (.map kt et)) (hx : ρ.ev x = .map m) (hL : mapAt f g H m L c) : HOp P w0 n ⟨d, .range t x, ty, pos, af, gd⟩ ρ H fun v H' => v = .pointer (some ⟨H.size, 0, none⟩) ∧ H' = Array.push H (.mapIter m (clk m c) #[] (clk m c)) := by
  intro ac w hs ho hh K' Q' hk
  subst hh
  unfold Oper.wp
  rw [hs.eval]
  have hrun : (execOp ρ.ev ⟨d, .range t x, ty, pos, af, gd⟩).run P w = .ok (.value (.pointer (some ⟨w.heap.size, 0, none⟩))) { w with heap := w.heap.push (.mapIter m (clk m c) #[] (clk m c)) } := by
    cases m with
    | none => simp [execOp, Instr.range, ht w, hx, newObj, Sem.run, clk]
    | some r =>
      have hL : w.heap[r]? = some (mapo f g L c) := hL
      simp [execOp, Instr.range, ht w, hx, newObj, Sem.run, getObj, hL, mapo, clk]
  rw [hrun]
  rw [Oper.upon_value]
  exact hk _ _ (ho.of_eq rfl rfl rfl (keepsF_pusho _ _)) ⟨rfl, rfl⟩

theorem HOp.nextM {x : Operand} {a : Addr} {m : Option Nat} {since last : Nat} {seen : List Nat} {L : ML κ ν} {c : Nat} (hx : ρ.ev x = .pointer (some a)) (hi : mIter H a m since seen last) (hL : mapAt f g H m L c) (hold : ∀ e ∈ L, e.2.2 < since) (hsl : since ≤ last) :
    HOp P w0 n ⟨d, .next x false, ty, pos, af, gd⟩ ρ H fun v H' => (v = .tuple #[.bool false] ∧ H' = H ∧ ∀ e ∈ L, e.2.2 ∈ seen) ∨
      ∃ e ∈ L, e.2.2 ∉ seen ∧ v = .tuple #[.bool true, f e.1, g e.2.1] ∧ H' = seto H a.block (.mapIter m since (seen ++ [e.2.2]).toArray c) := by
  intro ac w hs ho hh K' Q' hk
  subst hh
  obtain ⟨r, rfl, hr⟩ := hi
  unfold Oper.wp
  rw [hs.eval]
  cases m with
  | none =>
    have hL : L = [] := hL
    subst hL
    have hrun : (execOp ρ.ev ⟨d, .next x false, ty, pos, af, gd⟩).run P w = .ok (.value (.tuple #[.bool false])) w := by
      simp [execOp, Instr.next, hx, getObj, Sem.run, hr]
    rw [hrun, Oper.upon_value]
    exact hk _ _ ho (.inl ⟨rfl, rfl, fun e he => by cases he⟩)
  | some bm =>
    have hb : w.heap[bm]? = some (.map (L.map (ent f g)).toArray c) := hL
    have hold' : ∀ x ∈ (L.map (ent f g)).toArray.toList, x.born < since := by
      intro x hx
      simp only [List.mem_map] at hx
      obtain ⟨e, he, rfl⟩ := hx
      exact hold e he
    have hex : (execOp ρ.ev ⟨d, .next x false, ty, pos, af, gd⟩).run P w = ((Instr.next (.pointer (some ⟨r, 0, none⟩)) false ty).run P w).andThen fun v w' => .ok (.value v) w' := by
      simp [execOp, hx]
    rcases run_next_at (P := P) w ty r bm since last seen.toArray (L.map (ent f g)).toArray c hr hb hold' hsl with ⟨h0, hrun⟩ | ⟨e, he, w1, hw1, hrun⟩
    · rw [hex, hrun, Result.andThen, Oper.upon_value]
      refine hk _ _ ho (.inl ⟨rfl, rfl, fun e he => ?_⟩)
      by_cases hs : e.2.2 ∈ seen
      · exact hs
      · have : ent f g e ∈ leftOf (L.map (ent f g)).toArray seen.toArray := by
          unfold leftOf
          rw [Array.mem_filter]
          refine ⟨by simpa using ⟨_, _, _, he, rfl⟩, ?_⟩
          simpa [ent] using hs
        have h0 : leftOf (L.map (ent f g)).toArray seen.toArray = #[] := Array.eq_empty_of_size_eq_zero h0
        rw [h0] at this
        simp at this
    · rw [hex, hrun, Result.andThen, Oper.upon_value]
      unfold leftOf at he
      simp only [Array.mem_toList_iff, Array.mem_filter, List.mem_toArray, List.mem_map] at he
      obtain ⟨⟨e', he', rfl⟩, hns⟩ := he
      have hns : e'.2.2 ∉ seen := by simpa [ent] using hns
      refine hk _ _ ?_ (.inr ⟨e', he', hns, rfl, ?_⟩)
      · rcases hw1 with rfl | rfl
        · exact ho.of_eq rfl rfl rfl (keepsF_seto _ _ _)
        · exact ho.of_eq rfl rfl rfl (keepsF_seto _ _ _)
      · rcases hw1 with rfl | rfl
        · simp [ChangeMaps.setBlock, seto, ent]
        · have e : w.drew.heap = w.heap := rfl
          simp [ChangeMaps.setBlock, seto, ent, e]

theorem nextM_after {a : Addr} {m : Option Nat} {since last : Nat} {seen : List Nat} {L : ML κ ν} {c : Nat} {H1 : Hp} {e : κ × ν × Nat} (hi : mIter H a m since seen last) (hL : mapAt f g H m L c) (he : e ∈ L) (eH : H1 = seto H a.block (.mapIter m since (seen ++ [e.2.2]).toArray c)) :
    mIter H1 a m since (seen ++ [e.2.2]) c ∧ mapAt f g H1 m L c := by
  obtain ⟨r, rfl, hr⟩ := hi
  have hlt : r < H.size := (Array.getElem?_eq_some_iff.1 hr).1
  subst eH
  refine ⟨⟨r, rfl, by simp [seto, hlt]⟩, ?_⟩
  cases m with
  | none => exact hL
  | some b =>
    have hL : H[b]? = some (mapo f g L c) := hL
    have hne : r ≠ b := fun h => by
      rw [h, hL] at hr
      unfold mapo at hr
      cases hr
    show (seto H r _)[b]? = some (mapo f g L c)
    unfold seto
    rw [Array.getElem?_setIfInBounds_ne hne]
    exact hL

theorem HVal.entry {x : Operand} {a : Addr} {m : Option Nat} {since c : Nat} {seen : List Nat} {L : ML κ ν} {e : κ × ν × Nat} (hx : ρ.ev x = .pointer (some a)) (hi : mIter H a m since (seen ++ [e.2.2]) c) (hL : mapAt f g H m L c) (he : e ∈ L) (hn : (L.map fun e => e.2.2).Nodup) :
    HVal P ⟨d, .entry x, ty, pos, af, gd⟩ ρ H (.tuple #[f e.1, g e.2.1]) := fun w hw => by
  subst hw
  obtain ⟨r, rfl, hr⟩ := hi
  cases m with
  | none =>
    have hL : L = [] := hL
    subst hL
    cases he
  | some b =>
    have hb : w.heap[b]? = some (.map (L.map (ent f g)).toArray c) := hL
    have hr' : w.heap[r]? = some (.mapIter (some b) since (seen.toArray.push (ent f g e).born) c) := by rw [hr]; simp [ent]
    have := run_entry_at (P := P) w r b since seen.toArray (L.map (ent f g)).toArray c (ent f g e) hr' hb (by simpa using ⟨_, _, _, he, rfl⟩) (by
      simp only [List.map_map]
      exact hn)
    simp [execOp, hx, this]
    exact ⟨rfl, rfl⟩
end

/-! ## entries that came one after the other -/
/-- No two entries came at one time, none after the clock. -/
def MapWf {κ ν : Type} (L : ML κ ν) (c : Nat) : Prop := (L.map fun e => e.2.2).Nodup ∧ ∀ e ∈ L, e.2.2 < c
end Go.Hw
