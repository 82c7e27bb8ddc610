/- The library functions that are taken by their contracts. Own work of this session. -/
import Derived.Test.YtjeponambmjhcaaDoorHwI
import Derived.Test.YtjeponambmjhcaaDoorShelf
set_option linter.unusedVariables false
namespace Go.Hw
open Go Go.Proofs Go.Sort

/-- strconv's table of powers lies where its variable is. -/
def TabH (H : Hp) : Prop := ∀ w : World, w.heap = H → Lib.TabIs Tryd.prog w "internal/strconv.uint64pow10" .u64 Lib.pow10Tab

def F9 (p0 : Int) (H : Hp) (Q : ByteArray → Hp → Prop) : Prop :=
  TabH H ∧ -9223372036854775808 ≤ p0 ∧ p0 ≤ 9223372036854775807 ∧ ∀ H', Kp (fun _ => False) H H' → Q ⟨(Lib.itoa p0).toArray⟩ H'

theorem drewN_eq (w : World) (k : Nat) : (w.drewN k).heap = w.heap ∧ (w.drewN k).tape = w.tape ∧ (w.drewN k).os = w.os ∧ (w.drewN k).output = w.output := ⟨rfl, rfl, rfl, rfl⟩

theorem ok_grow {w0 w : World} (h : Ok w0 w) (k : Nat) (os : Array Obj) : Ok w0 (grow (w.drewN k) os) := by
  refine h.of_eq rfl rfl rfl ⟨?_, fun a ha => ?_⟩
  · show w.heap.size ≤ (w.heap ++ os).size
    simp
  · show frz (w.heap ++ os) a = frz w.heap a
    unfold frz
    rw [Array.getElem?_append_left ha]

theorem kp_grow (w : World) (k : Nat) (os : Array Obj) : Kp (fun _ => False) w.heap (grow (w.drewN k) os).heap := by
  refine ⟨?_, fun b hb _ => ?_⟩
  · show w.heap.size ≤ (w.heap ++ os).size
    simp
  · show (w.heap ++ os)[b]? = _
    rw [Array.getElem?_append_left hb]

theorem walk9 {w0 : World} {p0 : Int} {H : Hp} {Q : ByteArray → Hp → Prop} (h : F9 p0 H Q) : Good Tryd.prog w0 9 #[(.int .i64 p0)] H (fun v H => ∃ r0 : ByteArray, v = (.string r0) ∧ Q r0 H) := by
  obtain ⟨ht, h0, h1, hq⟩ := h
  intro w ho hh
  refine (Any.strconv_Itoa Tryd.laysM171 p0 h0 h1 w (ht w hh)).mono fun e w' ⟨he, k, os, hw⟩ => ?_
  subst hw hh
  exact ⟨_, he, ok_grow ho k os, _, rfl, hq _ (kp_grow w k os)⟩

theorem TabH.kp {S : Nat → Prop} {H H' : Hp} (h : TabH H) (k : Kp S H H') {g : Nat} (hg : Tryd.prog.globalNamed "internal/strconv.uint64pow10" = some g) (hl : g < H.size) (hs : ¬ S g) : TabH H' := by
  intro w hw
  have h1 := h { w with heap := H } rfl
  unfold Lib.TabIs World.var? at *
  subst hw
  simp only [hg] at *
  simp only [Option.bind_some] at *
  rw [k.blk g hl hs]
  exact h1

end Go.Hw
