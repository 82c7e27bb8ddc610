/- begun: the document's examples hold. Own work of this session. -/
import Derived.Test.YtfkhglkcplnppaaDoorE8
import Derived.KernelRfl
set_option linter.unusedVariables false
namespace Go.Hw
open Go

def begE : Fo := .cons (refE S_a 1 S_x) .nil (.cons (opE 5 5) (.cons (refE S_b 2 S_x) .nil (.cons (litE 2) .nil .nil)) .nil)
theorem beg1 : topP exM (opE 5 3) begE = (numV 23, 0) := by kernel_rfl
theorem beg2 : topP exM (fnE 2 S_b 7 S_x) .nil = (numV 13, 0) := by kernel_rfl
theorem beg3 : topP exM (refE S_d 1 S_x) .nil = (zeroV, 110) := by kernel_rfl
abbrev Al : Nat → Prop := fun _ => True
theorem same_num (n : Int) : (decide ((numV n).k = 1) && (decide ((numV n).n = n) && (seq (numV n).s E && ((numV n).b == false)))) = true := by simp [numV, seq_self]

section
variable {H : Hp}
theorem c8 {Q : Bool → Hp → Prop} (hw : WantsH H) (hQ : ∀ H', Kp No H H' → Q true H') : F8 H Q := by
 refine c16 fun H1 k1 => c16 fun H13 k13 => c19 fun H25 k25 => ?_
 have k25 := k1.no2 (k13.no2 k25)
 refine c18 (A := Al) (ra := refE S_b 2 S_x) (rb := litE 2) (ka := .nil) (kb := .nil) (Ex.nil _ _) (Ex.nil _ _) (fun _ _ => trivial) fun q37 H37 k37 x37 => ?_
 refine c18 (A := Al) (ra := refE S_a 1 S_x) (rb := opE 5 5) (ka := .nil) (Ex.nil _ _) x37 (fun _ _ => trivial) fun q49 H49 k49 x49 => ?_
 have k49 := k25.no2 (k37.no2 k49)
 refine c17 fun p0 p1 p2 p3 p4 p5 p6 H61 k61 h61 => ?_
 have kk61 := k49.no2 k61
 refine c22 (A := Al) (r := opE 5 3) (kd := begE) h61.now (hw.no kk61) (x49.no k61) (by decide) fun H70 k70 => ?_
 rw [beg1]
 intro H77 e77
 have kk70 := kk61.no2 k70
 have k77 := kk70.push' e77
 have r77 := Row.new' e77
 refine ⟨r77.mayw (by simp), fun H79 e79 => ?_⟩
 have ra : Row H79 H70.size 38 (numV 23).row := r77.fill' e79 rfl
 have k79 : Kp No H H79 := k77.sets' e79 (.inr kk70.size)
 refine c14 fun H82 k82 => c17 fun p0 p1 p2 p3 p4 p5 p6 H94 k94 h94 => ?_
 have ka94 := k82.no2 k94
 have kk94 := k79.no2 ka94
 refine c22 (A := Al) (r := fnE 2 S_b 7 S_x) h94.now (hw.no kk94) (Ex.nil _ _) (by decide) fun H103 k103 => ?_
 rw [beg2]
 intro H110 e110
 have ka103 := ka94.no2 k103
 have kk103 := kk94.no2 k103
 have k110 := kk103.push' e110
 have r110 := Row.new' e110
 refine ⟨r110.mayw (by simp), fun H112 e112 => ?_⟩
 have rb : Row H112 H103.size 38 (numV 13).row := r110.fill' e112 rfl
 have k112 : Kp No H H112 := k110.sets' e112 (.inr kk103.size)
 have ka112 : Kp No H79 H112 := (ka103.push' e110).sets' e112 (.inr ka103.size)
 refine c16 fun H115 k115 => c17 fun p0 p1 p2 p3 p4 p5 p6 H127 k127 h127 => ?_
 have kb127 := k115.no2 k127
 have kk127 := k112.no2 kb127
 refine c22 (A := Al) (r := refE S_d 1 S_x) h127.now (hw.no kk127) (Ex.nil _ _) (by decide) fun H136 k136 => ?_
 rw [beg3]
 intro H143 e143
 have kb136 := kb127.no2 k136
 have r143 := Row.new' e143
 have kb143 : Kp No H112 H143 := kb136.push' e143
 refine ⟨r143.mayw (by simp), fun H145 e145 => ?_⟩
 have kb145 : Kp No H112 H145 := kb143.sets' e145 (.inr kb136.size)
 have kk145 := k112.no2 kb145
 have ra145 := (ka112.no2 kb145).row ra id
 have rb145 := kb145.row rb id
 refine ⟨_, _, _, _, ra145.all, c23 fun H153 k153 => ⟨(k153.row ra145 id).all, fun _ => ⟨fun _ => ⟨_, _, _, _, (k153.row rb145 id).all, c23 fun H169 k169 => ⟨((k153.no2 k169).row rb145 id).all, ((k153.no2 k169).row ra145 id).all, fun _ => ⟨fun _ => ⟨fun _ => ?_, fun g => ?_⟩, fun g => ?_⟩, fun g => ?_⟩⟩, fun g => ?_⟩, fun g => ?_⟩⟩
 ·have kc := k153.no2 k169
  refine c17 fun p0 p1 p2 p3 p4 p5 p6 H183 k183 h183 => ⟨((kc.no2 k183).row rb145 id).all, ((kc.no2 k183).row ra145 id).all, c21 (A := Al) (f := .nil) h183.now (hw.no (kk145.no2 (kc.no2 k183))) (Ex.nil _ _) trivial (by decide) fun H194 k194 => ⟨((kc.no2 (k183.no2 k194)).row rb145 id).all, ((kc.no2 (k183.no2 k194)).row ra145 id).all, hQ H194 (kk145.no2 (kc.no2 (k183.no2 k194)))⟩⟩
 ·exact absurd (of_decide_eq_false g) (by decide)
 ·exact absurd (of_decide_eq_false g) (by decide)
 ·rw [same_num] at g; cases g
 ·exact absurd (of_decide_eq_false g) (by decide)
 ·rw [same_num] at g; cases g
end
end Go.Hw
