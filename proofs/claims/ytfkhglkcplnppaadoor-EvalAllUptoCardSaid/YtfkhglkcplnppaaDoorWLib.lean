/- tree.Size: how many nodes, how deep: a range over a function. Own work of this session. -/
import Derived.Test.YtfkhglkcplnppaaDoorWTree
import Derived.Shelf.Abstract
import Derived.Shelf.RegionOpen
import Derived.WalkKit
import Derived.OwnWalkIn
import Derived.TacticsInMore
import Derived.LoopNIn
import Derived.LoopIn
set_option linter.unusedVariables false
set_option linter.unusedSimpArgs false
namespace Go.Proofs
open Go Go.RowKit Go.Shelf Go.Hw
attribute [local go_sem] Oper.semAt_some
set_option maxHeartbeats 1000000 in
theorem nodes_in (n : Nat) (a0 a1 a2 a3 : Int) (a4 : ByteArray) (a5 : Bool) (a6 : ByteArray) (a7 : Int) (a8 : ByteArray) (a9 : Option Addr) (m c : Nat) (w : World) :
  CallsIn Fence.wide n Tryd.prog 55 #[.agg #[.int .i64 a0, .int .i64 a1, .int .i64 a2, .int .i64 a3, .string a4, .bool a5, .string a6, .int .i64 a7, .string a8, .slice a9 m c]] w fun e w' => e = .returned (.func (.func 67) #[] #[.pointer (some ⟨w.heap.size, 0, none⟩)]) ∧ w' = w.alloc (.cells #[.int .i64 a0, .int .i64 a1, .int .i64 a2, .int .i64 a3, .string a4, .bool a5, .string a6, .int .i64 a7, .string a8, .slice a9 m c] 41) := by
 refine callsIn_of_wp Tryd.func55 rfl trivial ?_ rfl
 simp only [Tryd.ntmps55, List.size_toArray, List.length_cons, List.length_nil, Nat.reduceAdd, Nat.reduceSub, Array.replicate_succ, Array.replicate_zero, List.push_toArray, List.append_toArray, List.nil_append, List.cons_append]
 gi_wp2
 go_ret
 exact ⟨rfl, rfl⟩

theorem putObj_kp (w : World) (l : Nat) (o : Obj) : Kp (fun b => b = l) w.heap (w.putObj l o).heap := ⟨by simp, fun k hk hs => World.putObj_heap_other (fun e => hs e)⟩

set_option maxHeartbeats 1000000 in
theorem range_law {sg bd : Code} {T : Array Value} {Q : Exit → Act → World → Prop} {W0 : World} {p : Addr} {r : ER} {q : Sl} {kd : Fo} {B : Nat} {S : Nat → Prop} {I : List Int → Hp → Prop}
  (hT : T.getD 8 undef = .func (.func 67) #[] #[.pointer (some p)]) (hc : cells W0.heap p (r.row q) 0) (hp : p.block < W0.heap.size) (hn : q.n = kd.len) (hf : FoH B W0.heap q.b 0 kd) (hl : kd.nodes ≤ 4194304)
  (hS : ∀ b, S b → B ≤ b ∧ b < W0.heap.size) (hB : B ≤ W0.heap.size) (hI : ∀ pre H H', I pre H → Kp (fun b => W0.heap.size ≤ b) H H' → I pre H') (h0 : I [] W0.heap)
  (hround : ∀ (l : Nat) (pre : List Int) (d : Int) (v : Value) (w2 : World), I pre w2.heap → pre.length < 1 + kd.nodes → sg.wpIn (Fence.wide.inRound l) 0 Tryd.prog (Exit.then (fun a₁ w₁ => w₁ = w2 ∧ ∀ w3 : World, I pre w3.heap →
   bd.wpIn (Fence.wide.inRound l) 0 Tryd.prog (fun e _ w4 => e = .normal ∧ Ok w3 w4 ∧ I (pre ++ [d]) w4.heap ∧ Kp S w3.heap w4.heap) a₁ w3) (fun _ _ _ => False)) { tmps := (T.setIfInBounds 9 (.int .i64 d)).setIfInBounds 10 v, defers := [] } w2)
  (hdone : ∀ w' : World, Ok W0 w' → I (1 :: kd.ds 2) w'.heap → w'.heap[W0.heap.size]? = some (.deferred (some [])) → Q .normal { tmps := T, defers := [{ target := .collected W0.heap.size, args := #[] }] } w') :
  (Code.rangeFunc (.tmp 8) #[9, 10] sg bd).wpIn Fence.wide 0 Tryd.prog Q { tmps := T, defers := [] } W0 := by
 refine wpIn_rangeFunc ?_
 intro fn hfn
 obtain ⟨z, hz⟩ : ∃ z, W0.heap.size = z := ⟨_, rfl⟩
 obtain ⟨rec, hrec⟩ : ∃ rec : LoopState → Loop, rec = fun st => { state := st, pending := none, fn, tmps := T, params := #[9, 10], assign := sg, body := bd, defers := z } := ⟨_, rfl⟩
 obtain ⟨W1, hW1⟩ : ∃ W1, (W0.alloc (.deferred (some []))).alloc (.loop (rec .ready)) = W1 := ⟨_, rfl⟩
 have hW1h : ∃ H5 : Hp, H5 = Array.push W0.heap (.deferred (some [])) ∧ W1.heap = Array.push H5 (.loop (rec .ready)) ∧ Ok W0 W1 := by
  refine ⟨_, rfl, ?_, ?_⟩
  ·rw [← hW1]; rfl
  ·rw [← hW1]; exact ⟨rfl, rfl, rfl, ⟨by simp; omega, trivial⟩⟩
 obtain ⟨H5, e5, e6, ho1⟩ := hW1h
 have s5 := size_push' e5
 have s6 := size_push' e6
 have d6 : W1.heap[z]? = some (.deferred (some [])) := by rw [e6, Array.getElem?_push, if_neg (by omega), e5, ← hz]; simp
 have l6 : W1.heap[z + 1]? = some (.loop (rec .ready)) := by rw [e6, show z + 1 = H5.size by omega]; simp
 have k6 : Kp (fun _ => False) W0.heap W1.heap := ((Kp.refl _ _).push' e5).push' e6
 have run1 : (Instr.enterLoop fn T #[9, 10] sg bd none).run Tryd.prog W0 = .ok (z + 1, [{ target := .collected z, args := #[] }]) W1 := by
  rw [run_enterLoop_outer, hz, ← hW1, hrec]
 refine ⟨z + 1, [{ target := .collected z, args := #[] }], W1, { target := .fn (.func 67) #[.pointer (some p)], args := #[.func (.yield (z + 1)) #[] #[]] }, W1, 67, #[.func (.yield (z + 1)) #[] #[], .pointer (some p)], W1, run1, ?_, fun f' hf' => trivial, ?_, (fun h => (by cases h)), ?_⟩
 ·have hev : ({ tmps := T, defers := [] } : Act).eval (.tmp 8) = .func (.func 67) #[] #[.pointer (some p)] := hT
  simp only [resolve, hev]
  simp [go_sem]
 ·simp [invoke, go_sem]
 ·have hw : Go.Hw.Good Tryd.prog W1 67 #[.func (.yield (z + 1)) #[] #[], .pointer (some p)] W1.heap (fun v H => v = .tuple #[] ∧ (I (1 :: kd.ds 2) H ∧ H[z + 1]? = some (.loop (rec .ready)) ∧ H[z]? = some (.deferred (some [])))) := by
   refine walk67 (walk_all (S := fun b => S b ∨ b = z + 1) (B := B) (M := z + 2) (N := 1 + kd.nodes) (J := fun pre H => I pre H ∧ H[z + 1]? = some (.loop (rec .ready)) ∧ H[z]? = some (.deferred (some []))) ?_ ?_ ?_ (k6.cells hp id hc) hn (hf.kp k6 fun _ _ => id) ⟨hI _ _ _ h0 (k6.mono fun _ _ h => h.elim), l6, d6⟩ (by omega) (Nat.le_refl _) hl fun H' hj _ => hj)
   ·rintro b (h | h)
    ·have := hS _ h; omega
    ·omega
   ·rintro pre H H' ⟨i, a, b⟩ k
    refine ⟨hI _ _ _ i (k.mono fun _ _ h => h.elim), ?_, ?_⟩
    ·rw [k.blk _ (Array.getElem?_eq_some_iff.1 a).1 id]; exact a
    ·rw [k.blk _ (Array.getElem?_eq_some_iff.1 b).1 id]; exact b
   ·rintro pre d cs H ⟨i, a, b⟩ hlen
    refine ⟨z + 1, rfl, fun w2 hw2 => ?_⟩
    subst hw2
    have hlt : z + 1 < w2.heap.size := (Array.getElem?_eq_some_iff.1 a).1
    have hy : (Instr.yield (z + 1) #[.int .i64 d, .agg cs]).run Tryd.prog w2 = .ok (.round (z + 1) fn ((T.setIfInBounds 9 (.int .i64 d)).setIfInBounds 10 (.agg cs)) sg bd) w2 := by
     rw [run_yield (P := Tryd.prog) (args := #[.int .i64 d, .agg cs]) a (by rw [hrec]; rfl), hrec]
     simp
    refine ⟨fn, _, sg, bd, hy, roundIn_of_wpIn trivial (wpIn_mono (hround (z + 1) pre d (.agg cs) w2 i hlen) ?_)⟩
    rintro e a₁ w₁ he
    cases e with
    | normal =>
     obtain ⟨rfl, hb⟩ := he
     have hbr : (Instr.beginRound (z + 1)).run Tryd.prog w₁ = .ok () (w₁.putObj (z + 1) (.loop (rec .busy))) := by
      rw [run_beginRound a (by rw [hrec]), hrec]
     refine ⟨_, hbr, ?_⟩
     have kb := putObj_kp w₁ (z + 1) (.loop (rec .busy))
     have ab : (w₁.putObj (z + 1) (.loop (rec .busy))).heap[z + 1]? = some (.loop (rec .busy)) := World.putObj_heap_same hlt
     have bb : (w₁.putObj (z + 1) (.loop (rec .busy))).heap[z]? = some (.deferred (some [])) := (World.putObj_heap_other (by omega)).trans b
     have okb : Ok w₁ (w₁.putObj (z + 1) (.loop (rec .busy))) := ⟨rfl, rfl, rfl, ⟨by simp, trivial⟩⟩
     have szb : (w₁.putObj (z + 1) (.loop (rec .busy))).heap.size = w₁.heap.size := World.putObj_size
     have hIb := hI _ _ _ i (kb.mono fun b _ h => by subst h; omega)
     generalize w₁.putObj (z + 1) (.loop (rec .busy)) = wb at kb ab bb okb szb hIb
     refine wpIn_mono (hb _ hIb) ?_
     rintro e a₃ w₃ ⟨rfl, ok3, i3, k3⟩
     have a3 : w₃.heap[z + 1]? = some (.loop (rec .busy)) := by
      rw [k3.blk _ (by omega) (fun h => by have := hS _ h; omega)]; exact ab
     have b3 : w₃.heap[z]? = some (.deferred (some [])) := by
      rw [k3.blk _ (by omega) (fun h => by have := hS _ h; omega)]; exact bb
     have hr : (Instr.endRound (z + 1) none).run Tryd.prog w₃ = .ok (.bool true) (w₃.putObj (z + 1) (.loop (rec .ready))) := by
      rw [run_endRound none a3, hrec]; rfl
     have ke := putObj_kp w₃ (z + 1) (.loop (rec .ready))
     have s3 := k3.size
     refine ⟨_, _, hr, true, rfl, (okb.tr ok3).tr ⟨rfl, rfl, rfl, ⟨by simp, trivial⟩⟩, rfl, ⟨hI _ _ _ i3 (ke.mono fun b _ h => by subst h; omega), World.putObj_heap_same (by omega), (World.putObj_heap_other (by omega)).trans b3⟩, ?_⟩
     refine ((kb.mono fun b _ h => .inr h).trans (k3.mono fun b _ h => .inl h) fun b hb => .inl hb).trans (ke.mono fun b _ h => .inr h) fun b hb => .inl hb
    | exit id => exact he.elim
    | goto t => exact he.elim
    | ret => exact he.elim
    | panic chain => exact he.elim
    | outgrown => exact he.elim
  refine ((callsIn_wide (n := 0 - 1)).2 (hw W1 (Ok.refl _) rfl)).mono ?_
  rintro e w' ⟨v, rfl, ok', rfl, i', l', d'⟩
  have he : (Instr.endLoop (z + 1)).run Tryd.prog w' = .ok none (w'.putObj (z + 1) (.loop (rec .exhausted))) := by
   rw [run_endLoop l' (by rw [hrec]; intro h; cases h), hrec]
  have ke := putObj_kp w' (z + 1) (.loop (rec .exhausted))
  refine ⟨none, _, he, ?_⟩
  have hlt := (Array.getElem?_eq_some_iff.1 l').1
  have kw : Kp (fun b => W0.heap.size ≤ b) w'.heap (w'.putObj (z + 1) (.loop (rec .exhausted))).heap := ke.mono fun b _ h => by subst h; omega
  have := hdone (w'.putObj (z + 1) (.loop (rec .exhausted))) ((ho1.tr ok').tr ⟨rfl, rfl, rfl, ⟨by simp, trivial⟩⟩) (hI _ _ _ i' kw) (by rw [hz]; exact (World.putObj_heap_other (by omega)).trans d')
  rw [hz] at this
  exact this
set_option maxHeartbeats 2000000 in
theorem size_in (a0 a1 a2 a3 : Int) (a4 : ByteArray) (a5 : Bool) (a6 : ByteArray) (a7 : Int) (a8 : ByteArray) (a9 : Option Addr) (m c : Nat) (w : World) (kd : Fo) (hn : m = kd.len) (hf : FoH w.heap.size w.heap a9 0 kd) (hl : kd.nodes ≤ 4194304) :
  CallsIn Fence.wide 0 Tryd.prog 37 #[.agg #[.int .i64 a0, .int .i64 a1, .int .i64 a2, .int .i64 a3, .string a4, .bool a5, .string a6, .int .i64 a7, .string a8, .slice a9 m c]] w fun e W' => e = .returned (.tuple #[.int .i64 (1 + kd.nodes : Nat), .int .i64 (max 1 (kd.deep 2))]) ∧ Ok w W' ∧ Kp (fun _ => False) w.heap W'.heap := by
 refine callsIn_of_wp_marks Tryd.func37 rfl trivial ?_ rfl
 simp only [Tryd.ntmps37, List.size_toArray, List.length_cons, List.length_nil, Nat.reduceAdd, Nat.reduceSub, Array.replicate_succ, Array.replicate_zero, List.push_toArray, List.append_toArray, List.nil_append, List.cons_append]
 subst hn
 gi_wp2_with (refine ⟨trivial, rfl, ?_⟩; refine (nodes_in _ _ _ _ _ _ _ _ _ _ _ _ _ _).mono ?_; rintro e w' ⟨rfl, rfl⟩)
 have hz : ∃ z, w.heap.size = z := ⟨_, rfl⟩
 obtain ⟨z, hz⟩ := hz
 obtain ⟨cs, hcs⟩ : ∃ cs : List Value, cs = [Value.int .i64 a0, .int .i64 a1, .int .i64 a2, .int .i64 a3, .string a4, .bool a5, .string a6, .int .i64 a7, .string a8, .slice a9 kd.len c] := ⟨_, rfl⟩
 obtain ⟨W0, hW0⟩ : ∃ W0, ((((w.alloc (Obj.cells #[Value.int .i64 a0, .int .i64 a1, .int .i64 a2, .int .i64 a3, .string a4, .bool a5, .string a6, .int .i64 a7, .string a8, .slice a9 kd.len c] 41)).alloc (Obj.cells #[Value.int IntKind.i64 0] 3)).alloc (Obj.cells #[Value.int IntKind.i64 0] 3)).alloc (Obj.cells #[Value.int .i64 a0, .int .i64 a1, .int .i64 a2, .int .i64 a3, .string a4, .bool a5, .string a6, .int .i64 a7, .string a8, .slice a9 kd.len c] 41)) = W0 := ⟨_, rfl⟩
 have hh : ∃ H1 H2 H3 : Hp, H1 = Array.push w.heap (.cells cs.toArray 41) ∧ H2 = Array.push H1 (.cells #[Value.int .i64 0] 3) ∧ H3 = Array.push H2 (.cells #[Value.int .i64 0] 3) ∧ W0.heap = Array.push H3 (.cells cs.toArray 41) ∧ Ok w W0 := by
  refine ⟨_, _, _, rfl, rfl, rfl, ?_, ?_⟩
  ·rw [← hW0, hcs]; rfl
  ·rw [← hW0]; exact ⟨rfl, rfl, rfl, ⟨by simp; omega, trivial⟩⟩
 obtain ⟨H1, H2, H3, e1, e2, e3, e4, ho⟩ := hh
 rw [hW0]
 clear hW0
 rw [hz]
 have s1 := size_push' e1
 have s2 := size_push' e2
 have s3 := size_push' e3
 have s4 := size_push' e4
 have k4 : Kp (fun _ => False) w.heap W0.heap := ((((Kp.refl _ _).push' e1).push' e2).push' e3).push' e4
 have r1 : Row W0.heap (z + 1) 3 [.int .i64 0] := by
  have := ((Row.new' e2).push' e3).push' e4
  rwa [show H1.size = z + 1 by omega] at this
 have r2 : Row W0.heap (z + 2) 3 [.int .i64 0] := by
  have := (Row.new' e3).push' e4
  rwa [show H2.size = z + 2 by omega] at this
 have r3 : Row W0.heap (z + 3) 41 cs := by
  have := Row.new' e4
  rwa [show H3.size = z + 3 by omega] at this
 have sW : W0.heap.size = z + 4 := by omega
 have k4 : Kp (fun _ => False) w.heap W0.heap := k4
 refine range_law (p := ⟨z + 1 + 1 + 1, 0, none⟩) (r := ⟨a0, a1, a2, a3, a4, a5, a6, a7, a8⟩) (q := ⟨a9, kd.len, c⟩) (kd := kd) (B := z) (S := fun b => b = z + 1 ∨ b = z + 2)
  (I := fun pre H => Row H (z + 1) 3 [.int .i64 (pre.length : Int)] ∧ Row H (z + 2) 3 [.int .i64 (mx 0 pre)] ∧ Kp (fun _ => False) w.heap H) rfl ?_ (by show z + 1 + 1 + 1 < _; omega) rfl (by rw [← hz]; exact hf.kp k4 fun _ _ => id) hl
  (fun b hb => by omega) (by omega) ?_ ⟨r1, r2, k4⟩ ?_ ?_
 ·subst hcs
  exact r3.all
 ·rintro pre H H' ⟨i1, i2, i3⟩ k
  exact ⟨k.row i1 (by omega), k.row i2 (by omega), i3.trans (k.mono fun b _ h => h) fun b hb => .inr (by omega)⟩
 ·rintro l pre d v w2 ⟨i1, i2, i3⟩ hlen
  gi_wp2
  refine ⟨trivial, ?_⟩
  rintro w3 ⟨j1, j2, j3⟩
  have c1 : w3.cell? ⟨z + 1, 0, none⟩ = some (.int .i64 (pre.length : Int)) := j1.cell_of rfl
  have f1 : w3.frozen? ⟨z + 1, 0, none⟩ = false := j1.frz 0
  have c2 : w3.cell? ⟨z + 1 + 1, 0, none⟩ = some (.int .i64 (mx 0 pre)) := j2.cell_of rfl
  have f2 : w3.frozen? ⟨z + 1 + 1, 0, none⟩ = false := j2.frz 0
  have fin : ∀ m : Int, m = mx 0 (pre ++ [d]) → Ok w3 ((w3.setCell ⟨z + 1, 0, none⟩ (.int .i64 ((pre.length : Int) + 1))).setCell ⟨z + 1 + 1, 0, none⟩ (.int .i64 m)) ∧ (Row ((w3.setCell ⟨z + 1, 0, none⟩ (.int .i64 ((pre.length : Int) + 1))).setCell ⟨z + 1 + 1, 0, none⟩ (.int .i64 m)).heap (z + 1) 3 [.int .i64 ((pre.length : Int) + 1)] ∧ Row ((w3.setCell ⟨z + 1, 0, none⟩ (.int .i64 ((pre.length : Int) + 1))).setCell ⟨z + 1 + 1, 0, none⟩ (.int .i64 m)).heap (z + 2) 3 [.int .i64 (mx 0 (pre ++ [d]))] ∧ Kp (fun _ => False) w.heap ((w3.setCell ⟨z + 1, 0, none⟩ (.int .i64 ((pre.length : Int) + 1))).setCell ⟨z + 1 + 1, 0, none⟩ (.int .i64 m)).heap) ∧ Kp (fun b => b = z + 1 ∨ b = z + 2) w3.heap ((w3.setCell ⟨z + 1, 0, none⟩ (.int .i64 ((pre.length : Int) + 1))).setCell ⟨z + 1 + 1, 0, none⟩ (.int .i64 m)).heap := by
   rintro m rfl
   have ka : Kp (fun b => b = z + 1 ∨ b = z + 2) w3.heap (setc (setc w3.heap ⟨z + 1, 0, none⟩ (.int .i64 ((pre.length : Int) + 1))) ⟨z + 1 + 1, 0, none⟩ (.int .i64 (mx 0 (pre ++ [d])))) := ((Kp.refl _ _).setc (.inl (.inl rfl)) _).setc (.inl (.inr rfl)) _
   refine ⟨⟨rfl, rfl, rfl, ⟨by rw [setc_eq, setc_eq]; exact ka.size, trivial⟩⟩, ⟨?_, ?_, ?_⟩, ka⟩
   ·exact (j1.set 0 (.int .i64 ((pre.length : Int) + 1))).set_ne (by show z + 1 ≠ z + 1 + 1; omega) _
   ·exact (j2.set_ne (by show z + 2 ≠ z + 1; omega) _).set 0 _
   ·exact j3.trans ka fun b hb => .inr (by omega)
  gi_wp2
  all_goals first
   | exact fin _ (by rw [mx_snoc, if_neg (by omega)])
   | exact fin _ (by rw [mx_snoc, if_pos (by omega)])
 ·rintro w' ok' ⟨i1, i2, i3⟩ hD
  have c1 : w'.cell? ⟨z + 1, 0, none⟩ = some (.int .i64 ((1 :: kd.ds 2).length : Int)) := i1.cell_of rfl
  have c2 : w'.cell? ⟨z + 1 + 1, 0, none⟩ = some (.int .i64 (mx 0 (1 :: kd.ds 2))) := i2.cell_of rfl
  gi_wp2
  gi_region
  gi_wp2
  refine ⟨by simp, .inl ⟨_, _, rfl, run_takeDeferred hD, ?_⟩⟩
  have kd' := putObj_kp w'.drew W0.heap.size (.deferred none)
  have e1 : ((kd.ds 2).length : Int) + 1 = ((1 + kd.nodes : Nat) : Int) := by rw [Fo.ds_len]; omega
  have e2 : mx 0 (1 :: kd.ds 2) = max 1 (kd.deep 2) := by
   show mx (if (0 : Int) < 1 then 1 else 0) (kd.ds 2) = _
   rw [if_pos (by omega)]
   exact Fo.mx_ds kd 2 1 (by omega) (by omega)
  rw [e1, e2]
  refine ⟨.tuple #[.int .i64 ((1 + kd.nodes : Nat) : Int), .int .i64 (max 1 (kd.deep 2))], ?_, rfl, (ho.tr ok').tr ⟨rfl, rfl, rfl, ⟨kd'.size, trivial⟩⟩, i3.trans (kd'.mono fun b _ h => h) fun b hb => .inr (by omega)⟩
  simp [results, Tryd.f37, go_sem]
end Go.Proofs

namespace Go.Hw
open Go Go.Proofs
def F37 (p0_0 p0_1 p0_2 p0_3 : Int) (p0_4 : ByteArray) (p0_5 : Bool) (p0_6 : ByteArray) (p0_7 : Int) (p0_8 : ByteArray) (p0_9 : Sl) (H : Hp) (Q : Int → Int → Hp → Prop) : Prop :=
 ∃ kd : Fo, p0_9.n = kd.len ∧ FoH H.size H p0_9.b 0 kd ∧ kd.nodes ≤ 4194304 ∧ ∀ H', Kp (fun _ => False) H H' → Q ((1 + kd.nodes : Nat) : Int) (max 1 (kd.deep 2)) H'
theorem walk37 {w0 : World} {p0_0 p0_1 p0_2 p0_3 : Int} {p0_4 : ByteArray} {p0_5 : Bool} {p0_6 : ByteArray} {p0_7 : Int} {p0_8 : ByteArray} {p0_9 : Sl} {H : Hp} {Q : Int → Int → Hp → Prop} (h : F37 p0_0 p0_1 p0_2 p0_3 p0_4 p0_5 p0_6 p0_7 p0_8 p0_9 H Q) :
  Good Tryd.prog w0 37 #[(.agg #[(.int .i64 p0_0), (.int .i64 p0_1), (.int .i64 p0_2), (.int .i64 p0_3), (.string p0_4), (.bool p0_5), (.string p0_6), (.int .i64 p0_7), (.string p0_8), (Sl.v p0_9)])] H (fun v H => ∃ (r0 : Int) (r1 : Int), v = (.tuple #[(.int .i64 r0), (.int .i64 r1)]) ∧ Q r0 r1 H) := by
 obtain ⟨kd, hn, hf, hl, hq⟩ := h
 intro w ho hh
 subst hh
 refine (callsIn_wide.1 (size_in p0_0 p0_1 p0_2 p0_3 p0_4 p0_5 p0_6 p0_7 p0_8 p0_9.b p0_9.n p0_9.c w kd hn hf hl)).mono ?_
 rintro e w' ⟨rfl, ok', k⟩
 exact ⟨_, rfl, ho.tr ok', _, _, rfl, hq _ k⟩
end Go.Hw
