/- EvalAll: its argument, opened: expressions within expressions by the bulk of what is read. Own work of this session. -/
import Derived.Test.YtfkhglkcplnppaaDoorArgs
import Derived.Test.YtfkhglkcplnppaaDoorK11
set_option linter.unusedVariables false
namespace Go.Hw
open Go Go.ChangeShapes Go.WideShapes Go.RowKit Go.Proofs.YtfkhglkcplnppaaDoor Go.Proofs

structure OpnB (N : Nat) (P : Program) (t : TypeId) {α : Type} (f : α → List Value) (R : Hp → α → Prop) (bk : α → Nat) : Prop where
 out : ∀ {H : Type} (enc : TypeId × Value → H) (w : World) (spare : Nat → Bool) (held : Bool) (fuel : Nat) (cs : List Value) (x : DataW H × List MemPlace), Rows.uptoBulk x.1 < N →
  DataW.trod enc P w 0 spare held fuel t cs = some x → ∃ a, cs = f a ∧ R w.heap a ∧ bk a ≤ Rows.uptoBulk x.1
theorem Opn.b {N : Nat} {P : Program} {t : TypeId} {α : Type} {f : α → List Value} {R : Hp → α → Prop} {bk : α → Nat} (h : Opn P t f R bk) : OpnB N P t f R bk :=
 ⟨fun enc w spare held fuel cs x _ h' => h.out enc w spare held fuel cs x h'⟩
theorem OpnB.all {P : Program} {t : TypeId} {α : Type} {f : α → List Value} {R : Hp → α → Prop} {bk : α → Nat} (h : ∀ N, OpnB N P t f R bk) : Opn P t f R bk :=
 ⟨fun enc w spare held fuel cs x h' => (h (Rows.uptoBulk x.1 + 1)).out enc w spare held fuel cs x (Nat.lt_succ_self _) h'⟩
theorem OpnB.mono {N M : Nat} {P : Program} {t : TypeId} {α : Type} {f : α → List Value} {R : Hp → α → Prop} {bk : α → Nat} (h : OpnB N P t f R bk) (hM : M ≤ N) : OpnB M P t f R bk :=
 ⟨fun enc w spare held fuel cs x hx h' => h.out enc w spare held fuel cs x (by omega) h'⟩
theorem OpnB.map {N : Nat} {P : Program} {t : TypeId} {α β : Type} {f : α → List Value} {R : Hp → α → Prop} {bk : α → Nat} {f' : β → List Value} {R' : Hp → β → Prop} {bk' : β → Nat} (h : OpnB N P t f R bk) (g : α → β) (hf : ∀ a, f a = f' (g a)) (hR : ∀ H a, R H a → R' H (g a)) (hb : ∀ a, bk' (g a) ≤ bk a) : OpnB N P t f' R' bk' := by
 constructor
 intro H enc w spare held fuel cs x hl hx
 obtain ⟨a, h1, h2, h3⟩ := h.out enc w spare held fuel cs x hl hx
 exact ⟨g a, h1.trans (hf a), hR _ _ h2, Nat.le_trans (hb a) h3⟩
theorem bulk_mem {H : Type} : ∀ {l : List (DataW H)} {d : DataW H}, d ∈ l → Rows.uptoBulk d ≤ Rows.uptoBulkAll l
 | e :: l, d, h => by
  simp only [Rows.uptoBulkAll]
  rcases List.mem_cons.1 h with rfl | h
  ·omega
  ·have := bulk_mem h; omega
theorem OpnB.slice {N : Nat} {P : Program} {t e k : Nat} {α : Type} {F : Fmt α e k} {R : Hp → α → Prop} {bk : α → Nat} (ht : P.underlying t = some (.slice e)) (hc : P.cellsOf e = k) (he : OpnB N P e F.f R bk) :
  OpnB (N + 1) P t (fun x : Sl × List α => [Sl.v x.1]) (fun H x => RdL F H x.1 x.2 ∧ ∀ y ∈ x.2, R H y) (fun x => bks bk x.2 + 1) := by
 constructor
 intro H enc w spare held fuel cs x hN h
 rcases Go.Deep.open_slice ht h with ⟨rfl, rfl⟩ | ⟨a, len, cap, m, n, D, Pl, rfl, hb, hl, hm, hmm, rfl, hx⟩
 ·exact ⟨(Sl.nil, []), rfl, ⟨RdL.nil _ _, fun y hy => by simp at hy⟩, by simp [Rows.uptoBulk, bks]⟩
 ·have hlm : len ≤ m := by rw [hmm]; split <;> omega
  simp only [Rows.uptoBulk] at hN
  obtain ⟨L, hL, hg⟩ := pick (p := fun i (y : α) => cells w.heap (a.add (i * k)) (F.f y) 0 ∧ R w.heap y ∧ bk y ≤ Rows.uptoBulk (D i)) (n := len) fun i hi => by
   obtain ⟨cs', h1, h2⟩ := hx i (by omega)
   have hm := bulk_mem (l := (List.range len).map D) (d := D i) (List.mem_map.2 ⟨i, List.mem_range.2 hi, rfl⟩)
   obtain ⟨y, rfl, h3, h4⟩ := he.out enc w spare held n cs' _ (by show Rows.uptoBulk (D i) < N; omega) h2
   rw [hc] at h1
   exact ⟨y, cells_of_cells? h1, h3, h4⟩
  refine ⟨(⟨some a, len, cap⟩, L), rfl, ⟨⟨hL.symm, ?_⟩, fun y hy => ?_⟩, ?_⟩
  ·show cells w.heap a (L.flatMap F.f) 0
   have := cells_flat F.len (H := w.heap) (a := a) (L := L) (j := 0) fun i x hx => by
    have := (hg i x hx).1
    rw [cells_add] at this
    simpa using this
   simpa using this
  ·obtain ⟨i, hi⟩ := List.getElem?_of_mem hy
   exact (hg i y hi).2.1
  ·simp only [Rows.uptoBulk]
   have := bks_le (bk := bk) (D := D) (j := 0) hL fun i x hx => by rw [Nat.zero_add]; exact (hg i x hx).2.2
   simp only [Nat.zero_add] at this
   show bks bk L + 1 ≤ _
   have e : (List.range len).map (fun i => D i) = (List.range len).map D := rfl
   rw [e] at this
   omega
structure OpnFB (N : Nat) (P : Program) (fs : List Field) (o : Nat) {α : Type} (f : α → List Value) (R : Hp → α → Prop) (bk : α → Nat) : Prop where
 out : ∀ {H : Type} (enc : TypeId × Value → H) (w : World) (spare : Nat → Bool) (held : Bool) (n : Nat) (cs : List Value) (xs : List (DataW H × List MemPlace)),
  xs.length = fs.length → (∀ x ∈ xs, Rows.uptoBulk x.1 < N) → (∀ (i : Nat) (fd : Field), fs[i]? = some fd → DataW.trod enc P w 0 spare held n fd.type ((cs.drop fd.offset).take (P.cellsOf fd.type)) = xs[i]?) →
  ∃ a, (cs.drop o).take (f a).length = f a ∧ R w.heap a ∧ bk a ≤ Rows.uptoBulkAll (xs.map (·.1))
theorem OpnFB.nil {N : Nat} {P : Program} {o : Nat} : OpnFB N P [] o (fun _ : Unit => []) (fun _ _ => True) (fun _ => 0) :=
 ⟨fun enc w spare held n cs xs hx _ _ => ⟨(), by simp, trivial, Nat.zero_le _⟩⟩
theorem OpnFB.cons {N : Nat} {P : Program} {fd : Field} {fs : List Field} {o o' : Nat} {α β : Type} {f : α → List Value} {R : Hp → α → Prop} {bk : α → Nat} {g : β → List Value} {S : Hp → β → Prop} {bl : β → Nat}
  {k : Nat} (ho : fd.offset = o) (hc : P.cellsOf fd.type = k) (hk : o + k = o') (h : OpnB N P fd.type f R bk) (hlen : ∀ a, (f a).length = k) (hs : OpnFB N P fs o' g S bl) :
  OpnFB N P (fd :: fs) o (fun x : α × β => f x.1 ++ g x.2) (fun H x => R H x.1 ∧ S H x.2) (fun x => bk x.1 + bl x.2) := by
 constructor
 intro H enc w spare held n cs xs hx hN hf
 cases xs with
 | nil => simp at hx
 | cons x xs =>
  obtain ⟨a, ha, hR, hb⟩ := h.out enc w spare held n _ x (hN x (List.mem_cons_self ..)) (by have := hf 0 fd rfl; simpa using this)
  obtain ⟨b, hb1, hS, hb2⟩ := hs.out enc w spare held n cs xs (by simpa using hx) (fun y hy => hN y (List.mem_cons_of_mem _ hy)) (fun i fd' hfd => by have := hf (i + 1) fd' (by simpa using hfd); simpa using this)
  refine ⟨(a, b), ?_, ⟨hR, hS⟩, ?_⟩
  ·show (cs.drop o).take (f a ++ g b).length = f a ++ g b
   rw [ho, hc] at ha
   rw [List.length_append, List.take_add, hlen a, ha, List.drop_drop, hk, hb1]
  ·simp only [List.map_cons, Rows.uptoBulkAll]
   omega
theorem OpnB.struct {N : Nat} {P : Program} {t n : Nat} {fs : Array Field} {α : Type} {f : α → List Value} {R : Hp → α → Prop} {bk : α → Nat} (ht : P.underlying t = some (.struct fs)) (hc : P.cellsOf t = n) (hlen : ∀ a, (f a).length = n) (h : OpnFB N P fs.toList 0 f R bk) :
  OpnB (N + 1) P t f R (fun a => bk a + 1) := by
 constructor
 intro H enc w spare held fuel cs x hN hx
 obtain ⟨xs, m, _, rfl, hl, hlx, hf⟩ := DataW.trod_struct ht hx
 simp only [Rows.uptoBulk] at hN
 obtain ⟨a, ha, hR, hb⟩ := h.out enc w spare held m cs xs (by simpa using hlx) (fun y hy => by have := bulk_mem (l := xs.map (·.1)) (d := y.1) (List.mem_map.2 ⟨y, hy, rfl⟩); omega) (fun i fd hfd => hf i fd (by simpa using hfd))
 refine ⟨a, ?_, hR, by simp only [Rows.uptoBulk]; omega⟩
 rw [List.drop_zero, hlen, List.take_of_length_le (by omega)] at ha
 exact ha

theorem size2 : Tryd.prog.cellsOf 2 = 1 := by kernel_rfl
theorem size3 : Tryd.prog.cellsOf 3 = 1 := by kernel_rfl
theorem size4 : Tryd.prog.cellsOf 4 = 1 := by kernel_rfl
theorem size9 : Tryd.prog.cellsOf 9 = 1 := by kernel_rfl
theorem size34 : Tryd.prog.cellsOf 34 = 1 := by kernel_rfl
theorem size36 : Tryd.prog.cellsOf 36 = 3 := by kernel_rfl
theorem size38 : Tryd.prog.cellsOf 38 = 4 := by kernel_rfl
theorem size39 : Tryd.prog.cellsOf 39 = 1 := by kernel_rfl
theorem size41 : Tryd.prog.cellsOf 41 = 10 := by kernel_rfl
theorem size43 : Tryd.prog.cellsOf 43 = 7 := by kernel_rfl
theorem size45 : Tryd.prog.cellsOf 45 = 23 := by kernel_rfl
theorem size49 : Tryd.prog.cellsOf 49 = 1 := by kernel_rfl
theorem size27 : Tryd.prog.cellsOf 27 = 1 := by kernel_rfl
theorem size29 : Tryd.prog.cellsOf 29 = 1 := by kernel_rfl
theorem size30 : Tryd.prog.cellsOf 30 = 1 := by kernel_rfl
theorem size83 : Tryd.prog.cellsOf 83 = 2 := by kernel_rfl
theorem size84 : Tryd.prog.cellsOf 84 = 1 := by kernel_rfl
theorem size86 : Tryd.prog.cellsOf 86 = 2 := by kernel_rfl
def inR (n : Int) : Prop := -9223372036854775808 ≤ n ∧ n ≤ 9223372036854775807
theorem oVT : Opn Tryd.prog 38 vF.f (fun _ v => inR v.n) (fun _ => 1) :=
 (Opn.struct Tryd.underlying38 size38 (fun _ => rfl)
  (OpnF.cons rfl size3 rfl (Opn.int Tryd.underlying3) (fun _ => rfl) (OpnF.cons rfl size2 rfl (Opn.int Tryd.underlying2) (fun _ => rfl)
   (OpnF.cons rfl size9 rfl (Opn.string Tryd.underlying9) (fun _ => rfl) (OpnF.cons rfl size4 rfl (Opn.bool Tryd.underlying4) (fun _ => rfl) (OpnF.nil (o := 4))))))).map
  (fun x => (⟨x.1, x.2.1, x.2.2.1, x.2.2.2.1⟩ : VT)) (fun _ => rfl) (fun _ _ h => wf64 h.2.1) (fun x => Nat.le_add_left _ _)
structure ExA where
 r : ER
 q : Sl
 k : Fo
def exF : Fmt ExA 41 10 := ⟨fun x => x.r.row x.q, fun _ => rfl, by
 intro x v hv
 simp only [List.mem_cons, List.not_mem_nil, or_false] at hv
 rcases hv with rfl | rfl | rfl | rfl | rfl | rfl | rfl | rfl | rfl | rfl <;> rfl, by decide⟩
def toFo : List ExA → Fo
 | [] => .nil
 | x :: l => .cons x.r x.k (toFo l)
theorem toFo_len : ∀ L : List ExA, (toFo L).len = L.length
 | [] => rfl
 | x :: l => by simp only [toFo, Fo.len, toFo_len l, List.length_cons]
theorem toFo_nodes : ∀ L : List ExA, (toFo L).nodes = bks (fun x => x.k.nodes + 1) L
 | [] => rfl
 | x :: l => by simp only [toFo, Fo.nodes, toFo_nodes l, bks]; omega
theorem toFo_foA {H : Hp} {p : Option Addr} : ∀ (L : List ExA) (i : Nat), (∀ j x, L[j]? = some x → ∃ a, p = some a ∧ cells H (a.add ((i + j) * 10)) (x.r.row x.q) 0 ∧ Ex (fun b => b < H.size) H x.q x.k) → FoA (fun b => b < H.size) H p i (toFo L)
 | [], _, _ => trivial
 | x :: l, i, h => by
  obtain ⟨a, ea, hc, hx⟩ := h 0 x rfl
  have hl := cells_block hc (fun h => by cases h)
  rw [ablk] at hl
  exact ⟨a, x.q, ea, hl, hc, hx.n, hx.f, toFo_foA l (i + 1) fun j y hy => by
   have := h (j + 1) y hy
   rwa [show i + (j + 1) = i + 1 + j from by omega] at this⟩
theorem oKids {N : Nat} (he : OpnB N Tryd.prog 41 exF.f (fun H x => Ex (fun b => b < H.size) H x.q x.k) (fun x => x.k.nodes + 1)) : OpnB (N + 1) Tryd.prog 39 (fun x : Sl × Fo => [Sl.v x.1]) (fun H x => Ex (fun b => b < H.size) H x.1 x.2) (fun x => x.2.nodes + 1) :=
 (OpnB.slice (F := exF) Tryd.underlying39 size41 he).map (fun x => (x.1, toFo x.2)) (fun _ => rfl) (fun H x h => ⟨by rw [toFo_len]; exact h.1.n, toFo_foA x.2 0 fun j y hy => by
   obtain ⟨a, ea, _, hc⟩ := h.1.get hy
   exact ⟨a, ea, by rw [Nat.zero_add]; exact hc, h.2 y (List.mem_of_getElem? hy)⟩⟩) (fun x => by show (toFo x.2).nodes + 1 ≤ _; rw [toFo_nodes]; exact Nat.le_refl _)
theorem oExN : ∀ N : Nat, OpnB N Tryd.prog 41 exF.f (fun H x => Ex (fun b => b < H.size) H x.q x.k) (fun x => x.k.nodes + 1)
 | 0 => ⟨fun enc w spare held fuel cs x hx _ => absurd hx (Nat.not_lt_zero _)⟩
 | N + 1 => by
  have s : OpnB (N + 2) Tryd.prog 41 exF.f (fun H x => Ex (fun b => b < H.size) H x.q x.k) (fun x => x.k.nodes + 1) :=
   (OpnB.struct (N := N + 1) Tryd.underlying41 size41 (fun _ => rfl)
    (OpnFB.cons rfl size3 rfl (Opn.int Tryd.underlying3).b (fun _ => rfl) (OpnFB.cons rfl size3 rfl (Opn.int Tryd.underlying3).b (fun _ => rfl) (OpnFB.cons rfl size38 rfl oVT.b (fun _ => rfl)
     (OpnFB.cons rfl size9 rfl (Opn.string Tryd.underlying9).b (fun _ => rfl) (OpnFB.cons rfl size3 rfl (Opn.int Tryd.underlying3).b (fun _ => rfl) (OpnFB.cons rfl size9 rfl (Opn.string Tryd.underlying9).b (fun _ => rfl)
      (OpnFB.cons rfl size39 rfl (oKids (oExN N)) (fun _ => rfl) (OpnFB.nil (o := 10)))))))))).map
    (fun x => (⟨⟨x.1, x.2.1, x.2.2.1.k, x.2.2.1.n, x.2.2.1.s, x.2.2.1.b, x.2.2.2.1, x.2.2.2.2.1, x.2.2.2.2.2.1⟩, x.2.2.2.2.2.2.1.1, x.2.2.2.2.2.2.1.2⟩ : ExA)) (fun _ => rfl) (fun _ _ h => h.2.2.2.2.2.2.1) (fun x => by
     show x.2.2.2.2.2.2.1.2.nodes + 1 ≤ _
     omega)
  exact s.mono (by omega)
theorem oEx : Opn Tryd.prog 41 exF.f (fun H x => Ex (fun b => b < H.size) H x.q x.k) (fun x => x.k.nodes + 1) := OpnB.all oExN
theorem oExs : Opn Tryd.prog 39 (fun x : Sl × Fo => [Sl.v x.1]) (fun H x => Ex (fun b => b < H.size) H x.1 x.2) (fun x => x.2.nodes + 1) := OpnB.all fun N => (oKids (oExN N)).mono (Nat.le_succ N)
end Go.Hw
