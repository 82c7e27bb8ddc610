/- Arguments opened, whatever their type; what a walk gives handed to the statement's form. Own work of this session. -/
import Derived.Test.YtbhfkpdalilhcaaDoorRows
import Derived.Test.YtbhfkpdalilhcaaDoorHwI
import Derived.WalkKit
import Derived.ProofKit
import Derived.OpenShut
import Derived.JoinedCond
import Derived.Carry
import Derived.Deep.Slices
set_option linter.unusedVariables false
namespace Go.Hw
open Go Go.ChangeShapes Go.WideShapes Go.RowKit Go.Proofs.YtbhfkpdalilhcaaDoor

/-- What a reading of a type is, opened: its cells, what stands in memory, its bulk. -/
structure Opn (P : Program) (t : TypeId) {α : Type} (f : α → List Value) (R : Hp → α → Prop) (bk : α → Nat) : Prop where
  out : ∀ {H : Type} (enc : TypeId × Value → H) (w : World) (spare : Nat → Bool) (held : Bool) (fuel : Nat) (cs : List Value) (x : DataW H × List MemPlace),
    DataW.trod enc P w 0 spare held fuel t cs = some x → ∃ a, cs = f a ∧ R w.heap a ∧ bk a ≤ Rows.uptoBulk x.1

theorem bulk_lit {H : Type} (l : Lit) : 1 ≤ Rows.uptoBulk (DataW.lit l : DataW H) := by cases l <;> simp [Rows.uptoBulk]

theorem Opn.int {P : Program} {t : TypeId} {k : IntKind} (ht : P.underlying t = some (.int k)) : Opn P t (fun i : Int => [.int k i]) (fun _ i => (Lit.int k i).wf = true) (fun _ => 1) := by
  constructor
  intro H enc w spare held fuel cs x h
  obtain ⟨n, rfl, rfl, hw⟩ := DataW.trod_int ht h
  exact ⟨n, rfl, hw, bulk_lit _⟩
theorem Opn.bool {P : Program} {t : TypeId} (ht : P.underlying t = some .bool) : Opn P t (fun b : Bool => [.bool b]) (fun _ _ => True) (fun _ => 1) := by
  constructor
  intro H enc w spare held fuel cs x h
  obtain ⟨b, rfl, rfl⟩ := DataW.trod_bool ht h
  exact ⟨b, rfl, trivial, bulk_lit _⟩
theorem Opn.string {P : Program} {t : TypeId} (ht : P.underlying t = some .string) : Opn P t (fun s : ByteArray => [.string s]) (fun _ _ => True) (fun s => s.size + 1) := by
  constructor
  intro H enc w spare held fuel cs x h
  obtain ⟨s, rfl, rfl, _⟩ := DataW.trod_string ht h
  refine ⟨s, rfl, trivial, ?_⟩
  simp only [Rows.uptoBulk]
  exact Nat.le_refl _

theorem bulkAll_append {H : Type} (l m : List (DataW H)) : Rows.uptoBulkAll (l ++ m) = Rows.uptoBulkAll l + Rows.uptoBulkAll m := by
  induction l with
  | nil => simp [Rows.uptoBulkAll]
  | cons d l ih => simp only [List.cons_append, Rows.uptoBulkAll, ih, Nat.add_assoc]

theorem pick {α : Type} {p : Nat → α → Prop} : ∀ {n : Nat}, (∀ i, i < n → ∃ a, p i a) → ∃ L : List α, L.length = n ∧ ∀ i x, L[i]? = some x → p i x
  | 0, _ => ⟨[], rfl, fun i x h => by simp at h⟩
  | n + 1, h => by
    obtain ⟨L, hl, hL⟩ := pick (n := n) fun i hi => h i (by omega)
    obtain ⟨a, ha⟩ := h n (by omega)
    refine ⟨L ++ [a], by simp [hl], fun i x hx => ?_⟩
    by_cases hi : i < L.length
    · rw [List.getElem?_append_left hi] at hx
      exact hL i x hx
    · rw [List.getElem?_append_right (by omega)] at hx
      have : i - L.length = 0 := by
        have := (List.getElem?_eq_some_iff.1 hx).1
        simp at this; omega
      rw [this] at hx
      simp at hx
      subst hx
      rw [show i = n from by omega]
      exact ha

theorem cells_append {H : Hp} {a : Addr} : ∀ {l m : List Value} {i : Nat}, cells H a l i → cells H a m (i + l.length) → cells H a (l ++ m) i
  | [], m, i, _, h => h
  | v :: l, m, i, ⟨h1, h2⟩, h => ⟨h1, cells_append h2 (by simpa [Nat.add_assoc, Nat.add_comm 1] using h)⟩

theorem cells_flat {α : Type} {f : α → List Value} {k : Nat} (hf : ∀ x, (f x).length = k) {H : Hp} {a : Addr} : ∀ {L : List α} {j : Nat}, (∀ i x, L[i]? = some x → cells H a (f x) ((j + i) * k)) → cells H a (L.flatMap f) (j * k)
  | [], _, _ => trivial
  | x :: L, j, h => by
    rw [List.flatMap_cons]
    refine cells_append (h 0 x rfl) ?_
    rw [hf, ← Nat.succ_mul]
    exact cells_flat hf fun i y hy => by
      have := h (i + 1) y hy
      rwa [show j + (i + 1) = j.succ + i from by omega] at this

theorem cells_of_cells? {w : World} {a : Addr} {n : Nat} {cs : List Value} (h : w.cells? 0 a n = some cs) : cells w.heap a cs 0 := by
  obtain ⟨_, hl, hc⟩ := World.cells?_some h
  rw [cells_iff]
  intro j v hj
  rw [Nat.zero_add]
  have hjl := (List.getElem?_eq_some_iff.1 hj).1
  exact (hc j (by omega)).trans hj

/-- The bulk of all. -/
def bks {α : Type} (bk : α → Nat) : List α → Nat
  | [] => 0
  | x :: l => bk x + bks bk l
theorem bks_mem {α : Type} {bk : α → Nat} : ∀ {l : List α} {x : α}, x ∈ l → bk x ≤ bks bk l
  | y :: l, x, h => by
    rcases List.mem_cons.1 h with rfl | h
    · exact Nat.le_add_right _ _
    · exact Nat.le_trans (bks_mem h) (Nat.le_add_left _ _)
theorem bks_len {α : Type} {bk : α → Nat} (h1 : ∀ x, 1 ≤ bk x) : ∀ {l : List α}, l.length ≤ bks bk l
  | [] => Nat.le_refl _
  | x :: l => by
    have := bks_len h1 (l := l)
    have := h1 x
    simp only [List.length_cons, bks]; omega
theorem bks_le {α H : Type} {bk : α → Nat} {D : Nat → DataW H} : ∀ {n j : Nat} {L : List α}, L.length = n → (∀ i x, L[i]? = some x → bk x ≤ Rows.uptoBulk (D (j + i))) → bks bk L ≤ Rows.uptoBulkAll ((List.range n).map fun i => D (j + i))
  | 0, j, L, hl, _ => by
    obtain rfl := List.eq_nil_of_length_eq_zero hl
    exact Nat.zero_le _
  | n + 1, j, [], hl, _ => by simp at hl
  | n + 1, j, x :: L, hl, h => by
    have h0 := h 0 x rfl
    have ih := bks_le (n := n) (j := j + 1) (L := L) (D := D) (by simpa using hl) fun i y hy => by
      have := h (i + 1) y hy
      rwa [show j + (i + 1) = j + 1 + i from by omega] at this
    rw [List.range_succ_eq_map, List.map_cons, List.map_map]
    simp only [Rows.uptoBulkAll, bks]
    have e : ((fun i => D (j + i)) ∘ Nat.succ) = fun i => D (j + 1 + i) := by funext i; simp only [Function.comp]; congr 1; omega
    rw [e]
    exact Nat.add_le_add h0 ih

theorem Opn.slice {P : Program} {t e k : Nat} {α : Type} {F : Fmt α e k} {R : Hp → α → Prop} {bk : α → Nat} (ht : P.underlying t = some (.slice e)) (hc : P.cellsOf e = k) (he : Opn P e F.f R bk) :
    Opn P t (fun x : Sl × List α => [Sl.v x.1]) (fun H x => RdL F H x.1 x.2 ∧ ∀ y ∈ x.2, R H y) (fun x => bks bk x.2 + 1) := by
  constructor
  intro H enc w spare held fuel cs x h
  rcases Go.Deep.open_slice ht h with ⟨rfl, rfl⟩ | ⟨a, len, cap, m, n, D, Pl, rfl, hb, hl, hm, hmm, rfl, hx⟩
  · exact ⟨(Sl.nil, []), rfl, ⟨RdL.nil _ _, fun y hy => by simp at hy⟩, by simp [Rows.uptoBulk, bks]⟩
  · have hlm : len ≤ m := by rw [hmm]; split <;> omega
    obtain ⟨L, hL, hg⟩ := pick (p := fun i (y : α) => cells w.heap (a.add (i * k)) (F.f y) 0 ∧ R w.heap y ∧ bk y ≤ Rows.uptoBulk (D i)) (n := len) fun i hi => by
      obtain ⟨cs', h1, h2⟩ := hx i (by omega)
      obtain ⟨y, rfl, h3, h4⟩ := he.out enc w spare held n cs' _ h2
      rw [hc] at h1
      exact ⟨y, cells_of_cells? h1, h3, h4⟩
    refine ⟨(⟨some a, len, cap⟩, L), rfl, ⟨⟨hL.symm, ?_⟩, fun y hy => ?_⟩, ?_⟩
    · show cells w.heap a (L.flatMap F.f) 0
      have := cells_flat F.len (H := w.heap) (a := a) (L := L) (j := 0) fun i x hx => by
        have := (hg i x hx).1
        rw [cells_add] at this
        simpa using this
      simpa using this
    · obtain ⟨i, hi⟩ := List.getElem?_of_mem hy
      exact (hg i y hi).2.1
    · simp only [Rows.uptoBulk]
      have := bks_le (bk := bk) (D := D) (j := 0) hL fun i x hx => by rw [Nat.zero_add]; exact (hg i x hx).2.2
      simp only [Nat.zero_add] at this
      show bks bk L + 1 ≤ _
      have e : (List.range len).map (fun i => D i) = (List.range len).map D := rfl
      rw [e] at this
      omega

/-- As 'slice', and no more than has room. -/
theorem Opn.sliceC {P : Program} {t e k : Nat} {α : Type} {F : Fmt α e k} {R : Hp → α → Prop} {bk : α → Nat} (ht : P.underlying t = some (.slice e)) (hc : P.cellsOf e = k) (he : Opn P e F.f R bk) :
    Opn P t (fun x : Sl × List α => [Sl.v x.1]) (fun H x => RdL F H x.1 x.2 ∧ x.1.n ≤ x.1.c ∧ ∀ y ∈ x.2, R H y) (fun x => bks bk x.2 + 1) := by
  constructor
  intro H enc w spare held fuel cs x h
  obtain ⟨a, h1, h2, h3⟩ := (Opn.slice ht hc he).out enc w spare held fuel cs x h
  refine ⟨a, h1, ⟨h2.1, ?_, h2.2⟩, h3⟩
  rcases Go.Deep.open_slice ht h with ⟨e1, _⟩ | ⟨b, len, cap, m, n, D, Pl, e1, _, hl, _⟩
  · rw [e1] at h1
    injection h1 with h1
    unfold Sl.v at h1
    injection h1 with _ h2 h3
    omega
  · rw [e1] at h1
    injection h1 with h1
    unfold Sl.v at h1
    injection h1 with _ h2 h3
    omega

/-- A struct's fields from one of them on. -/
structure OpnF (P : Program) (fs : List Field) (o : Nat) {α : Type} (f : α → List Value) (R : Hp → α → Prop) (bk : α → Nat) : Prop where
  out : ∀ {H : Type} (enc : TypeId × Value → H) (w : World) (spare : Nat → Bool) (held : Bool) (n : Nat) (cs : List Value) (len : Nat) (xs : List (DataW H × List MemPlace)),
    cs.length = len → xs.length = fs.length → (∀ (i : Nat) (fd : Field), fs[i]? = some fd → DataW.trod enc P w 0 spare held n fd.type ((cs.drop fd.offset).take (P.cellsOf fd.type)) = xs[i]?) → (∀ o', len = o' → True) →
    ∃ a, (cs.drop o).take (f a).length = f a ∧ R w.heap a ∧ bk a ≤ Rows.uptoBulkAll (xs.map (·.1))

theorem OpnF.nil {P : Program} {o : Nat} : OpnF P [] o (fun _ : Unit => []) (fun _ _ => True) (fun _ => 0) := by
  constructor
  intro H enc w spare held n cs len xs hl hx _ _
  exact ⟨(), by simp, trivial, Nat.zero_le _⟩

theorem OpnF.cons {P : Program} {fd : Field} {fs : List Field} {o o' : Nat} {α β : Type} {f : α → List Value} {R : Hp → α → Prop} {bk : α → Nat} {g : β → List Value} {S : Hp → β → Prop} {bl : β → Nat}
    {k : Nat} (ho : fd.offset = o) (hc : P.cellsOf fd.type = k) (hk : o + k = o') (h : Opn P fd.type f R bk) (hlen : ∀ a, (f a).length = k) (hs : OpnF P fs o' g S bl) :
    OpnF P (fd :: fs) o (fun x : α × β => f x.1 ++ g x.2) (fun H x => R H x.1 ∧ S H x.2) (fun x => bk x.1 + bl x.2) := by
  constructor
  intro H enc w spare held n cs len xs hl hx hf _
  cases xs with
  | nil => simp at hx
  | cons x xs =>
    obtain ⟨a, ha, hR, hb⟩ := h.out enc w spare held n _ x (by have := hf 0 fd rfl; simpa using this)
    obtain ⟨b, hb1, hS, hb2⟩ := hs.out enc w spare held n cs len xs hl (by simpa using hx) (fun i fd' hfd => by have := hf (i + 1) fd' (by simpa using hfd); simpa using this) (fun _ _ => trivial)
    refine ⟨(a, b), ?_, ⟨hR, hS⟩, ?_⟩
    · show (cs.drop o).take (f a ++ g b).length = f a ++ g b
      rw [ho, hc] at ha
      rw [List.length_append, List.take_add, hlen a, ha, List.drop_drop, hk, hb1]
    · simp only [List.map_cons, Rows.uptoBulkAll]
      omega

theorem Opn.struct {P : Program} {t n : Nat} {fs : Array Field} {α : Type} {f : α → List Value} {R : Hp → α → Prop} {bk : α → Nat} (ht : P.underlying t = some (.struct fs)) (hc : P.cellsOf t = n) (hlen : ∀ a, (f a).length = n) (h : OpnF P fs.toList 0 f R bk) :
    Opn P t f R (fun a => bk a + 1) := by
  constructor
  intro H enc w spare held fuel cs x hx
  obtain ⟨xs, m, _, rfl, hl, hlx, hf⟩ := DataW.trod_struct ht hx
  obtain ⟨a, ha, hR, hb⟩ := h.out enc w spare held m cs n xs (by omega) (by simpa using hlx) (fun i fd hfd => hf i fd (by simpa using hfd)) (fun _ _ => trivial)
  refine ⟨a, ?_, hR, by simp only [Rows.uptoBulk]; omega⟩
  rw [List.drop_zero, hlen, List.take_of_length_le (by omega)] at ha
  exact ha

/-- In other words. -/
theorem Opn.map {P : Program} {t : TypeId} {α β : Type} {f : α → List Value} {R : Hp → α → Prop} {bk : α → Nat} {f' : β → List Value} {R' : Hp → β → Prop} {bk' : β → Nat} (h : Opn P t f R bk) (g : α → β) (hf : ∀ a, f a = f' (g a)) (hR : ∀ H a, R H a → R' H (g a)) (hb : ∀ a, bk' (g a) ≤ bk a) : Opn P t f' R' bk' := by
  constructor
  intro H enc w spare held fuel cs x hx
  obtain ⟨a, h1, h2, h3⟩ := h.out enc w spare held fuel cs x hx
  exact ⟨g a, h1.trans (hf a), hR _ _ h2, Nat.le_trans (hb a) h3⟩

/-! ## to the statement's form -/
theorem ok_below {W w' : World} (h : Ok W w') (hs : W.heap.size ≤ w'.heap.size) (hb : ∀ k, k < W.heap.size → w'.heap[k]? = W.heap[k]?) : Below W.heap.size W w' :=
  ⟨h.os, h.tape, h.output, hs, hb⟩

theorem args_stay {H : Type} {enc : TypeId × Value → H} {P : Program} {W W' : World} {sp : Nat → Bool} (hl : laidOutB P = true) (hb : Below W.heap.size W W') :
    ∀ {ts : List TypeId} {vs : List Value} {ds : List (DataW H)} {ps : List MemPlace}, (∀ t ∈ ts, P.readableRec t = true ∧ t < P.types.size) → DataW.TrodAll enc P W 0 (fun _ => true) true ts vs ds ps → (∀ p ∈ ps, p.block < W.heap.size) → (∀ p ∈ ps, sp p.block = true) →
      DataW.TrodAll enc P W' 0 sp true ts vs ds ps
  | [], [], [], _, _, h, _, _ => h
  | t :: ts, _ :: _, _ :: _, _, hts, ⟨p, q, h1, h2, e⟩, hlt, hs => by
    subst e
    have ht := hts t (List.mem_cons_self ..)
    exact ⟨p, q, WideElems.Trod_stays hl ht.1 ht.2 h1 (fun x hx => hb.same (hlt x (List.mem_append_left _ hx))) (fun x hx => hs x (List.mem_append_left _ hx)),
      args_stay hl hb (fun t ht => hts t (List.mem_cons_of_mem _ ht)) h2 (fun x hx => hlt x (List.mem_append_right _ hx)) (fun x hx => hs x (List.mem_append_right _ hx)), rfl⟩

/-- The post of a row that is not asked for again ('again := false'): nothing is asked of what is frozen. -/
theorem post_old {H : Type} {enc : TypeId × Value → H} {P : Program} {fn : Func} {s : ChangeSpec} {W W' : World} {args : Array Value} {v : Value} {ds gs : List (DataW H)} {before pa pv : List MemPlace}
    (hW : DataW.Whole enc P fn.params.toList s.vars false W args.toList ds gs before)
    (hres : ∀ (b : Nat) (sp : Nat → Bool) (hd : Bool), DataW.TrodAll enc P W' b sp hd fn.resultTypes.toList (v.resultList fn.resultTypes.size) (s.fn H (ds ++ gs)).results [])
    (hargs : ∀ sp : Nat → Bool, (∀ p ∈ before, sp p.block = true) → DataW.TrodAll enc P W' 0 sp true fn.params.toList args.toList (s.fn H (ds ++ gs)).args pa)
    (hvars : ∀ sp : Nat → Bool, (∀ p ∈ before, sp p.block = true) → DataW.TrodVars enc P W' sp s.vars (s.fn H (ds ++ gs)).vars pv)
    (hps : before = pa ++ pv) (hk : W.keptBut W' (· ∈ before)) : s.post enc P fn false true false false W args v W' := by
  subst hps
  have hsp : ∀ p ∈ pa ++ pv, (fun b => decide (b < W.heap.size)) p.block = true := fun p hp => decide_eq_true (hW.lt p hp)
  exact ⟨ds, gs, _, [], pa, pv, hW, hres _ _ _, hargs _ hsp, hvars _ hsp, World.keptBut_mono (fun p hp => ⟨hp, .inr (List.mem_append.1 hp)⟩) hk, fun h => by cases h⟩

/-- The answer is true and nothing that was there has turned: what the statement asks behind the call. -/
theorem close {H : Type} {enc : TypeId × Value → H} {P : Program} {fn : Func} {s : ChangeSpec} {W W' : World} {args : Array Value} {ds gs : List (DataW H)} {before : List MemPlace} {tb : TypeId}
    (hW : DataW.Whole enc P fn.params.toList s.vars false W args.toList ds gs before) (hv : s.vars = []) (hr1 : (s.fn H (ds ++ gs)).results = [.lit (.bool true)]) (hr2 : (s.fn H (ds ++ gs)).args = ds) (hr3 : (s.fn H (ds ++ gs)).vars = [])
    (hl : laidOutB P = true) (hts : ∀ t ∈ fn.params.toList, P.readableRec t = true ∧ t < P.types.size) (hrt : fn.resultTypes = #[tb]) (hb : P.underlying tb = some .bool) (ho : Ok W W') (hs : W.heap.size ≤ W'.heap.size) (hk : ∀ k, k < W.heap.size → W'.heap[k]? = W.heap[k]?) :
    s.post enc P fn false true false false W args (.bool true) W' := by
  have hW' := hW
  obtain ⟨p, q, hA0, hV, rfl, hfz, hnd⟩ := hW
  have hA : DataW.TrodAll enc P W 0 (fun _ => true) true fn.params.toList args.toList ds p := hA0
  have hq : q = [] := by
    rw [hv] at hV
    exact (trodVars_none hV).2
  subst hq
  have hbel := ok_below ho hs hk
  have hlt : ∀ x ∈ p, x.block < W.heap.size := fun x hx => by simpa using hW'.lt x (List.mem_append_left _ hx)
  refine post_old (pa := p) (pv := []) hW' (fun b sp hd => ?_) (fun sp hsp => ?_) (fun sp _ => ?_) rfl (hbel.frame _)
  · rw [hr1, hrt]
    exact trodAll_cons_mk (shut_bool hb _) trodAll_mk0
  · rw [hr2]
    exact args_stay hl hbel hts hA hlt (fun x hx => hsp x (List.mem_append_left _ hx))
  · rw [hr3, hv]
    rfl

end Go.Hw
