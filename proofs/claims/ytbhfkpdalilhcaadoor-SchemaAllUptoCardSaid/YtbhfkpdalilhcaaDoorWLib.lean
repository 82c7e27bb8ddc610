/- The library functions that are taken by their contracts: strings.Clone, strings.Compare, strings.Builder, slices.SortFunc. Own work of this session. -/
import Derived.Test.YtbhfkpdalilhcaaDoorHwI
import Derived.Test.YtbhfkpdalilhcaaDoorHwT
import Derived.Test.YtbhfkpdalilhcaaDoorShelf
import Derived.Shelf.SlSortCmp.NoneTotal
set_option linter.unusedVariables false
namespace Go.Hw
open Go Go.Proofs Go.Sort

/-! ## internal/stringslite.Clone -/
def F55 (p0 : ByteArray) (H : Hp) (Q : ByteArray → Hp → Prop) : Prop :=
  p0.size ≤ 281474976710656 ∧ ∀ H', Kp (fun _ => False) H H' → Q p0 H'
theorem walk55 {w0 : World} {p0 : ByteArray} {H : Hp} {Q : ByteArray → Hp → Prop} (h : F55 p0 H Q) : Good Tryd.prog w0 55 #[(.string p0)] H (fun v H => ∃ r0 : ByteArray, v = (.string r0) ∧ Q r0 H) := by
  obtain ⟨h0, hq⟩ := h
  intro w ho hh
  subst hh
  refine (Tryd.stringslite_Clone p0 w h0).mono fun e w' ⟨he, hbel⟩ => ?_
  exact ⟨_, he, ⟨hbel.tape.trans ho.tape, hbel.os.trans ho.os, hbel.output.trans ho.output, ⟨Nat.le_trans ho.kf.size hbel.size, trivial⟩⟩, _, rfl, hq _ ⟨hbel.size, fun k hk _ => hbel.block k hk⟩⟩

/-! ## strings.Compare -/
def cmpS (a b : ByteArray) : Int := Lib.compareBytes a.data.toList b.data.toList
def F36 (p0 p1 : ByteArray) (H : Hp) (Q : Int → Hp → Prop) : Prop := Q (cmpS p0 p1) H
theorem walk36 {w0 : World} {p0 p1 : ByteArray} {H : Hp} {Q : Int → Hp → Prop} (h : F36 p0 p1 H Q) : Good Tryd.prog w0 36 #[(.string p0), (.string p1)] H (fun v H => ∃ r0 : Int, v = (.int .i64 r0) ∧ Q r0 H) := by
  intro w ho hh
  subst hh
  refine (Tryd.strings_Compare p0 p1 w).mono fun e w' ⟨he, hw⟩ => ?_
  subst hw
  exact ⟨_, he, ho, _, rfl, h⟩

/-! ## strings.Builder -/
/-- Block b is a builder with these bytes; it and its row lie from B on. -/
def Bld (H : Hp) (B b : Nat) (l : List UInt8) : Prop := ∀ w : World, w.heap = H → Lib.IsBuilderF 80 5 B b (Lib.byteCells l) w
/-- What writing to a builder may turn. -/
def Sb (H : Hp) (B b : Nat) : Nat → Prop := fun k => k = b ∨ (B ≤ k ∧ ∃ c fz, H[k]? = some (.cells c 5 fz))

theorem Bld.new {H : Hp} {B b : Nat} (hB : B ≤ b) (hr : Row H b 80 [.pointer none, Sl.v Sl.nil]) : Bld H B b [] := by
  intro w hw
  subst hw
  exact .inl ⟨hB, _, hr, World.ownsRowF_nil w B 5 1, by simp [Value.ownBlock, Sl.v, Sl.nil]⟩
theorem Bld.of {w : World} {B b : Nat} {l : List UInt8} (h : Lib.IsBuilderF 80 5 B b (Lib.byteCells l) w) : Bld w.heap B b l := by
  intro w' hw
  rcases h with ⟨h1, v, h2, h3, h4⟩ | ⟨h1, v, h2, h3, h4⟩
  · refine .inl ⟨h1, v, by rw [hw]; exact h2, ?_, h4⟩
    unfold World.ownsRowF at *
    rw [hw]; exact h3
  · refine .inr ⟨h1, v, by rw [hw]; exact h2, ?_, h4⟩
    unfold World.ownsRowF at *
    rw [hw]; exact h3
theorem strCells_eq (s : ByteArray) : Lib.strCells s = Lib.byteCells s.data.toList := rfl
theorem byteCells_append (a b : List UInt8) : Lib.byteCells (a ++ b) = Lib.byteCells a ++ Lib.byteCells b := by simp [Lib.byteCells]
theorem byteCells_length (a : List UInt8) : (Lib.byteCells a).length = a.length := by simp [Lib.byteCells]
theorem Sb.kp {w w' : World} {B b : Nat} (hb : Go.RowKit.Below B w w') (ho : Lib.OthersKept 5 (some b) w w') : Kp (Sb w.heap B b) w.heap w'.heap := by
  refine ⟨hb.size, fun k hk hs => ?_⟩
  by_cases hB : k < B
  · exact hb.block k hB
  · have hkb : k ≠ b := fun e => hs (.inl e)
    have hg : w.heap[k]? = some (w.heap[k]'hk) := Array.getElem?_eq_getElem hk
    rw [hg]
    exact ho k _ hg (fun e => hkb (Option.some.inj e)) fun c fz e => hs (.inr ⟨by omega, c, fz, by rw [hg, e]⟩)

def F28 (p0 : Option Addr) (p1 : ByteArray) (H : Hp) (Q : Int → Value → Hp → Prop) : Prop :=
  ∃ B b l, p0 = some ⟨b, 0, none⟩ ∧ Bld H B b l ∧ l.length + p1.size ≤ 140737488355328 ∧ B ≤ H.size ∧ ∀ H', Bld H' B b (l ++ p1.data.toList) → Kp (Sb H B b) H H' → Q (p1.size : Int) .nilIface H'
theorem walk28 {w0 : World} {p0 : Option Addr} {p1 : ByteArray} {H : Hp} {Q : Int → Value → Hp → Prop} (h : F28 p0 p1 H Q) : Good Tryd.prog w0 28 #[(.pointer p0), (.string p1)] H (fun v H => ∃ (r0 : Int) (r1 : Value), v = (.tuple #[(.int .i64 r0), r1]) ∧ Q r0 r1 H) := by
  obtain ⟨B, b, l, rfl, hb, hl, hB, hq⟩ := h
  intro w ho hh
  subst hh
  refine (Tryd.Builder_WriteString_k B b _ p1 w (hb w rfl) (by rw [byteCells_length]; exact hl) hB).mono fun e w' ⟨he, hat, hbel, hoth⟩ => ?_
  rw [strCells_eq, ← byteCells_append] at hat
  exact ⟨_, he, ⟨hbel.tape.trans ho.tape, hbel.os.trans ho.os, hbel.output.trans ho.output, ⟨Nat.le_trans ho.kf.size hbel.size, trivial⟩⟩, _, _, rfl, hq _ (Bld.of (.inr hat)) (Sb.kp hbel hoth)⟩

def F29 (p0 : Option Addr) (p1 : Int) (H : Hp) (Q : Value → Hp → Prop) : Prop :=
  ∃ B b l, p0 = some ⟨b, 0, none⟩ ∧ Bld H B b l ∧ l.length + 1 ≤ 140737488355328 ∧ B ≤ H.size ∧ 0 ≤ p1 ∧ p1 < 256 ∧ ∀ H', Bld H' B b (l ++ [UInt8.ofNat p1.toNat]) → Kp (Sb H B b) H H' → Q .nilIface H'
theorem walk29 {w0 : World} {p0 : Option Addr} {p1 : Int} {H : Hp} {Q : Value → Hp → Prop} (h : F29 p0 p1 H Q) : Good Tryd.prog w0 29 #[(.pointer p0), (.int .u8 p1)] H (fun v H => ∃ (r0 : Value), v = r0 ∧ Q r0 H) := by
  obtain ⟨B, b, l, rfl, hb, hl, hB, h0, h1, hq⟩ := h
  intro w ho hh
  subst hh
  refine (Tryd.Builder_WriteByte_k B b _ p1 w (hb w rfl) (by rw [byteCells_length]; exact hl) hB).mono fun e w' ⟨he, hat, hbel, hoth⟩ => ?_
  have e1 : [Value.int .u8 p1] = Lib.byteCells [UInt8.ofNat p1.toNat] := by
    simp [Lib.byteCells]
    omega
  rw [e1, ← byteCells_append] at hat
  exact ⟨_, he, ⟨hbel.tape.trans ho.tape, hbel.os.trans ho.os, hbel.output.trans ho.output, ⟨Nat.le_trans ho.kf.size hbel.size, trivial⟩⟩, _, rfl, hq _ (Bld.of (.inr hat)) (Sb.kp hbel hoth)⟩

def F30 (p0 : Option Addr) (H : Hp) (Q : ByteArray → Hp → Prop) : Prop :=
  ∃ B b l, p0 = some ⟨b, 0, none⟩ ∧ Bld H B b l ∧ B ≤ H.size ∧ ∀ H', Kp (Sb H B b) H H' → Q ⟨l.toArray⟩ H'
theorem walk30 {w0 : World} {p0 : Option Addr} {H : Hp} {Q : ByteArray → Hp → Prop} (h : F30 p0 H Q) : Good Tryd.prog w0 30 #[(.pointer p0)] H (fun v H => ∃ r0 : ByteArray, v = (.string r0) ∧ Q r0 H) := by
  obtain ⟨B, b, l, rfl, hb, hB, hq⟩ := h
  intro w ho hh
  subst hh
  refine (Tryd.Builder_String_any_k B b l w (hb w rfl) hB).mono fun e w' ⟨he, hat, hbel, hoth⟩ => ?_
  exact ⟨_, he, ⟨hbel.tape.trans ho.tape, hbel.os.trans ho.os, hbel.output.trans ho.output, ⟨Nat.le_trans ho.kf.size hbel.size, trivial⟩⟩, _, rfl, hq _ (Sb.kp hbel hoth)⟩

/-! ## slices.SortFunc over types, by name -/
def tF : Fmt (ByteArray × Sl) 27 2 := ⟨fun x => [.string x.1, Sl.v x.2], fun _ => rfl, by
  intro x v hv
  simp only [List.mem_cons, List.not_mem_nil, or_false] at hv
  rcases hv with rfl | rfl <;> rfl, by decide⟩
instance : Inhabited Sl := ⟨Sl.nil⟩
def cmpT (x y : ByteArray × Sl) : Int := cmpS x.1 y.1

theorem cmpL_irrefl : ∀ a : List UInt8, ¬ Lib.compareBytes a a < 0
  | [] => by unfold Lib.compareBytes; decide
  | a :: l => by
    unfold Lib.compareBytes
    rw [if_neg (by simp), if_neg (by simp)]
    exact cmpL_irrefl l
theorem cmpL_neg {a b : UInt8} {l m : List UInt8} : Lib.compareBytes (a :: l) (b :: m) < 0 ↔ (a < b ∨ (a = b ∧ Lib.compareBytes l m < 0)) := by
  conv => lhs; unfold Lib.compareBytes
  by_cases h1 : a < b
  · simp [h1]
  · rw [if_neg h1]
    by_cases h2 : b < a
    · rw [if_pos h2]
      constructor
      · intro h; omega
      · rintro (h | ⟨h, _⟩)
        · exact absurd h h1
        · subst h; exact absurd h2 h1
    · rw [if_neg h2]
      have e : a = b := UInt8.le_antisymm (by simpa using h2) (by simpa using h1)
      simp [e]
theorem cmpL_trans : ∀ {a b c : List UInt8}, Lib.compareBytes a b < 0 → Lib.compareBytes b c < 0 → Lib.compareBytes a c < 0
  | [], [], c, h, _ => by unfold Lib.compareBytes at h; omega
  | [], _ :: _, [], _, h => by unfold Lib.compareBytes at h; omega
  | [], _ :: _, _ :: _, _, _ => by unfold Lib.compareBytes; omega
  | _ :: _, [], _, h, _ => by unfold Lib.compareBytes at h; omega
  | _ :: _, _ :: _, [], _, h => by unfold Lib.compareBytes at h; omega
  | a :: l, b :: m, c :: n, h, k => by
    rw [cmpL_neg] at *
    rcases h with h | ⟨rfl, h⟩
    · rcases k with k | ⟨rfl, k⟩
      · exact .inl (UInt8.lt_trans h k)
      · exact .inl h
    · rcases k with k | ⟨rfl, k⟩
      · exact .inl k
      · exact .inr ⟨rfl, cmpL_trans h k⟩
theorem cmpL_total : ∀ {a b : List UInt8}, ¬ Lib.compareBytes a b < 0 → a = b ∨ Lib.compareBytes b a < 0
  | [], [], _ => .inl rfl
  | [], _ :: _, h => absurd (show Lib.compareBytes [] (_ :: _) < 0 by unfold Lib.compareBytes; omega) h
  | _ :: _, [], _ => .inr (by unfold Lib.compareBytes; omega)
  | a :: l, b :: m, h => by
    rw [cmpL_neg] at *
    by_cases h1 : b < a
    · exact .inr (.inl h1)
    · have h2 : ¬ a < b := fun e => h (.inl e)
      have e : a = b := UInt8.le_antisymm (by simpa using h1) (by simpa using h2)
      subst e
      rcases cmpL_total (fun e => h (.inr ⟨rfl, e⟩)) with e | e
      · exact .inl (by rw [e])
      · exact .inr (.inr ⟨rfl, e⟩)
theorem swoT : SWO (ltOf cmpT) where
  irrefl x := decide_eq_false (cmpL_irrefl _)
  trans x y z h1 h2 := decide_eq_true (cmpL_trans (of_decide_eq_true h1) (of_decide_eq_true h2))
  ntrans x y z h1 h2 := decide_eq_false fun h => by
    have h1 := of_decide_eq_false h1
    have h2 := of_decide_eq_false h2
    rcases cmpL_total h1 with e | e
    · exact h2 (by show Lib.compareBytes y.1.data.toList z.1.data.toList < 0; rw [← e]; exact h)
    · exact h2 (cmpL_trans e h)

set_option maxHeartbeats 1000000 in
/-- The closure: two blocks are laid. -/
theorem closure35 (x y : ByteArray × Sl) (W : World) : Calls Tryd.prog 35 #[.agg (tF.f x).toArray, .agg (tF.f y).toArray] W fun e w' => e = .returned (.int .i64 (cmpT x y)) ∧ ∃ q os', w' = grow (W.drewN q) os' := by
  have hcon := fun W' => Tryd.strings_Compare x.1 y.1 W'
  show Calls Tryd.prog 35 #[.agg #[.string x.1, .slice x.2.b x.2.n x.2.c], .agg #[.string y.1, .slice y.2.b y.2.n y.2.c]] W fun e w' => e = .returned (.int .i64 (Lib.compareBytes x.1.data.toList y.1.data.toList)) ∧ ∃ q os', w' = grow (W.drewN q) os'
  generalize Lib.compareBytes x.1.data.toList y.1.data.toList = r at hcon ⊢
  go_enter Tryd.func35, Tryd.ntmps35
  go_wp2_with (go_at_call 36; refine (hcon _).mono ?_; rintro e w' ⟨rfl, rfl⟩)
  go_ret
  exact ⟨rfl, 0, _, by rw [alloc_eq_grow, alloc_eq_grow, grow_grow]; rfl⟩

theorem flatK_toList {α : Type} [Inhabited α] {f : α → List Value} {k : Nat} (hf : ∀ x, (f x).length = k) (hk : 0 < k) (L : List α) : (flatK f k L.toArray).toList = L.flatMap f := by
  apply List.ext_getElem?
  intro j
  have hl := fl_len hf L
  by_cases hj : j < L.length * k
  · have hi : j / k < L.length := by rw [Nat.div_lt_iff_lt_mul hk]; exact hj
    have h1 : (L.flatMap f)[j]? = (f L[j / k])[j % k]? := by
      have e : j = (j / k) * k + j % k := by rw [Nat.mul_comm]; exact (Nat.div_add_mod j k).symm
      have h2 := fl_drop hf L (j / k)
      rw [List.drop_eq_getElem_cons hi, List.flatMap_cons] at h2
      have h3 := congrArg (fun l : List Value => l[j % k]?) h2
      simp only [List.getElem?_drop] at h3
      rw [← e] at h3
      rw [h3, List.getElem?_append_left (by rw [hf]; exact Nat.mod_lt _ hk)]
    rw [h1]
    have hm : j % k < (f L[j / k]).length := by rw [hf]; exact Nat.mod_lt _ hk
    unfold flatK
    simp [hj, hi, hm]
  · rw [List.getElem?_eq_none (by simp; omega), List.getElem?_eq_none (by omega)]

/-- Sorted by name: no later one is less than an earlier one. -/
def SortedT (L : List (ByteArray × Sl)) : Prop := L.Pairwise fun x y => ¬ cmpS y.1 x.1 < 0
def F34_35 (p0 : Sl) (H : Hp) (Q : Hp → Prop) : Prop :=
  ∃ L : List (ByteArray × Sl), Lst tF H p0 L ∧ L.length < 4611686018427387904 ∧ ∀ L' H', L'.Perm L → SortedT L' → Lst tF H' p0 L' → Kp p0.at H H' → Q H'

theorem walk34_35 {w0 : World} {p0 : Sl} {H : Hp} {Q : Hp → Prop} (h : F34_35 p0 H Q) : Good Tryd.prog w0 34 #[(Sl.v p0), (.func (.func 35) #[] #[])] H (fun v H => v = (.tuple #[]) ∧ Q H) := by
  obtain ⟨L, hL, hlim, hq⟩ := h
  intro w ho hh
  subst hh
  have hn := hL.n
  rcases hL.own with ⟨rfl, h0⟩ | ⟨b, sp, hb, hrow, hlen, hcap, hnc, h63⟩
  · refine (AnyF.slices_SortFunc_none Tryd.sortTy none 0 _ w).mono fun e w' ⟨he, hw⟩ => ?_
    subst hw
    have : L = [] := List.eq_nil_of_length_eq_zero hn.symm
    subst this
    exact ⟨_, he, ho, rfl, hq [] _ (List.Perm.refl _) List.Pairwise.nil hL (Kp.refl _ _)⟩
  have hblk := hrow.lt
  have hd : L.toArray.size = p0.n := by simp [hn]
  have eg : ∀ args w, (callFunc 35 args).run Tryd.prog w = .ok (.enter 35 args) w := enters_of Tryd.func35 (by kernel_rfl) rfl
  have hH : HoldsK tF.f 2 w b 0 L.toArray := by
    intro j hj
    rw [size_flatK] at hj
    have hj' : j < (L.flatMap tF.f).length := by rw [fl_len tF.len]; simpa using hj
    refine ⟨?_, hrow.frz _⟩
    rw [Nat.zero_add]
    have e := hrow.cell j
    rw [List.getElem?_append_left hj', ← flatK_toList tF.len tF.pos] at e
    rw [cell_eq, e]
    have : j < (flatK tF.f 2 L.toArray).size := by rw [size_flatK]; exact hj
    show (flatK tF.f 2 L.toArray).toList[j]? = some (flatK tF.f 2 L.toArray)[j]!
    rw [Array.getElem?_toList, Array.getElem?_eq_getElem this, getElem!_pos _ j this]
  have hcon := AnyQ.slices_SortFunc Tryd.sortTy 2 Tryd.isAgg27 Tryd.sizeOf27 tF.f tF.len (fun x v hv => by
    have := tF.one x v hv
    cases v <;> simp_all [one, Value.oneCell']) cmpT swoT 35 #[] b 0 p0.c L.toArray w eg (fun _ _ _ _ x y => closure35 x y _) hH hblk (by rw [hd]; omega)
  rw [hd] at hcon
  have hv : Sl.v p0 = .slice (some ⟨b, 0, none⟩) p0.n p0.c := by unfold Sl.v; rw [hb]
  rw [hv]
  refine Calls.mono (show Calls Tryd.prog 34 _ w _ from hcon) fun e w' ⟨he, d', m, os, hp, hs, hw⟩ => ?_
  subst hw
  obtain ⟨hps, _, hperm⟩ := hp
  rw [hd] at hps
  have hx : ∀ d : Array (ByteArray × Sl), d.size = p0.n → (d.extract 0 p0.n).toList = d.toList := fun d hd => by
    rw [Array.toList_extract, ← hd]
    simp only [List.extract, List.drop_zero, Nat.sub_zero]
    exact List.take_of_length_le (Nat.le_of_eq (by simp))
  rw [hx _ hps, hx _ hd] at hperm
  have hperm : d'.toList.Perm L := hperm
  -- the heap behind
  have hheap : (sortWorldK tF.f 2 w b 0 m d' os).heap = w.heap.modify b (onCells (putCells id 0 (flatK tF.f 2 d'))) ++ os := rfl
  have hfl : (flatK tF.f 2 d').toList = d'.toList.flatMap tF.f := flatK_toList tF.len tF.pos d'.toList
  have hsz' : (d'.toList.flatMap tF.f).length = (L.flatMap tF.f).length := by rw [fl_len tF.len, fl_len tF.len, hperm.length_eq]
  have hput : putCells id 0 (flatK tF.f 2 d') (L.flatMap tF.f ++ sp).toArray = (d'.toList.flatMap tF.f ++ sp).toArray := by
    apply Array.ext'
    apply List.ext_getElem?
    intro j
    rw [← hfl]
    have hs2 : (flatK tF.f 2 d').toList.length = (L.flatMap tF.f).length := by rw [hfl, hsz']
    have hs3 : (flatK tF.f 2 d').size = (L.flatMap tF.f).length := by rw [← hs2]; simp
    unfold putCells
    simp only [Array.getElem?_toList, Array.getElem?_mapIdx, List.getElem?_toArray, Nat.zero_add, Nat.zero_le, true_and, Nat.sub_zero, id]
    by_cases hj : j < (L.flatMap tF.f).length
    · rw [List.getElem?_append_left hj, List.getElem?_append_left (by omega), List.getElem?_eq_getElem hj]
      have h1 : j < (flatK tF.f 2 d').size := by omega
      rw [Option.map_some, if_pos h1, Array.getElem?_toList, Array.getElem?_eq_getElem h1, getElem!_pos _ j h1]
    · rw [List.getElem?_append_right (by omega), List.getElem?_append_right (by omega), hs2]
      have h1 : ¬ j < (flatK tF.f 2 d').size := by omega
      cases sp[j - (L.flatMap tF.f).length]? with
      | none => rfl
      | some v => rw [Option.map_some, if_neg h1]
  have hrow' : Row (sortWorldK tF.f 2 w b 0 m d' os).heap b 27 (d'.toList.flatMap tF.f ++ sp) := by
    show (sortWorldK tF.f 2 w b 0 m d' os).heap[b]? = some (Obj.cells (d'.toList.flatMap tF.f ++ sp).toArray 27 (0, 0))
    rw [hheap, Array.getElem?_append_left (by simpa using hblk), Array.getElem?_modify, if_pos rfl]
    have hrow0 : w.heap[b]? = some (Obj.cells (L.flatMap tF.f ++ sp).toArray 27 (0, 0)) := hrow
    rw [hrow0]
    show some (Obj.cells (putCells id 0 (flatK tF.f 2 d') (L.flatMap tF.f ++ sp).toArray) 27 (0, 0)) = _
    rw [hput]
  have hkp : Kp p0.at w.heap (sortWorldK tF.f 2 w b 0 m d' os).heap := by
    refine ⟨by rw [hheap]; simp, fun k hk hs => ?_⟩
    have hkb : b ≠ k := fun e => hs (by rw [← e]; exact hb)
    rw [hheap, Array.getElem?_append_left (by simpa using hk), Array.getElem?_modify, if_neg hkb]
  refine ⟨_, he, ho.of_eq rfl rfl rfl ⟨hkp.size, trivial⟩, rfl, hq d'.toList _ hperm ?_ ⟨.inr ⟨b, sp, hb, hrow', ?_, ?_, hnc, h63⟩⟩ hkp⟩
  · unfold SortedT
    rw [List.pairwise_iff_getElem]
    intro i j hi hj hij
    have := hs i j (Nat.zero_le _) hij (by simpa [hps, hd] using hj)
    have := of_decide_eq_false this
    simpa [cmpT, getElem!_pos, show i < d'.size from by simpa using hi, show j < d'.size from by simpa using hj] using this
  · rw [hsz']; exact hlen
  · rw [List.length_append, hsz', ← List.length_append]; exact hcap
end Go.Hw
