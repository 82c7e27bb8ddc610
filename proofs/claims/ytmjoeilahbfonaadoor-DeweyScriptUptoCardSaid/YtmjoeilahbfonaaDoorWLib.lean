/- The library functions that are taken by their contracts. Own work of this session. -/
import Derived.Test.YtmjoeilahbfonaaDoorHwI
import Derived.Test.YtmjoeilahbfonaaDoorHwS
import Derived.Test.YtmjoeilahbfonaaDoorShelf
set_option linter.unusedVariables false
namespace Go.Hw
open Go Go.Proofs Go.Sort

def uF : Fmt Int 5 1 := ⟨fun i => [.int .u8 i], fun _ => rfl, by intro x v hv; simp at hv; rcases hv with rfl; rfl, by decide⟩
theorem uF_flat (L : List Int) : L.flatMap uF.f = L.map (Value.int .u8) := by
  induction L with
  | nil => rfl
  | cons x l ih => rw [List.flatMap_cons, ih]; rfl
/-- A number's digits. -/
def dig (i : Int) : List Int := (Lib.itoa i).map fun b => (b.toNat : Int)

/-- strconv's table of powers lies where its variable is. -/
def TabH (H : Hp) : Prop := ∀ w : World, w.heap = H → Lib.TabIs Tryd.prog w "internal/strconv.uint64pow10" .u64 Lib.pow10Tab
theorem gPow : Tryd.prog.globalNamed "internal/strconv.uint64pow10" = some 0 := by kernel_rfl
theorem TabH.same {H H' : Hp} (h : TabH H) (k : H'[0]? = H[0]?) : TabH H' := by
  intro w hw
  have h1 := h { w with heap := H } rfl
  unfold Lib.TabIs World.var? at *
  subst hw
  simp only [gPow] at *
  simp only [Option.bind_some] at *
  rw [k]
  exact h1
theorem TabH.kp {S : Nat → Prop} {H H' : Hp} (h : TabH H) (k : Kp S H H') (hl : 0 < H.size) (hs : ¬ S 0) : TabH H' := h.same (k.blk 0 hl hs)

/-! ## strconv.AppendInt, base ten -/
def F33 (p0 : Sl) (p1 p2 : Int) (H : Hp) (Q : Sl → Hp → Prop) : Prop :=
  p2 = 10 ∧ ∃ (B : Nat) (L : List Int), 0 < B ∧ B ≤ H.size ∧ TabH H ∧ Lst uF H p0 L ∧ (∀ b, p0.at b → B ≤ b) ∧ -9223372036854775808 ≤ p1 ∧ p1 ≤ 9223372036854775807 ∧ p0.n + 21 ≤ 140737488355328 ∧
    ∀ r H', Lst uF H' r (L ++ dig p1) → (∀ b, r.at b → B ≤ b) → Kp (fun b => B ≤ b) H H' → Q r H'

theorem ownsRow_of {w : World} {B : Nat} {s : Sl} {L : List Int} (h : Lst uF w.heap s L) (hB : ∀ b, s.at b → B ≤ b) : w.ownsRow B 5 1 (Sl.v s) s.n (L.map (Value.int .u8)) := by
  have hn := h.n
  refine ⟨by simp [hn], ?_⟩
  rcases h.own with ⟨rfl, _⟩ | ⟨b, sp, h1, h2, h3, h4, h5, h6⟩
  · exact .inl ⟨rfl, rfl⟩
  · refine .inr ⟨b, s.c, (L.flatMap uF.f ++ sp).toArray, ?_, hB b h1, h2, h5, ?_, ?_, ?_⟩
    · unfold Sl.v; rw [h1]
    · unfold maxLen; omega
    · simpa using h4
    · rw [List.toList_toArray, ← h3, List.take_left, uF_flat]

theorem of_ownsRow {w : World} {B n : Nat} {v : Value} {xs : List Value} {L : List Int} (h : w.ownsRow B 5 1 v n xs) (hx : xs = L.map (Value.int .u8)) : ∃ s : Sl, v = Sl.v s ∧ Lst uF w.heap s L ∧ ∀ b, s.at b → B ≤ b := by
  subst hx
  obtain ⟨hl, h⟩ := h
  rcases h with ⟨rfl, rfl⟩ | ⟨g, cap, cur, rfl, h1, h2, h3, h4, h5, h6⟩
  · have : L = [] := by
      cases L with
      | nil => rfl
      | cons x l => simp at hl
    subst this
    exact ⟨Sl.nil, rfl, Lst.nil _ _, fun b hb => by cases hb⟩
  · have hL : L.length = n := by simpa using hl
    refine ⟨⟨some ⟨g, 0, none⟩, n, cap⟩, rfl, ⟨.inr ⟨g, cur.toList.drop n, rfl, ?_, ?_, ?_, h3, ?_⟩⟩, fun b hb => ?_⟩
    · have e : L.flatMap uF.f ++ cur.toList.drop n = cur.toList := by
        rw [uF_flat, ← h6, Nat.mul_one]; exact List.take_append_drop _ _
      rw [e]
      show w.heap[g]? = some (.cells cur.toList.toArray 5 (0, 0))
      rw [Array.toArray_toList]
      exact h2
    · rw [fl_len uF.len]
      show L.length * 1 = n * 1
      omega
    · have e : L.flatMap uF.f ++ cur.toList.drop n = cur.toList := by
        rw [uF_flat, ← h6, Nat.mul_one]; exact List.take_append_drop _ _
      rw [e]
      simpa using h5
    · unfold maxLen at h4; omega
    · have : (some ⟨g, 0, none⟩ : Option Addr) = some ⟨b, 0, none⟩ := hb
      injection this with this
      injection this with this
      omega

theorem walk33 {w0 : World} {p0 : Sl} {p1 p2 : Int} {H : Hp} {Q : Sl → Hp → Prop} (h : F33 p0 p1 p2 H Q) : Good Tryd.prog w0 33 #[(Sl.v p0), (.int .i64 p1), (.int .i64 p2)] H (fun v H => ∃ r0 : Sl, v = (Sl.v r0) ∧ Q r0 H) := by
  obtain ⟨rfl, B, L, hB0, hB, ht, hl, hlB, h0, h1, hlim, hq⟩ := h
  intro w ho hh
  subst hh
  have htab : Lib.TabBelow Tryd.prog B w "internal/strconv.uint64pow10" .u64 Lib.pow10Tab := fun w' hb => (ht.same (hb.block 0 hB0)) w' rfl
  refine (Any.strconv_AppendInt_10 Tryd.laysM176 B p0.n p1 h0 h1 (Sl.v p0) (L.map (Value.int .u8)) w (ownsRow_of hl hlB) hB hlim htab).mono fun e w' ⟨v, he, hown, hbel, hoth⟩ => ?_
  obtain ⟨s, rfl, hs, hsB⟩ := of_ownsRow (L := L ++ dig p1) hown (by simp [dig, Lib.byteCells])
  refine ⟨_, he, ⟨hbel.tape.trans ho.tape, hbel.os.trans ho.os, hbel.output.trans ho.output, ⟨Nat.le_trans ho.kf.size hbel.size, trivial⟩⟩, s, rfl, hq s _ hs hsB ⟨hbel.size, fun k hk hnk => hbel.block k (by omega)⟩⟩

/-! ## strconv.Itoa -/
def F47 (p0 : Int) (H : Hp) (Q : ByteArray → Hp → Prop) : Prop :=
  TabH H ∧ -9223372036854775808 ≤ p0 ∧ p0 ≤ 9223372036854775807 ∧ ∀ H', Kp (fun _ => False) H H' → Q ⟨(Lib.itoa p0).toArray⟩ H'

theorem kp_grow (w : World) (k : Nat) (os : Array Obj) : Kp (fun _ => False) w.heap (grow (w.drewN k) os).heap := by
  refine ⟨?_, fun b hb _ => ?_⟩
  · show w.heap.size ≤ (w.heap ++ os).size
    simp
  · show (w.heap ++ os)[b]? = _
    rw [Array.getElem?_append_left hb]

theorem walk47 {w0 : World} {p0 : Int} {H : Hp} {Q : ByteArray → Hp → Prop} (h : F47 p0 H Q) : Good Tryd.prog w0 47 #[(.int .i64 p0)] H (fun v H => ∃ r0 : ByteArray, v = (.string r0) ∧ Q r0 H) := by
  obtain ⟨ht, h0, h1, hq⟩ := h
  intro w ho hh
  refine (Any.strconv_Itoa Tryd.laysM171 p0 h0 h1 w (ht w hh)).mono fun e w' ⟨he, k, os, hw⟩ => ?_
  subst hw hh
  exact ⟨_, he, ho.of_eq rfl rfl rfl ⟨(kp_grow w k os).size, trivial⟩, _, rfl, hq _ (kp_grow w k os)⟩

/-! ## strings.Split -/
def F48 (p0 p1 : ByteArray) (H : Hp) (Q : Sl → Hp → Prop) : Prop :=
  p0.size < 4294967281 ∧ 1 ≤ p1.size ∧ (∃ m, cell H ⟨1, 0, none⟩ = some (.int .i64 m)) ∧ ∀ H', H' = Array.push H (.cells ((Lib.splitB p1 0 (Lib.countB p0 p1) p0).map Value.string).toArray 9) → Q ⟨some ⟨H.size, 0, none⟩, Lib.countB p0 p1 + 1, Lib.countB p0 p1 + 1⟩ H'

theorem walk48 {w0 : World} {p0 p1 : ByteArray} {H : Hp} {Q : Sl → Hp → Prop} (h : F48 p0 p1 H Q) : Good Tryd.prog w0 48 #[(.string p0), (.string p1)] H (fun v H => ∃ r0 : Sl, v = (Sl.v r0) ∧ Q r0 H) := by
  obtain ⟨h0, h1, ⟨m, hm⟩, hq⟩ := h
  intro w ho hh
  subst hh
  refine (Any.strings_Split Tryd.lays146 (by kernel_rfl) p0 p1 m w h0 hm h1).mono fun e w' ⟨he, hw⟩ => ?_
  subst hw
  exact ⟨_, he, ho.of_eq rfl rfl rfl (keepsF_push _ _ _), ⟨some ⟨w.heap.size, 0, none⟩, Lib.countB p0 p1 + 1, Lib.countB p0 p1 + 1⟩, rfl, hq _ rfl⟩
end Go.Hw
