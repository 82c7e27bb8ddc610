/- A catalog beside the document's: one step. Own work of this session. -/
import Derived.Test.YtbhfkpdalilhcaaDoorT22
set_option linter.unusedVariables false
namespace Go.Hw
open Go

/-- A catalog and the document's, in blocks of their own. -/
structure PairX (H : Hp) (hb pb cb mr rb : Nat) (s : Sl) (M : List (ByteArray × Sl)) (Z : List CE) (c : Nat) (O : Nat → Prop) : Prop where
  row : Row H pb 101 [.pointer (some ⟨cb, 0, none⟩), .pointer (some ⟨rb, 0, none⟩), .pointer (some ⟨hb, 0, none⟩)]
  cat : CatH H cb mr Z c
  rf : RefH H rb s M Z
  len : Z.length ≤ 64
  opb : O pb
  ocb : O cb
  omr : O mr
  orb : O rb
  os : ∀ b, s.at b → O b
  oz : ∀ z ∈ Z, ∀ b, z.s.at b → O b
  om : ∀ m ∈ M, ∀ b, m.2.at b → O b
  lt : ∀ b, O b → b < H.size
def PairH (H : Hp) (hb pb : Nat) (O : Nat → Prop) : Prop := ∃ (cb mr rb : Nat) (s : Sl) (M : List (ByteArray × Sl)) (Z : List CE) (c : Nat), PairX H hb pb cb mr rb s M Z c O
/-- The hand's blocks. -/
def HO (hb : Nat) (ta tv : Sl) (b : Nat) : Prop := b = hb ∨ ta.at b ∨ tv.at b
theorem HH.lt {H : Hp} {hb : Nat} {ta tv : Sl} (h : HH H hb ta tv) {b : Nat} (g : HO hb ta tv b) : b < H.size := by
  rcases g with rfl | g | g
  · exact h.row.lt
  · obtain ⟨l, r⟩ := h.sa.row g; exact r.lt
  · obtain ⟨l, r⟩ := h.sv.row g; exact r.lt
section
variable {H H' : Hp} {hb pb cb mr rb : Nat} {s : Sl} {M : List (ByteArray × Sl)} {Z : List CE} {c : Nat} {O : Nat → Prop} {ta tv : Sl}
theorem PairX.kp {S : Nat → Prop} (h : PairX H hb pb cb mr rb s M Z c O) (k : Kp S H H') (hS : ∀ b, O b → ¬ S b) : PairX H' hb pb cb mr rb s M Z c O :=
  ⟨k.row h.row (hS _ h.opb), h.cat.kp k (hS _ h.ocb) (hS _ h.omr) fun z hz b hb => hS b (h.oz z hz b hb), h.rf.kp k (hS _ h.orb) (fun b hb => hS b (h.os b hb)) fun m hm b hb => hS b (h.om m hm b hb), h.len, h.opb, h.ocb, h.omr, h.orb, h.os, h.oz, h.om, fun b hb => Nat.lt_of_lt_of_le (h.lt b hb) k.size⟩
theorem PairX.no (h : PairX H hb pb cb mr rb s M Z c O) (k : Kp No H H') : PairX H' hb pb cb mr rb s M Z c O := h.kp k fun _ _ => id
theorem PairX.A16 (h : PairX H hb pb cb mr rb s M Z c O) : ∀ z ∈ Z, z.A.length ≤ 16 := fun z hz => (h.cat.l z hz).2
theorem PairH.kp {S : Nat → Prop} (h : PairH H hb pb O) (k : Kp S H H') (hS : ∀ b, O b → ¬ S b) : PairH H' hb pb O := by
  obtain ⟨cb, mr, rb, s, M, Z, c, h⟩ := h
  exact ⟨cb, mr, rb, s, M, Z, c, h.kp k hS⟩
theorem PairH.lt (h : PairH H hb pb O) {b : Nat} (g : O b) : b < H.size := by
  obtain ⟨cb, mr, rb, s, M, Z, c, h⟩ := h
  exact h.lt b g
/-- A step. -/
structure SOp where
  kind : Int
  which : Int
  name : ByteArray
  A : Atts
  text : ByteArray
  ty : ByteArray
  time : Int
  V : List VT
def SOp.row (o : SOp) (sa sv : Sl) : List Value := [.int .i64 o.kind, .int .i64 o.which, .string o.name, Sl.v sa, .string o.text, .string o.ty, .int .i64 o.time, Sl.v sv]
theorem c42f {name : ByteArray} (h : CatH H cb mr Z c) : ∃ (n0 : ByteArray) (A0 : Atts) (e0 : Int), A0.length ≤ 16 ∧ (∀ {Q : ByteArray → Sl → Int → Hp → Prop} {H1 : Hp}, CatH H1 cb mr Z c → (∀ r H', Lst aF H' r A0 → (∀ b, r.at b → H1.size ≤ b) → Kp No H1 H' → Q n0 r e0 H') → F42 (some ⟨cb, 0, none⟩) name H1 Q) ∧
    (∀ {rb : Nat} {s : Sl} {M : List (ByteArray × Sl)} {Q : ByteArray → Sl → Int → Hp → Prop} {H1 : Hp}, RefH H1 rb s M Z → Z.length ≤ 64 → (∀ r H', Lst aF H' r A0 → (∀ b, r.at b → H1.size ≤ b) → Kp No H1 H' → Q n0 r e0 H') → F43 (some ⟨rb, 0, none⟩) name H1 Q) := by
  have hA : ∀ z ∈ Z, z.A.length ≤ 16 := fun z hz => (h.l z hz).2
  have nl : ∀ {H1 : Hp} (b : Nat), Sl.nil.at b → H1.size ≤ b := fun b h => by cases h
  rcases name_cases Z name with ⟨z, hz, e⟩ | hz
  · have uni : ∀ z' ∈ Z, z'.n = name → z' = z := fun z' hz' e' => name_inj h.nd hz' hz (e'.trans e.symm)
    refine ⟨name, z.A, 0, hA z hz, fun h1 hQ => c42 h1 (fun hno => absurd e (hno z hz)) fun z' hz' e' r H' hr hb k => ?_, fun h1 hl hQ => c43 h1 hl hA (fun hno => absurd e (hno z hz)) fun z' hz' e' r H' hr hb k => ?_⟩
    · rw [uni z' hz' e'] at hr; exact hQ r H' hr hb k
    · rw [uni z' hz' e'] at hr; exact hQ r H' hr hb k
  · exact ⟨E, [], 21, Nat.zero_le _, fun h1 hQ => c42 h1 (fun _ H' k => hQ Sl.nil H' (Lst.nil _ _) nl k) fun z' hz' e' => absurd e' (hz z' hz'), fun h1 hl hQ => c43 h1 hl hA (fun _ H' k => hQ Sl.nil H' (Lst.nil _ _) nl k) fun z' hz' e' => absurd e' (hz z' hz')⟩
/-- Two alike types. -/
theorem same15 {name : ByteArray} {sl sl2 : Sl} {A : Atts} {Q : Bool → Hp → Prop} (h : RdL aF H sl A) (h2 : RdL aF H sl2 A) (hl : A.length ≤ 4194304) (hQ : ∀ H', Kp No H H' → Q true H') : F15 name sl name sl2 H Q :=
  c15 h h2 hl fun y H' hy k => by rw [hy.2 ⟨rfl, rfl⟩]; exact hQ H' k
/-- What stands behind a step. -/
def After (H : Hp) (hb pb : Nat) (O : Nat → Prop) (ta tv : Sl) (H' : Hp) : Prop :=
  ∃ (O' : Nat → Prop) (ta' tv' : Sl), PairH H' hb pb O' ∧ HH H' hb ta' tv' ∧ (∀ b, O' b → ¬ HO hb ta' tv' b) ∧ (∀ b, O' b → O b ∨ H.size ≤ b) ∧ (∀ b, HO hb ta' tv' b → HO hb ta tv b ∨ H.size ≤ b) ∧ Kp (fun b => O b ∨ HO hb ta tv b) H H'
theorem After.same (h : PairH H hb pb O) (hh : HH H hb ta tv) (dj : ∀ b, O b → ¬ HO hb ta tv b) (k : Kp No H H') : After H hb pb O ta tv H' :=
  ⟨O, ta, tv, h.kp k fun _ _ => id, hh.no k, dj, fun _ g => .inl g, fun _ g => .inl g, k.mono fun _ _ g => g.elim⟩
end
end Go.Hw
