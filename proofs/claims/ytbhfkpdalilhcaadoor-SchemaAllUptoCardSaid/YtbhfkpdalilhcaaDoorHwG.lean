/- What the printed walks name. Own work of this session. -/
import Derived.Test.YtbhfkpdalilhcaaDoorHwF
namespace Go.Hw
open Go

def bt (s : ByteArray) (i : Nat) : Int := if h : i < s.size then ((s[i]'h).toNat : Int) else 0
def Sl.cut (s : Sl) (k l h m : Nat) : Sl := ⟨if m = l then s.b else s.b.map (·.add (l * k)), h - l, m - l⟩
def made (z : Array Value) (m : Nat) : Array Value := (Builtin.zeroCells z m)
theorem Sl.v_some {v : Value} {s : Sl} {a : Addr} (h : v = Sl.v s) (hb : s.b = some a) : v = .slice (some a) s.n s.c := by rw [h, Sl.v, hb]

/-! ## a struct's parts, over lists -/
def fillL (place : Nat → Option (Nat × Nat)) (cells : List Value) : List (Nat × Value) → Option (List Value)
  | [] => some cells
  | (i, v) :: rest =>
    match place i with
    | none => none
    | some (off, size) => if v.cells.toList.length = size ∧ off + size ≤ cells.length then fillL place (cells.take off ++ v.cells.toList ++ cells.drop (off + size)) rest else none

theorem foldl_sets (off : Nat) : ∀ (vs : List Value) (i : Nat) (cells : Array Value), off + i + vs.length ≤ cells.size →
    ((vs.zipIdx i).foldl (fun (cs : Array Value) (p : Value × Nat) => cs.setIfInBounds (off + p.2) p.1) cells).toList = cells.toList.take (off + i) ++ vs ++ cells.toList.drop (off + i + vs.length)
  | [], i, cells, _ => by simp
  | v :: vs, i, cells, h => by
    simp only [List.zipIdx_cons, List.foldl_cons, List.length_cons] at *
    rw [foldl_sets off vs (i + 1) (cells.setIfInBounds (off + i) v) (by simp; omega)]
    simp only [Array.toList_setIfInBounds]
    apply List.ext_getElem?
    intro j
    simp only [List.getElem?_append, List.length_take, List.length_set, Array.length_toList, List.length_append, List.length_cons, List.getElem?_take, List.getElem?_drop, List.getElem?_set, List.getElem?_cons]
    by_cases h1 : j < off + i
    · simp only [show j < off + (i + 1) from by omega, h1, if_true, show ¬ (off + i = j) from by omega, if_false, show min (off + i) cells.size = off + i from by omega, show min (off + (i + 1)) cells.size = off + (i + 1) from by omega, show j < off + (i + 1) + vs.length from by omega, show j < off + i + (vs.length + 1) from by omega]
    · by_cases h2 : j = off + i
      · subst h2
        simp only [show min (off + i) cells.size = off + i from by omega, show min (off + (i + 1)) cells.size = off + (i + 1) from by omega]
        simp [show off + i < cells.size from by omega, show off + i < off + (i + 1) + vs.length from by omega, show off + i < off + (i + 1) from by omega]
      · simp only [show min (off + i) cells.size = off + i from by omega, show min (off + (i + 1)) cells.size = off + (i + 1) from by omega, show ¬ j < off + (i + 1) from by omega, h1, if_false, show ¬ (j - (off + i) = 0) from by omega, show ¬ (off + i = off + (i + 1) + vs.length + (j - (off + (i + 1) + vs.length))) from by omega]
        rw [show j - (off + (i + 1)) = j - (off + i) - 1 from by omega, show off + (i + 1) + vs.length = off + i + (vs.length + 1) from by omega]

theorem fill_list (place : Nat → Option (Nat × Nat)) : ∀ (parts : List (Nat × Value)) (cells : Array Value) {r : List Value}, fillL place cells.toList parts = some r → Instr.fill place cells parts = some r.toArray
  | [], cells, r, h => by simp only [fillL, Option.some.injEq] at h; subst h; simp [Instr.fill]
  | (i, v) :: rest, cells, r, h => by
    unfold fillL at h
    unfold Instr.fill
    cases hp : place i with
    | none => rw [hp] at h; cases h
    | some q =>
      obtain ⟨off, size⟩ := q
      rw [hp] at h
      simp only at h ⊢
      split at h
      · rename_i hc
        rw [if_neg (by have := hc.1; have := hc.2; simp at *; omega)]
        refine fill_list place rest _ ?_
        rw [← h]
        congr 1
        have := foldl_sets off v.cells.toList 0 cells (by have := hc.1; have := hc.2; simp at *; omega)
        rw [← Array.foldl_toList, Array.toList_zipIdx]
        rw [this]
        simp [hc.1]
      · cases h

/-! ## posts -/
theorem nb {id : Nat} {Q : Post} {ρ : Env} {H : Hp} (h : Q .normal ρ H) : Post.blk id Q .normal ρ H := h
theorem nt {K : Env → Hp → Prop} {Q : Post} {ρ : Env} {H : Hp} (h : K ρ H) : Post.thn K Q .normal ρ H := h
theorem be {id : Nat} {Q : Post} {ρ : Env} {H : Hp} (h : Q .normal ρ H) : Post.blk id Q (.exit id) ρ H := by simp only [Post.blk, if_true]; exact h
theorem bx {id i : Nat} {Q : Post} {ρ : Env} {H : Hp} (hne : Nat.beq i id = false) (h : Q (.exit i) ρ H) : Post.blk id Q (.exit i) ρ H := by
  have : ¬ i = id := fun e => by subst e; simp at hne
  simp only [Post.blk, if_neg this]; exact h
theorem te {i : Nat} {K : Env → Hp → Prop} {Q : Post} {ρ : Env} {H : Hp} (h : Q (.exit i) ρ H) : Post.thn K Q (.exit i) ρ H := h
theorem tr {K : Env → Hp → Prop} {Q : Post} {ρ : Env} {H : Hp} (h : Q .ret ρ H) : Post.thn K Q .ret ρ H := h
theorem br {id : Nat} {Q : Post} {ρ : Env} {H : Hp} (h : Q .ret ρ H) : Post.blk id Q .ret ρ H := h

section
variable {P : Program} {w0 : World} {n : Nat} {ops : Array Oper} {Q : Post} {rest : List Oper} {ρ : Env} {H : Hp} {d : Nat} {op : Op} {ty : TypeId} {pos : String} {af : Array Edge} {v : Value}

theorem HW.condT {c : Operand} {x y : Code} (b : Bool) (hc : ρ.ev c = .bool b) (hb : b = true) (h : HW P w0 n x Q ρ H) : HW P w0 n (.cond c x y) Q ρ H :=
  HW.cond b hc (fun _ => h) (fun e => by rw [hb] at e; cases e)
theorem HW.condF {c : Operand} {x y : Code} (b : Bool) (hc : ρ.ev c = .bool b) (hb : b = false) (h : HW P w0 n y Q ρ H) : HW P w0 n (.cond c x y) Q ρ H :=
  HW.cond b hc (fun e => by rw [hb] at e; cases e) (fun _ => h)

/-- A loop: at its head stands 'L', of which it is known that a round makes it. -/
theorem HW.loop' {c : Code} (h : ∀ L : Env → Hp → Prop, (∀ ρ H, HW P w0 n c (Post.thn L Q) ρ H → L ρ H) → L ρ H) : HW P w0 n (.loop c) Q ρ H :=
  HW.loop (h (HLp P w0 n c Q) fun _ _ => HLp.round)

/-! ## lists -/
theorem HList.vals (hd : Nat.blt d n = true) (h : HVal P ⟨some d, op, ty, pos, af, none⟩ ρ H v) (k : HList P w0 n ops Q rest (Env.set ρ d v) H) : HList P w0 n ops Q (⟨some d, op, ty, pos, af, none⟩ :: rest) ρ H :=
  HList.val hd rfl h k
theorem HList.gvals {j e : Nat} {want : Bool} (hd : Nat.blt d n = true) (hg : some (j, want) = some (j, want)) (hj : (ops[j]?).bind (·.dst) = some e) (hdn : Nat.blt e n = true) (hb : ρ e = .bool want)
    (h : HVal P ⟨some d, op, ty, pos, af, some (j, want)⟩ ρ H v) (k : HList P w0 n ops Q rest (Env.set ρ d v) H) : HList P w0 n ops Q (⟨some d, op, ty, pos, af, some (j, want)⟩ :: rest) ρ H :=
  HList.gval hd hg hj hdn hb h k
theorem HList.gskips {j e : Nat} {want : Bool} (hd : Nat.blt d n = true) (hg : some (j, want) = some (j, want)) (hj : (ops[j]?).bind (·.dst) = some e) (hdn : Nat.blt e n = true) (hb : ρ e = .bool (!want))
    (k : HList P w0 n ops Q rest (Env.set ρ d undef) H) : HList P w0 n ops Q (⟨some d, op, ty, pos, af, some (j, want)⟩ :: rest) ρ H :=
  HList.gskip (o := ⟨some d, op, ty, pos, af, some (j, want)⟩) hd hg hj hdn hb k
theorem HList.uskips {j e : Nat} {want : Bool} (hd : Nat.blt d n = true) (hg : some (j, want) = some (j, want)) (hj : (ops[j]?).bind (·.dst) = some e) (hdn : Nat.blt e n = true) (hb : ρ e = undef)
    (k : HList P w0 n ops Q rest (Env.set ρ d undef) H) : HList P w0 n ops Q (⟨some d, op, ty, pos, af, some (j, want)⟩ :: rest) ρ H :=
  HList.uskip (o := ⟨some d, op, ty, pos, af, some (j, want)⟩) hd hg hj hdn hb k
theorem HList.ops' {K : Value → Hp → Prop} (hd : Nat.blt d n = true) (h : HOp P w0 n ⟨some d, op, ty, pos, af, none⟩ ρ H K) (k : ∀ v H', K v H' → HList P w0 n ops Q rest (Env.set ρ d v) H') :
    HList P w0 n ops Q (⟨some d, op, ty, pos, af, none⟩ :: rest) ρ H := HList.op hd rfl h k
theorem HList.opsn {K : Value → Hp → Prop} (h : HOp P w0 n ⟨none, op, ty, pos, af, none⟩ ρ H K) (k : ∀ v H', K v H' → HList P w0 n ops Q rest ρ H') :
    HList P w0 n ops Q (⟨none, op, ty, pos, af, none⟩ :: rest) ρ H := HList.op rfl rfl h k
theorem HList.gops {K : Value → Hp → Prop} {j e : Nat} {want : Bool} (hd : Nat.blt d n = true) (hg : some (j, want) = some (j, want)) (hj : (ops[j]?).bind (·.dst) = some e) (hdn : Nat.blt e n = true) (hb : ρ e = .bool want)
    (h : HOp P w0 n ⟨some d, op, ty, pos, af, some (j, want)⟩ ρ H K) (k : ∀ v H', K v H' → HList P w0 n ops Q rest (Env.set ρ d v) H') :
    HList P w0 n ops Q (⟨some d, op, ty, pos, af, some (j, want)⟩ :: rest) ρ H := HList.gop hd hg hj hdn hb h k
theorem HList.gopsn {K : Value → Hp → Prop} {j e : Nat} {want : Bool} (hg : some (j, want) = some (j, want)) (hj : (ops[j]?).bind (·.dst) = some e) (hdn : Nat.blt e n = true) (hb : ρ e = .bool want)
    (h : HOp P w0 n ⟨none, op, ty, pos, af, some (j, want)⟩ ρ H K) (k : ∀ v H', K v H' → HList P w0 n ops Q rest ρ H') :
    HList P w0 n ops Q (⟨none, op, ty, pos, af, some (j, want)⟩ :: rest) ρ H := HList.gop rfl hg hj hdn hb h k

/-! ## plans -/
/-- The clauses, one by one. -/
def SCl (l : Array Bool) (H : Hp) : Clauses → Prop
  | [] => True
  | (K, φ) :: C => ((K.all fun s => !l.getD s false) = true → φ H) ∧ SCl l H C
theorem SC_of {l : Array Bool} {H : Hp} : ∀ {C : Clauses}, SCl l H C → SC C l H
  | [], _ => fun c hc => by cases hc
  | (K, φ) :: C, ⟨h1, h2⟩ => fun c hc hk => by
    rcases List.mem_cons.1 hc with rfl | hc
    · exact h1 (by simpa using hk)
    · exact SC_of h2 c hc hk
theorem SC_nil {l : Array Bool} {H : Hp} : SC [] l H := fun c hc => by cases hc

variable {C : Clauses} {plan : Plan} {listed : Array Bool} {i : Nat}

theorem HPlan.taken {o : Oper} {K : List Nat} (hi : ops[i]? = some o) (hd : dstOk n o.dst = true) (hy : Yv P ops n o ρ (fun _ => True) v)
    (k : HPlan P w0 n ops Q C plan (listed.setIfInBounds i true) (ρ.put o.dst v) H) : HPlan P w0 n ops Q C ((i, some K) :: plan) listed ρ H := by
  refine HPlan.take (fun _ => True) hi hd hy trivial ?_
  intro hn hp ha hc a w hs ho hh
  refine wpAnyS_mono ?_ _ _ _ _ (k hn hp (fun c hc => ha c (List.mem_cons_of_mem _ hc)) (fun c hcm => hc c (List.mem_cons_of_mem _ hcm)) a w hs ho hh)
  intro l w ⟨h1, h2⟩
  refine ⟨h1, fun c hcm hk => ?_⟩
  rcases List.mem_cons.1 hcm with rfl | hcm
  · trivial
  · exact h2 c hcm hk

theorem HPlan.takev {K : List Nat} (hi : ops[i]? = some ⟨some d, op, ty, pos, af, none⟩) (hd : Nat.blt d n = true) (h : ∀ H, HVal P ⟨some d, op, ty, pos, af, none⟩ ρ H v)
    (k : HPlan P w0 n ops Q C plan (listed.setIfInBounds i true) (Env.set ρ d v) H) : HPlan P w0 n ops Q C ((i, some K) :: plan) listed ρ H :=
  HPlan.taken hi hd (.inl ⟨rfl, fun H _ => h H⟩) k
theorem HPlan.takel {K : List Nat} (φ : Hp → Prop) (hi : ops[i]? = some ⟨some d, op, ty, pos, af, none⟩) (hd : Nat.blt d n = true) (h : ∀ H, φ H → HVal P ⟨some d, op, ty, pos, af, none⟩ ρ H v) (hφ : φ H)
    (k : HPlan P w0 n ops Q ((K, φ) :: C) plan (listed.setIfInBounds i true) (Env.set ρ d v) H) : HPlan P w0 n ops Q C ((i, some K) :: plan) listed ρ H :=
  HPlan.take φ hi hd (.inl ⟨rfl, h⟩) hφ k
theorem HPlan.gtakev {K : List Nat} {j e : Nat} {want : Bool} (hi : ops[i]? = some ⟨some d, op, ty, pos, af, some (j, want)⟩) (hd : Nat.blt d n = true) (hg : some (j, want) = some (j, want)) (hj : (ops[j]?).bind (·.dst) = some e) (hdn : Nat.blt e n = true) (hb : ρ e = .bool want)
    (h : ∀ H, HVal P ⟨some d, op, ty, pos, af, some (j, want)⟩ ρ H v) (k : HPlan P w0 n ops Q C plan (listed.setIfInBounds i true) (Env.set ρ d v) H) : HPlan P w0 n ops Q C ((i, some K) :: plan) listed ρ H :=
  HPlan.taken hi hd (.inr ⟨j, want, e, hg, hj, hdn, .inl ⟨hb, fun H _ => h H⟩⟩) k
theorem HPlan.gtakel {K : List Nat} {j e : Nat} {want : Bool} (φ : Hp → Prop) (hi : ops[i]? = some ⟨some d, op, ty, pos, af, some (j, want)⟩) (hd : Nat.blt d n = true) (hg : some (j, want) = some (j, want)) (hj : (ops[j]?).bind (·.dst) = some e) (hdn : Nat.blt e n = true) (hb : ρ e = .bool want)
    (h : ∀ H, φ H → HVal P ⟨some d, op, ty, pos, af, some (j, want)⟩ ρ H v) (hφ : φ H) (k : HPlan P w0 n ops Q ((K, φ) :: C) plan (listed.setIfInBounds i true) (Env.set ρ d v) H) : HPlan P w0 n ops Q C ((i, some K) :: plan) listed ρ H :=
  HPlan.take φ hi hd (.inr ⟨j, want, e, hg, hj, hdn, .inl ⟨hb, h⟩⟩) hφ k
theorem HPlan.takegskip {K : List Nat} {j e : Nat} {want : Bool} (hi : ops[i]? = some ⟨some d, op, ty, pos, af, some (j, want)⟩) (hd : Nat.blt d n = true) (hj : (ops[j]?).bind (·.dst) = some e) (hdn : Nat.blt e n = true) (hb : ρ e = .bool (!want))
    (k : HPlan P w0 n ops Q C plan (listed.setIfInBounds i true) (Env.set ρ d undef) H) : HPlan P w0 n ops Q C ((i, some K) :: plan) listed ρ H :=
  HPlan.taken hi hd (.inr ⟨j, want, e, rfl, hj, hdn, .inr ⟨.inl hb, rfl⟩⟩) k
theorem HPlan.takeuskip {K : List Nat} {j e : Nat} {want : Bool} (hi : ops[i]? = some ⟨some d, op, ty, pos, af, some (j, want)⟩) (hd : Nat.blt d n = true) (hj : (ops[j]?).bind (·.dst) = some e) (hdn : Nat.blt e n = true) (hb : ρ e = undef)
    (k : HPlan P w0 n ops Q C plan (listed.setIfInBounds i true) (Env.set ρ d undef) H) : HPlan P w0 n ops Q C ((i, some K) :: plan) listed ρ H :=
  HPlan.taken hi hd (.inr ⟨j, want, e, rfl, hj, hdn, .inr ⟨.inr hb, rfl⟩⟩) k

theorem SC.listing {l : Array Bool} {H : Hp} (h : SC C l H) : SC C (l.setIfInBounds i true) H := by
  intro c hc hk
  refine h c hc fun s hs => ?_
  have := hk s hs
  by_cases e : s = i
  · subst e
    simp only [Array.getD_eq_getD_getElem?] at *
    rcases Nat.lt_or_ge s l.size with h' | h'
    · rw [Array.getElem?_setIfInBounds_self_of_lt h'] at this; cases this
    · simp [Array.getElem?_eq_none h']
  · rwa [getD_set_other e] at this

theorem HPlan.opnext {o : Oper} (hi : ops[i]? = some o) (hd : dstOk n o.dst = true)
    (hy : Yv P ops n o ρ (fun H' => H' = H) v) (k : HPlan P w0 n ops Q C plan (listed.setIfInBounds i true) (ρ.put o.dst v) H) : HPlan P w0 n ops Q C ((i, none) :: plan) listed ρ H := by
  rcases hy with ⟨hg, hv⟩ | ⟨j, want, e, hg, hj, hdn, hb⟩
  · intro hn hp ha hc
    exact HPlan.op hi hd hg (hv H rfl).op (by rintro v' H' ⟨rfl, rfl⟩; exact ⟨hc.listing, k⟩) hn hp ha hc
  · rcases hb with ⟨hb, hv⟩ | ⟨hb, rfl⟩
    · intro hn hp ha hc
      exact HPlan.gop hi hd hg hj hdn hb (hv H rfl).op (by rintro v' H' ⟨rfl, rfl⟩; exact ⟨hc.listing, k⟩) hn hp ha hc
    · intro hn hp ha hc a w hs ho hh
      replace hp := planOk_op hi hp
      refine ⟨fun h0 => (by rw [hp.1] at h0; cases h0), fun j' hj' => ?_⟩
      rw [hp.1] at hj'
      simp only [List.mem_singleton] at hj'
      subst hj'
      have hw : Region.wanted o (yielded ops a.tmps) = false := by
        rcases hb with hb | hb
        · rw [wanted_of hs hg hj hdn hb]; cases want <;> rfl
        · rw [wanted_undef hs hg hj hdn hb]
      unfold wpOp
      simp only [hi, hw, Bool.false_eq_true, if_false]
      exact ⟨⟨ho, by rw [hh]; exact hc.listing⟩, k hn hp.2 (fun c hc s hs p hp => ha c hc s hs p (List.mem_cons_of_mem _ hp)) hc.listing _ _ (hs.put hd undef) ho hh⟩

theorem HPlan.valn (hi : ops[i]? = some ⟨some d, op, ty, pos, af, none⟩) (hd : Nat.blt d n = true) (h : HVal P ⟨some d, op, ty, pos, af, none⟩ ρ H v)
    (k : HPlan P w0 n ops Q C plan (listed.setIfInBounds i true) (Env.set ρ d v) H) : HPlan P w0 n ops Q C ((i, none) :: plan) listed ρ H :=
  HPlan.opnext hi hd (.inl ⟨rfl, fun _ e => by rw [e]; exact h⟩) k
theorem HPlan.gvaln {j e : Nat} {want : Bool} (hi : ops[i]? = some ⟨some d, op, ty, pos, af, some (j, want)⟩) (hd : Nat.blt d n = true) (hg : some (j, want) = some (j, want)) (hj : (ops[j]?).bind (·.dst) = some e) (hdn : Nat.blt e n = true) (hb : ρ e = .bool want)
    (h : HVal P ⟨some d, op, ty, pos, af, some (j, want)⟩ ρ H v) (k : HPlan P w0 n ops Q C plan (listed.setIfInBounds i true) (Env.set ρ d v) H) : HPlan P w0 n ops Q C ((i, none) :: plan) listed ρ H :=
  HPlan.opnext hi hd (.inr ⟨j, want, e, hg, hj, hdn, .inl ⟨hb, fun _ e => by rw [e]; exact h⟩⟩) k
theorem HPlan.opgskip {j e : Nat} {want : Bool} (hi : ops[i]? = some ⟨some d, op, ty, pos, af, some (j, want)⟩) (hd : Nat.blt d n = true) (hj : (ops[j]?).bind (·.dst) = some e) (hdn : Nat.blt e n = true) (hb : ρ e = .bool (!want))
    (k : HPlan P w0 n ops Q C plan (listed.setIfInBounds i true) (Env.set ρ d undef) H) : HPlan P w0 n ops Q C ((i, none) :: plan) listed ρ H :=
  HPlan.opnext hi hd (.inr ⟨j, want, e, rfl, hj, hdn, .inr ⟨.inl hb, rfl⟩⟩) k
theorem HPlan.opuskip {j e : Nat} {want : Bool} (hi : ops[i]? = some ⟨some d, op, ty, pos, af, some (j, want)⟩) (hd : Nat.blt d n = true) (hj : (ops[j]?).bind (·.dst) = some e) (hdn : Nat.blt e n = true) (hb : ρ e = undef)
    (k : HPlan P w0 n ops Q C plan (listed.setIfInBounds i true) (Env.set ρ d undef) H) : HPlan P w0 n ops Q C ((i, none) :: plan) listed ρ H :=
  HPlan.opnext hi hd (.inr ⟨j, want, e, rfl, hj, hdn, .inr ⟨.inr hb, rfl⟩⟩) k

theorem HPlan.ops' {K : Value → Hp → Prop} (hi : ops[i]? = some ⟨some d, op, ty, pos, af, none⟩) (hd : Nat.blt d n = true) (h : HOp P w0 n ⟨some d, op, ty, pos, af, none⟩ ρ H K)
    (k : ∀ v H', K v H' → SC C (listed.setIfInBounds i true) H' ∧ HPlan P w0 n ops Q C plan (listed.setIfInBounds i true) (Env.set ρ d v) H') : HPlan P w0 n ops Q C ((i, none) :: plan) listed ρ H :=
  HPlan.op hi hd rfl h k
theorem HPlan.opsn {K : Value → Hp → Prop} (hi : ops[i]? = some ⟨none, op, ty, pos, af, none⟩) (h : HOp P w0 n ⟨none, op, ty, pos, af, none⟩ ρ H K)
    (k : ∀ v H', K v H' → SC C (listed.setIfInBounds i true) H' ∧ HPlan P w0 n ops Q C plan (listed.setIfInBounds i true) ρ H') : HPlan P w0 n ops Q C ((i, none) :: plan) listed ρ H :=
  HPlan.op hi rfl rfl h k
theorem HPlan.gops {K : Value → Hp → Prop} {j e : Nat} {want : Bool} (hi : ops[i]? = some ⟨some d, op, ty, pos, af, some (j, want)⟩) (hd : Nat.blt d n = true) (hg : some (j, want) = some (j, want)) (hj : (ops[j]?).bind (·.dst) = some e) (hdn : Nat.blt e n = true) (hb : ρ e = .bool want)
    (h : HOp P w0 n ⟨some d, op, ty, pos, af, some (j, want)⟩ ρ H K)
    (k : ∀ v H', K v H' → SC C (listed.setIfInBounds i true) H' ∧ HPlan P w0 n ops Q C plan (listed.setIfInBounds i true) (Env.set ρ d v) H') : HPlan P w0 n ops Q C ((i, none) :: plan) listed ρ H :=
  HPlan.gop hi hd hg hj hdn hb h k

theorem HBr.ops' {m : Nat} {K : Value → Hp → Prop} (p : Plan) (hl : p.length = m) (hn : Region.noSelect ops = true) (hp : planOk ops p (listed.setIfInBounds i true) = true) (ha : apartK (C.map (·.1)) p = true)
    (hi : ops[i]? = some ⟨some d, op, ty, pos, af, none⟩) (hd : Nat.blt d n = true) (h : HOp P w0 n ⟨some d, op, ty, pos, af, none⟩ ρ H K)
    (k : ∀ v H', K v H' → SC C (listed.setIfInBounds i true) H' ∧ HPlan P w0 n ops Q C p (listed.setIfInBounds i true) (Env.set ρ d v) H') : HBr P w0 n ops Q C m listed ρ H i :=
  HBr.op p hl hn hp ha hi hd rfl h k
theorem HBr.opsn {m : Nat} {K : Value → Hp → Prop} (p : Plan) (hl : p.length = m) (hn : Region.noSelect ops = true) (hp : planOk ops p (listed.setIfInBounds i true) = true) (ha : apartK (C.map (·.1)) p = true)
    (hi : ops[i]? = some ⟨none, op, ty, pos, af, none⟩) (h : HOp P w0 n ⟨none, op, ty, pos, af, none⟩ ρ H K)
    (k : ∀ v H', K v H' → SC C (listed.setIfInBounds i true) H' ∧ HPlan P w0 n ops Q C p (listed.setIfInBounds i true) ρ H') : HBr P w0 n ops Q C m listed ρ H i :=
  HBr.op p hl hn hp ha hi rfl rfl h k
end

section
variable {P : Program} {w0 : World} {n : Nat} {ρ : Env} {H : Hp} {d : Option Nat} {ty : TypeId} {pos : String} {af : Array Edge} {g : Option (Nat × Bool)} {v : Value}

/-! ## values, more -/
theorem HVal.move' {x : Operand} (h : ρ.ev x = v) : HVal P ⟨d, .move x, ty, pos, af, g⟩ ρ H v := h ▸ HVal.move
theorem HVal.assign' {x : Operand} (h : ρ.ev x = v) : HVal P ⟨d, .assign x, ty, pos, af, g⟩ ρ H v := h ▸ HVal.assign
theorem HVal.pickT {c x y : Operand} {b : Bool} (h : ρ.ev c = .bool b) (hb : b = true) (hx : ρ.ev x = v) : HVal P ⟨d, .pick c x y, ty, pos, af, g⟩ ρ H v := by
  have := HVal.pick (P := P) (H := H) (d := d) (ty := ty) (pos := pos) (af := af) (g := g) (x := x) (y := y) b h
  rw [hb, if_pos rfl, hx] at this; exact this
theorem HVal.pickF {c x y : Operand} {b : Bool} (h : ρ.ev c = .bool b) (hb : b = false) (hx : ρ.ev y = v) : HVal P ⟨d, .pick c x y, ty, pos, af, g⟩ ρ H v := by
  have := HVal.pick (P := P) (H := H) (d := d) (ty := ty) (pos := pos) (af := af) (g := g) (x := x) (y := y) b h
  rw [hb, if_neg (by decide), hx] at this; exact this
theorem HVal.indexS' {t : TypeId} {x i : Operand} {k : IntKind} {s : ByteArray} {j : Int} (hu : Ru P (underlying t) .string) (hx : ρ.ev x = .string s) (hi : ρ.ev i = .int k j) (h0 : 0 ≤ j) (h1 : j.toNat < s.size) :
    HVal P ⟨d, .index t x i, ty, pos, af, g⟩ ρ H (.int .u8 (bt s j.toNat)) := by
  have := HVal.indexS (P := P) (H := H) (d := d) (ty := ty) (pos := pos) (af := af) (g := g) hu hx hi h0 h1
  simp only [bt, h1, dif_pos]; exact this
theorem HVal.fieldAddr' {s : TypeId} {x : Operand} {f off k : Nat} {a : Addr} {fs : Array Field} {fl : Field} (hu : Ru P (underlying s) (.struct fs)) (hf : fs[f]? = some fl) (ho : fl.offset = off)
    (hz : Ru P (sizeOf fl.type) (k + 1)) (h : ρ.ev x = .pointer (some a)) : HVal P ⟨d, .fieldAddr s x f, ty, pos, af, g⟩ ρ H (.pointer (some (a.add off))) := ho ▸ HVal.fieldAddr fs fl k hu hf hz h
theorem HVal.fieldAddr0 {s : TypeId} {x : Operand} {f k : Nat} {a : Addr} {fs : Array Field} {fl : Field} (hu : Ru P (underlying s) (.struct fs)) (hf : fs[f]? = some fl) (ho : fl.offset = 0)
    (hz : Ru P (sizeOf fl.type) (k + 1)) (h : ρ.ev x = .pointer (some a)) : HVal P ⟨d, .fieldAddr s x f, ty, pos, af, g⟩ ρ H (.pointer (some a)) := HVal.fieldAddr' (off := 0) hu hf ho hz h
theorem HVal.field1' {s : TypeId} {x : Operand} {f off : Nat} {cs : Array Value} {fs : Array Field} {fl : Field} (hu : Ru P (underlying s) (.struct fs)) (hf : fs[f]? = some fl) (ho : fl.offset = off) (hagg : Ru P (isAgg fl.type) false)
    (hx : ρ.ev x = .agg cs) (hv : cs[off]? = some v) : HVal P ⟨d, .field s x f, ty, pos, af, g⟩ ρ H v := HVal.field1 fs fl hu hf hagg hx (ho ▸ hv)
theorem HVal.fieldN' {s : TypeId} {x : Operand} {f off k : Nat} {cs ds : Array Value} {fs : Array Field} {fl : Field} (hu : Ru P (underlying s) (.struct fs)) (hf : fs[f]? = some fl) (ho : fl.offset = off) (hagg : Ru P (isAgg fl.type) true) (hz : Ru P (sizeOf fl.type) k)
    (hx : ρ.ev x = .agg cs) (hv : cs.extract off (off + k) = ds) : HVal P ⟨d, .field s x f, ty, pos, af, g⟩ ρ H (.agg ds) := by
  subst ho; rw [← hv]; exact HVal.fieldN fs fl hu hf hagg hz hx
theorem HVal.convS {s t : TypeId} {x : Operand} {a : ByteArray} (hs : Ru P (underlying s) .string) (ht : Ru P (underlying t) .string) (hx : ρ.ev x = .string a) : HVal P ⟨d, .convert s t x, ty, pos, af, g⟩ ρ H (.string a) := fun w _ => by
  simp [execOp, hx, convert, hs w, ht w]
theorem HVal.makeFunc {f : FuncId} {xs : Array Operand} {vs : Array Value} (_h0 : (#[] : Array Operand).map ρ.ev = #[]) (hx : xs.map ρ.ev = vs) : HVal P ⟨d, .makeFunc (.func f) #[] xs, ty, pos, af, g⟩ ρ H (.func (.func f) #[] vs) := fun w _ => by
  simp [execOp, Instr.makeFunc, hx]
theorem HVal.sliceS {t : TypeId} {x : Operand} {lo hi : Option Operand} {s : ByteArray} (l h : Nat) (hu : Ru P (underlying t) .string) (hx : ρ.ev x = .string s)
    (hl : bnd (lo.map ρ.ev) 0 l) (hh : bnd (hi.map ρ.ev) s.size h) (h1 : l ≤ h) (h2 : h ≤ s.size) :
    HVal P ⟨d, .slice t x lo hi none, ty, pos, af, g⟩ ρ H (.string (s.extract l h)) := fun w _ => by
  have key : (Instr.sliceBounds false s.size s.size (lo.map ρ.ev) (hi.map ρ.ev) none).run P w = .ok (l, h, s.size) w := by
    cases lo <;> cases hi <;> simp only [Option.map_none, Option.map_some, bnd] at hl hh
    all_goals (try obtain ⟨kl, yl, el, hl0, hl1⟩ := hl)
    all_goals (try obtain ⟨kh, yh, eh, hh0, hh1⟩ := hh)
    all_goals (try subst hl)
    all_goals (try subst hh)
    all_goals (try subst hl1)
    all_goals (try subst hh1)
    all_goals simp only [Option.map_none, Option.map_some, Instr.sliceBounds, *, Sem.run_bind, Sem.run_pure, Result.andThen_ok, sliceBound_ok, Option.isSome_none, Bool.false_eq_true, if_false]
    all_goals (try simp)
    all_goals (try simp only [sliceBound_ok, *])
  simp [execOp, Instr.sliceAt, hu w, Instr.slice, hx, key]

theorem run_equalIn_slice_nil' (w : World) (n : Nat) {t e : TypeId} {a : Option Addr} {m c : Nat} (ht : P.underlying t = some (.slice e)) : (Op.equalIn (n + 1) t (.slice a m c) (.slice none 0 0)).run P w = .ok a.isNone w := by
  cases a <;> simp [Op.equalIn, run_underlying ht]
theorem run_eql_slice_nil' (w : World) {t e : TypeId} {a : Option Addr} {m c : Nat} (ht : P.underlying t = some (.slice e)) : (Op.equal t (.slice a m c) (.slice none 0 0)).run P w = .ok a.isNone w := run_equalIn_slice_nil' w 9999 ht
theorem HVal.eqlSN {t u e : TypeId} {x y : Operand} {s : Sl} (ht : P.underlying t = some (.slice e)) (hx : ρ.ev x = Sl.v s) (hy : ρ.ev y = Sl.v Sl.nil) : HVal P ⟨d, .binOp .eql t x y u, ty, pos, af, g⟩ ρ H (.bool (s.b.isNone)) := fun w _ => by
  have := run_eql_slice_nil' (P := P) w (a := s.b) (m := s.n) (c := s.c) ht
  simp [execOp, hx, hy, eqGuard, Go.binOp, Sl.v, Sl.nil, this]
theorem HVal.neqSN {t u e : TypeId} {x y : Operand} {s : Sl} (ht : P.underlying t = some (.slice e)) (hx : ρ.ev x = Sl.v s) (hy : ρ.ev y = Sl.v Sl.nil) : HVal P ⟨d, .binOp .neq t x y u, ty, pos, af, g⟩ ρ H (.bool (!s.b.isNone)) := fun w _ => by
  have := run_eql_slice_nil' (P := P) w (a := s.b) (m := s.n) (c := s.c) ht
  simp [execOp, hx, hy, eqGuard, Go.binOp, Sl.v, Sl.nil, this]

theorem HVal.build' {t : TypeId} {parts : Array (Nat × Operand)} {fs : Array Field} {z : Value} {places : Array (Nat × Nat)} {cs : List Value} (hu : Ru P (underlying t) (.struct fs)) (hz : Ru P (zeroValue t) z)
    (hp : Ru P (fs.mapM fun f => do pure (f.offset, ← sizeOf f.type)) places) (hf : fillL (places[·]?) z.cells.toList (parts.toList.map fun p => (p.1, ρ.ev p.2)) = some cs) :
    HVal P ⟨d, .build t parts, ty, pos, af, g⟩ ρ H (.agg cs.toArray) := HVal.build hu hz hp (by rw [Array.toList_map]; exact fill_list _ _ _ hf)
theorem HVal.buildA' {t e : TypeId} {parts : Array (Nat × Operand)} {len k : Nat} {z : Value} {cs : List Value} (hu : Ru P (underlying t) (.array len e)) (hz : Ru P (zeroValue t) z)
    (hk : Ru P (sizeOf e) k) (hf : fillL (fun i => some (i * k, k)) z.cells.toList (parts.toList.map fun p => (p.1, ρ.ev p.2)) = some cs) :
    HVal P ⟨d, .build t parts, ty, pos, af, g⟩ ρ H (.agg cs.toArray) := HVal.buildA hu hz hk (by rw [Array.toList_map]; exact fill_list _ _ _ hf)
theorem HOp.buildSlice' {t e : TypeId} {len k : Nat} {parts : Array (Nat × Operand)} {z : Value} {cs zs : List Value} (hu : Ru P (underlying t) (.slice e)) (hk : Ru P (sizeOf e) k) (hz : Ru P (zeroValue e) z) (hlt : len * k ≤ 16777216)
    (hzs : (Array.range (len * k)).map (z.cells[· % z.cells.size]!) = zs.toArray) (hf : fillL (fun i => some (i * k, k)) zs (parts.toList.map fun p => (p.1, ρ.ev p.2)) = some cs) (h0 : len * k ≠ 0) :
    HOp P w0 n ⟨d, .buildSlice t len parts, ty, pos, af, g⟩ ρ H fun v H' => v = .slice (some ⟨H.size, 0, none⟩) len len ∧ H' = H.push (.cells cs.toArray e) :=
  HOp.buildSlice hu hk hz hlt (by rw [Array.toList_map, hzs]; exact fill_list _ _ _ hf) h0

/-- '==' of structs. -/
theorem HVal.eqlAgg {t u : TypeId} {x y : Operand} {xs ys : Array Value} {b : Bool} (hg : P.eqGuardType P.depth t = false) (hx : ρ.ev x = .agg xs) (hy : ρ.ev y = .agg ys) (h : Ru P (Op.equal t (.agg xs) (.agg ys)) b) :
    HVal P ⟨d, .binOp .eql t x y u, ty, pos, af, g⟩ ρ H (.bool b) := fun w _ => by
  simp [execOp, hx, hy, eqGuard, Go.binOp, program, Sem.run, hg, h w]
theorem HVal.neqAgg {t u : TypeId} {x y : Operand} {xs ys : Array Value} {b : Bool} (hg : P.eqGuardType P.depth t = false) (hx : ρ.ev x = .agg xs) (hy : ρ.ev y = .agg ys) (h : Ru P (Op.equal t (.agg xs) (.agg ys)) b) :
    HVal P ⟨d, .binOp .neq t x y u, ty, pos, af, g⟩ ρ H (.bool (!b)) := fun w _ => by
  simp [execOp, hx, hy, eqGuard, Go.binOp, program, Sem.run, hg, h w]

theorem HOp.storeN' {t : TypeId} {x y : Operand} {a : Addr} {l : List Value} (hz : Ru P (sizeOf t) l.length) (hx : ρ.ev x = .pointer (some a)) (hy : ρ.ev y = .agg l.toArray) (hv : l.all one = true)
    (hc : mayw H a l.length 0) : HOp P w0 n ⟨d, .store t x y, ty, pos, af, g⟩ ρ H fun _ H' => H' = sets H a l 0 :=
  HOp.storeN hz hx hy (by simpa using hv) hc
theorem HOp.buildSlice0 {t e : TypeId} {len k : Nat} {parts : Array (Nat × Operand)} {cs : List Value} (hu : Ru P (underlying t) (.slice e)) (hk : Ru P (sizeOf e) k) (h0 : len * k = 0)
    (hf' : fillL (fun i => some (i * k, k)) [] (parts.toList.map fun p => (p.1, ρ.ev p.2)) = some cs) :
    HOp P w0 n ⟨d, .buildSlice t len parts, ty, pos, af, g⟩ ρ H fun v H' => v = .slice (some ⟨H.size, 0, none⟩) len len ∧ H' = H.push (.cells cs.toArray e) := by
  intro ac w hs ho hh K' Q' hk'
  subst hh
  have hf : Instr.fill (fun i => some (i * k, k)) #[] (parts.map fun (i, x) => (i, ρ.ev x)).toList = some cs.toArray := by rw [Array.toList_map]; exact fill_list _ _ _ hf'
  unfold Oper.wp
  rw [hs.eval]
  have hn : ¬ (len * k > 2 ^ 24) := by rw [h0]; decide
  have hr : (Array.range (len * k)).map ((#[] : Array Value)[· % (#[] : Array Value).size]!) = #[] := by rw [h0]; simp
  simp only [execOp, Instr.buildSlice, Sem.run_bind, hu w, Result.andThen_ok, hk w, Sem.run_ite, if_neg hn, if_pos h0, Sem.run_pure, hr, hf, newRow, newObj, Sem.run]
  rw [Oper.upon_value]
  exact hk' _ _ (ho.of_eq rfl rfl rfl (keepsF_push ..)) ⟨rfl, rfl⟩

theorem HOp.makeSlice' {t e : TypeId} {x y : Operand} {l c : Int} {b : Nat} {kl kc : IntKind} {i : TypeInfo} {z : Value} (hu : Ru P (underlying t) (.slice e)) (hi : Ru P (typeInfo e) i) (hb : i.bytes = b) (hz : Ru P (zeroValue e) z) (hk : Ru P (sizeOf e) z.cells.size)
    (hx : ρ.ev x = .int kl l) (hy : ρ.ev y = .int kc c) (h0 : 0 ≤ l) (h1 : l ≤ c) (h2 : b * c ≤ 140737488355328) (h3 : c ≤ 9223372036854775807) :
    HOp P w0 n ⟨d, .makeSlice t x y, ty, pos, af, g⟩ ρ H fun v H' => v = .slice (some ⟨H.size, 0, none⟩) l.toNat c.toNat ∧ H' = H.push (.cells (made z.cells c.toNat) e) := by
  have := HOp.makeSlice (P := P) (w0 := w0) (n := n) (ρ := ρ) (H := H) (d := d) (ty := ty) (pos := pos) (af := af) (g := g) (x := x) (y := y) hu hi hb hk hz hx hy h0 h1 ((show (140737488355328 : Int) = 2 ^ 47 by decide) ▸ h2) h3
  intro a w hs ho hh K' Q' hk'
  refine this a w hs ho hh K' Q' fun v w' ho' hv => hk' v w' ho' ⟨hv.1, ?_⟩
  rw [hv.2]
  congr 2
  by_cases hq : c.toNat * z.cells.size = 0
  · simp [made, Builtin.zeroCells, hq]
  · simp only [made, Builtin.zeroCells, hq, if_false]

theorem HOp.call' {f : Operand} {args : Array Operand} {at_ : Array TypeId} {R : Value → Hp → Prop}
    (m : FuncId) (vs : List Value) {cap : List Value} (hf : ρ.ev f = .func (.func m) #[] cap.toArray) (hv : args.toList.map ρ.ev ++ cap = vs)
    (hc : ∀ args w, (callFunc m args).run P w = .ok (.enter m args) w)
    (h : Good P w0 m vs.toArray H R) : HOp P w0 n ⟨d, .call ⟨.value f, args, at_⟩, ty, pos, af, g⟩ ρ H R := by
  intro a w hs ho hh K' Q' hk
  have hv' : args.map ρ.ev ++ cap.toArray = vs.toArray := by
    apply Array.ext'; simpa using hv
  unfold Oper.wp execOp
  simp only [resolve, hs.eval, hf, Deferred.ofValue, Sem.run_bind, Sem.run_pure, Result.andThen_ok, invoke, Array.empty_append, hv', hc, Oper.upon_enter]
  refine (h w ho hh).mono ?_
  rintro e w' ⟨v, rfl, ho', hr⟩
  exact hk v w' ho' hr
end

/-! ## a function's frame and its results -/
def Res1 (P : Program) (n : Nat) (r : ResultVar) (ρ : Env) (H : Hp) (v : Value) : Prop :=
  ∀ a w, Sim n a ρ → w.heap = H → (match r with | .tmp t => pure (a.tmps.getD t undef) | .cell x t => do loadVar t (← asAddr (a.tmps.getD x undef)) : Sem Value).run P w = .ok v w
theorem Res1.t {P : Program} {n t : Nat} {ρ : Env} {H : Hp} : Res1 P n (.tmp t) ρ H (ρ t) := fun a w hs _ => by simp only [hs.val, Sem.run_pure]
theorem Res1.n {P : Program} {n x : Nat} {t : TypeId} {ρ : Env} {H : Hp} {a : Addr} (l : List Value) (hagg : Ru P (isAgg t) true) (hz : Ru P (sizeOf t) l.length) (hx : ρ x = .pointer (some a)) (hc : cells H a l 0) : Res1 P n (.cell x t) ρ H (.agg l.toArray) := fun ac w hs hw => by
  subst hw
  have hr := run_loadCells_list (P := P) w a l (fun j v hj => by have := cells_iff.1 hc j v hj; rwa [Nat.zero_add] at this)
  simp only [hs.val, hx]
  simp [asAddr, loadVar, hagg w, hz w, hr]
theorem Res1.o {P : Program} {n x : Nat} {t : TypeId} {ρ : Env} {H : Hp} {a : Addr} {v : Value} (hagg : Ru P (isAgg t) false) (hx : ρ x = .pointer (some a)) (hc : cell H a = some v) : Res1 P n (.cell x t) ρ H v := fun ac w hs hw => by
  subst hw
  have hc' : w.cell? a = some v := hc
  simp only [hs.val, hx]
  simp [asAddr, loadVar, hagg w, hc']

def resF (tmps : Array Value) : ResultVar → Sem Value
  | .tmp t => pure (tmps.getD t undef)
  | .cell x t => do loadVar t (← asAddr (tmps.getD x undef))
theorem Res1.run {P : Program} {n : Nat} {r : ResultVar} {ρ : Env} {H : Hp} {v : Value} (h : Res1 P n r ρ H v) {a : Act} {w : World} (hs : Sim n a ρ) (hw : w.heap = H) : (resF a.tmps r).run P w = .ok v w := by
  have := h a w hs hw
  cases r <;> exact this
theorem results_eq (fn : Func) (tmps : Array Value) : results fn tmps = (do let vs ← fn.results.mapM (resF tmps); pure (if h : vs.size = 1 then vs[0] else .tuple vs)) := by
  unfold results
  congr 2

def ResOf (P : Program) (fn : Func) (n : Nat) (ρ : Env) (H : Hp) (v : Value) : Prop := ∀ a w, Sim n a ρ → w.heap = H → (results fn a.tmps).run P w = .ok v w
section
variable {P : Program} {fn : Func} {n : Nat} {ρ : Env} {H : Hp}
theorem resOf0 (h : fn.results = #[]) : ResOf P fn n ρ H (.tuple #[]) := fun _ w _ _ => results_none h _ P w
theorem resOf1 {r : ResultVar} {v : Value} (h : fn.results = #[r]) (h1 : Res1 P n r ρ H v) : ResOf P fn n ρ H v := fun a w hs hw => by
  rw [results_eq, h]; simp [h1.run hs hw]
theorem resOf2 {r s : ResultVar} {u v : Value} (h : fn.results = #[r, s]) (h1 : Res1 P n r ρ H u) (h2 : Res1 P n s ρ H v) : ResOf P fn n ρ H (.tuple #[u, v]) := fun a w hs hw => by
  rw [results_eq, h]; simp [h1.run hs hw, h2.run hs hw]
theorem resOf3 {r s t : ResultVar} {u v x : Value} (h : fn.results = #[r, s, t]) (h1 : Res1 P n r ρ H u) (h2 : Res1 P n s ρ H v) (h3 : Res1 P n t ρ H x) : ResOf P fn n ρ H (.tuple #[u, v, x]) := fun a w hs hw => by
  rw [results_eq, h]; simp [h1.run hs hw, h2.run hs hw, h3.run hs hw]
end

theorem Good.enter' {P : Program} {w0 : World} {f : FuncId} {fn : Func} {c : Code} {args : Array Value} {H : Hp} {R : Value → Hp → Prop} {n : Nat}
    (hf : P.funcs[f]? = some fn) (hb : fn.body = some c) (hn : fn.ntmps = n) (hs : Nat.ble args.size n = true)
    (h : HW P w0 n c (RetPost fun ρ H => ∃ v, ResOf P fn n ρ H v ∧ R v H) (Env.start args.toList) H) : Good P w0 f args H R := by
  intro w ho hh
  refine calls_of_wp hf hb ?_
  rw [hn]
  refine wp_mono (h _ w (Sim.start args n (Nat.le_of_ble_eq_true hs)) ho hh) ?_
  rintro e a' w' ⟨h1, ρ', h2, h3⟩
  cases e <;> simp only [RetPost] at h3 <;> first | exact h3.elim | (obtain ⟨v, hv, hr⟩ := h3; exact ⟨h2.defers, v, hv _ _ h2 rfl, v, rfl, h1, hr⟩)

/-! ## '==' of structs, field by field -/
section
variable {P : Program}
theorem eq_struct {t : TypeId} {d : Nat} {xs ys : Array Value} {fs : Array Field} {b : Bool} (ht : P.underlying t = some (.struct fs)) (hp : P.stoodInHeld t = false) (h : Ru P (Op.eqFields d xs ys fs.toList) b) : Ru P (Op.equalIn (d + 1) t (.agg xs) (.agg ys)) b := fun w => by
  have hf : P.fieldsOf t = fs := by simp only [Program.fieldsOf, ht]
  rw [run_equalIn_struct w d t xs ys (by rw [hf]; exact ht) hp, hf]
  exact h w
theorem eqf_cons {d : Nat} {xs ys : Array Value} {f : Field} {fs : List Field} {a b : Value} {r r' : Bool} (hn : f.name ≠ "_") (ha : Ru P (part f.type xs f.offset) a) (hb : Ru P (part f.type ys f.offset) b)
    (he : Ru P (Op.equalIn d f.type a b) r) (h : Ru P (Op.eqFields d xs ys fs) r') : Ru P (Op.eqFields d xs ys (f :: fs)) (r && r') := fun w => by
  simp only [Op.eqFields, if_pos hn, Sem.run_bind, ha w, hb w, he w, Result.andThen_ok]
  cases r <;> simp [h w]
theorem eqf_one {d : Nat} {xs ys : Array Value} {f : Field} {a b : Value} {r : Bool} (hn : f.name ≠ "_") (ha : Ru P (part f.type xs f.offset) a) (hb : Ru P (part f.type ys f.offset) b)
    (he : Ru P (Op.equalIn d f.type a b) r) : Ru P (Op.eqFields d xs ys [f]) r := fun w => by
  have := eqf_cons (fs := []) (r' := true) hn ha hb he (fun w => by simp [Op.eqFields]) w
  simpa using this
theorem part1 {t : TypeId} {cs : Array Value} {off : Nat} {v : Value} (hagg : Ru P (isAgg t) false) (h : cs[off]? = some v) : Ru P (part t cs off) v := fun w => by simp [part, hagg w, h]
theorem partN {t : TypeId} {cs : Array Value} {off k : Nat} (hagg : Ru P (isAgg t) true) (hz : Ru P (sizeOf t) k) : Ru P (part t cs off) (.agg (cs.extract off (off + k))) := fun w => by simp [part, hagg w, hz w]
theorem eqI {t : TypeId} {d : Nat} {k k' : IntKind} {a b : Int} (h : P.underlying t = some (.int k')) : Ru P (Op.equalIn (d + 1) t (.int k a) (.int k b)) (decide (a = b)) := fun w => run_equalIn_int w d t k k' a b h
theorem eqB {t : TypeId} {d : Nat} {a b : Bool} (h : P.underlying t = some .bool) : Ru P (Op.equalIn (d + 1) t (.bool a) (.bool b)) (a == b) := fun w => run_equalIn_bool w d t a b h
theorem eqS {t : TypeId} {d : Nat} {a b : ByteArray} (h : P.underlying t = some .string) : Ru P (Op.equalIn (d + 1) t (.string a) (.string b)) (seq a b) := fun w => run_equalIn_string w d t a b h
end

end Go.Hw
