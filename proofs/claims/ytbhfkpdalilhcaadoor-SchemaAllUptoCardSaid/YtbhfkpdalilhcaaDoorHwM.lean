/- Maps and pointers compared: rules. Own work of this session. -/
import Derived.Test.YtbhfkpdalilhcaaDoorHwG
import Derived.LaidEql
import Derived.MapKept
set_option linter.unusedVariables false
namespace Go.Hw
open Go

/-! ## a map on the heap -/
/-- Entries: key, value, when it came. -/
abbrev ML (κ ν : Type) := List (κ × ν × Nat)
def ent {κ ν : Type} (f : κ → Value) (g : ν → Value) (e : κ × ν × Nat) : MapEntry := { key := f e.1, val := g e.2.1, born := e.2.2 }
def mapo {κ ν : Type} (f : κ → Value) (g : ν → Value) (L : ML κ ν) (c : Nat) : Obj := .map (L.map (ent f g)).toArray c
def mapAt {κ ν : Type} (f : κ → Value) (g : ν → Value) (H : Hp) (m : Option Nat) (L : ML κ ν) (c : Nat) : Prop :=
  match m with
  | none => L = []
  | some r => H[r]? = some (mapo f g L c)
def mfind {κ ν : Type} [DecidableEq κ] (k : κ) : ML κ ν → Nat → Option (Nat × ν)
  | [], _ => none
  | e :: l, i => if k = e.1 then some (i, e.2.1) else mfind k l (i + 1)
def mget {κ ν : Type} [DecidableEq κ] (L : ML κ ν) (k : κ) : Option ν := (mfind k L 0).map (·.2)
def mput {κ ν : Type} [DecidableEq κ] (L : ML κ ν) (c : Nat) (k : κ) (v : ν) : ML κ ν × Nat :=
  match mfind k L 0 with
  | some (i, _) => (L.modify i fun e => (k, v, e.2.2), c)
  | none => (L ++ [(k, v, c)], c + 1)
def mdel {κ ν : Type} [DecidableEq κ] (L : ML κ ν) (k : κ) : ML κ ν :=
  match mfind k L 0 with
  | some (i, _) => L.eraseIdx i
  | none => L
def seto (H : Hp) (r : Nat) (o : Obj) : Hp := H.setIfInBounds r o

/-- A pointer's block is plain memory. -/
def Plain (H : Hp) (x : Option Addr) : Prop := ∀ a, x = some a → ∃ c t, H[a.block]? = some (.cells c t (0, 0))

/-- What a key's type must do; 'C': when. -/
structure KeyOk {κ : Type} [DecidableEq κ] (P : Program) (t : TypeId) (f : κ → Value) (C : Hp → κ → Prop) : Prop where
  eq : ∀ (w : World) x y, C w.heap x → C w.heap y → (Op.equal t (f x) (f y)).run P w = .ok (decide (x = y)) w
  now : ∃ d, P.underlying t = some d ∧ ∀ x y, Instr.sameNow d (f x) (f y) = none ∨ Instr.sameNow d (f x) (f y) = some (decide (x = y))
  check : ∀ em x, Ru P (Instr.checkKey em 10000 t (f x)) ()
  same : ∀ x, Instr.sameBits 10000 (f x) (f x) = true

section
variable {κ ν : Type} [DecidableEq κ] {P : Program} {kt : TypeId} {f : κ → Value} {g : ν → Value} {C : Hp → κ → Prop}

theorem KeyOk.findNow (K : KeyOk P kt f C) {d : TypeDesc} (hd : P.underlying kt = some d) (k : κ) : ∀ (L : ML κ ν) (i : Nat), Instr.findNow d (f k) (L.map (ent f g)) i = none ∨ Instr.findNow d (f k) (L.map (ent f g)) i = some ((mfind k L i).map fun p => (p.1, g p.2))
  | [], i => .inr rfl
  | e :: l, i => by
    obtain ⟨d', hd', hn⟩ := K.now
    obtain rfl : d = d' := Option.some.inj (hd.symm.trans hd')
    have h := hn k e.1
    show Instr.findNow d (f k) (ent f g e :: l.map (ent f g)) i = none ∨ Instr.findNow d (f k) (ent f g e :: l.map (ent f g)) i = _
    unfold Instr.findNow
    show (match Instr.sameNow d (f k) (f e.1) with | some true => _ | some false => _ | none => _) = _ ∨ (match Instr.sameNow d (f k) (f e.1) with | some true => _ | some false => _ | none => _) = _
    rcases h with h | h
    · rw [h]; exact .inl rfl
    · rw [h]
      unfold mfind
      by_cases hk : k = e.1
      · rw [decide_eq_true hk, if_pos hk]; exact .inr rfl
      · rw [decide_eq_false hk, if_neg hk]; exact K.findNow hd k l (i + 1)

theorem KeyOk.findAsking (K : KeyOk P kt f C) (w : World) (k : κ) (hk : C w.heap k) : ∀ (L : ML κ ν) (i : Nat), (∀ e ∈ L, C w.heap e.1) → (Instr.findAsking kt (f k) (L.map (ent f g)) i).run P w = .ok ((mfind k L i).map fun p => (p.1, g p.2)) w
  | [], i, _ => by simp [Instr.findAsking, mfind]
  | e :: l, i, h => by
    have he := K.eq w k e.1 hk (h e List.mem_cons_self)
    have ih := K.findAsking w k hk l (i + 1) fun x hx => h x (List.mem_cons_of_mem _ hx)
    show (Instr.findAsking kt (f k) (ent f g e :: l.map (ent f g)) i).run P w = _
    unfold Instr.findAsking mfind
    have he' : (Op.equal kt (f k) (ent f g e).key).run P w = .ok (decide (k = e.1)) w := he
    by_cases hke : k = e.1
    · subst hke
      rw [decide_eq_true rfl] at he
      simp [ent, he]
    · rw [decide_eq_false hke] at he'
      simp [he', hke]
      rw [ih]

theorem KeyOk.findKey (K : KeyOk P kt f C) (w : World) (k : κ) (hk : C w.heap k) (L : ML κ ν) (h : ∀ e ∈ L, C w.heap e.1) : (Instr.findKey kt (f k) (L.map (ent f g))).run P w = .ok ((mfind k L 0).map fun p => (p.1, g p.2)) w := by
  obtain ⟨d, hd, _⟩ := K.now
  unfold Instr.findKey
  rcases K.findNow (g := g) hd k L 0 with h' | h'
  · simp [run_underlying hd, h', K.findAsking (g := g) w k hk L 0 h]
  · simp [run_underlying hd, h']

end

/-- A map, with a key that may be asked for. -/
def MapK {κ ν : Type} (f : κ → Value) (g : ν → Value) (C : Hp → κ → Prop) (H : Hp) (m : Option Nat) (L : ML κ ν) (c : Nat) (k : κ) : Prop := mapAt f g H m L c ∧ (∀ e ∈ L, C H e.1) ∧ C H k
abbrev Always {κ : Type} : Hp → κ → Prop := fun _ _ => True
theorem MapK.of {κ ν : Type} {f : κ → Value} {g : ν → Value} {H : Hp} {m : Option Nat} {L : ML κ ν} {c : Nat} {k : κ} (h : mapAt f g H m L c) : MapK f g Always H m L c k := ⟨h, fun _ _ => trivial, trivial⟩

section
variable {κ ν : Type} {P : Program} {ρ : Env} {H : Hp} {d : Option Nat} {ty : TypeId} {pos : String} {af : Array Edge} {gd : Option (Nat × Bool)} {kt et : TypeId} {f : κ → Value} {g : ν → Value}
theorem HVal.lenM {t : TypeId} {x : Operand} {m : Option Nat} {L : ML κ ν} {c : Nat} (ht : Ru P (underlying t) (.map kt et)) (hx : ρ.ev x = .map m) (hL : mapAt f g H m L c) : HVal P ⟨d, .call ⟨.builtin .len, #[x], #[t]⟩, ty, pos, af, gd⟩ ρ H (.int .i64 (L.length : Int)) := fun w hw => by
  subst hw
  cases m with
  | none =>
    have hL : L = [] := hL
    subst hL
    simp [execOp, resolve, invoke, builtin, Builtin.len_, ht w, hx, goInt]
  | some r =>
    have hb : w.heap[r]? = some (.map (L.map (ent f g)).toArray c) := hL
    simp [execOp, resolve, invoke, builtin, Builtin.len_, ht w, hx, goInt, Go.MapKept.run_getObj_map hb]

theorem map_modify (L : ML κ ν) (i : Nat) (k : κ) (v : ν) : (L.map (ent f g)).modify i (fun e => { e with key := f k, val := g v }) = (L.modify i fun e => (k, v, e.2.2)).map (ent f g) := by
  apply List.ext_getElem?
  intro j
  simp only [List.getElem?_modify, List.getElem?_map]
  by_cases h : i = j
  · subst h
    simp
    cases L[i]? <;> rfl
  · simp [h]

end

section
variable {κ ν : Type} [DecidableEq κ] {P : Program} {w0 : World} {n : Nat} {ρ : Env} {H : Hp} {d : Option Nat} {ty : TypeId} {pos : String} {af : Array Edge} {gd : Option (Nat × Bool)}
  {kt et : TypeId} {f : κ → Value} {g : ν → Value} {C : Hp → κ → Prop}

theorem HVal.lookup {t : TypeId} {x i : Operand} {k : κ} {z : ν} {m : Option Nat} {L : ML κ ν} {c : Nat} (ht : Ru P (underlying t) (.map kt et)) (K : KeyOk P kt f C) (hz : Ru P (zeroValue et) (g z)) (hx : ρ.ev x = .map m) (hi : ρ.ev i = f k)
    (hL : mapAt f g H m L c ∧ (∀ e ∈ L, C H e.1) ∧ C H k) : HVal P ⟨d, .lookup t x i false, ty, pos, af, gd⟩ ρ H (g ((mget L k).getD z)) := fun w hw => by
  subst hw
  obtain ⟨hL, hC, hk⟩ := hL
  have hf := K.findKey (g := g) w k hk L hC
  cases m with
  | none =>
    have hL : L = [] := hL
    subst hL
    simp [execOp, Instr.lookup, ht w, hx, hi, K.check true k w]
    simp at hf
    rw [hf]
    simp [mfind, hz w, mget]
  | some r =>
    have hb : w.heap[r]? = some (.map (L.map (ent f g)).toArray c) := hL
    simp [execOp, Instr.lookup, ht w, hx, hi, Go.MapKept.run_getObj_map hb, K.check _ k w, hf]
    unfold mget
    cases hm : mfind k L 0 with
    | none => simp [hz w]
    | some p => simp

theorem HVal.lookupOk {t : TypeId} {x i : Operand} {k : κ} {z : ν} {m : Option Nat} {L : ML κ ν} {c : Nat} (ht : Ru P (underlying t) (.map kt et)) (K : KeyOk P kt f C) (hz : Ru P (zeroValue et) (g z)) (hx : ρ.ev x = .map m) (hi : ρ.ev i = f k)
    (hL : mapAt f g H m L c ∧ (∀ e ∈ L, C H e.1) ∧ C H k) : HVal P ⟨d, .lookup t x i true, ty, pos, af, gd⟩ ρ H (.tuple #[g ((mget L k).getD z), .bool (mget L k).isSome]) := fun w hw => by
  subst hw
  obtain ⟨hL, hC, hk⟩ := hL
  have hf := K.findKey (g := g) w k hk L hC
  cases m with
  | none =>
    have hL : L = [] := hL
    subst hL
    simp [execOp, Instr.lookup, ht w, hx, hi, K.check true k w]
    simp at hf
    rw [hf]
    simp [mfind, hz w, mget]
  | some r =>
    have hb : w.heap[r]? = some (.map (L.map (ent f g)).toArray c) := hL
    simp [execOp, Instr.lookup, ht w, hx, hi, Go.MapKept.run_getObj_map hb, K.check _ k w, hf]
    unfold mget
    cases hm : mfind k L 0 with
    | none => simp [hz w]
    | some p => simp

theorem keepsF_pusho (H : Hp) (o : Obj) : KeepsF H (H.push o) := ⟨by simp, trivial⟩
theorem keepsF_seto (H : Hp) (r : Nat) (o : Obj) : KeepsF H (seto H r o) := ⟨by simp [seto], trivial⟩

theorem HOp.makeMap {t : TypeId} : HOp P w0 n ⟨d, .makeMap t none, ty, pos, af, gd⟩ ρ H fun v H' => v = .map (some H.size) ∧ H' = Array.push H (.map #[] 0) := by
  intro ac w hs ho hh K' Q' hk
  subst hh
  unfold Oper.wp
  rw [hs.eval]
  simp [execOp, Instr.makeMap, newObj, Sem.run]
  rw [Oper.upon_value]
  exact hk _ _ (ho.of_eq rfl rfl rfl (keepsF_pusho _ _)) ⟨rfl, rfl⟩

theorem mfind_spec {k : κ} : ∀ {L : ML κ ν} {i j : Nat} {v : ν}, mfind k L i = some (j, v) → i ≤ j ∧ ∃ e, L[j - i]? = some e ∧ e.1 = k ∧ e.2.1 = v
  | [], i, j, v, h => by cases h
  | e :: l, i, j, v, h => by
    unfold mfind at h
    split at h
    · rename_i hk
      injection h with h
      injection h with h1 h2
      subst h1 h2
      exact ⟨Nat.le_refl _, e, by simp, hk.symm, rfl⟩
    · obtain ⟨h1, e', h2, h3⟩ := mfind_spec h
      refine ⟨by omega, e', ?_, h3⟩
      have : j - i = (j - (i + 1)) + 1 := by omega
      rw [this]
      exact h2

theorem HOp.mapUpdate {t : TypeId} {x i y : Operand} {k : κ} {v : ν} {r : Nat} {L : ML κ ν} {c : Nat} (ht : Ru P (underlying t) (.map kt et)) (K : KeyOk P kt f C) (hx : ρ.ev x = .map (some r)) (hi : ρ.ev i = f k) (hy : ρ.ev y = g v)
    (hL : mapAt f g H (some r) L c ∧ (∀ e ∈ L, C H e.1) ∧ C H k) : HOp P w0 n ⟨d, .mapUpdate t x i y, ty, pos, af, gd⟩ ρ H fun _ H' => H' = seto H r (mapo f g (mput L c k v).1 (mput L c k v).2) := by
  intro ac w hs ho hh K' Q' hk
  subst hh
  obtain ⟨hL, hC, hkC⟩ := hL
  have hb : w.heap[r]? = some (.map (L.map (ent f g)).toArray c) := hL
  have hf := K.findKey (g := g) w k hkC L hC
  unfold Oper.wp
  rw [hs.eval]
  have hrun : (execOp ρ.ev ⟨d, .mapUpdate t x i y, ty, pos, af, gd⟩).run P w = .ok .skip { w with heap := seto w.heap r (mapo f g (mput L c k v).1 (mput L c k v).2) } := by
    unfold mput mapo seto
    cases hm : mfind k L 0 with
    | none =>
      simp [execOp, Instr.mapUpdate, ht w, hx, hi, hy, Go.MapKept.run_getObj_map hb, K.check _ k w, hf, hm, Go.MapKept.run_setObj_map _ hb]
      rfl
    | some p =>
      obtain ⟨j, v'⟩ := p
      obtain ⟨_, e, he, hek, _⟩ := mfind_spec hm
      rw [Nat.sub_zero] at he
      have hkey : (((L.map (ent f g)).toArray[j]?).map (·.key)).getD (f k) = f k := by
        simp [he, ent, hek]
      simp [execOp, Instr.mapUpdate, ht w, hx, hi, hy, Go.MapKept.run_getObj_map hb, K.check _ k w, hf, hm, Instr.keyThatStays]
      simp at hkey
      rw [hkey, K.same k]
      simp [Go.MapKept.run_setObj_map _ hb]
      rw [map_modify]
  rw [hrun]
  rw [Oper.upon_skip]
  exact hk undef _ (ho.of_eq rfl rfl rfl (keepsF_seto _ _ _)) rfl

theorem map_erase {α β : Type} (f : α → β) : ∀ (l : List α) (i : Nat), (l.map f).eraseIdx i = (l.eraseIdx i).map f
  | [], _ => rfl
  | _ :: _, 0 => rfl
  | x :: l, i + 1 => by simp [map_erase f l i]
theorem HOp.deleteM {t u : TypeId} {x i : Operand} {k : κ} {r : Nat} {L : ML κ ν} {c : Nat} (ht : Ru P (underlying t) (.map kt et)) (K : KeyOk P kt f C) (hx : ρ.ev x = .map (some r)) (hi : ρ.ev i = f k)
    (hL : mapAt f g H (some r) L c ∧ (∀ e ∈ L, C H e.1) ∧ C H k) : HOp P w0 n ⟨d, .call ⟨.builtin .delete, #[x, i], #[t, u]⟩, ty, pos, af, gd⟩ ρ H fun v H' => v = .tuple #[] ∧ H' = seto H r (mapo f g (mdel L k) c) := by
  intro ac w hs ho hh K' Q' hk
  subst hh
  obtain ⟨hL, hC, hkC⟩ := hL
  have hb : w.heap[r]? = some (.map (L.map (ent f g)).toArray c) := hL
  have hf := K.findKey (g := g) w k hkC L hC
  unfold Oper.wp
  rw [hs.eval]
  have hrun : (execOp ρ.ev ⟨d, .call ⟨.builtin .delete, #[x, i], #[t, u]⟩, ty, pos, af, gd⟩).run P w = .ok (.value (.tuple #[])) { w with heap := seto w.heap r (mapo f g (mdel L k) c) } := by
    unfold mdel mapo seto
    cases hm : mfind k L 0 with
    | none => simp [execOp, resolve, invoke, builtin, Builtin.delete_, ht w, hx, hi, Go.MapKept.run_getObj_map hb, K.check _ k w, hf, hm, Go.MapKept.run_setObj_map _ hb]
    | some p =>
      obtain ⟨j, v'⟩ := p
      simp [execOp, resolve, invoke, builtin, Builtin.delete_, ht w, hx, hi, Go.MapKept.run_getObj_map hb, K.check _ k w, hf, hm, Go.MapKept.run_setObj_map _ hb]
      congr 2
      rw [map_erase]
  rw [hrun]
  rw [Oper.upon_value]
  exact hk _ _ (ho.of_eq rfl rfl rfl (keepsF_seto _ _ _)) ⟨rfl, rfl⟩
end

/-! ## keys -/
section
variable {P : Program} {t : TypeId}

theorem check_plain {dd : TypeDesc} (h : P.underlying t = some dd) (hd : (∃ k, dd = .int k) ∨ dd = .string ∨ (∃ e, dd = .pointer e) ∨ dd = .bool) {em : Bool} {v : Value} (m : Nat) : Ru P (Instr.checkKey em (m + 1) t v) () := fun w => by
  rcases hd with ⟨k, rfl⟩ | rfl | ⟨e, rfl⟩ | rfl <;> simp [Instr.checkKey, run_underlying h]
theorem keyI {k : IntKind} (h : P.underlying t = some (.int k)) : KeyOk P t (fun x : Int => .int k x) Always where
  eq w x y _ _ := by
    unfold Op.equal Op.maxDepth
    exact run_equalIn_int w 9999 t k k x y h
  now := ⟨_, h, fun x y => .inr (by
    show (if k = k then some (x == y) else none) = _
    rw [if_pos rfl]
    rfl)⟩
  check em x w := check_plain h (.inl ⟨_, rfl⟩) 9999 w
  same x := by
    show Instr.sameBits (9999 + 1) _ _ = true
    unfold Instr.sameBits
    simp

theorem seq_dec (x y : ByteArray) : (x.toList == y.toList) = decide (x = y) := by
  by_cases e : x = y
  · subst e; simp
  · rw [decide_eq_false e]
    rw [Bool.eq_false_iff]
    intro hh
    apply e
    have := eq_of_beq hh
    rw [ByteArray.toList_eq, ByteArray.toList_eq] at this
    obtain ⟨⟨x⟩⟩ := x
    obtain ⟨⟨y⟩⟩ := y
    simp at this
    rw [this]
theorem beq_dec (x y : ByteArray) : (x == y) = decide (x = y) := by
  by_cases e : x = y
  · rw [decide_eq_true e, (Go.MapKept.bytes_beq x y).2 e]
  · rw [decide_eq_false e, Bool.eq_false_iff.2 fun hh => e ((Go.MapKept.bytes_beq x y).1 hh)]
theorem keyS (h : P.underlying t = some .string) : KeyOk P t (fun x : ByteArray => .string x) Always where
  eq w x y _ _ := by
    unfold Op.equal Op.maxDepth
    rw [run_equalIn_string w 9999 t x y h, seq_dec]
  now := ⟨_, h, fun x y => .inr (by
    show some (x == y) = _
    rw [beq_dec])⟩
  check em x w := check_plain h (.inr (.inl rfl)) 9999 w
  same x := by
    show Instr.sameBits (9999 + 1) _ _ = true
    unfold Instr.sameBits
    exact (Go.MapKept.bytes_beq x x).2 rfl

theorem check_struct {fs : Array Field} {cs : Array Value} (h : P.underlying t = some (.struct fs)) (m : Nat) (hp : ∀ f ∈ fs.toList, ∃ v, Ru P (part f.type cs f.offset) v ∧ ∀ em, Ru P (Instr.checkKey em m f.type v) ()) (em : Bool) : Ru P (Instr.checkKey em (m + 1) t (.agg cs)) () := fun w => by
  unfold Instr.checkKey
  simp only [Sem.run_bind, run_underlying h, Result.andThen_ok]
  rw [← Array.forIn_toList]
  generalize fs.toList = l at hp
  suffices G : ∀ l : List Field, (∀ f ∈ l, ∃ v, Ru P (part f.type cs f.offset) v ∧ ∀ em, Ru P (Instr.checkKey em m f.type v) ()) → (forIn l PUnit.unit fun f (_ : PUnit) => (if f.name ≠ "_" then do Instr.checkKey em m f.type (← part f.type cs f.offset); pure (ForInStep.yield PUnit.unit) else do pure PUnit.unit; pure (ForInStep.yield PUnit.unit) : Sem (ForInStep PUnit))).run P w = .ok PUnit.unit w by
    have := G l hp
    simp at this ⊢
    rw [this]
    rfl
  intro l
  induction l with
  | nil => intro _; simp
  | cons f l ih =>
    intro hp
    obtain ⟨v, h1, h2⟩ := hp f List.mem_cons_self
    have := ih fun f hf => hp f (List.mem_cons_of_mem _ hf)
    by_cases hn : f.name = "_"
    · simp [hn] at this ⊢
      exact this
    · simp [hn, h1 w, h2 em w] at this ⊢
      exact this
theorem sameI {k : IntKind} {x : Int} (n : Nat) : Instr.sameBits n (.int k x) (.int k x) = true := by cases n <;> simp [Instr.sameBits]
theorem sameB {x : Bool} (n : Nat) : Instr.sameBits n (.bool x) (.bool x) = true := by cases n <;> simp [Instr.sameBits]
theorem sameS {x : ByteArray} (n : Nat) : Instr.sameBits n (.string x) (.string x) = true := by
  cases n <;> (unfold Instr.sameBits; exact (Go.MapKept.bytes_beq x x).2 rfl)
theorem sameP {x : Option Addr} (n : Nat) : Instr.sameBits n (.pointer x) (.pointer x) = true := by cases n <;> simp [Instr.sameBits]
theorem same_agg {l : List Value} (h : ∀ v ∈ l, ∀ n, Instr.sameBits n v v = true) : Instr.sameBits 10000 (.agg l.toArray) (.agg l.toArray) = true := by
  show Instr.sameBits (9999 + 1) _ _ = true
  unfold Instr.sameBits
  simp only [Array.size, BEq.rfl, Bool.true_and]
  generalize 9999 = m
  induction l with
  | nil => rfl
  | cons v l ih =>
    rw [List.zip_cons_cons, List.all_cons, ih fun x hx => h x (List.mem_cons_of_mem _ hx), h v List.mem_cons_self]
    rfl

theorem run_eqP {w : World} {e : TypeId} {k dd : Nat} (h : P.underlying t = some (.pointer e)) (hz : Ru P (sizeOf e) (k + 1)) {x y : Option Addr} (hx : Plain w.heap x) (hy : Plain w.heap y) : (Op.equalIn (dd + 1) t (.pointer x) (.pointer y)).run P w = .ok (decide (x = y)) w := by
  cases x with
  | none => cases y <;> simp [Op.equalIn, run_underlying h]
  | some a =>
    cases y with
    | none => simp [Op.equalIn, run_underlying h]
    | some b =>
      by_cases hab : a = b
      · subst hab
        simp [Op.equalIn, run_underlying h, hz w, run_sameAddr_same]
      · obtain ⟨ca, ta, ha⟩ := hx a rfl
        obtain ⟨cb, tb, hb⟩ := hy b rfl
        simp [Op.equalIn, run_underlying h, hz w, run_sameAddr_other w hab ha hb, hab]

theorem keyP {e : TypeId} {k : Nat} (h : P.underlying t = some (.pointer e)) (hz : Ru P (sizeOf e) (k + 1)) : KeyOk P t (fun x : Option Addr => .pointer x) Plain where
  eq w x y hx hy := run_eqP (dd := 9999) h hz hx hy
  now := ⟨_, h, fun x y => .inl rfl⟩
  check em x w := check_plain h (.inr (.inr (.inl ⟨_, rfl⟩))) 9999 w
  same x := by
    show Instr.sameBits (9999 + 1) _ _ = true
    unfold Instr.sameBits
    simp

end

theorem run_eqMN {P : Program} {w : World} {t kt et : TypeId} {m : Option Nat} (ht : P.underlying t = some (.map kt et)) (n : Nat) : (Op.equalIn (n + 1) t (.map m) (.map none)).run P w = .ok m.isNone w := by
  cases m <;> simp [Op.equalIn, run_underlying ht]
section
variable {P : Program} {w0 : World} {n : Nat} {ρ : Env} {H : Hp} {d : Option Nat} {ty : TypeId} {pos : String} {af : Array Edge} {gd : Option (Nat × Bool)}
theorem HVal.eqlPP {t u : TypeId} {x y : Operand} {a b : Option Addr} {e : TypeId} {k : Nat} (ht : P.underlying t = some (.pointer e)) (hz : Ru P (sizeOf e) (k + 1)) (hx : ρ.ev x = .pointer a) (hy : ρ.ev y = .pointer b) (hp : Plain H a ∧ Plain H b) : HVal P ⟨d, .binOp .eql t x y u, ty, pos, af, gd⟩ ρ H (.bool (decide (a = b))) := fun w hw => by
  subst hw
  simp only [execOp, hx, hy, eqGuard]
  simp [binOp, Op.equal, Op.maxDepth, run_eqP (dd := 9999) ht hz hp.1 hp.2]
theorem HVal.neqPP {t u : TypeId} {x y : Operand} {a b : Option Addr} {e : TypeId} {k : Nat} (ht : P.underlying t = some (.pointer e)) (hz : Ru P (sizeOf e) (k + 1)) (hx : ρ.ev x = .pointer a) (hy : ρ.ev y = .pointer b) (hp : Plain H a ∧ Plain H b) : HVal P ⟨d, .binOp .neq t x y u, ty, pos, af, gd⟩ ρ H (.bool (!decide (a = b))) := fun w hw => by
  subst hw
  simp only [execOp, hx, hy, eqGuard]
  simp [binOp, Op.equal, Op.maxDepth, run_eqP (dd := 9999) ht hz hp.1 hp.2]
theorem HVal.eqlMN {t u : TypeId} {x y : Operand} {m : Option Nat} {kt et : TypeId} (ht : P.underlying t = some (.map kt et)) (hx : ρ.ev x = .map m) (hy : ρ.ev y = .map none) : HVal P ⟨d, .binOp .eql t x y u, ty, pos, af, gd⟩ ρ H (.bool m.isNone) := fun w hw => by
  have h : (Op.equalIn (9999 + 1) t (.map m) (.map none)).run P w = .ok m.isNone w := run_eqMN ht 9999
  simp only [execOp, hx, hy, eqGuard]
  simp [binOp, Op.equal, Op.maxDepth, h]
theorem HVal.neqMN {t u : TypeId} {x y : Operand} {m : Option Nat} {kt et : TypeId} (ht : P.underlying t = some (.map kt et)) (hx : ρ.ev x = .map m) (hy : ρ.ev y = .map none) : HVal P ⟨d, .binOp .neq t x y u, ty, pos, af, gd⟩ ρ H (.bool (!m.isNone)) := fun w hw => by
  have h : (Op.equalIn (9999 + 1) t (.map m) (.map none)).run P w = .ok m.isNone w := run_eqMN ht 9999
  simp only [execOp, hx, hy, eqGuard]
  simp [binOp, Op.equal, Op.maxDepth, h]
end

end Go.Hw
