/- Regions in the order of the text, calls, a function's frame: rules for 'HW'. Own work of this session. -/
import Derived.Test.YtbhfkpdalilhcaaDoorHwA
namespace Go.Hw
open Go

/-- A list of operations, in this order. -/
def HList (P : Program) (w0 : World) (n : Nat) (ops : Array Oper) (Q : Post) (l : List Oper) (ρ : Env) (H : Hp) : Prop :=
  ∀ a w, Sim n a ρ → Ok w0 w → w.heap = H → wpList P ops (lift w0 n Q) l a w

/-- What one operation does: its value and the heap behind it. -/
def HOp (P : Program) (w0 : World) (n : Nat) (o : Oper) (ρ : Env) (H : Hp) (K : Value → Hp → Prop) : Prop :=
  ∀ a w, Sim n a ρ → Ok w0 w → w.heap = H → ∀ (K' : Act → World → Prop) (Q' : Exit → Act → World → Prop),
    (∀ v w', Ok w0 w' → K v w'.heap → K' (a.put o.dst v) w') → o.wp P a w K' Q'

/-- An operation that yields a value and leaves all as it is. -/
def HVal (P : Program) (o : Oper) (ρ : Env) (H : Hp) (v : Value) : Prop :=
  ∀ w, w.heap = H → (execOp ρ.ev o).run P w = .ok (.value v) w

section
variable {P : Program} {w0 : World} {n : Nat} {ops : Array Oper} {Q : Post} {o : Oper} {rest : List Oper} {ρ : Env} {H : Hp}

theorem HW.region {id : Nat} (h : HList P w0 n ops Q ops.toList ρ H) : HW P w0 n (.region id ops false) Q ρ H :=
  fun a w hs ho hh => wp_region_list (h a w hs ho hh)

theorem HList.nil (h : Q .normal ρ H) : HList P w0 n ops Q [] ρ H :=
  fun _ _ hs ho hh => wpList_nil ⟨ho, ρ, hs, by rw [hh]; exact h⟩

theorem HVal.op {v : Value} (h : HVal P o ρ H v) : HOp P w0 n o ρ H fun v' H' => v' = v ∧ H' = H := by
  intro a w hs ho hh K' Q' hk
  unfold Oper.wp
  rw [hs.eval, h w hh]
  exact hk v w ho ⟨rfl, hh⟩

theorem HList.op {K : Value → Hp → Prop} (hd : dstOk n o.dst = true) (hg : o.guard = none) (h : HOp P w0 n o ρ H K)
    (k : ∀ v H', K v H' → HList P w0 n ops Q rest (ρ.put o.dst v) H') : HList P w0 n ops Q (o :: rest) ρ H := by
  intro a w hs ho hh
  refine wpList_plain hg fun K' hK => ?_
  exact h a w hs ho hh K' _ fun v w' ho' hv => hK _ _ (k v w'.heap hv _ _ (hs.put hd v) ho' rfl)

theorem HList.val {v : Value} (hd : dstOk n o.dst = true) (hg : o.guard = none) (h : HVal P o ρ H v)
    (k : HList P w0 n ops Q rest (ρ.put o.dst v) H) : HList P w0 n ops Q (o :: rest) ρ H :=
  HList.op hd hg h.op (by rintro v H' ⟨rfl, rfl⟩; exact k)

/-- The guard of an operation: looked up, decided. -/
theorem wanted_of {a : Act} {j d : Nat} {want b : Bool} (hs : Sim n a ρ) (hg : o.guard = some (j, want)) (hj : (ops[j]?).bind (·.dst) = some d) (hd : Nat.blt d n = true) (hb : ρ d = .bool b) :
    Region.wanted o (yielded ops a.tmps) = (b == want) := by
  unfold Region.wanted
  rw [hg]
  simp only [yielded, hj, Option.bind_some, hs.get hd, hb]
  cases b <;> cases want <;> rfl

theorem HList.gop {K : Value → Hp → Prop} {j d : Nat} {want : Bool} (hd : dstOk n o.dst = true) (hg : o.guard = some (j, want)) (hj : (ops[j]?).bind (·.dst) = some d) (hdn : Nat.blt d n = true) (hb : ρ d = .bool want)
    (h : HOp P w0 n o ρ H K) (k : ∀ v H', K v H' → HList P w0 n ops Q rest (ρ.put o.dst v) H') : HList P w0 n ops Q (o :: rest) ρ H := by
  intro a w hs ho hh
  refine wpList_step fun K' hK => ?_
  rw [if_pos (by rw [wanted_of hs hg hj hdn hb]; simp)]
  exact h a w hs ho hh K' _ fun v w' ho' hv => hK _ _ (k v w'.heap hv _ _ (hs.put hd v) ho' rfl)

theorem HList.gval {v : Value} {j d : Nat} {want : Bool} (hd : dstOk n o.dst = true) (hg : o.guard = some (j, want)) (hj : (ops[j]?).bind (·.dst) = some d) (hdn : Nat.blt d n = true) (hb : ρ d = .bool want)
    (h : HVal P o ρ H v) (k : HList P w0 n ops Q rest (ρ.put o.dst v) H) : HList P w0 n ops Q (o :: rest) ρ H :=
  HList.gop hd hg hj hdn hb h.op (by rintro v H' ⟨rfl, rfl⟩; exact k)

theorem HList.gskip {j d : Nat} {want : Bool} (hd : dstOk n o.dst = true) (hg : o.guard = some (j, want)) (hj : (ops[j]?).bind (·.dst) = some d) (hdn : Nat.blt d n = true) (hb : ρ d = .bool (!want))
    (k : HList P w0 n ops Q rest (ρ.put o.dst undef) H) : HList P w0 n ops Q (o :: rest) ρ H := by
  intro a w hs ho hh
  refine wpList_step fun K' hK => ?_
  rw [if_neg (by rw [wanted_of hs hg hj hdn hb]; cases want <;> simp)]
  exact hK _ _ (k _ _ (hs.put hd undef) ho hh)

/-- A guard whose own operation was passed over: it reads 'undef': passed over, too. -/
theorem wanted_undef {a : Act} {j d : Nat} {want : Bool} (hs : Sim n a ρ) (hg : o.guard = some (j, want)) (hj : (ops[j]?).bind (·.dst) = some d) (hd : Nat.blt d n = true) (hb : ρ d = undef) :
    Region.wanted o (yielded ops a.tmps) = false := by
  unfold Region.wanted
  rw [hg]
  simp only [yielded, hj, Option.bind_some, hs.get hd, hb]
  cases want <;> rfl

theorem HList.uskip {j d : Nat} {want : Bool} (hd : dstOk n o.dst = true) (hg : o.guard = some (j, want)) (hj : (ops[j]?).bind (·.dst) = some d) (hdn : Nat.blt d n = true) (hb : ρ d = undef)
    (k : HList P w0 n ops Q rest (ρ.put o.dst undef) H) : HList P w0 n ops Q (o :: rest) ρ H := by
  intro a w hs ho hh
  refine wpList_step fun K' hK => ?_
  rw [if_neg (by rw [wanted_undef hs hg hj hdn hb]; simp)]
  exact hK _ _ (k _ _ (hs.put hd undef) ho hh)

end

/-! ## calls -/
/-- A call that comes back: with what value, over what heap. -/
def Good (P : Program) (w0 : World) (f : FuncId) (args : Array Value) (H : Hp) (R : Value → Hp → Prop) : Prop :=
  ∀ w, Ok w0 w → w.heap = H → Calls P f args w fun e w' => ∃ v, e = .returned v ∧ Ok w0 w' ∧ R v w'.heap

theorem Good.mono {P : Program} {w0 : World} {f : FuncId} {args : Array Value} {H : Hp} {R R' : Value → Hp → Prop} (h : Good P w0 f args H R) (hr : ∀ v H, R v H → R' v H) : Good P w0 f args H R' :=
  fun w ho hh => (h w ho hh).mono fun _ _ ⟨v, h1, h2, h3⟩ => ⟨v, h1, h2, hr _ _ h3⟩

/-- The frame as a call begins. -/
def Env.start (args : List Value) : Env := fun t => args.getD t undef

theorem Sim.start (args : Array Value) (n : Nat) (h : args.size ≤ n) : Sim n { tmps := args ++ Array.replicate (n - args.size) undef, defers := [] } (Env.start args.toList) := by
  refine ⟨rfl, by simp; omega, fun t => ?_⟩
  simp only [Env.start, Array.getD_eq_getD_getElem?, List.getD_eq_getElem?_getD, Array.getElem?_toList]
  by_cases ht : t < args.size
  · rw [Array.getElem?_append_left ht]
  · rw [Array.getElem?_append_right (by omega), Array.getElem?_eq_none (xs := args) (by omega)]
    by_cases h2 : t - args.size < n - args.size
    · rw [Array.getElem?_eq_getElem (by simpa using h2)]; simp
    · rw [Array.getElem?_eq_none (by simpa using h2)]

/-- The end of a function whose results lie in slots. -/
def RetPost (R : Env → Hp → Prop) : Post
  | .normal, ρ, H => R ρ H
  | .ret, ρ, H => R ρ H
  | _, _, _ => False

theorem Good.enter {P : Program} {w0 : World} {f : FuncId} {fn : Func} {c : Code} {args : Array Value} {H : Hp} {R : Value → Hp → Prop} {n : Nat} (res : Env → Value)
    (hf : P.funcs[f]? = some fn) (hb : fn.body = some c) (hn : fn.ntmps = n) (hs : args.size ≤ n)
    (hr : ∀ a w ρ, Sim n a ρ → (results fn a.tmps).run P w = .ok (res ρ) w)
    (h : HW P w0 n c (RetPost fun ρ H => R (res ρ) H) (Env.start args.toList) H) : Good P w0 f args H R := by
  intro w ho hh
  refine calls_of_wp hf hb ?_
  rw [hn]
  refine wp_mono (h _ w (Sim.start args n hs) ho hh) ?_
  rintro e a' w' ⟨h1, ρ', h2, h3⟩
  cases e <;> simp only [RetPost] at h3 <;> first | exact ⟨h2.defers, _, hr _ _ _ h2, _, rfl, h1, h3⟩ | exact h3.elim

theorem res1 {P : Program} {fn : Func} {t n : Nat} (h : fn.results = #[.tmp t]) : ∀ a w ρ, Sim n a ρ → (results fn a.tmps).run P w = .ok (ρ t) w := by
  intro a w ρ hs
  rw [results_tmp h, hs.val]
theorem res0 {P : Program} {fn : Func} {n : Nat} (h : fn.results = #[]) : ∀ a w ρ, Sim n a ρ → (results fn a.tmps).run P w = .ok ((fun _ => .tuple #[]) ρ) w := by
  intro a w ρ _
  rw [results_none h]
theorem res2 {P : Program} {fn : Func} {t u n : Nat} (h : fn.results = #[.tmp t, .tmp u]) : ∀ a w ρ, Sim n a ρ → (results fn a.tmps).run P w = .ok ((fun ρ => .tuple #[ρ t, ρ u]) ρ) w := by
  intro a w ρ hs
  rw [results_tmp2 h, hs.val, hs.val]
theorem res3 {P : Program} {fn : Func} {t u v n : Nat} (h : fn.results = #[.tmp t, .tmp u, .tmp v]) : ∀ a w ρ, Sim n a ρ → (results fn a.tmps).run P w = .ok ((fun ρ => .tuple #[ρ t, ρ u, ρ v]) ρ) w := by
  intro a w ρ hs
  have h1 := hs.val t
  have h2 := hs.val u
  have h3 := hs.val v
  simp only [Array.getD_eq_getD_getElem?] at h1 h2 h3
  simp only [results, h]
  simp [h1, h2, h3]

theorem HOp.call {P : Program} {w0 : World} {n : Nat} {ρ : Env} {H : Hp} {d : Option Nat} {f : Operand} {args : Array Operand} {at_ : Array TypeId} {ty : TypeId} {pos : String} {af : Array Edge} {g : Option (Nat × Bool)} {R : Value → Hp → Prop}
    (m : FuncId) (vs : Array Value) (hf : ρ.ev f = .func (.func m) #[] #[]) (hv : args.map ρ.ev = vs)
    (hc : ∀ args w, (callFunc m args).run P w = .ok (.enter m args) w)
    (h : Good P w0 m vs H R) : HOp P w0 n ⟨d, .call ⟨.value f, args, at_⟩, ty, pos, af, g⟩ ρ H R := by
  intro a w hs ho hh K' Q' hk
  unfold Oper.wp execOp
  simp only [resolve, hs.eval, hf, hv, Deferred.ofValue, Sem.run_bind, Sem.run_pure, Result.andThen_ok, invoke, Array.append_empty, Array.empty_append, hc, Oper.upon_enter]
  refine (h w ho hh).mono ?_
  rintro e w' ⟨v, rfl, ho', hr⟩
  exact hk v w' ho' hr

end Go.Hw
