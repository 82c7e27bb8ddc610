/- The law's own expressions: references, constants, relations of both. begun. Own work of this session. -/
import Derived.Test.YtkdjcmfmflljlaaDoorB21
import Derived.KernelRfl
set_option linter.unusedVariables false
namespace Go.Hw
open Go

section
variable {H H0 : Hp}
theorem ret10 {b : Nat} {l : List Value} {K : Int → Int → Int → Int → ByteArray → Bool → ByteArray → Int → ByteArray → Sl → Hp → Prop} (rr : Row H b 41 l) (hl : l.length = 10) (r : ER) (q : Sl)
    (hK : ∀ H', Row H' b 41 (r.row q) → Kp (fun x => x = b) H H' → K r.k r.o r.vk r.vi r.vs r.vb r.v r.p r.a q H') :
    mayw H ⟨b, 0, none⟩ 10 0 ∧ ∀ H' : Hp, H' = sets H ⟨b, 0, none⟩ [(.int .i64 r.k), (.int .i64 r.o), (.int .i64 r.vk), (.int .i64 r.vi), (.string r.vs), (.bool r.vb), (.string r.v), (.int .i64 r.p), (.string r.a), (Sl.v q)] 0 →
      (∃ (x6 : Int) (x7 : Int) (x8 : Int) (x9 : Int) (x10 : ByteArray) (x11 : Bool) (x12 : ByteArray) (x13 : Int) (x14 : ByteArray) (x15 : Sl), cells H' ⟨b, 0, none⟩ [(.int .i64 x6), (.int .i64 x7), (.int .i64 x8), (.int .i64 x9), (.string x10), (.bool x11), (.string x12), (.int .i64 x13), (.string x14), (Sl.v x15)] 0 ∧ (K x6 x7 x8 x9 x10 x11 x12 x13 x14 x15 H')) := by
  refine ⟨rr.mayw (by omega), fun H' e => ?_⟩
  have r' : Row H' b 41 (r.row q) := rr.fill' e (by simp [hl])
  exact ⟨_, _, _, _, _, _, _, _, _, _, r'.all, hK H' r' ((Kp.refl _ _).sets' e (.inl rfl))⟩
abbrev QE := Int → Int → Int → Int → ByteArray → Bool → ByteArray → Int → ByteArray → Sl → Hp → Prop
theorem c18 {v a : ByteArray} {Q : QE} (hQ : ∀ H', Kp No H H' → Q 2 0 0 0 E false v 1 a Sl.nil H') : F18 v a H Q := by
  intro H1 e1
  exact ret10 (Row.new' e1) rfl (refE v 1 a) Sl.nil fun H' _ k => hQ H' (((Kp.refl No H).push' e1).box k (Nat.le_refl _))
theorem c19 {n : Int} {Q : QE} (hQ : ∀ H', Kp No H H' → Q 1 0 1 n E false E 0 E Sl.nil H') : F19 n H Q := by
  intro H1 e1
  exact ret10 (Row.new' e1) rfl (valE (numV n)) Sl.nil fun H' _ k => hQ H' (((Kp.refl No H).push' e1).box k (Nat.le_refl _))
/-- Two expressions beside one another, in a row of their own. -/
theorem two_kids {b : Nat} {r1 r2 : ER} {q1 q2 : Sl} {k1 k2 : Fo} (x : Row H b 41 (r1.row q1 ++ r2.row q2)) (h1 : Xk H q1 k1) (h2 : Xk H q2 k2) : Xk H (Sl.mk (some ⟨b, 0, none⟩) 2 2) (.cons r1 k1 (.cons r2 k2 .nil)) :=
  ⟨rfl, ⟨b, 0, none⟩, q1, rfl, by rw [add_mk]; exact x.cells rfl, h1.n, h1.f, ⟨b, 0, none⟩, q2, rfl, by rw [add_mk]; exact x.cells rfl, h2.n, h2.f, trivial⟩
theorem two_list {b : Nat} {r1 r2 : ER} {q1 q2 : Sl} {k1 k2 : Fo} (x : Row H b 41 (r1.row q1 ++ r2.row q2)) (h1 : Xk H q1 k1) (h2 : Xk H q2 k2) : CsH H (Sl.mk (some ⟨b, 0, none⟩) 2 2) [((r1, q1), (r1, k1)), ((r2, q2), (r2, k2))] := by
  refine ⟨Row.rdl (L := [(r1, q1), (r2, q2)]) (by simpa [eF] using x) rfl _, fun w hw => ?_⟩
  rcases List.mem_cons.1 hw with rfl | hw
  · exact ⟨rfl, h1⟩
  · rw [List.mem_singleton] at hw; subst hw; exact ⟨rfl, h2⟩

/-! ## what begun asks -/
def Rel3 (n op : Int) (y18 : Addr) (Kf : Addr → Hp → Prop) (H_1 : Hp) : Prop :=
∃ (x83 : Int) (x84 : Int) (x85 : Int) (x86 : Int) (x87 : ByteArray) (x88 : Bool) (x89 : ByteArray) (x90 : Int) (x91 : ByteArray) (x92 : Sl), cells H_1 y18 [(iv x83), (iv x84), (iv x85), (iv x86), (sv x87), (bv x88), (sv x89), (iv x90), (sv x91), (Sl.v x92)] 0 ∧ (
 (F19 n H_1 (fun (r95 : Int) (r96 : Int) (r97 : Int) (r98 : Int) (r99 : ByteArray) (r100 : Bool) (r101 : ByteArray) (r102 : Int) (r103 : ByteArray) (r104 : Sl) (H93 : Hp) => 
 cells H93 y18 [(iv x83), (iv x84), (iv x85), (iv x86), (sv x87), (bv x88), (sv x89), (iv x90), (sv x91), (Sl.v x92)] 0 ∧ (
 (∀ H106 : Hp, H106 = Array.push H93 (.cells #[(iv x83), (iv x84), (iv x85), (iv x86), (sv x87), (bv x88), (sv x89), (iv x90), (sv x91), (Sl.v x92), (iv r95), (iv r96), (iv r97), (iv r98), (sv r99), (bv r100), (sv r101), (iv r102), (sv r103), (Sl.v r104)] 41) → (
 ∀ H108 : Hp, H108 = Array.push H106 (.cells #[(iv 0), (iv 0), (iv 0), (iv 0), (sv (ByteArray.mk #[])), (bv false), (sv (ByteArray.mk #[])), (iv 0), (sv (ByteArray.mk #[])), (Sl.v Sl.nil)] 41) → (
 mayw H108 ⟨H106.size, 0, none⟩ 10 0 ∧ ∀ H110 : Hp, H110 = sets H108 ⟨H106.size, 0, none⟩ [(iv 5), (iv op), (iv 0), (iv 0), (sv (ByteArray.mk #[])), (bv false), (sv (ByteArray.mk #[])), (iv 0), (sv (ByteArray.mk #[])), (Sl.v (Sl.mk (some ⟨H93.size, 0, none⟩) 2 2))] 0 → (
 Kf ⟨H106.size, 0, none⟩ H110)))) ∧
 (∀ H114 : Hp, H114 = Array.push H93 (.cells #[(iv 0), (iv 0), (iv 0), (iv 0), (sv (ByteArray.mk #[])), (bv false), (sv (ByteArray.mk #[])), (iv 0), (sv (ByteArray.mk #[])), (Sl.v Sl.nil)] 41) → (
 cells H114 y18 [(iv x83), (iv x84), (iv x85), (iv x86), (sv x87), (bv x88), (sv x89), (iv x90), (sv x91), (Sl.v x92)] 0 ∧ (
 ∀ H117 : Hp, H117 = Array.push H114 (.cells #[(iv x83), (iv x84), (iv x85), (iv x86), (sv x87), (bv x88), (sv x89), (iv x90), (sv x91), (Sl.v x92), (iv r95), (iv r96), (iv r97), (iv r98), (sv r99), (bv r100), (sv r101), (iv r102), (sv r103), (Sl.v r104)] 41) → (
 mayw H117 ⟨H93.size, 0, none⟩ 10 0 ∧ ∀ H119 : Hp, H119 = sets H117 ⟨H93.size, 0, none⟩ [(iv 5), (iv op), (iv 0), (iv 0), (sv (ByteArray.mk #[])), (bv false), (sv (ByteArray.mk #[])), (iv 0), (sv (ByteArray.mk #[])), (Sl.v (Sl.mk (some ⟨H114.size, 0, none⟩) 2 2))] 0 → (
 Kf ⟨H93.size, 0, none⟩ H119)))))))) ∧
 (∀ H122 : Hp, H122 = Array.push H_1 (.cells #[(iv 0), (iv 0), (iv 0), (iv 0), (sv (ByteArray.mk #[])), (bv false), (sv (ByteArray.mk #[])), (iv 0), (sv (ByteArray.mk #[])), (Sl.v Sl.nil)] 41) → (
 cells H122 y18 [(iv x83), (iv x84), (iv x85), (iv x86), (sv x87), (bv x88), (sv x89), (iv x90), (sv x91), (Sl.v x92)] 0 ∧ (
 F19 n H122 (fun (r127 : Int) (r128 : Int) (r129 : Int) (r130 : Int) (r131 : ByteArray) (r132 : Bool) (r133 : ByteArray) (r134 : Int) (r135 : ByteArray) (r136 : Sl) (H125 : Hp) => 
 cells H125 y18 [(iv x83), (iv x84), (iv x85), (iv x86), (sv x87), (bv x88), (sv x89), (iv x90), (sv x91), (Sl.v x92)] 0 ∧ (
 ∀ H138 : Hp, H138 = Array.push H125 (.cells #[(iv x83), (iv x84), (iv x85), (iv x86), (sv x87), (bv x88), (sv x89), (iv x90), (sv x91), (Sl.v x92), (iv r127), (iv r128), (iv r129), (iv r130), (sv r131), (bv r132), (sv r133), (iv r134), (sv r135), (Sl.v r136)] 41) → (
 mayw H138 ⟨H_1.size, 0, none⟩ 10 0 ∧ ∀ H140 : Hp, H140 = sets H138 ⟨H_1.size, 0, none⟩ [(iv 5), (iv op), (iv 0), (iv 0), (sv (ByteArray.mk #[])), (bv false), (sv (ByteArray.mk #[])), (iv 0), (sv (ByteArray.mk #[])), (Sl.v (Sl.mk (some ⟨H125.size, 0, none⟩) 2 2))] 0 → (
 Kf ⟨H_1.size, 0, none⟩ H140))))))))

abbrev axE : ER := refE S_a 1 S_x
abbrev relK (n : Int) : Fo := .cons axE .nil (.cons (valE (numV n)) .nil .nil)
theorem rel3 {b : Nat} {n op : Int} {Kf : Addr → Hp → Prop} (x : Row H b 41 (axE.row Sl.nil)) (hK : ∀ c q H', Row H' c 41 ((opE 5 op).row q) → Xk H' q (relK n) → Kp No H H' → Kf ⟨c, 0, none⟩ H') : Rel3 n op ⟨b, 0, none⟩ Kf H := by
  have fin : ∀ (c d : Nat) (l : List Value) (H' : Hp), Kp No H H' → Row H' c 41 l → l.length = 10 → c ≠ d → H.size ≤ c → Row H' d 41 (axE.row Sl.nil ++ (valE (numV n)).row Sl.nil) → mayw H' ⟨c, 0, none⟩ 10 0 ∧ ∀ H'' : Hp, H'' = sets H' ⟨c, 0, none⟩ ((opE 5 op).row (Sl.mk (some ⟨d, 0, none⟩) 2 2)) 0 → Kf ⟨c, 0, none⟩ H'' := fun c d l H' k r hl hcd hc y => by
    refine ⟨r.mayw (by omega), fun H'' e => ?_⟩
    have r' : Row H'' c 41 ((opE 5 op).row (Sl.mk (some ⟨d, 0, none⟩) 2 2)) := r.fill' e (by simp [hl])
    have k' : Kp (fun x => x = c) H' H'' := (Kp.refl _ _).sets' e (.inl rfl)
    exact hK c _ H'' r' (two_kids (k'.row y (Ne.symm hcd)) (Xk.nil _) (Xk.nil _)) (k.box k' hc)
  refine ⟨_, _, _, _, _, _, _, _, _, _, x.all, c19 fun H1 k1 => ⟨(k1.row x id).all, fun H2 e2 H3 e3 => ?_, fun H2 e2 => ?_⟩, fun H1 e1 => ?_⟩
  · have kA := k1.push' e2
    have kB := kA.push' e3
    have s1 := k1.size
    have s2 := size_push' e2
    exact fin H2.size H1.size _ H3 kB (Row.new' e3) rfl (by omega) (by omega) ((Row.new' e2).push' e3)
  · have kA := k1.push' e2
    refine ⟨(kA.row x id).all, fun H3 e3 => ?_⟩
    have s1 := k1.size
    have s2 := size_push' e2
    exact fin H1.size H2.size _ H3 (kA.push' e3) ((Row.new' e2).push' e3) rfl (by omega) (by omega) (Row.new' e3)
  · have k1 : Kp No H H1 := (Kp.refl _ _).push' e1
    have y1 : Row H1 H.size 41 (zeroE.row Sl.nil) := Row.new' e1
    refine ⟨(k1.row x id).all, c19 fun H2 k2 => ?_⟩
    have kA := k1.no2 k2
    refine ⟨(kA.row x id).all, fun H3 e3 => ?_⟩
    have s1 := k1.size
    have s2 := k2.size
    have s0 := size_push' e1
    exact fin H.size H2.size _ H3 (kA.push' e3) ((k2.row y1 id).push' e3) rfl (by omega) (Nat.le_refl _) (Row.new' e3)
/-- What conditions may be, reckoned. -/
def flatB (x : ER × Fo) : Bool := match solvP x.1 x.2 with | none => true | some s => decide (s.k1.len = 0) && (!isRefP s.r2 || decide (s.k2.len = 0))
theorem flatB_spec {x : ER × Fo} (h : flatB x = true) : FlatC x := fun s hs => by
  unfold flatB at h
  rw [hs] at h
  simp only [Bool.and_eq_true, decide_eq_true_eq, Bool.or_eq_true, Bool.not_eq_true'] at h
  exact ⟨h.1, fun hr => h.2.resolve_left (by rw [hr]; decide)⟩
def condsB (conds : List (ER × Fo)) : Bool := decide (conds.length ≤ 45) && conds.all fun c => decide ((leavesP c.1 c.2).length ≤ 1000) && (leavesP c.1 c.2).all flatB
theorem condsB_spec {conds : List (ER × Fo)} (h : condsB conds = true) : CondsOk conds := by
  unfold condsB at h
  rw [Bool.and_eq_true, decide_eq_true_iff, List.all_eq_true] at h
  refine ⟨h.1, fun c hc => ?_, fun c hc x hx => ?_⟩
  · have := h.2 c hc
    rw [Bool.and_eq_true, decide_eq_true_iff] at this
    exact this.1
  · have := h.2 c hc
    rw [Bool.and_eq_true, List.all_eq_true] at this
    exact flatB_spec (this.2 x hx)
abbrev bgE (o n : Int) : ER × Fo := (opE 5 o, relK n)
theorem bg1 : condsB [bgE 10 3, bgE 8 9] = true := by kernel_rfl
theorem bg2 : answerP (readS [bgE 10 3, bgE 8 9]) = some [(axE, numV 4)] := by kernel_rfl
theorem bg3 : condsB [bgE 10 3, bgE 8 4] = true := by kernel_rfl
theorem bg4 : answerP (readS [bgE 10 3, bgE 8 4]) = none := by kernel_rfl
theorem bg5 : condsB [bgE 10 3, bgE 10 2] = true := by kernel_rfl
theorem bg6 : spareP (readS [bgE 10 3, bgE 10 2]) = [1] := by kernel_rfl
theorem bg7 : usesP (bgE 10 3) = true := by kernel_rfl
theorem bg8 : (readS [bgE 10 3, bgE 10 2]).refs.length = 1 := by kernel_rfl
theorem bg9 : kindP (readS [bgE 10 3, bgE 10 2]) 0 = 1 := by kernel_rfl
theorem bg10 : (leavesP (opE 5 10) (relK 3)).length = 1 := by kernel_rfl
theorem bg11 : (!(decide ((numV 4).k = 1) && (decide ((numV 4).n = 4) && (seq (numV 4).s (ByteArray.mk #[]) && ((numV 4).b == false))))) = false := by kernel_rfl
theorem bg12 : (!(seq axE.v S_a)) = false := by kernel_rfl
end

section
variable {H H0 : Hp}
/-- A relation's box, its kids. -/
structure Bx (H : Hp) (b : Nat) (o n : Int) (q : Sl) : Prop where
  r : Row H b 41 ((opE 5 o).row q)
  x : Xk H q (relK n)
theorem Bx.no {H' : Hp} {b : Nat} {o n : Int} {q : Sl} (h : Bx H b o n q) (k : Kp No H H') : Bx H' b o n q := ⟨k.row h.r id, h.x.no k⟩
theorem c6_5 {b1 b3 b4 : Nat} {q1 q3 q4 : Sl} {Q : Bool → Hp → Prop} (h1 : Bx H b1 10 3 q1) (h3 : Bx H b3 10 2 q3) (h4 : Bx H b4 8 4 q4) (hQ : ∀ H', Kp No H H' → Q true H') : F6_5 Q ⟨b1, 0, none⟩ ⟨b3, 0, none⟩ ⟨b4, 0, none⟩ false H := by
  refine ⟨fun h => (by cases h), fun _ => ⟨_, _, _, _, _, _, _, _, _, _, h1.r.all, _, _, _, _, _, _, _, _, _, _, h4.r.all, fun H347 e347 => ?_⟩⟩
  have k347 : Kp No H H347 := (Kp.refl _ _).push' e347
  have y347 : Row H347 H.size 41 ((opE 5 10).row q1 ++ (opE 5 8).row q4) := Row.new' e347
  refine c9 (two_list y347 (h1.x.no k347) (h4.x.no k347)) (condsB_spec bg3) (fun _ H349 k349 => ?_) fun K kl H' hK => by rw [show answerP (readS (List.map Prod.snd [((opE 5 10, q1), (opE 5 10, relK 3)), ((opE 5 8, q4), (opE 5 8, relK 4))])) = none from bg4] at hK; cases hK
  have kA := k347.no2 k349
  have g1 := h1.no kA
  have g3 := h3.no kA
  refine ⟨_, _, _, _, _, _, _, _, _, _, g1.r.all, _, _, _, _, _, _, _, _, _, _, g3.r.all, fun H375 e375 => ?_⟩
  have k375 : Kp No H349 H375 := (Kp.refl _ _).push' e375
  have y375 : Row H375 H349.size 41 ((opE 5 10).row q1 ++ (opE 5 10).row q3) := Row.new' e375
  refine c16 (two_list y375 (g1.x.no k375) (g3.x.no k375)) (condsB_spec bg5) (fun i hi => ?_) fun sp H377 lsp _ k377 => ?_
  · have hi : i < 1 := by rw [← bg8]; exact hi
    obtain rfl : i = 0 := by omega
    exact bg9
  have hsp : spareP (readS (List.map Prod.snd [((opE 5 10, q1), (opE 5 10, relK 3)), ((opE 5 10, q3), (opE 5 10, relK 2))])) = [1] := bg6
  rw [hsp] at lsp
  have kB := k375.no2 k377
  have g1' := g1.no kB
  refine ⟨_, _, _, _, _, _, _, _, _, _, g1'.r.all, c17 (Kp.refl _ _) g1'.x (by rw [show (leavesP (opE 5 10) (relK 3)).length = 1 from bg10]; decide) fun H391 k391 => ⟨fun _ => ⟨fun _ => ?_, fun h => ?_⟩, fun h => by cases h⟩⟩
  · have lsp' := lsp.kp k391 fun _ _ => id
    have hn := lsp'.n
    obtain ⟨a, ea, han, ca⟩ := lsp'.rd.get (i := 0) rfl
    refine ⟨fun _ => ⟨a, ea, by omega, by omega, _, ca.1, hQ H391 (kA.no2 (kB.no2 k391))⟩, fun h => absurd (of_decide_eq_false h) (by rw [hn]; decide)⟩
  · rw [show usesP (opE 5 10, relK 3) = true from bg7] at h; cases h
theorem c6_4 {b1 b2 b3 b4 : Nat} {q1 q2 q3 q4 : Sl} {Q : Bool → Hp → Prop} (h1 : Bx H b1 10 3 q1) (h2 : Bx H b2 8 9 q2) (h3 : Bx H b3 10 2 q3) (h4 : Bx H b4 8 4 q4) (hQ : ∀ H', Kp No H H' → Q true H') : F6_4 Q ⟨b1, 0, none⟩ ⟨b2, 0, none⟩ ⟨b3, 0, none⟩ ⟨b4, 0, none⟩ H := by
  refine ⟨_, _, _, _, _, _, _, _, _, _, h1.r.all, _, _, _, _, _, _, _, _, _, _, h2.r.all, fun H293 e293 => ?_⟩
  have k293 : Kp No H H293 := (Kp.refl _ _).push' e293
  have y293 : Row H293 H.size 41 ((opE 5 10).row q1 ++ (opE 5 8).row q2) := Row.new' e293
  refine c9 (two_list y293 (h1.x.no k293) (h2.x.no k293)) (condsB_spec bg1) (fun hno => by rw [show answerP (readS (List.map Prod.snd [((opE 5 10, q1), (opE 5 10, relK 3)), ((opE 5 8, q2), (opE 5 8, relK 9))])) = _ from bg2] at hno; cases hno) fun K kl H295 hK lk _ k295 => ?_
  rw [show answerP (readS (List.map Prod.snd [((opE 5 10, q1), (opE 5 10, relK 3)), ((opE 5 8, q2), (opE 5 8, relK 9))])) = _ from bg2] at hK
  cases hK
  have kA := k293.no2 k295
  have hn := lk.n
  obtain ⟨a, ea, han, ca⟩ := lk.rd.get (i := 0) rfl
  have hcut : ∀ {i : Nat} {m : List Value}, ((knF.f (axE, numV 4)).drop i).take m.length = m → cells H295 (Addr.add (Addr.add a ((0 : Int).toNat * 14)) i) m 0 := fun h => cells_sub ca h
  refine ⟨fun h => (by cases h), fun _ => ⟨fun h => absurd hn (of_decide_eq_true h |> fun h g => h (by rw [g]; rfl)), fun _ => ⟨a, ea, by omega, by omega, _, _, _, _, hcut (i := 10) (m := (numV 4).row) rfl, fun h => ?_, fun _ => ⟨a, ea, by omega, by omega, _, (hcut (i := 6) (m := [.string axE.v]) rfl).1, ?_⟩⟩⟩⟩
  · rw [bg11] at h; cases h
  · rw [bg12]
    exact c6_5 (h1.no kA) (h3.no kA) (h4.no kA) fun H' k' => hQ H' (kA.no2 k')
theorem c6 {Q : Bool → Hp → Prop} (hQ : ∀ H', Kp No H H' → Q true H') : F6 H Q := by
  refine c18 fun H1 k1 H13 e13 => ?_
  have k13 : Kp No H1 H13 := (Kp.refl _ _).push' e13
  have y13 : Row H13 H1.size 41 (zeroE.row Sl.nil) := Row.new' e13
  refine ⟨y13.mayw (by simp), fun H15 e15 => ?_⟩
  have y15 : Row H15 H1.size 41 (axE.row Sl.nil) := y13.fill' e15 rfl
  have k15 : Kp No H1 H15 := k13.box ((Kp.refl _ _).sets' e15 (.inl rfl)) (Nat.le_refl _)
  have kA := k1.no2 k15
  show Rel3 3 10 ⟨H1.size, 0, none⟩ (fun a H => F6_1 Q ⟨H1.size, 0, none⟩ a H) H15
  refine rel3 y15 fun b1 q1 H2 r1 x1 k2 => ?_
  show Rel3 9 8 ⟨H1.size, 0, none⟩ (fun a H => F6_2 Q ⟨H1.size, 0, none⟩ ⟨b1, 0, none⟩ a H) H2
  have y2 := k2.row y15 id
  refine rel3 y2 fun b2 q2 H3 r2 x2 k3 => ?_
  show Rel3 2 10 ⟨H1.size, 0, none⟩ (fun a H => F6_3 Q ⟨H1.size, 0, none⟩ ⟨b1, 0, none⟩ ⟨b2, 0, none⟩ a H) H3
  have y3 := k3.row y2 id
  refine rel3 y3 fun b3 q3 H4 r3 x3 k4 => ?_
  show Rel3 4 8 ⟨H1.size, 0, none⟩ (fun a H => F6_4 Q ⟨b1, 0, none⟩ ⟨b2, 0, none⟩ ⟨b3, 0, none⟩ a H) H4
  have y4 := k4.row y3 id
  refine rel3 y4 fun b4 q4 H5 r4 x4 k5 => ?_
  have g1 : Bx H2 b1 10 3 q1 := ⟨r1, x1⟩
  have g2 : Bx H3 b2 8 9 q2 := ⟨r2, x2⟩
  have g3 : Bx H4 b3 10 2 q3 := ⟨r3, x3⟩
  exact c6_4 (g1.no (k3.no2 (k4.no2 k5))) (g2.no (k4.no2 k5)) (g3.no k5) ⟨r4, x4⟩ fun H' k' => hQ H' (kA.no2 (k2.no2 (k3.no2 (k4.no2 (k5.no2 k')))))
end
end Go.Hw
