/- What a relation says of values. Groups and kinds: the plain law. A system's kinds: the plain law. Strings and truth values: the plain law. Own work of this session. -/
import Derived.Test.YtkdjcmfmflljlaaDoorB18
import Derived.Test.YtkdjcmfmflljlaaDoorHwJ
set_option linter.unusedVariables false
namespace Go.Hw
open Go

def relI (o : Int) (x y : Int) : Prop := (o = 6 → x = y) ∧ (o = 8 → x < y) ∧ (o = 9 → x ≤ y) ∧ (o = 10 → y < x) ∧ (o = 11 → y ≤ x)
def YesB (o : Int) (a b : VT) : Prop := binP o a b = (truthV true, 0)
def Rop (o : Int) : Prop := o = 6 ∨ o = 8 ∨ o = 9 ∨ o = 10 ∨ o = 11
theorem vld_cases {a : VT} (h : vld a = true) : a = numV a.n ∨ (a = ⟨2, 0, a.s, false⟩) ∨ a = truthV a.b := by
  obtain ⟨k, n, s, b⟩ := a
  unfold vld at h
  simp only [seq_dec'] at h
  split at h
  · rename_i hk
    simp at h hk
    obtain ⟨h1, h2⟩ := h
    left
    simp [numV, hk, h2]
  · split at h
    · rename_i hk
      simp at h hk
      right; left
      simp [hk, h]
    · split at h
      · rename_i hk
        simp at h hk
        right; right
        simp [truthV, hk, h]
      · cases h
/-! ## texts in order -/
theorem bl_irrefl : ∀ a : List UInt8, Op.bytesLess a a = false
  | [] => rfl
  | x :: a => by simp [Op.bytesLess, bl_irrefl a]
theorem bl_trans : ∀ {a b c : List UInt8}, Op.bytesLess a b = true → Op.bytesLess b c = true → Op.bytesLess a c = true
  | _, _, [], _, h => by simp [Op.bytesLess] at h
  | _, [], _ :: _, h, _ => by simp [Op.bytesLess] at h
  | [], _ :: _, _ :: _, _, _ => rfl
  | x :: a, y :: b, z :: c, h, g => by
    simp only [Op.bytesLess, Bool.or_eq_true, decide_eq_true_eq, Bool.and_eq_true, beq_iff_eq] at *
    rcases h with h | ⟨rfl, h⟩
    · rcases g with g | ⟨rfl, g⟩
      · exact .inl (UInt8.lt_trans h g)
      · exact .inl h
    · rcases g with g | ⟨rfl, g⟩
      · exact .inl g
      · exact .inr ⟨rfl, bl_trans h g⟩
theorem bl_total : ∀ {a b : List UInt8}, Op.bytesLess a b = false → Op.bytesLess b a = false → a = b
  | [], [], _, _ => rfl
  | [], _ :: _, h, _ => by simp [Op.bytesLess] at h
  | _ :: _, [], _, h => by simp [Op.bytesLess] at h
  | x :: a, y :: b, h, g => by
    simp only [Op.bytesLess, Bool.or_eq_false_iff, decide_eq_false_iff_not, Bool.and_eq_false_imp, beq_iff_eq] at *
    obtain ⟨h1, h2⟩ := h
    obtain ⟨g1, g2⟩ := g
    have e : x = y := by
      apply UInt8.toNat_inj.1
      rw [UInt8.lt_iff_toNat_lt] at h1 g1
      omega
    subst e
    rw [bl_total (h2 rfl) (g2 rfl)]
theorem slt_irrefl (a : ByteArray) : slt a a = false := bl_irrefl _
theorem slt_trans {a b c : ByteArray} (h : slt a b = true) (g : slt b c = true) : slt a c = true := bl_trans h g
theorem slt_total {a b : ByteArray} (h : slt a b = false) (g : slt b a = false) : a = b := by
  have := bl_total h g
  have e := seq_dec' a b
  unfold seq at e
  rw [this] at e
  simpa using e.symm
theorem slt_asymm {a b : ByteArray} (h : slt a b = true) : slt b a = false := by
  cases g : slt b a with
  | false => rfl
  | true => have := slt_trans h g; rw [slt_irrefl] at this; cases this
theorem cmpT_neg (a b : ByteArray) : cmpT a b < 0 ↔ slt a b = true := by
  unfold cmpT
  split
  · rename_i h; simp [h]
  · split <;> simp_all
theorem cmpT_zero (a b : ByteArray) : cmpT a b = 0 ↔ a = b := by
  unfold cmpT
  split
  · rename_i h
    constructor
    · intro h; cases h
    · rintro rfl; rw [slt_irrefl] at h; cases h
  · split
    · rename_i h
      simp only [seq_dec', Bool.and_eq_true, Bool.not_eq_true', decide_eq_false_iff_not] at h
      exact ⟨fun h => (by cases h), fun e => absurd e h.2⟩
    · rename_i h1 h2
      simp only [seq_dec', Bool.and_eq_true, Bool.not_eq_true', decide_eq_false_iff_not, not_and, Decidable.not_not] at h2
      exact ⟨fun _ => h2 (by simpa using h1), fun _ => rfl⟩
theorem cmpT_pos (a b : ByteArray) : 0 < cmpT a b ↔ slt b a = true := by
  constructor
  · intro h
    cases g : slt b a with
    | true => rfl
    | false =>
      cases g2 : slt a b with
      | true => have := (cmpT_neg a b).2 g2; omega
      | false => have := (cmpT_zero a b).2 (slt_total g2 g); omega
  · intro h
    have h1 : ¬ cmpT a b < 0 := fun g => by have := slt_asymm ((cmpT_neg a b).1 g); rw [h] at this; cases this
    have h2 : ¬ cmpT a b = 0 := fun g => by have := (cmpT_zero a b).1 g; subst this; rw [slt_irrefl] at h; cases h
    omega
theorem cmpI_neg (a b : Int) : cmpI a b < 0 ↔ a < b := by unfold cmpI; split <;> (try split) <;> omega
theorem cmpI_zero (a b : Int) : cmpI a b = 0 ↔ a = b := by unfold cmpI; split <;> (try split) <;> omega
theorem cmpI_pos (a b : Int) : 0 < cmpI a b ↔ b < a := by unfold cmpI; split <;> (try split) <;> omega
theorem cmpI_self (a : Int) : cmpI a a = 0 := (cmpI_zero a a).2 rfl
theorem cmpT_self (a : ByteArray) : cmpT a a = 0 := (cmpT_zero a a).2 rfl
theorem cmpV_num (x y : Int) : cmpV (numV x) (numV y) = cmpI x y := by
  simp only [cmpV, numV, cmpI_self, cmpT_self, orI, ne_eq, not_true, if_false]
  split
  · rfl
  · omega
theorem cmpV_str (s t : ByteArray) : cmpV ⟨2, 0, s, false⟩ ⟨2, 0, t, false⟩ = cmpT s t := by
  simp only [cmpV, cmpI_self, orI, ne_eq, not_true, if_false]
  split
  · rfl
  · omega
theorem cmpV_bool (s t : Bool) : cmpV (truthV s) (truthV t) = cmpI (bitB s) (bitB t) := by
  simp only [cmpV, truthV, cmpI_self, cmpT_self, orI, ne_eq, not_true, if_false]
  by_cases h : cmpI (bitB s) (bitB t) = 0 <;> simp [h]
/-- Of two that may be, of one kind: the order is one. -/
theorem cmpV_sign {a b : VT} (ha : vld a = true) (hb : vld b = true) (hk : a.k = b.k) : (cmpV a b < 0 ↔ 0 < cmpV b a) ∧ (cmpV a b = 0 ↔ a = b) := by
  rcases vld_cases ha with h1 | h1 | h1 <;> rcases vld_cases hb with h2 | h2 | h2 <;> rw [h1, h2] at hk <;> first | cases hk | skip
  · generalize a.n = x, b.n = y at h1 h2; subst h1 h2; rw [cmpV_num, cmpV_num, cmpI_neg, cmpI_pos, cmpI_zero]
    refine ⟨Iff.rfl, fun h => by rw [h], fun h => congrArg VT.n h⟩
  · generalize a.s = x, b.s = y at h1 h2; subst h1 h2; rw [cmpV_str, cmpV_str, cmpT_neg, cmpT_pos, cmpT_zero]
    refine ⟨Iff.rfl, fun h => by rw [h], fun h => congrArg VT.s h⟩
  · generalize a.b = x, b.b = y at h1 h2; subst h1 h2; rw [cmpV_bool, cmpV_bool, cmpI_neg, cmpI_pos, cmpI_zero]
    refine ⟨Iff.rfl, fun h => ?_, fun h => by rw [show x = y from congrArg VT.b h]⟩
    cases x <;> cases y <;> first | rfl | cases h
theorem relP_iff {o : Int} (h : Rop o) (a b : VT) : relP o a b = true ↔ relI o (cmpV a b) 0 := by
  rcases h with rfl | rfl | rfl | rfl | rfl
  · simp [relP, relI]
  · simp [relP, relI]
  · simp only [relP, relI]
    constructor
    · intro h
      refine ⟨(fun h => by cases h), (fun h => by cases h), fun _ => ?_, (fun h => by cases h), fun h => by cases h⟩
      by_cases h0 : cmpV a b = 0
      · omega
      · simp [h0] at h; omega
    · rintro ⟨_, _, h, _, _⟩
      have h := h trivial
      by_cases h0 : cmpV a b = 0
      · simp [h0]
      · simp [h0]; omega
  · simp [relP, relI]
  · simp only [relP, relI]
    constructor
    · intro h
      refine ⟨(fun h => by cases h), (fun h => by cases h), (fun h => by cases h), (fun h => by cases h), fun _ => ?_⟩
      by_cases h0 : 0 < cmpV a b
      · omega
      · simp [h0] at h; omega
    · rintro ⟨_, _, _, _, h⟩
      have h := h trivial
      by_cases h0 : 0 < cmpV a b
      · simp [h0]
      · simp [h0]; omega
theorem fits_iff {o : Int} (h : Rop o) (a b : VT) : fitsP (wantOf o) a [a, b] = true ↔ a.k = b.k ∧ (o ≠ 6 → a.k ≠ 3) := by
  have e : (([a, b] : List VT).all fun x => decide (x.k = a.k)) = decide (b.k = a.k) := by simp
  unfold fitsP
  rw [e]
  by_cases hk : b.k = a.k
  · rw [decide_eq_true hk, if_pos rfl]
    rcases h with rfl | rfl | rfl | rfl | rfl <;> simp [wantOf, wantsL, fitK, hk]
  · rw [decide_eq_false hk, if_neg (by decide)]
    exact ⟨fun h => (by cases h), fun h => absurd h.1.symm hk⟩
theorem yesB_iff {o : Int} (h : Rop o) (a b : VT) : YesB o a b ↔ vld a = true ∧ vld b = true ∧ a.k = b.k ∧ (o ≠ 6 → a.k ≠ 3) ∧ relI o (cmpV a b) 0 := by
  have hf := fits_iff h a b
  have hr := relP_iff h a b
  have hz : ∀ c : Int, (zeroV, c) ≠ (truthV true, 0) := fun c h => by cases h
  have ho : ¬ o < 3 ∧ ¬ 13 < o ∧ o ≠ 3 ∧ o ≠ 4 ∧ o ≠ 5 := by rcases h with rfl | rfl | rfl | rfl | rfl <;> decide
  have hra : refusP o 3 13 a [a, b] = if (vld a && vld b) = true then (if fitsP (wantOf o) a [a, b] = true then 0 else 10) else 12 := by
    rw [refusP, if_neg ho.1, if_neg ho.2.1]; simp only [List.all_cons, List.all_nil, Bool.and_true]
  unfold YesB binP
  rw [hra]
  by_cases hv : (vld a && vld b) = true
  · have hv' : vld a = true ∧ vld b = true := by simpa using hv
    rw [if_pos hv]
    by_cases hft : fitsP (wantOf o) a [a, b] = true
    · rw [if_pos hft, if_neg (by decide), if_neg ho.2.2.1, if_neg ho.2.2.2.1, if_neg ho.2.2.2.2]
      have e : (truthV (relP o a b), (0 : Int)) = (truthV true, 0) ↔ relP o a b = true := ⟨fun h => congrArg (fun x : VT × Int => x.1.b) h, fun h => by rw [h]⟩
      rw [e, hr]
      exact ⟨fun h => ⟨hv'.1, hv'.2, (hf.1 hft).1, (hf.1 hft).2, h⟩, fun h => h.2.2.2.2⟩
    · rw [if_neg hft, if_pos (by decide)]
      exact ⟨fun h => absurd h (hz _), fun h => absurd (hf.2 ⟨h.2.2.1, h.2.2.2.1⟩) hft⟩
  · rw [if_neg hv, if_pos (by decide)]
    exact ⟨fun h => absurd h (hz _), fun h => absurd (by rw [h.1, h.2.1]; rfl) hv⟩
theorem relI_sign {o x y : Int} (h1 : x < 0 ↔ 0 < y) (h2 : 0 < x ↔ y < 0) : relI o x 0 → relI (turnP o) y 0 := by
  unfold relI turnP
  intro h
  by_cases e6 : o = 6
  · subst e6; simp at h ⊢; omega
  · by_cases e8 : o = 8
    · subst e8; simp at h ⊢; omega
    · by_cases e9 : o = 9
      · subst e9; simp at h ⊢; omega
      · by_cases e10 : o = 10
        · subst e10; simp at h ⊢; omega
        · by_cases e11 : o = 11
          · subst e11; simp at h ⊢; omega
          · simp [e6, e8, e9, e10, e11]
theorem Rop.turn {o : Int} (h : Rop o) : Rop (turnP o) ∧ (turnP o = 6 ↔ o = 6) ∧ turnP (turnP o) = o := by
  rcases h with rfl | rfl | rfl | rfl | rfl <;> simp [Rop, turnP]
theorem YesB.turn {o : Int} {a b : VT} (ho : Rop o) (h : YesB o a b) : YesB (turnP o) b a := by
  obtain ⟨h1, h2, h3, h4, h5⟩ := (yesB_iff ho a b).1 h
  have hs := cmpV_sign h1 h2 h3
  have hs' := cmpV_sign h2 h1 h3.symm
  exact (yesB_iff ho.turn.1 b a).2 ⟨h2, h1, h3.symm, fun hn => by rw [← h3]; exact h4 fun e => hn (ho.turn.2.1.2 e), relI_sign hs.1 hs'.1.symm h5⟩
/-- Of numbers. -/
theorem YesB.num {o : Int} (ho : Rop o) (x y : Int) : YesB o (numV x) (numV y) ↔ relI o x y := by
  rw [yesB_iff ho, cmpV_num]
  have hv : ∀ x, vld (numV x) = true := fun x => by simp [vld, numV, seq_dec']
  constructor
  · rintro ⟨_, _, _, _, h⟩
    have h1 := cmpI_neg x y
    have h2 := cmpI_zero x y
    have h3 := cmpI_pos x y
    unfold relI at *
    refine ⟨fun e => h2.1 (h.1 e), fun e => h1.1 (h.2.1 e), fun e => ?_, fun e => h3.1 (h.2.2.2.1 e), fun e => ?_⟩
    · have := h.2.2.1 e; omega
    · have := h.2.2.2.2 e; omega
  · intro h
    have h1 := cmpI_neg x y
    have h2 := cmpI_zero x y
    have h3 := cmpI_pos x y
    refine ⟨hv x, hv y, rfl, fun _ => by show (1 : Int) ≠ 3; decide, ?_⟩
    unfold relI at *
    refine ⟨fun e => h2.2 (h.1 e), fun e => h1.2 (h.2.1 e), fun e => ?_, fun e => h3.2 (h.2.2.2.1 e), fun e => ?_⟩
    · have := h.2.2.1 e; omega
    · have := h.2.2.2.2 e; omega

def tiesL (G : List Nat) (ps : List (Nat × Nat)) : List Nat := ps.foldl (fun G p => tieP G p.1 p.2) G
def prs (L : List Leaf) : List (Nat × Nat) := (L.filter fun l => l.two).map fun l => (l.a, l.b)
def wprs (S : Sys) (L : List Leaf) : List (Nat × Nat) := (L.filter fun l => l.two && decide (kindP S l.a ≠ 1)).map fun l => (l.a, l.b)
theorem tiesL_append (G : List Nat) (p q : List (Nat × Nat)) : tiesL G (p ++ q) = tiesL (tiesL G p) q := List.foldl_append
theorem tfold_ties : ∀ (L : List Leaf) (G : List Nat), L.foldl tstep G = tiesL G (prs L)
  | [], _ => rfl
  | l :: L, G => by
    rw [List.foldl_cons, tfold_ties L]
    unfold tstep prs
    cases h : l.two <;> simp [h, tiesL]
theorem cfold_ties : ∀ (C : List (List Leaf × Bool)) (G : List Nat), C.foldl csteps G = tiesL G (prs (C.flatMap Prod.fst))
  | [], _ => rfl
  | c :: C, G => by
    rw [List.foldl_cons, cfold_ties C, csteps, tfold_ties, List.flatMap_cons]
    unfold prs
    rw [List.filter_append, List.map_append, tiesL_append]
theorem wfold_ties (S : Sys) : ∀ (L : List Leaf) (G : List Nat), L.foldl (wtie S) G = tiesL G (wprs S L)
  | [], _ => rfl
  | l :: L, G => by
    rw [List.foldl_cons, wfold_ties S L]
    unfold wtie wprs
    by_cases h : l.two = true ∧ kindP S l.a ≠ 1
    · rw [if_pos h, List.filter_cons_of_pos (by simp [h.1, h.2])]
      rfl
    · rw [if_neg h, List.filter_cons_of_neg (by simpa using h)]
theorem ties_ok : ∀ {ps : List (Nat × Nat)} {G : List Nat}, GOk G → (∀ p ∈ ps, p.1 < G.length ∧ p.2 < G.length) → GOk (tiesL G ps) ∧ (tiesL G ps).length = G.length
  | [], _, h, _ => ⟨h, rfl⟩
  | p :: ps, G, h, hp => by
    have h1 := hp p (List.mem_cons_self ..)
    have := ties_ok (ps := ps) (h.tie h1.1 h1.2) fun x hx => by rw [tie_len]; exact hp x (List.mem_cons_of_mem _ hx)
    rw [tie_len] at this
    exact this
theorem ties_eq : ∀ {ps : List (Nat × Nat)} {G : List Nat}, GOk G → (∀ p ∈ ps, p.1 < G.length ∧ p.2 < G.length) → (∀ x y, x < G.length → y < G.length → root G x = root G y → root (tiesL G ps) x = root (tiesL G ps) y) ∧ ∀ p ∈ ps, root (tiesL G ps) p.1 = root (tiesL G ps) p.2
  | [], _, _, _ => ⟨fun _ _ _ _ e => e, fun p hp => by cases hp⟩
  | p :: ps, G, h, hp => by
    obtain ⟨p1, p2⟩ := hp p (List.mem_cons_self ..)
    have ih := ties_eq (ps := ps) (h.tie p1 p2) fun x hx => by rw [tie_len]; exact hp x (List.mem_cons_of_mem _ hx)
    rw [tie_len] at ih
    have hr := fun x hx => root_tie h p1 p2 x x (Nat.le_refl _) hx
    refine ⟨fun x y hx hy e => ih.1 x y hx hy (by rw [hr x hx, hr y hy, e]), fun q hq => ?_⟩
    rcases List.mem_cons.1 hq with rfl | hq
    · refine ih.1 _ _ p1 p2 ?_
      rw [hr _ p1, hr _ p2]
      split <;> split <;> omega
    · exact ih.2 q hq
theorem ties_keep {α : Type} {f : Nat → α} : ∀ {ps : List (Nat × Nat)} {G : List Nat}, GOk G → (∀ p ∈ ps, p.1 < G.length ∧ p.2 < G.length) → (∀ p ∈ ps, f p.1 = f p.2) → (∀ x, x < G.length → f (root G x) = f x) → ∀ x, x < G.length → f (root (tiesL G ps) x) = f x
  | [], _, _, _, _, h => h
  | p :: ps, G, h, hp, hf, h0 => by
    obtain ⟨p1, p2⟩ := hp p (List.mem_cons_self ..)
    have fe := hf p (List.mem_cons_self ..)
    have a1 := h0 _ p1
    have a2 := h0 _ p2
    have ih := ties_keep (f := f) (ps := ps) (h.tie p1 p2) (fun x hx => by rw [tie_len]; exact hp x (List.mem_cons_of_mem _ hx)) (fun x hx => hf x (List.mem_cons_of_mem _ hx))
    rw [tie_len] at ih
    refine ih fun x hx => ?_
    rw [root_tie h p1 p2 x x (Nat.le_refl _) hx]
    split
    · rename_i e
      have hx' := h0 x hx
      rw [e] at hx'
      rw [← hx']
      rcases Nat.le_total (root G p.1) (root G p.2) with hl | hl
      · rw [Nat.min_eq_left hl, Nat.max_eq_right hl, a1, a2, fe]
      · rw [Nat.min_eq_right hl, Nat.max_eq_left hl, a1, a2, fe]
    · exact h0 x hx

/-! ## kinds as bits -/
abbrev Kv (x : Int) : Prop := x = 0 ∨ x = 2 ∨ x = 4 ∨ x = 6 ∨ x = 8 ∨ x = 10 ∨ x = 12 ∨ x = 14
def hasB (x k : Int) : Bool := if k = 1 then decide (2 ≤ x % 4) else if k = 2 then decide (4 ≤ x % 8) else if k = 3 then decide (8 ≤ x) else false
abbrev Kn (k : Int) : Prop := k = 1 ∨ k = 2 ∨ k = 3
theorem or_kv {x k : Int} (hx : Kv x) (hk : Kn k) : Kv (orB .i64 x (shlB .i64 1 k)) ∧ ∀ j, hasB (orB .i64 x (shlB .i64 1 k)) j = (hasB x j || decide (j = k)) := by
  have key : ∀ y, orB .i64 x (shlB .i64 1 k) = y → Kv y → (hasB y 1 = (hasB x 1 || decide ((1 : Int) = k))) → (hasB y 2 = (hasB x 2 || decide ((2 : Int) = k))) → (hasB y 3 = (hasB x 3 || decide ((3 : Int) = k))) → Kv (orB .i64 x (shlB .i64 1 k)) ∧ ∀ j, hasB (orB .i64 x (shlB .i64 1 k)) j = (hasB x j || decide (j = k)) := fun y e h h1 h2 h3 => by
    rw [e]
    refine ⟨h, fun j => ?_⟩
    by_cases j1 : j = 1
    · subst j1; exact h1
    · by_cases j2 : j = 2
      · subst j2; exact h2
      · by_cases j3 : j = 3
        · subst j3; exact h3
        · have : j ≠ k := by rcases hk with rfl | rfl | rfl <;> assumption
          simp [hasB, j1, j2, j3, this]
  unfold Kv at hx
  rcases hk with rfl | rfl | rfl <;> rcases hx with rfl | rfl | rfl | rfl | rfl | rfl | rfl | rfl
  · exact key 2 (by decide) (by decide) (by decide) (by decide) (by decide)
  · exact key 2 (by decide) (by decide) (by decide) (by decide) (by decide)
  · exact key 6 (by decide) (by decide) (by decide) (by decide) (by decide)
  · exact key 6 (by decide) (by decide) (by decide) (by decide) (by decide)
  · exact key 10 (by decide) (by decide) (by decide) (by decide) (by decide)
  · exact key 10 (by decide) (by decide) (by decide) (by decide) (by decide)
  · exact key 14 (by decide) (by decide) (by decide) (by decide) (by decide)
  · exact key 14 (by decide) (by decide) (by decide) (by decide) (by decide)
  · exact key 4 (by decide) (by decide) (by decide) (by decide) (by decide)
  · exact key 6 (by decide) (by decide) (by decide) (by decide) (by decide)
  · exact key 4 (by decide) (by decide) (by decide) (by decide) (by decide)
  · exact key 6 (by decide) (by decide) (by decide) (by decide) (by decide)
  · exact key 12 (by decide) (by decide) (by decide) (by decide) (by decide)
  · exact key 14 (by decide) (by decide) (by decide) (by decide) (by decide)
  · exact key 12 (by decide) (by decide) (by decide) (by decide) (by decide)
  · exact key 14 (by decide) (by decide) (by decide) (by decide) (by decide)
  · exact key 8 (by decide) (by decide) (by decide) (by decide) (by decide)
  · exact key 10 (by decide) (by decide) (by decide) (by decide) (by decide)
  · exact key 12 (by decide) (by decide) (by decide) (by decide) (by decide)
  · exact key 14 (by decide) (by decide) (by decide) (by decide) (by decide)
  · exact key 8 (by decide) (by decide) (by decide) (by decide) (by decide)
  · exact key 10 (by decide) (by decide) (by decide) (by decide) (by decide)
  · exact key 12 (by decide) (by decide) (by decide) (by decide) (by decide)
  · exact key 14 (by decide) (by decide) (by decide) (by decide) (by decide)
theorem odd_kv {x : Int} (hx : Kv x) : oddP x = false ↔ ∀ j k, hasB x j = true → hasB x k = true → j = k := by
  have hb : ∀ j, hasB x j = true → j = 1 ∨ j = 2 ∨ j = 3 := fun j h => by
    unfold hasB at h
    split at h
    · exact .inl (by assumption)
    · split at h
      · exact .inr (.inl (by assumption))
      · split at h
        · exact .inr (.inr (by assumption))
        · cases h
  unfold Kv at hx
  rcases hx with rfl | rfl | rfl | rfl | rfl | rfl | rfl | rfl
  · refine ⟨fun _ j k hj hk => ?_, fun _ => by decide⟩
    rcases hb j hj with rfl | rfl | rfl <;> exact absurd hj (by decide)
  · refine ⟨fun _ j k hj hk => ?_, fun _ => by decide⟩
    rcases hb j hj with rfl | rfl | rfl <;> rcases hb k hk with rfl | rfl | rfl <;> first | rfl | exact absurd hj (by decide) | exact absurd hk (by decide)
  · refine ⟨fun _ j k hj hk => ?_, fun _ => by decide⟩
    rcases hb j hj with rfl | rfl | rfl <;> rcases hb k hk with rfl | rfl | rfl <;> first | rfl | exact absurd hj (by decide) | exact absurd hk (by decide)
  · exact ⟨fun h => absurd h (by decide), fun h => absurd (h 1 2 (by decide) (by decide)) (by decide)⟩
  · refine ⟨fun _ j k hj hk => ?_, fun _ => by decide⟩
    rcases hb j hj with rfl | rfl | rfl <;> rcases hb k hk with rfl | rfl | rfl <;> first | rfl | exact absurd hj (by decide) | exact absurd hk (by decide)
  · exact ⟨fun h => absurd h (by decide), fun h => absurd (h 1 3 (by decide) (by decide)) (by decide)⟩
  · exact ⟨fun h => absurd h (by decide), fun h => absurd (h 2 3 (by decide) (by decide)) (by decide)⟩
  · exact ⟨fun h => absurd h (by decide), fun h => absurd (h 1 2 (by decide) (by decide)) (by decide)⟩
def kindV (x : Int) : Int := if x = 4 then 2 else if x = 8 then 3 else 1
theorem kindV_has {x k : Int} (hx : Kv x) (ho : oddP x = false) (h : hasB x k = true) : kindV x = k := by
  have hu := (odd_kv hx).1 ho
  unfold Kv at hx
  rcases hx with rfl | rfl | rfl | rfl | rfl | rfl | rfl | rfl
  · have : hasB 0 k = false := by
      unfold hasB
      repeat' split
      all_goals rfl
    rw [this] at h; cases h
  · exact hu 1 k (by decide) h
  · exact hu 2 k (by decide) h
  · exact absurd ho (by decide)
  · exact hu 3 k (by decide) h
  · exact absurd ho (by decide)
  · exact absurd ho (by decide)
  · exact absurd ho (by decide)
theorem kindV_not {x : Int} (hx : Kv x) (ho : oddP x = false) (h : kindV x ≠ 1) : hasB x (kindV x) = true := by
  unfold Kv at hx
  rcases hx with rfl | rfl | rfl | rfl | rfl | rfl | rfl | rfl <;> first | exact absurd rfl h | (exact absurd ho (by decide)) | decide

def applyK (K : List Int) (c : List (Nat × Int)) : List Int := c.foldl (fun K x => orAt K x.1 (shlB .i64 1 x.2)) K
theorem applyK_append (K : List Int) (p q : List (Nat × Int)) : applyK K (p ++ q) = applyK (applyK K p) q := List.foldl_append
theorem orAt_get {K : List Int} {i r : Nat} {b : Int} (hr : r < K.length) : (orAt K i b).getD r 0 = if i = r then orB .i64 (K.getD r 0) b else K.getD r 0 := by
  unfold orAt
  rw [List.getD_eq_getElem?_getD, List.getElem?_set]
  by_cases e : i = r
  · subst e; rw [if_pos rfl, if_pos hr, if_pos rfl]; rfl
  · rw [if_neg e, if_neg e, ← List.getD_eq_getElem?_getD]
theorem applyK_has : ∀ {c : List (Nat × Int)} {K : List Int}, (∀ x ∈ c, Kn x.2) → (∀ r, r < K.length → Kv (K.getD r 0)) → (applyK K c).length = K.length ∧ ∀ r, r < K.length → Kv ((applyK K c).getD r 0) ∧ ∀ j, hasB ((applyK K c).getD r 0) j = true ↔ hasB (K.getD r 0) j = true ∨ (r, j) ∈ c
  | [], K, _, h => ⟨rfl, fun r hr => ⟨h r hr, fun j => by simp [applyK]⟩⟩
  | x :: c, K, hc, h => by
    have hx := hc x (List.mem_cons_self ..)
    have h1 : ∀ r, r < (orAt K x.1 (shlB .i64 1 x.2)).length → Kv ((orAt K x.1 (shlB .i64 1 x.2)).getD r 0) := fun r hr => by
      rw [orAt_len] at hr
      rw [orAt_get hr]
      split
      · exact (or_kv (h r hr) hx).1
      · exact h r hr
    obtain ⟨g1, g2⟩ := applyK_has (c := c) (K := orAt K x.1 (shlB .i64 1 x.2)) (fun y hy => hc y (List.mem_cons_of_mem _ hy)) h1
    rw [orAt_len] at g1 g2
    refine ⟨g1, fun r hr => ⟨(g2 r hr).1, fun j => ((g2 r hr).2 j).trans ?_⟩⟩
    rw [orAt_get hr, List.mem_cons]
    by_cases e : x.1 = r
    · rw [if_pos e, (or_kv (h r hr) hx).2 j, Bool.or_eq_true, decide_eq_true_iff]
      constructor
      · rintro ((h | h) | h)
        · exact .inl h
        · right; left; rw [← e, h]
        · exact .inr (.inr h)
      · rintro (h | h | h)
        · exact .inl (.inl h)
        · left; right; exact congrArg Prod.snd h
        · exact .inr h
    · rw [if_neg e]
      constructor
      · rintro (h | h)
        · exact .inl h
        · exact .inr (.inr h)
      · rintro (h | h | h)
        · exact .inl h
        · exact absurd (congrArg Prod.fst h).symm e
        · exact .inr h
def cons1 (G : List Nat) (refs : List ER) (n : Nat) : List (Nat × Int) := ((List.range n).filter fun i => timeP (refs.getD i zeroE)).map fun i => (root G i, 1)
def cons2 (G : List Nat) (L : List Leaf) : List (Nat × Int) := (L.filter fun l => !l.two).map fun l => (root G l.a, l.v.k)
theorem kseq_apply (G : List Nat) (refs : List ER) (K0 : List Int) : ∀ n, kseq G refs K0 n = applyK K0 (cons1 G refs n)
  | 0 => rfl
  | n + 1 => by
    rw [kseq, kseq_apply G refs K0 n, kstep1]
    unfold cons1
    rw [List.range_succ, List.filter_append, List.map_append, applyK_append]
    cases h : timeP (refs.getD n zeroE) with
    | true => rw [if_pos rfl, List.filter_cons_of_pos (p := fun i => timeP (refs.getD i zeroE)) h]; rfl
    | false => rw [if_neg (by decide), List.filter_cons_of_neg (p := fun i => timeP (refs.getD i zeroE)) (by rw [h]; decide)]; rfl
theorem kfold_apply (G : List Nat) : ∀ (L : List Leaf) (K : List Int), L.foldl (kstep2 G) K = applyK K (cons2 G L)
  | [], _ => rfl
  | l :: L, K => by
    rw [List.foldl_cons, kfold_apply G L, kstep2]
    unfold cons2
    cases h : l.two with
    | true => rw [if_pos rfl, List.filter_cons_of_neg (by rw [h]; decide)]
    | false => rw [if_neg (by decide), List.filter_cons_of_pos (by rw [h]; rfl)]; rfl
theorem kcfold_apply (G : List Nat) : ∀ (C : List (List Leaf × Bool)) (K : List Int), C.foldl (ksteps G) K = applyK K (cons2 G (C.flatMap Prod.fst))
  | [], _ => rfl
  | c :: C, K => by
    rw [List.foldl_cons, kcfold_apply G C, ksteps, kfold_apply, List.flatMap_cons]
    unfold cons2
    rw [List.filter_append, List.map_append, applyK_append]

/-- What a system's leaves are. -/
structure Lvs (refs : List ER) (L : List Leaf) : Prop where
  ok : ∀ l ∈ L, LfOk refs.length l
  k : ∀ l ∈ L, l.two = false → Kn l.v.k
section
variable {refs : List ER} {C : List (List Leaf × Bool)}
theorem prs_lt (h : Lvs refs (C.flatMap Prod.fst)) : ∀ p ∈ prs (C.flatMap Prod.fst), p.1 < (List.range refs.length).length ∧ p.2 < (List.range refs.length).length := fun p hp => by
  rw [List.length_range]
  obtain ⟨l, hl, rfl⟩ := List.mem_map.1 hp
  obtain ⟨hl, ht⟩ := List.mem_filter.1 hl
  exact ⟨(h.ok l hl).1, (h.ok l hl).2.1 ht⟩
theorem sysG (h : Lvs refs (C.flatMap Prod.fst)) : (sysP refs C).G = tiesL (List.range refs.length) (prs (C.flatMap Prod.fst)) ∧ GOk (sysP refs C).G ∧ (sysP refs C).G.length = refs.length := by
  have e : (sysP refs C).G = tiesL (List.range refs.length) (prs (C.flatMap Prod.fst)) := cfold_ties _ _
  have := ties_ok (GOk.range refs.length) (prs_lt h)
  rw [List.length_range] at this
  rw [e]
  exact ⟨rfl, this⟩
theorem sysK (h : Lvs refs (C.flatMap Prod.fst)) : (sysP refs C).K.length = refs.length ∧ ∀ r, r < refs.length → Kv ((sysP refs C).K.getD r 0) ∧ ∀ j, hasB ((sysP refs C).K.getD r 0) j = true ↔ (r, j) ∈ cons1 (sysP refs C).G refs refs.length ++ cons2 (sysP refs C).G (C.flatMap Prod.fst) := by
  have e : (sysP refs C).K = applyK (List.replicate refs.length 0) (cons1 (sysP refs C).G refs refs.length ++ cons2 (sysP refs C).G (C.flatMap Prod.fst)) := by
    rw [applyK_append, ← kseq_apply, ← kcfold_apply]
    rfl
  have hz : ∀ r, (List.replicate refs.length (0 : Int)).getD r 0 = 0 := fun r => by
    rw [List.getD_eq_getElem?_getD, List.getElem?_replicate]
    split <;> rfl
  have := applyK_has (c := cons1 (sysP refs C).G refs refs.length ++ cons2 (sysP refs C).G (C.flatMap Prod.fst)) (K := List.replicate refs.length 0) (fun x hx => by
    rcases List.mem_append.1 hx with hx | hx
    · obtain ⟨i, _, rfl⟩ := List.mem_map.1 hx
      exact .inl rfl
    · obtain ⟨l, hl, rfl⟩ := List.mem_map.1 hx
      obtain ⟨hl, ht⟩ := List.mem_filter.1 hl
      exact h.k l hl (by simpa using ht)) fun r _ => by rw [hz]; exact .inl rfl
  rw [List.length_replicate] at this
  rw [e]
  refine ⟨this.1, fun r hr => ⟨(this.2 r hr).1, fun j => ((this.2 r hr).2 j).trans ?_⟩⟩
  rw [hz]
  constructor
  · rintro (h | h)
    · exact absurd h (by
        unfold hasB
        repeat' split
        all_goals decide)
    · exact h
  · exact .inr
theorem any_get {K : List Int} : K.any oddP = false ↔ ∀ r, r < K.length → oddP (K.getD r 0) = false := by
  rw [List.any_eq_false]
  constructor
  · intro h r hr
    have := h (K.getD r 0) (by rw [List.getD_eq_getElem?_getD, List.getElem?_eq_getElem hr]; exact List.getElem_mem _)
    simpa using this
  · intro h x hx
    obtain ⟨r, hr, e⟩ := List.getElem_of_mem hx
    have := h r hr
    rw [List.getD_eq_getElem?_getD, List.getElem?_eq_getElem hr] at this
    simpa [e] using this
theorem kind_root (h : Lvs refs (C.flatMap Prod.fst)) : (∀ i, i < refs.length → root (sysP refs C).G i < refs.length) ∧ (∀ l ∈ C.flatMap Prod.fst, l.two = true → kindP (sysP refs C) l.a = kindP (sysP refs C) l.b) := by
  obtain ⟨e, g1, g2⟩ := sysG h
  refine ⟨fun i hi => by have := root_le g1 (show i < _ by omega); omega, fun l hl ht => ?_⟩
  have := (ties_eq (GOk.range refs.length) (prs_lt h)).2 (l.a, l.b) (List.mem_map_of_mem (List.mem_filter.2 ⟨hl, ht⟩))
  rw [← e] at this
  unfold kindP
  rw [show root (sysP refs C).G l.a = root (sysP refs C).G l.b from this]
/-- Where there are values the kinds are at one. -/
theorem kinds_complete (h : Lvs refs (C.flatMap Prod.fst)) {κ : Nat → Int} (h1 : ∀ l ∈ C.flatMap Prod.fst, (l.two = true → κ l.a = κ l.b) ∧ (l.two = false → κ l.a = l.v.k)) (h2 : ∀ i, i < refs.length → timeP (refs.getD i zeroE) = true → κ i = 1) :
    (sysP refs C).K.any oddP = false ∧ ∀ i, i < refs.length → kindP (sysP refs C) i ≠ 1 → κ i = kindP (sysP refs C) i := by
  obtain ⟨e, g1, g2⟩ := sysG h
  obtain ⟨k1, k2⟩ := sysK h
  have hk : ∀ x, x < refs.length → κ (root (sysP refs C).G x) = κ x := by
    have := ties_keep (f := κ) (GOk.range refs.length) (prs_lt h) (fun p hp => by
      obtain ⟨l, hl, rfl⟩ := List.mem_map.1 hp
      obtain ⟨hl, ht⟩ := List.mem_filter.1 hl
      exact (h1 l hl).1 ht) fun x hx => by rw [List.length_range] at hx; rw [root_range hx]
    rw [List.length_range, ← e] at this
    exact this
  have hb : ∀ r j, r < refs.length → hasB ((sysP refs C).K.getD r 0) j = true → κ r = j := fun r j hr hj => by
    have := ((k2 r hr).2 j).1 hj
    rcases List.mem_append.1 this with hx | hx
    · obtain ⟨i, hi, ei⟩ := List.mem_map.1 hx
      obtain ⟨hi, ht⟩ := List.mem_filter.1 hi
      have hi := List.mem_range.1 hi
      have hki := hk i hi
      rw [h2 i hi ht] at hki
      cases ei
      exact hki
    · obtain ⟨l, hl, el⟩ := List.mem_map.1 hx
      obtain ⟨hl, ht⟩ := List.mem_filter.1 hl
      have hki := hk l.a (h.ok l hl).1
      rw [(h1 l hl).2 (by simpa using ht)] at hki
      cases el
      exact hki
  have ho : ∀ r, r < refs.length → oddP ((sysP refs C).K.getD r 0) = false := fun r hr => (odd_kv (k2 r hr).1).2 fun j k hj hk => by rw [← hb r j hr hj, hb r k hr hk]
  refine ⟨any_get.2 fun r hr => ho r (by omega), fun i hi hne => ?_⟩
  have hr := (kind_root h).1 i hi
  have := kindV_not (k2 _ hr).1 (ho _ hr) hne
  rw [← hk i hi]
  exact hb _ _ hr this
/-- Where they are at one the constants are of the kinds told. -/
theorem kinds_sound (h : Lvs refs (C.flatMap Prod.fst)) (ho : (sysP refs C).K.any oddP = false) : (∀ l ∈ C.flatMap Prod.fst, l.two = false → kindP (sysP refs C) l.a = l.v.k) ∧ ∀ i, i < refs.length → timeP (refs.getD i zeroE) = true → kindP (sysP refs C) i = 1 := by
  obtain ⟨k1, k2⟩ := sysK h
  have ho := any_get.1 ho
  have key : ∀ i j, i < refs.length → (root (sysP refs C).G i, j) ∈ cons1 (sysP refs C).G refs refs.length ++ cons2 (sysP refs C).G (C.flatMap Prod.fst) → kindP (sysP refs C) i = j := fun i j hi hm => by
    have hr := (kind_root h).1 i hi
    exact kindV_has (k2 _ hr).1 (ho _ (by omega)) (((k2 _ hr).2 j).2 hm)
  refine ⟨fun l hl ht => key l.a l.v.k (h.ok l hl).1 (List.mem_append_right _ (List.mem_map.2 ⟨l, List.mem_filter.2 ⟨hl, by rw [ht]; rfl⟩, rfl⟩)), fun i hi ht => key i 1 hi (List.mem_append_left _ (List.mem_map.2 ⟨i, List.mem_filter.2 ⟨List.mem_range.2 hi, ht⟩, rfl⟩))⟩
end

theorem ofT_vtT (v : VT) : ofT (vtT v) = v := rfl
theorem wput_complete {S : Sys} {G : List Nat} {n : Nat} {τ : Nat → VT} (hG : ∀ i, i < n → root G i < n ∧ τ (root G i) = τ i) : ∀ {L : List Leaf} {st : ML Int T4 × Nat}, (∀ l ∈ L, l.a < n) → (∀ l ∈ L, kindP S l.a ≠ 1 → l.two = false → τ l.a = l.v) → (∀ (r : Nat) v, r < n → mget st.1 (r : Int) = some v → vtT (τ r) = v) →
    ∃ st', wput S G L st = some st' ∧ ∀ (r : Nat) v, r < n → mget st'.1 (r : Int) = some v → vtT (τ r) = v
  | [], st, _, _, h => ⟨st, rfl, h⟩
  | l :: L, st, hi, hv, h => by
    have hi' := fun x hx => hi x (List.mem_cons_of_mem l hx)
    have hv' := fun x hx => hv x (List.mem_cons_of_mem l hx)
    rw [wput]
    by_cases hs : l.two = true ∨ kindP S l.a = 1
    · rw [if_pos hs]; exact wput_complete hG hi' hv' h
    · rw [if_neg hs]
      have hs1 : l.two = false := by cases e : l.two with | false => rfl | true => exact absurd (.inl e) hs
      have hla := hi l (List.mem_cons_self ..)
      have e := hv l (List.mem_cons_self ..) (fun h => hs (.inr h)) hs1
      have er : τ (root G l.a) = l.v := (hG _ hla).2.trans e
      have hb : ((mget st.1 (root G l.a : Int)).isSome && !(sameT ((mget st.1 (root G l.a : Int)).getD (0, 0, E, false)) (vtT l.v))) = false := by
        cases hm : mget st.1 (root G l.a : Int) with
        | none => rfl
        | some v =>
          have := h _ v (hG _ hla).1 hm
          rw [er] at this
          rw [← this]
          show (true && !(sameT (vtT l.v) (vtT l.v))) = false
          rw [(sameT_iff _ _).2 rfl]; rfl
      rw [if_neg (by rw [hb]; decide)]
      refine wput_complete hG hi' hv' fun r v hr hm => ?_
      rw [mget_mput] at hm
      split at hm
      · rename_i hk
        have : r = root G l.a := by omega
        subst this
        cases hm
        rw [er]
      · exact h r v hr hm
theorem wput_sound {S : Sys} {G : List Nat} : ∀ {L : List Leaf} {st st' : ML Int T4 × Nat}, wput S G L st = some st' →
    (∀ k v, mget st.1 k = some v → mget st'.1 k = some v) ∧ ∀ l ∈ L, kindP S l.a ≠ 1 → l.two = false → mget st'.1 (root G l.a : Int) = some (vtT l.v)
  | [], st, st', h => by cases h; exact ⟨fun _ _ h => h, fun l hl => by cases hl⟩
  | l :: L, st, st', h => by
    rw [wput] at h
    by_cases hs : l.two = true ∨ kindP S l.a = 1
    · rw [if_pos hs] at h
      obtain ⟨h1, h2⟩ := wput_sound h
      refine ⟨h1, fun x hx hk ht => ?_⟩
      rcases List.mem_cons.1 hx with rfl | hx
      · rcases hs with hs | hs
        · rw [ht] at hs; cases hs
        · exact absurd hs hk
      · exact h2 x hx hk ht
    · rw [if_neg hs] at h
      split at h
      · cases h
      · rename_i hb
        obtain ⟨h1, h2⟩ := wput_sound h
        refine ⟨fun k v hm => ?_, fun x hx hk ht => ?_⟩
        · refine h1 k v ?_
          rw [mget_mput]
          split
          · rename_i e
            rw [e] at hm
            rw [hm] at hb
            have : sameT v (vtT l.v) = true := by simpa using hb
            rw [(sameT_iff _ _).1 this]
          · exact hm
        · rcases List.mem_cons.1 hx with rfl | hx
          · refine h1 _ _ ?_
            rw [mget_mput, if_pos rfl]
          · exact h2 x hx hk ht
section
variable {S : Sys} {L : List Leaf}
theorem wprs_lt (hi : ∀ l ∈ L, l.a < S.refs.length ∧ (l.two = true → l.b < S.refs.length)) : ∀ p ∈ wprs S L, p.1 < (List.range S.refs.length).length ∧ p.2 < (List.range S.refs.length).length := fun p hp => by
  rw [List.length_range]
  obtain ⟨l, hl, rfl⟩ := List.mem_map.1 hp
  obtain ⟨hl, ht⟩ := List.mem_filter.1 hl
  exact ⟨(hi l hl).1, (hi l hl).2 (by simp at ht; exact ht.1)⟩
theorem words_complete {τ : Nat → VT} (hi : ∀ l ∈ L, l.a < S.refs.length ∧ (l.two = true → l.b < S.refs.length)) (h : ∀ l ∈ L, kindP S l.a ≠ 1 → (l.two = true → τ l.a = τ l.b) ∧ (l.two = false → τ l.a = l.v)) :
    ∃ W, wordsP S L = some W ∧ (∀ i v, i < S.refs.length → mget W.M (root W.G i : Int) = some v → τ i = ofT v) := by
  have hlt := wprs_lt hi
  have hok := ties_ok (GOk.range S.refs.length) hlt
  have hkeep := ties_keep (f := τ) (GOk.range S.refs.length) hlt (fun p hp => by
    obtain ⟨l, hl, rfl⟩ := List.mem_map.1 hp
    obtain ⟨hl, ht⟩ := List.mem_filter.1 hl
    simp at ht
    exact (h l hl ht.2).1 ht.1) fun x hx => by rw [List.length_range] at hx; rw [root_range hx]
  rw [List.length_range] at hok hkeep
  have hG : ∀ i, i < S.refs.length → root (tiesL (List.range S.refs.length) (wprs S L)) i < S.refs.length ∧ τ (root (tiesL (List.range S.refs.length) (wprs S L)) i) = τ i := fun i hi => ⟨by have := root_le hok.1 (show i < _ by rw [hok.2]; exact hi); omega, hkeep i hi⟩
  obtain ⟨st, hst, hm⟩ := wput_complete (S := S) hG (L := L) (st := ([], 0)) (fun l hl => (hi l hl).1) (fun l hl hk ht => (h l hl hk).2 ht) (fun r v _ hm => by cases hm)
  refine ⟨⟨tiesL (List.range S.refs.length) (wprs S L), st.1, st.2⟩, ?_, fun i v hi hv => ?_⟩
  · unfold wordsP
    rw [wfold_ties, hst]
  · have := hm _ v (hG i hi).1 hv
    rw [(hG i hi).2] at this
    rw [← this]; rfl
theorem words_sound (hi : ∀ l ∈ L, l.a < S.refs.length ∧ (l.two = true → l.b < S.refs.length)) {W : Wo} (hW : wordsP S L = some W) : ∀ l ∈ L, kindP S l.a ≠ 1 → (l.two = true → root W.G l.a = root W.G l.b) ∧ (l.two = false → mget W.M (root W.G l.a : Int) = some (vtT l.v)) := by
  unfold wordsP at hW
  split at hW
  · cases hW
  · rename_i st hst
    cases hW
    rw [wfold_ties] at hst ⊢
    intro l hl hk
    refine ⟨fun ht => ?_, fun ht => (wput_sound hst).2 l hl hk ht⟩
    exact (ties_eq (GOk.range S.refs.length) (wprs_lt hi)).2 (l.a, l.b) (List.mem_map.2 ⟨l, List.mem_filter.2 ⟨hl, by simp [ht, hk]⟩, rfl⟩)
end
end Go.Hw
