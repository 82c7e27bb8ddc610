/- The reference's splitting of a text: plain laws. Own work of this session. -/
import Derived.Test.YtmjoeilahbfonaaDoorD6
import Derived.Lib.Split
import Derived.Lib.IndexBytes
set_option linter.unusedVariables false
namespace Go.Hw
open Go

/-! ## a text as bytes -/
theorem toNat_mod (b : UInt8) : UInt8.ofNat ((b.toNat : Int)).toNat = b := by simp
theorem bst_dig (x : Int) : bst (dig x) = ⟨(Lib.itoa x).toArray⟩ := by
  unfold bst dig
  rw [List.map_map]
  congr 2
  conv => rhs; rw [← List.map_id (Lib.itoa x)]
  apply List.map_congr_left
  intro b _
  exact toNat_mod b
theorem bst_append (A B : List Int) : bst (A ++ B) = bst A ++ bst B := by
  apply ByteArray.ext
  rw [ByteArray.data_append]
  unfold bst
  simp
theorem bst_point : bst [46] = S__ := rfl
theorem bst_size (A : List Int) : (bst A).size = A.length := by
  unfold bst
  simp [ByteArray.size]
theorem seq_iff {a b : ByteArray} : seq a b = true ↔ a = b := by
  unfold seq
  rw [Lib.toList_data, Lib.toList_data, beq_iff_eq]
  constructor
  · intro h
    apply ByteArray.ext
    exact Array.toList_inj.1 h
  · intro h; rw [h]
/-- The text, as bytes. -/
def tb : List Int → List UInt8
  | [] => []
  | [x] => Lib.itoa x
  | x :: y :: l => Lib.itoa x ++ 46 :: tb (y :: l)
theorem bst_sh : ∀ (V : List Int), bst (sh V) = ⟨(tb V).toArray⟩
  | [] => rfl
  | [x] => bst_dig x
  | x :: y :: l => by
    show bst (dig x ++ 46 :: sh (y :: l)) = _
    rw [show dig x ++ 46 :: sh (y :: l) = dig x ++ ([46] ++ sh (y :: l)) from rfl, bst_append, bst_append, bst_dig, bst_sh (y :: l)]
    apply ByteArray.ext
    rw [ByteArray.data_append, ByteArray.data_append]
    simp [bst, tb]

/-! ## where the points are -/
theorem dec_bytes : ∀ (k n : Nat), n ≤ k → ∀ b ∈ Lib.decDigits n, 48 ≤ b.toNat ∧ b.toNat ≤ 57 := by
  intro k
  induction k with
  | zero =>
    intro n hn b hb
    rw [Lib.decDigits_one (by omega), List.mem_singleton] at hb
    subst hb
    simp
    omega
  | succ k ih =>
    intro n hn b hb
    by_cases h : n < 10
    · rw [Lib.decDigits_one h, List.mem_singleton] at hb
      subst hb
      simp
      omega
    · rw [Lib.decDigits, dif_neg h] at hb
      rcases List.mem_append.1 hb with hb | hb
      · exact ih _ (by omega) b hb
      · rw [List.mem_singleton] at hb
        subst hb
        simp
        omega
theorem itoa_bytes {x : Int} (h : 0 ≤ x) : ∀ b ∈ Lib.itoa x, 48 ≤ b.toNat ∧ b.toNat ≤ 57 := by
  have e : ((x.toNat : Nat) : Int) = x := by omega
  rw [← e, Lib.itoa_nonneg]
  exact dec_bytes _ _ (Nat.le_refl _)
theorem itoa_no {x : Int} (h : 0 ≤ x) : (46 : UInt8) ∉ Lib.itoa x := fun hm => by
  have := (itoa_bytes h _ hm).1
  simp at this
theorem ixb_none : ∀ {l : List UInt8} {c : UInt8}, c ∉ l → Lib.indexByte l c = -1
  | [], _, _ => rfl
  | b :: l, c, h => by
    unfold Lib.indexByte
    rw [if_neg (fun e => h (by rw [beq_iff_eq.1 e]; exact List.mem_cons_self ..)), ixb_none (fun hm => h (List.mem_cons_of_mem _ hm))]
    rfl
theorem ixb_some : ∀ {l : List UInt8} {c : UInt8} (m : List UInt8), c ∉ l → Lib.indexByte (l ++ c :: m) c = l.length
  | [], c, m, _ => by simp [Lib.indexByte]
  | b :: l, c, m, h => by
    rw [List.cons_append]
    unfold Lib.indexByte
    rw [if_neg (fun e => h (by rw [beq_iff_eq.1 e]; exact List.mem_cons_self ..)), ixb_some m (fun hm => h (List.mem_cons_of_mem _ hm)), if_neg (by
      intro e
      have := beq_iff_eq.1 e
      omega)]
    simp
theorem split_tb : ∀ (V : List Int), V ≠ [] → (∀ x ∈ V, 0 ≤ x) → Lib.count (tb V) [46] + 1 = V.length ∧ Lib.splitK [46] 0 (Lib.count (tb V) [46]) (tb V) = V.map Lib.itoa
  | [], h, _ => absurd rfl h
  | [x], _, h => by
    have hi : Lib.index (tb [x]) [46] = -1 := by
      rw [Lib.index_one]
      exact ixb_none (itoa_no (h x (List.mem_cons_self ..)))
    rw [Lib.count_miss hi]
    exact ⟨rfl, rfl⟩
  | x :: y :: l, _, h => by
    have hi : Lib.index (tb (x :: y :: l)) [46] = (Lib.itoa x).length := by
      rw [Lib.index_one]
      exact ixb_some _ (itoa_no (h x (List.mem_cons_self ..)))
    have hd : (tb (x :: y :: l)).drop ((Lib.itoa x).length + 1) = tb (y :: l) := by
      show (Lib.itoa x ++ 46 :: tb (y :: l)).drop _ = _
      rw [List.drop_append]
      simp
    obtain ⟨h1, h2⟩ := split_tb (y :: l) (by simp) fun z hz => h z (List.mem_cons_of_mem _ hz)
    have hc := Lib.count_hit (by simp) hi
    rw [show ([46] : List UInt8).length = 1 from rfl, hd] at hc
    rw [hc, Nat.add_comm 1]
    refine ⟨by rw [h1]; rfl, ?_⟩
    unfold Lib.splitK
    rw [if_neg (by
      intro e
      have := beq_iff_eq.1 e
      omega), hi]
    rw [show (((Lib.itoa x).length : Int)).toNat = (Lib.itoa x).length from by omega, show ([46] : List UInt8).length = 1 from rfl, hd, h2, Nat.add_zero]
    show (Lib.itoa x ++ 46 :: tb (y :: l)).take _ :: _ = _
    rw [List.take_left]
    rfl
/-- The pieces of a version's text. -/
theorem split_text {V : List Int} (h0 : V ≠ []) (h : ∀ x ∈ V, 0 ≤ x) : Lib.splitB S__ 0 (Lib.countB (bst (sh V)) S__) (bst (sh V)) = V.map fun x => ⟨(Lib.itoa x).toArray⟩ := by
  have hk : Lib.countB (bst (sh V)) S__ = Lib.count (tb V) [46] := by rw [bst_sh]; rfl
  have h2 := Lib.splitB_data S__ 0 (Lib.countB (bst (sh V)) S__) (bst (sh V))
  rw [hk] at h2 ⊢
  rw [show S__.data.toList = [46] from rfl, show (bst (sh V)).data.toList = tb V from by rw [bst_sh], (split_tb V h0 h).2] at h2
  have h3 := congrArg (List.map fun l : List UInt8 => (⟨l.toArray⟩ : ByteArray)) h2
  rw [List.map_map, List.map_map] at h3
  refine Eq.trans ?_ h3
  conv => lhs; rw [← List.map_id (Lib.splitB S__ 0 (Lib.count (tb V) [46]) (bst (sh V)))]
  apply List.map_congr_left
  intro b _
  simp

/-! ## a piece's number -/
def pstep (n : Int) (b : Nat) : Int := IntKind.i64.wrap (IntKind.i64.wrap (IntKind.i64.wrap (n * 10) + IntKind.i64.wrap (b : Int)) - 48)
def pval (l : List Nat) : Int := l.foldl pstep 0
theorem pval_snoc (l : List Nat) (b : Nat) : pval (l ++ [b]) = pstep (pval l) b := by simp [pval]
theorem pval_dec : ∀ (k n : Nat), n ≤ k → n ≤ 2147483647 → pval ((Lib.decDigits n).map (·.toNat)) = n := by
  have st : ∀ (u d : Nat), d < 10 → u * 10 + d ≤ 2147483647 → pstep (u : Int) (48 + d) = ((u * 10 + d : Nat) : Int) := fun u d hd hm => by
    unfold pstep
    rw [wr (x := (u : Int) * 10) (by omega) (by omega), wr (x := ((48 + d : Nat) : Int)) (by omega) (by omega), wr (x := (u : Int) * 10 + ((48 + d : Nat) : Int)) (by omega) (by omega), wr (by omega) (by omega)]
    omega
  have tn : ∀ d : Nat, d < 10 → (UInt8.ofNat (48 + d)).toNat = 48 + d := fun d hd => by
    rw [UInt8.toNat_ofNat']
    omega
  have one : ∀ n : Nat, n < 10 → pval ((Lib.decDigits n).map (·.toNat)) = n := fun n h => by
    rw [Lib.decDigits_one h]
    simp only [List.map_cons, List.map_nil, tn n h]
    have := st 0 n h (by omega)
    rw [Nat.zero_mul, Nat.zero_add] at this
    exact this
  intro k
  induction k with
  | zero => intro n hn hm; exact one n (by omega)
  | succ k ih =>
    intro n hn hm
    by_cases h : n < 10
    · exact one n h
    · rw [Lib.decDigits, dif_neg h, List.map_append, List.map_cons, List.map_nil, tn _ (by omega), pval_snoc, ih _ (by omega) (by omega), st _ _ (by omega) (by omega)]
      omega
theorem pval_itoa {x : Int} (h0 : 0 ≤ x) (h1 : x ≤ 2147483647) : pval (bytes ⟨(Lib.itoa x).toArray⟩) = x := by
  have e : ((x.toNat : Nat) : Int) = x := by omega
  have := pval_dec x.toNat x.toNat (Nat.le_refl _) (by omega)
  rw [e] at this
  conv => lhs; rw [← e]
  rw [Lib.itoa_nonneg]
  exact this

/-- The reference's numbers of a text. -/
def rvals (s : ByteArray) : List Int := (Lib.splitB S__ 0 (Lib.countB s S__) s).map fun p => pval (bytes p)
theorem rvals_len (s : ByteArray) : (rvals s).length ≤ Lib.countB s S__ + 1 := by
  unfold rvals
  rw [List.length_map]
  exact Lib.splitB_length_le _ _ _ _
theorem rvals_show {V : List Int} (h : valid V = true) : rvals (bst (sh V)) = V := by
  obtain ⟨h0, _, hx⟩ := valid_mem h
  unfold rvals
  rw [split_text (List.length_pos_iff.1 h0) fun x hm => (hx x hm).1, List.map_map]
  conv => rhs; rw [← List.map_id V]
  apply List.map_congr_left
  intro x hm
  exact pval_itoa (hx x hm).1 (hx x hm).2
theorem sh_len {V : List Int} (h : ∀ x ∈ V, 0 ≤ x ∧ x ≤ 2147483647) : (sh V).length + 1 ≤ 11 * V.length + 1 := by
  have d : ∀ (k n : Nat), n < 10 ^ k → 0 < k → (Lib.decDigits n).length ≤ k := by
    intro k
    induction k with
    | zero => intro n _ h; omega
    | succ k ih =>
      intro n hn _
      by_cases h : n < 10
      · rw [Lib.decDigits_one h]; simp
      · rw [Lib.decDigits, dif_neg h]
        have hk : 0 < k := by
          rcases Nat.eq_zero_or_pos k with h0 | h0
          · subst h0; omega
          · exact h0
        have := ih (n / 10) (by rw [Nat.pow_succ] at hn; omega) hk
        simp; omega
  have dl : ∀ x : Int, 0 ≤ x ∧ x ≤ 2147483647 → (dig x).length ≤ 10 := fun x hx => by
    unfold dig
    rw [List.length_map]
    have e : ((x.toNat : Nat) : Int) = x := by omega
    rw [← e, Lib.itoa_nonneg]
    exact d 10 _ (by omega) (by decide)
  suffices G : (sh V).length ≤ 11 * V.length by omega
  induction V with
  | nil => simp [sh]
  | cons x l ih =>
    have hx := dl x (h x (List.mem_cons_self ..))
    have hl := ih fun z hz => h z (List.mem_cons_of_mem _ hz)
    cases l with
    | nil => simp [sh]; omega
    | cons y l =>
      simp only [sh, List.length_append, List.length_cons] at hl ⊢
      omega
theorem piece_size : ∀ (k : Nat) (s : ByteArray), ∀ p ∈ Lib.splitB S__ 0 k s, p.size ≤ s.size
  | 0, s, p, hp => by
    rw [Lib.splitB_zero, List.mem_singleton] at hp
    rw [hp]; exact Nat.le_refl _
  | k + 1, s, p, hp => by
    unfold Lib.splitB at hp
    split at hp
    · rw [List.mem_singleton] at hp
      rw [hp]; exact Nat.le_refl _
    · rcases List.mem_cons.1 hp with rfl | hp
      · rw [ByteArray.size_extract]; omega
      · have := piece_size k _ p hp
        rw [ByteArray.size_extract] at this
        omega
/-- What the two readings have in common. -/
theorem read_ref {s : ByteArray} (h : s.size ≤ 704) : rread (bytes s) [0] true = if valid (rvals s) = true ∧ bst (sh (rvals s)) = s then some (rvals s) else none := by
  cases hr : rread (bytes s) [0] true with
  | some V =>
    obtain ⟨h1, h2⟩ := read_inv hr
    have h3 := rvals_show h1
    rw [h2] at h3
    rw [h3, if_pos ⟨h1, h2⟩]
  | none =>
    split
    · rename_i hc
      have := read_show hc.1
      rw [hc.2, hr] at this
      cases this
    · rfl
theorem read_long {s : ByteArray} (h : 704 < s.size) : rread (bytes s) [0] true = none := by
  cases hr : rread (bytes s) [0] true with
  | none => rfl
  | some V =>
    obtain ⟨h1, h2⟩ := read_inv hr
    obtain ⟨h0, h64, hx⟩ := valid_mem h1
    have h3 := bst_size (sh V)
    have h4 := sh_len hx
    rw [h2] at h3
    omega
end Go.Hw
