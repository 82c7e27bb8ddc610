/- dewey: Show and Read. Own work of this session. -/
import Derived.Test.YtmjoeilahbfonaaDoorD1
import Derived.Lib.ItoaLen
set_option linter.unusedVariables false
namespace Go.Hw
open Go

/-- A version's text. -/
def sh : List Int → List Int
  | [] => []
  | [x] => dig x
  | x :: y :: l => dig x ++ 46 :: sh (y :: l)
theorem sh_snoc : ∀ (l : List Int) (x : Int), sh (l ++ [x]) = sh l ++ (if l = [] then [] else [46]) ++ dig x
  | [], x => by simp [sh]
  | [y], x => by simp [sh]
  | y :: z :: l, x => by
    have := sh_snoc (z :: l) x
    simp only [List.cons_append, sh] at this ⊢
    rw [this]
    simp
theorem dig_len (i : Int) (h0 : -9223372036854775808 ≤ i) (h1 : i ≤ 9223372036854775807) : (dig i).length ≤ 21 := by
  unfold dig
  rw [List.length_map]
  exact Lib.itoa_length_le i h0 h1

theorem valid_mem {L : List Int} (h : valid L = true) : 0 < L.length ∧ L.length ≤ 64 ∧ ∀ x ∈ L, 0 ≤ x ∧ x ≤ 2147483647 := by
  unfold valid at h
  simp only [Bool.and_eq_true, decide_eq_true_eq, List.all_eq_true] at h
  exact ⟨h.1.1, h.1.2, h.2⟩

section
variable {H : Hp} {p : Sl} {L : List Int}

theorem c17 {Q : ByteArray → Int → Hp → Prop} (h : Iv H p L) (ht : TabH H) (hH : 0 < H.size) (q0 : valid L = false → Q ⟨#[]⟩ 120 H) (q1 : valid L = true → ∀ H', Kp No H H' → Q (bst (sh L)) 0 H') : F17 p H Q := by
  have hn := h.rd.n
  refine c31 h ⟨fun hh => q0 (by simpa using hh), fun hh => ?_⟩
  have hv : valid L = true := by simpa using hh
  obtain ⟨v0, v64, vall⟩ := valid_mem hv
  intro X hX
  suffices G : ∀ (d i : Nat) (s : Sl) (H' : Hp), i + d = L.length → Lst uF H' s (sh (L.take i)) → (sh (L.take i)).length ≤ 22 * i → (∀ b, s.at b → H.size ≤ b) → Kp No H H' → X s (i : Int) H' from
    G L.length 0 Sl.nil H (by omega) (Lst.nil _ _) (by simp [sh]) (fun b hb => by cases hb) (Kp.refl _ _)
  intro d
  induction d with
  | zero =>
    intro i s H' hi ls hlen hs k
    rw [List.take_of_length_le (by omega)] at ls hlen
    refine hX _ _ _ ⟨fun hh => absurd (of_decide_eq_true hh) (by omega), fun _ => ⟨sh L, ⟨?_, ls.n.symm⟩, q1 hv H' k⟩⟩
    have := ls.own.rds
    rwa [uF_flat] at this
  | succ d ih =>
    intro i s H' hi ls hlen hs k
    have gi : L[i]? = some (L[i]'(by omega)) := List.getElem?_eq_getElem (by omega)
    have hx := vall _ (List.getElem_mem (l := L) (n := i) (by omega))
    generalize hxe : L[i]'(by omega) = x at gi hx
    obtain ⟨a, hab, _, ca⟩ := (h.no k).rd.get gi
    have hw : IntKind.i64.wrap ((i : Int) + 1) = ((i + 1 : Nat) : Int) := by rw [wr (by omega) (by omega)]; omega
    have htk : L.take (i + 1) = L.take i ++ [x] := by rw [← hxe]; simp
    have hdl := dig_len x (by omega) (by omega)
    have sk := k.size
    -- the number is put behind
    have three : ∀ (s' : Sl) (H2 : Hp) (T : List Int), Lst uF H2 s' T → sh (L.take (i + 1)) = T ++ dig x → T.length ≤ 22 * i + 1 → (∀ b, s'.at b → H.size ≤ b) → Kp No H H2 → F17_3 Q X x p (p.n : Int) (i : Int) s' H2 := by
      intro s' H2 T ls' hT hTl hs' k2
      have sn := ls'.n
      refine ⟨rfl, H.size, T, hH, k2.size, ht.kp k2 hH id, ls', hs', by omega, by omega, by omega, fun r H3 lr hr k3 => ?_⟩
      rw [hw]
      refine ih (i + 1) r H3 (by omega) (by rw [hT]; exact lr) (by rw [hT, List.length_append]; omega) hr (k2.trans k3 fun b hb => .inr hb)
    refine hX _ _ _ ⟨fun _ => ⟨a, hab, by omega, by omega, x, ca.1, fun h1 => ?_, fun h1 => ?_⟩, fun hh => absurd (of_decide_eq_false hh) (by omega)⟩
    · have h1 := of_decide_eq_true h1
      intro H21 e21
      have k21 : Kp No H' H21 := (Kp.refl No _).push' e21
      have s21 := size_push' e21
      have bx : Row H21 H'.size 5 (uF.f 46) := Row.new' e21
      refine (ls.kp k21 fun _ _ => id).append1 bx rfl (by omega) (by omega) fun r H23 lr k23 hr => ?_
      refine three r H23 _ lr ?_ (by simp; omega) (fun b hb => ?_) ((k.trans k21 fun _ h => h.elim).trans k23 fun b hb => .inr (hs b hb))
      · rw [htk, sh_snoc, if_neg]
        intro e
        have := congrArg List.length e
        rw [List.length_take, List.length_nil] at this
        omega
      · rcases hr b hb with hb | hb
        · exact hs b hb
        · omega
    · have h1 := of_decide_eq_false h1
      obtain rfl : i = 0 := by omega
      refine three s H' (sh (L.take 0)) ls ?_ (by omega) hs k
      rw [htk, sh_snoc]
      simp

/-! ## Read -/
def rstep (v : List Int) (fresh : Bool) (b : Nat) : Option (List Int × Bool) :=
  if b = 46 ∧ fresh = false ∧ v.length < 64 then some (v ++ [0], true)
  else if b < 48 ∨ 57 < b ∨ (fresh = false ∧ lastOf v = 0) then none
  else if 2147483647 < lastOf v * 10 + ((b : Int) - 48) then none
  else some (v.dropLast ++ [lastOf v * 10 + ((b : Int) - 48)], false)
def rread : List Nat → List Int → Bool → Option (List Int)
  | [], v, fresh => if fresh then none else some v
  | b :: l, v, fresh => match rstep v fresh b with
    | none => none
    | some (v', f') => rread l v' f'
def bytes (s : ByteArray) : List Nat := s.data.toList.map (·.toNat)
theorem bytes_len (s : ByteArray) : (bytes s).length = s.size := by simp [bytes]
theorem get_byte {s : ByteArray} {p : Nat} (h : p < s.size) : (s.get! p).toNat = (bytes s)[p]'(by rw [bytes_len]; exact h) := by
  have : s.get! p = s.data[p]'(by simpa using h) := by
    have h' : p < s.data.size := by simpa using h
    show s.data[p]! = _
    rw [getElem!_pos s.data p h']
  rw [this]
  simp [bytes]
theorem decode_lo {s : ByteArray} {p b : Nat} (h : p < s.size) (hb : (s.get! p).toNat = b) (h1 : b < 128) : Utf8.decode s p = (b, 1) := by
  unfold Utf8.decode
  simp only [Nat.add_zero, hb]
  rw [if_pos h1]
theorem decode_hi {s : ByteArray} {p b : Nat} (h : p < s.size) (hb : (s.get! p).toNat = b) (h1 : ¬ b < 128) : 128 ≤ (Utf8.decode s p).1 := by
  unfold Utf8.decode
  simp only [Nat.add_zero, hb]
  rw [if_neg h1]
  have hr : 128 ≤ Utf8.runeError := by decide
  split
  · split
    · rename_i h2; exact h2
    · exact hr
  · split
    · split
      · rename_i h2
        simp only [Bool.and_eq_true, decide_eq_true_eq] at h2
        omega
      · exact hr
    · split
      · split
        · rename_i h2
          simp only [Bool.and_eq_true, decide_eq_true_eq] at h2
          omega
        · exact hr
      · exact hr

theorem iter_kp {S : Nat → Prop} {H H' : Hp} {r p : Nat} {s : ByteArray} (h : H[r]? = some (.stringIter s p)) (k : Kp S H H') (hs : ¬ S r) : H'[r]? = some (.stringIter s p) := (k.blk r (Array.getElem?_eq_some_iff.1 h).1 hs).trans h

theorem lastOf_snoc (l : List Int) (x : Int) : lastOf (l ++ [x]) = x := by simp [lastOf]

theorem c18 {s : ByteArray} {Q : Sl → Int → Hp → Prop} (q0 : rread (bytes s) [0] true = none → ∀ H', Kp No H H' → Q Sl.nil 120 H')
    (q1 : ∀ V, rread (bytes s) [0] true = some V → V.length ≤ 64 → ∀ r H', Lst iF H' r V → Kp No H H' → (∀ b, r.at b → H.size ≤ b) → Q r 0 H') : F18 s H Q := by
  intro H1 e1 H3 e3
  have s1 := size_push' e1
  have s3 := size_push' e3
  have k1 := (Kp.refl No H).push' e1
  have k3 : Kp No H1 H3 := (Kp.refl No _).push' e3
  have l1 : Lst iF H1 (Sl.mk (some ⟨H.size, 0, none⟩) 1 1) [0] := ⟨.inr ⟨H.size, [], rfl, Row.new' e1, rfl, rfl, Nat.le_refl _, show (1 : Nat) ≤ 9223372036854775807 by decide⟩⟩
  have i3 : H3[H1.size]? = some (.stringIter s 0) := by subst e3; simp
  intro X hX
  suffices G : ∀ (d pos : Nat) (v : Sl) (V : List Int) (fresh : Bool) (H' : Hp), pos + d = s.size → H'[H1.size]? = some (.stringIter s pos) → Lst iF H' v V → 0 < V.length → V.length ≤ 64 → (∀ x ∈ V, 0 ≤ x ∧ x ≤ 2147483647) → (∀ b, v.at b → H.size ≤ b) → rread ((bytes s).drop pos) V fresh = rread (bytes s) [0] true → Kp No H H' → X v fresh H' from
    G s.size 0 _ [0] true H3 (by omega) i3 (l1.kp k3 fun _ _ => id) (by decide) (by decide) (by simp) (fun b hb => by
      have : (some ⟨H.size, 0, none⟩ : Option Addr) = some ⟨b, 0, none⟩ := hb
      injection this with this
      injection this with this
      omega) rfl (k1.trans k3 fun _ h => h.elim)
  intro d
  induction d with
  | zero =>
    intro pos v V fresh H' hp hit lv v0 v64 vall hv hr k
    refine hX _ _ _ ⟨s, pos, ⟨_, rfl, hit⟩, fun hh => absurd (of_decide_eq_true hh) (by omega), fun _ => ⟨fun hf => ?_, fun hf => ?_⟩⟩
    · rw [List.drop_eq_nil_of_le (by rw [bytes_len]; omega)] at hr
      rw [hf] at hr
      exact q0 hr.symm H' k
    · rw [List.drop_eq_nil_of_le (by rw [bytes_len]; omega)] at hr
      rw [hf] at hr
      exact q1 V hr.symm v64 v H' lv k hv
  | succ d ih =>
    intro pos v V fresh H' hp hit lv v0 v64 vall hv hr k
    have hpl : pos < s.size := by omega
    have hbl : pos < (bytes s).length := by rw [bytes_len]; exact hpl
    have hdrop : (bytes s).drop pos = (bytes s)[pos] :: (bytes s).drop (pos + 1) := List.drop_eq_getElem_cons hbl
    have hgb := get_byte hpl
    generalize (bytes s)[pos] = b at hgb hdrop
    rw [hdrop] at hr
    have hr : (match rstep V fresh b with | none => none | some (v', f') => rread ((bytes s).drop (pos + 1)) v' f') = rread (bytes s) [0] true := hr
    have hvn := lv.n
    refine hX _ _ _ ⟨s, pos, ⟨_, rfl, hit⟩, fun _ H13 e13 => ?_, fun hh => absurd (of_decide_eq_false hh) (by omega)⟩
    have e13 : H13 = seto H' H1.size (.stringIter s (pos + (Utf8.decode s pos).2)) := e13
    have k13 : Kp (fun x => x = H1.size) H' H13 := (Kp.refl _ _).seto' e13 (.inl rfl)
    have hirow : ∀ {x t : Nat} {l : List Value}, Row H' x t l → x ≠ H1.size := fun {x t l} hrow hx => by
      subst hx
      have h2 : H'[H1.size]? = some (.cells l.toArray t (0, 0)) := hrow
      rw [hit] at h2
      cases h2
    have l13 : Lst iF H13 v V := lv.kp k13 fun x hx hh => (lv.row hx).elim fun _ hrow => hirow hrow hh
    have hs1 := k.size
    have kk13 : Kp No H H13 := k.trans k13 fun x hx => .inr (by omega)
    have hit13 : H13[H1.size]? = some (.stringIter s (pos + (Utf8.decode s pos).2)) := by
      subst e13
      have := (Array.getElem?_eq_some_iff.1 hit).1
      simp [seto, this]
    have hw : IntKind.i64.wrap ((v.n : Int) - 1) = ((V.length - 1 : Nat) : Int) := by rw [wr (by omega) (by omega)]; omega
    rw [hw]
    generalize hdec : Utf8.decode s pos = dc at hit13
    -- what is none of a digit or a point in its place
    have none_ : rstep V fresh b = none → Q Sl.nil 120 H13 := fun h0 => by
      rw [h0] at hr
      exact q0 hr.symm H13 kk13
    -- a digit
    have four : ∀ y37 : Bool, (y37 = true → rstep V fresh b = none) → (y37 = false → (b < 128 ∧ 48 ≤ b ∧ b ≤ 57 ∧ ¬ (fresh = false ∧ lastOf V = 0))) → F18_4 Q X v (dc.1 : Int) ((V.length - 1 : Nat) : Int) ⟨H1.size, 0, none⟩ y37 H13 := by
      intro y37 ht hf
      refine ⟨fun hh => none_ (ht hh), fun hh => ?_⟩
      obtain ⟨b1, b2, b3, b4⟩ := hf hh
      have hdc : dc = (b, 1) := hdec.symm.trans (decode_lo hpl hgb b1)
      subst hdc
      have gl := last_get v0
      have hla := vall _ (List.mem_of_getElem? gl)
      obtain ⟨a, hab, _, ca⟩ := l13.rd.get gl
      have hval : IntKind.i64.wrap (IntKind.i64.wrap (lastOf V * 10) + IntKind.i64.wrap (IntKind.i32.wrap (((b, 1) : Nat × Nat).1 - 48))) = lastOf V * 10 + ((b : Int) - 48) := by
        have e32 : IntKind.i32.wrap ((b : Int) - 48) = (b : Int) - 48 := by
          have e : IntKind.i32.wrap ((b : Int) - 48) = if ((b : Int) - 48) % 4294967296 ≥ 2147483648 then ((b : Int) - 48) % 4294967296 - 4294967296 else ((b : Int) - 48) % 4294967296 := by
            simp [IntKind.wrap, IntKind.bits, IntKind.signed]
          rw [e]
          split <;> omega
        show IntKind.i64.wrap (IntKind.i64.wrap (lastOf V * 10) + IntKind.i64.wrap (IntKind.i32.wrap ((b : Int) - 48))) = _
        rw [e32, wr (x := lastOf V * 10) (by omega) (by omega), wr (x := (b : Int) - 48) (by omega) (by omega), wr (by omega) (by omega)]
      obtain ⟨a2, ha2, hs2, hin2, hz1, hz2, hset⟩ := l13.set1 (i := V.length - 1) (c := 0) (x := lastOf V) (x' := lastOf V * 10 + ((b : Int) - 48)) (v := .int .i64 (lastOf V * 10 + ((b : Int) - 48))) gl (by decide) rfl
      have ea : ((a2.add ((V.length - 1) * 1)).add 0) = a2.add ((((V.length - 1 : Nat) : Int)).toNat * 1) := by rw [add_add]; rfl
      rw [ea] at hz1 hz2 hset
      refine ⟨a, hab, by omega, by omega, _, ca.1, a2, ha2, by omega, by omega, hz1, hz2, fun H59 e59 => ?_⟩
      rw [hval] at e59
      obtain ⟨l59, k59⟩ := hset H59 e59
      have eset : V.set (V.length - 1) (lastOf V * 10 + ((b : Int) - 48)) = V.dropLast ++ [lastOf V * 10 + ((b : Int) - 48)] := by
        rw [List.set_eq_take_append_cons_drop, if_pos (by omega), List.dropLast_eq_take, List.drop_eq_nil_of_le (by omega)]
      rw [eset] at l59
      have g59 : (V.dropLast ++ [lastOf V * 10 + ((b : Int) - 48)])[V.length - 1]? = some (lastOf V * 10 + ((b : Int) - 48)) := by
        rw [List.getElem?_append_right (by simp)]
        simp
      obtain ⟨a3, ha3, _, ca3⟩ := l59.rd.get g59
      have n59 := l59.n
      have kk59 : Kp No H H59 := kk13.trans k59 fun x hx => .inr (hv x hx)
      have hst : rstep V fresh b = if 2147483647 < lastOf V * 10 + ((b : Int) - 48) then none else some (V.dropLast ++ [lastOf V * 10 + ((b : Int) - 48)], false) := by
        unfold rstep
        rw [if_neg (fun h => by have := h.1; omega), if_neg (fun h => by
          rcases h with h | h | h
          · omega
          · omega
          · exact b4 h)]
      rw [hst] at hr
      refine ⟨a3, ha3, by omega, by omega, _, ca3.1, fun h1 => ?_, fun h1 => ?_⟩
      · rw [if_pos (of_decide_eq_true h1)] at hr
        exact q0 hr.symm H59 kk59
      · have h1 := of_decide_eq_false h1
        rw [if_neg h1] at hr
        refine ih (pos + 1) v _ false H59 (by omega) (iter_kp hit13 k59 fun hx => ?_) l59 (by simp) (by simp; omega) (fun x hx => ?_) hv hr kk59
        · obtain ⟨_, hrow⟩ := lv.row hx
          exact hirow hrow rfl
        · rcases List.mem_append.1 hx with hx | hx
          · exact vall x (List.dropLast_subset _ hx)
          · rw [List.mem_singleton] at hx
            rw [hx]; omega
    have three : ∀ y24 : Bool, (y24 = true ↔ (b = 46 ∧ fresh = false ∧ V.length < 64)) → F18_3 Q X v fresh (dc.1 : Int) ((V.length - 1 : Nat) : Int) ⟨H1.size, 0, none⟩ y24 H13 := by
      intro y24 hy
      refine ⟨fun hh => ?_, fun hh => ?_⟩
      · have hc := hy.1 hh
        have hdc : dc = (b, 1) := hdec.symm.trans (decode_lo hpl hgb (by omega))
        subst hdc
        intro H26 e26
        have k26 : Kp No H13 H26 := (Kp.refl No _).push' e26
        have s26 := size_push' e26
        have bx : Row H26 H13.size 3 (iF.f 0) := Row.new' e26
        have s13 := k13.size
        refine (l13.kp k26 fun _ _ => id).append1 bx rfl (by omega) (by omega) fun r H28 lr k28 hr28 => ?_
        have hst : rstep V fresh b = some (V ++ [0], true) := by unfold rstep; rw [if_pos hc]
        rw [hst] at hr
        refine ih (pos + 1) r _ true H28 (by omega) (iter_kp (iter_kp hit13 k26 id) k28 fun hx => ?_) lr (by simp) (by simp; omega) (fun x hx => ?_) (fun x hx => ?_) hr ((kk13.trans k26 fun _ h => h.elim).trans k28 fun x hx => .inr (hv x hx))
        · obtain ⟨_, hrow⟩ := lv.row hx
          exact hirow hrow rfl
        · rcases List.mem_append.1 hx with hx | hx
          · exact vall x hx
          · rw [List.mem_singleton] at hx
            rw [hx]; omega
        · rcases hr28 x hx with hx | hx
          · exact hv x hx
          · omega
      · have hc : ¬ (b = 46 ∧ fresh = false ∧ V.length < 64) := fun h => by rw [hy.2 h] at hh; cases hh
        have nd : (b < 48 ∨ 57 < b) → rstep V fresh b = none := fun h => by
          unfold rstep
          rw [if_neg hc, if_pos (by omega)]
        by_cases hb : b < 128
        · have hdc : dc = (b, 1) := hdec.symm.trans (decode_lo hpl hgb hb)
          subst hdc
          refine ⟨fun h1 => four true (fun _ => nd (.inl (by have := of_decide_eq_true h1; omega))) (fun h => (by cases h)), fun h1 => ⟨fun h2 => four true (fun _ => nd (.inr (by have := of_decide_eq_true h2; omega))) (fun h => (by cases h)), fun h2 => ⟨fun h3 => ?_, fun h3 => ?_⟩⟩⟩
          · have h1 := of_decide_eq_false h1
            have h2 := of_decide_eq_false h2
            have hf : fresh = false := by simpa using h3
            have gl := last_get v0
            obtain ⟨a, hab, _, ca⟩ := l13.rd.get gl
            refine ⟨a, hab, by omega, by omega, _, ca.1, four _ (fun h4 => ?_) fun h4 => ⟨hb, by omega, by omega, fun h5 => ?_⟩⟩
            · unfold rstep
              rw [if_neg hc, if_pos (.inr (.inr ⟨hf, of_decide_eq_true h4⟩))]
            · exact absurd h5.2 (of_decide_eq_false h4)
          · have h1 := of_decide_eq_false h1
            have h2 := of_decide_eq_false h2
            have hf : fresh = true := by simpa using h3
            exact four false (fun h => (by cases h)) fun _ => ⟨hb, by omega, by omega, fun h5 => by rw [hf] at h5; cases h5.1⟩
        · have hdc := decode_hi hpl hgb hb
          rw [hdec] at hdc
          refine ⟨fun h1 => absurd (of_decide_eq_true h1) (by omega), fun h1 => ⟨fun h2 => four true (fun _ => nd (.inr (by omega))) (fun h => (by cases h)), fun h2 => absurd (of_decide_eq_false h2) (by omega)⟩⟩
    have key : (dc.1 : Int) = 46 ↔ b = 46 := by
      by_cases hb : b < 128
      · have hdc : dc = (b, 1) := hdec.symm.trans (decode_lo hpl hgb hb)
        rw [hdc]
        show (b : Int) = 46 ↔ _
        omega
      · have hdc := decode_hi hpl hgb hb
        rw [hdec] at hdc
        omega
    refine ⟨fun h1 => ⟨fun h2 => three _ ⟨fun h3 => ⟨key.1 (of_decide_eq_true h1), by simpa using h2, by have := of_decide_eq_true h3; omega⟩, fun h3 => decide_eq_true (by omega)⟩, fun h2 => three false ⟨fun h => (by cases h), fun h3 => ?_⟩⟩, fun h1 => three false ⟨fun h => (by cases h), fun h3 => ?_⟩⟩
    · rw [h3.2.1] at h2; cases h2
    · exact absurd (key.2 h3.1) (of_decide_eq_false h1)
end
end Go.Hw
