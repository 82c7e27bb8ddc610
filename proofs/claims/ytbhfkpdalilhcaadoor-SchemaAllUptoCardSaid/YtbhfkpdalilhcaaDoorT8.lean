/- A declaration read. Own work of this session. -/
import Derived.Test.YtbhfkpdalilhcaaDoorT7
set_option linter.unusedVariables false
namespace Go.Hw
open Go

/-- The kinds' words lie where their variable is. -/
def kinds4 : List ByteArray := [E, S_INT, S_STR, S_BOOL]
def KindsH (H : Hp) : Prop := cells H ⟨0, 0, none⟩ [.string E, .string S_INT, .string S_STR, .string S_BOOL] 0
theorem KindsH.size {H : Hp} (h : KindsH H) : 0 < H.size := cells_block (a := ⟨0, 0, none⟩) h (by decide)
theorem KindsH.kp {S : Nat → Prop} {H H' : Hp} (h : KindsH H) (k : Kp S H H') (hs : ¬ S 0) : KindsH H' := k.cells (a := ⟨0, 0, none⟩) h.size hs h
theorem KindsH.no {H H' : Hp} (h : KindsH H) (k : Kp No H H') : KindsH H' := h.kp k id
/-- Both tables. -/
structure Tabs (H : Hp) : Prop where
  w : WordsH H
  k : KindsH H
theorem Tabs.size {H : Hp} (h : Tabs H) : 1 < H.size := h.w.size
theorem Tabs.kp {S : Nat → Prop} {H H' : Hp} (h : Tabs H) (k : Kp S H H') (h0 : ¬ S 0) (h1 : ¬ S 1) : Tabs H' := ⟨h.w.kp k h1, h.k.kp k h0⟩
theorem Tabs.no {H H' : Hp} (h : Tabs H) (k : Kp No H H') : Tabs H' := h.kp k id id

/-! ## what a declaration says, over lists of bytes -/
def tok (r : List Nat) : ByteArray := ofBytes (tl r)
def kindT (t : ByteArray) : Int := if seq t S_INT then 1 else if seq t S_STR then 2 else if seq t S_BOOL then 3 else 0
def attrP (r : List Nat) (A : List (ByteArray × Int)) : Int × List Nat × List (ByteArray × Int) :=
  if wordN r = false then (24, r, A) else if A.length = 16 then (2, r, A) else if (nm (tok r) && !(seq (tok r) S_time)) = false then (20, r, A) else if (A.any fun a => seq a.1 (tok r)) = true then (5, r, A) else
    if kindT (tok (nxt r)) = 0 then (24, nxt r, A) else (0, nxt (nxt r), A ++ [(tok r, kindT (tok (nxt r)))])
def loopP : Nat → List Nat → List (ByteArray × Int) → Int × List Nat × List (ByteArray × Int)
  | 0, r, A => (24, r, A)
  | n + 1, r, A =>
    if tl r = [41] then (if nxt r = [] then (0, nxt r, A) else (24, nxt r, A))
    else if A = [] then (if (attrP r A).1 = 0 then loopP n (attrP r A).2.1 (attrP r A).2.2 else attrP r A)
    else if tl r = [44] then (if (attrP (nxt r) A).1 = 0 then loopP n (attrP (nxt r) A).2.1 (attrP (nxt r) A).2.2 else attrP (nxt r) A)
    else (24, r, A)
/-- What is wrong, from where on; the name and the attributes. -/
def declP (L : List Nat) : Int × List Nat × ByteArray × List (ByteArray × Int) :=
  let r0 := skipB L
  if tl r0 ≠ [84, 89, 80, 69] then (24, r0, E, [])
  else if wordN (nxt r0) = false then (24, nxt r0, E, [])
  else if nm (tok (nxt r0)) = false then (20, nxt r0, E, [])
  else if tl (nxt (nxt r0)) ≠ [40] then (24, nxt (nxt r0), tok (nxt r0), [])
  else let q := loopP 17 (nxt (nxt (nxt r0))) []
    (q.1, q.2.1, tok (nxt r0), q.2.2)

theorem tl_lt {s : ByteArray} {r : List Nat} (h : r <:+ bytes s) : (tl r).all (fun b => decide (b < 256)) = true := by
  rw [List.all_eq_true]
  intro b hb
  exact decide_eq_true (bytes_lt (h.subset (List.mem_of_mem_take hb)))
theorem bytes_tok {s : ByteArray} {r : List Nat} (h : r <:+ bytes s) : bytes (tok r) = tl r := bytes_of (tl_lt h)
theorem Rdr.row {H : Hp} {rb : Nat} {s : ByteArray} {r : List Nat} (h : Rdr H rb s r) : Row H rb 89 [.string s, .int .i64 ((s.size - r.length : Nat) : Int), .int .i64 ((s.size - r.length + tokLen r : Nat) : Int), .string (tok r)] := by
  obtain ⟨h1, tx, h2, h3⟩ := h
  have : tx = tok r := bytes_inj (by rw [h2, bytes_tok h1])
  rw [← this]; exact h3

theorem kindAt {i : Nat} (h : i = 1 ∨ i = 2 ∨ i = 3) (w : ByteArray) (hw : kinds4[i]? = some w) : (i : Int) = if 1 < i + 1 ∧ seq w S_INT then 1 else if 2 < i + 1 ∧ seq w S_STR then 2 else if 3 < i + 1 ∧ seq w S_BOOL then 3 else 0 := by
  have n1 : seq S_STR S_INT = false := seq_false (by decide)
  have n2 : seq S_BOOL S_INT = false := seq_false (by decide)
  have n3 : seq S_BOOL S_STR = false := seq_false (by decide)
  rcases h with rfl | rfl | rfl
  · obtain rfl : S_INT = w := Option.some.inj hw
    simp [seq_refl]
  · obtain rfl : S_STR = w := Option.some.inj hw
    simp [seq_refl, n1]
  · obtain rfl : S_BOOL = w := Option.some.inj hw
    simp [seq_refl, n2, n3]
/-- A declaration being read: the reader in block rb, the type in block tb, all of it from B on. -/
structure PS (B : Nat) (H : Hp) (rb tb : Nat) (s : ByteArray) (r : List Nat) (nmv : ByteArray) (sl : Sl) (A : List (ByteArray × Int)) : Prop where
  rd : Rdr H rb s r
  t : Row H tb 27 [.string nmv, Sl.v sl]
  l : Lst aF H sl A
  b1 : B ≤ rb
  b2 : B ≤ tb
  b3 : ∀ b, sl.at b → B ≤ b
  b4 : B ≤ H.size
  tabs : Tabs H
  b5 : 1 < B
abbrev Fr (B : Nat) : Nat → Prop := fun x => B ≤ x
section
variable {B : Nat} {H : Hp} {rb tb : Nat} {s nmv : ByteArray} {r : List Nat} {sl : Sl} {A : List (ByteArray × Int)}
theorem PS.adv {H' : Hp} {r' : List Nat} (h : PS B H rb tb s r nmv sl A) (hr : Rdr H' rb s r') (k : Kp (fun x => x = rb) H H') : PS B H' rb tb s r' nmv sl A ∧ Kp (Fr B) H H' := by
  have hb1 := h.b1
  have hb5 := h.b5
  have hrow := h.rd.row
  refine ⟨⟨hr, k.row h.t fun e => h.t.ne_type hrow (by decide) e, h.l.kp k fun b hb e => ?_, h.b1, h.b2, h.b3, Nat.le_trans h.b4 k.size, h.tabs.kp k (by omega) (by omega), h.b5⟩, k.mono fun b _ hb => by show B ≤ b; omega⟩
  subst e
  exact h.l.ne hrow (by decide) hb
theorem PS.no {H' : Hp} (h : PS B H rb tb s r nmv sl A) (k : Kp No H H') : PS B H' rb tb s r nmv sl A :=
  ⟨h.rd.no k, k.row h.t id, h.l.kp k fun _ _ => id, h.b1, h.b2, h.b3, Nat.le_trans h.b4 k.size, h.tabs.no k, h.b5⟩
theorem Kp.fr {H H' : Hp} (k : Kp No H H') : Kp (Fr B) H H' := k.mono fun _ _ h => h.elim
theorem Kp.frt {H H' H'' : Hp} (h : Kp (Fr B) H H') (k : Kp (Fr B) H' H'') : Kp (Fr B) H H'' := h.trans k fun b hb => .inl hb

theorem c63 {Q : Int → Hp → Prop} (h : PS B H rb tb s r nmv sl A) (hs : s.size ≤ 4096) (hA : A.length ≤ 16)
    (hQ : ∀ sl' H', PS B H' rb tb s (attrP r A).2.1 nmv sl' (attrP r A).2.2 → Kp (Fr B) H H' → Q (attrP r A).1 H') : F63 (some ⟨rb, 0, none⟩) (some ⟨tb, 0, none⟩) H Q := by
  have hln := h.l.n
  unfold attrP at hQ
  refine c62 h.rd ⟨fun hw => ?_, fun hw => ⟨_, rfl, sl, h.t.cell_of (i := 1) rfl, fun h16 => ?_, fun h16 => ⟨_, rfl, tok r, h.rd.row.cell_of (i := 3) rfl, c52 h.tabs.w ⟨fun hn => ?_, fun hn => ⟨_, rfl, sl, h.t.cell_of (i := 1) rfl, _, rfl, tok r, h.rd.row.cell_of (i := 3) rfl, c54 h.l.rd (by omega) fun H26 k26 => ⟨fun hd => ?_, fun hd => ?_⟩⟩⟩⟩⟩⟩
  · rw [if_pos (notT hw)] at hQ
    exact hQ sl H h (Kp.refl _ _)
  · rw [if_neg (by rw [notF hw]; decide), if_pos (by have := of_decide_eq_true h16; omega)] at hQ
    exact hQ sl H h (Kp.refl _ _)
  · rw [if_neg (by rw [notF hw]; decide), if_neg (by have := of_decide_eq_false h16; omega), if_pos (notT hn)] at hQ
    exact hQ sl H h (Kp.refl _ _)
  · rw [if_neg (by rw [notF hw]; decide), if_neg (by have := of_decide_eq_false h16; omega), if_neg (by rw [notF hn]; decide), if_pos hd] at hQ
    exact hQ sl H26 (h.no k26) k26.fr
  rw [if_neg (by rw [notF hw]; decide), if_neg (by have := of_decide_eq_false h16; omega), if_neg (by rw [notF hn]; decide), if_neg (by rw [hd]; decide)] at hQ
  have h26 := h.no k26
  have s26 := k26.size
  have hb4 := h26.b4
  have hb5 := h.b5
  have hA15 : A.length < 16 := by have := of_decide_eq_false h16; omega
  refine ⟨_, rfl, tok r, h26.rd.row.cell_of (i := 3) rfl, fun H34 e34 => ?_⟩
  have k34 : Kp No H26 H34 := (Kp.refl No _).push' e34
  have r34 := Row.new' e34
  refine ⟨r34.mayw (by decide), fun H36 e36 => ?_⟩
  have x36 : Row H36 H26.size 38 [.string (tok r), .int .i64 0] := r34.fill' e36 rfl
  have k36 : Kp No H26 H36 := k34.sets' e36 (.inr (Nat.le_refl _))
  have h36 := h26.no k36
  refine c60n h36.rd hs fun H39 rd39 k39 => ?_
  obtain ⟨h39, f39⟩ := h36.adv rd39 k39
  have x39 := k39.row x36 fun e => by have := h26.rd.lt; omega
  have fr39 : Kp (Fr B) H H39 := (k26.fr.frt k36.fr).frt f39
  refine ⟨E, S_INT, S_STR, S_BOOL, h39.tabs.k, ?_⟩
  -- the kind
  intro X hX
  suffices G : ∀ (d i : Nat) (k : Int) (H' : Hp), i + d = 4 → k = (if 1 < i ∧ seq (tok (nxt r)) S_INT then 1 else if 2 < i ∧ seq (tok (nxt r)) S_STR then 2 else if 3 < i ∧ seq (tok (nxt r)) S_BOOL then 3 else 0) → PS B H' rb tb s (nxt r) nmv sl A → Row H' H26.size 38 [.string (tok r), .int .i64 k] → Kp (Fr B) H H' → X (i : Int) H' from
    G 4 0 0 H39 (by omega) (by simp) h39 x39 fr39
  have hsl26 : ∀ b, sl.at b → b < H26.size := fun b hb => h26.l.lt hb
  have htb26 := h26.t.lt
  have hrb26 := h26.rd.lt
  intro d
  induction d with
  | zero =>
    intro i k H' hi hk h' x' f'
    obtain rfl : i = 4 := by omega
    have hk : k = kindT (tok (nxt r)) := by
      rw [hk]
      unfold kindT
      simp only [show 1 < 4 from by decide, show 2 < 4 from by decide, show 3 < 4 from by decide, true_and]
    refine hX _ _ ⟨fun h => absurd (of_decide_eq_true h) (by omega), fun _ => ⟨k, x'.cell_of (i := 1) rfl, fun h0 => ?_, fun h0 => ?_⟩⟩
    · rw [if_pos (by rw [← hk]; exact of_decide_eq_true h0)] at hQ
      exact hQ sl H' h' f'
    rw [if_neg (by rw [← hk]; exact of_decide_eq_false h0), ← hk] at hQ
    refine c60n h'.rd hs fun H97 rd97 k97 => ?_
    obtain ⟨h97, f97⟩ := h'.adv rd97 k97
    have x97 := k97.row x' (by omega)
    refine ⟨_, rfl, sl, h97.t.cell_of (i := 1) rfl, tok r, k, x97.all, fun H106 e106 => ?_⟩
    have k106 : Kp No H97 H106 := (Kp.refl No _).push' e106
    have h106 := h97.no k106
    have y106 : Row H106 H97.size 38 (aF.f (tok r, k)) := Row.new' e106
    have s106 := size_push' e106
    refine ⟨h106.t.cell_of (i := 1) rfl, h106.l.append1 y106 rfl (by omega) (by omega) fun r111 H109 l109 k109 g109 => ?_⟩
    have nt : ¬ sl.at tb := fun hh => h106.l.ne h106.t (by decide) hh
    have t109 := k109.row h106.t nt
    refine ⟨_, rfl, t109.some (i := 1) (by simp), t109.frz 1, fun H114 e114 => ?_⟩
    have t114 : Row H114 tb 27 [.string nmv, Sl.v r111] := t109.set' e114
    have k114 : Kp (fun x => x = tb) H109 H114 := (Kp.refl _ _).set' e114 (.inl rfl)
    have s97 := h97.b4
    have g3 : ∀ b, r111.at b → B ≤ b := fun b hb => by
      rcases g109 b hb with hb | hb
      · exact h.b3 b hb
      · omega
    have rd109 := h106.rd.kp k109 fun hh => h106.l.ne h106.rd.row (by decide) hh
    have hb2 := h.b2
    refine hQ r111 H114 ⟨rd109.kp k114 (fun e => t109.ne_type rd109.row (by decide) e.symm), t114, l109.kp k114 fun b hb e => by subst e; exact l109.ne t109 (by decide) hb, h.b1, h.b2, g3, by have := k109.size; have := k114.size; omega, (h106.tabs.kp k109 (fun hh => by have := h.b3 0 hh; omega) (fun hh => by have := h.b3 1 hh; omega)).kp k114 (by omega) (by omega), h.b5⟩ ?_
    refine ((f'.frt f97).frt k106.fr).frt ((k109.mono fun b _ hb => h.b3 b hb).frt (k114.mono fun b _ hb => by subst hb; exact hb2))
  | succ d ih =>
    intro i k H' hi hk h' x' f'
    have hi4 : i < 4 := by omega
    have hg : kinds4[((i : Int)).toNat]? = some (kinds4[i]'hi4) := by
      rw [show ((i : Int)).toNat = i from by omega]; exact List.getElem?_eq_getElem hi4
    refine hX _ _ ⟨fun _ => ⟨by omega, by omega, kinds4[i]'hi4, hg, c53 ⟨fun hp => ⟨_, rfl, tok (nxt r), h'.rd.row.cell_of (i := 3) rfl, ?_⟩, fun hp => ?_⟩⟩, fun h => absurd (of_decide_eq_false h) (by omega)⟩
    · have hp := of_decide_eq_true hp
      have hi3 : i = 1 ∨ i = 2 ∨ i = 3 := by omega
      refine ⟨fun he => ⟨x'.some (i := 1) (by simp), x'.frz 1, fun H90 e90 => ?_⟩, fun he => ?_⟩
      · have x90 : Row H90 H26.size 38 [.string (tok r), .int .i64 (i : Int)] := x'.set' e90
        have k90 : Kp (fun x => x = H26.size) H' H90 := (Kp.refl _ _).set' e90 (.inl rfl)
        unfold F63_3
        rw [wr (by omega) (by omega)]
        have h90 : PS B H90 rb tb s (nxt r) nmv sl A := ⟨h'.rd.kp k90 (by omega), k90.row h'.t (by omega), h'.l.kp k90 fun b hb e => by have := hsl26 b hb; omega, h.b1, h.b2, h.b3, Nat.le_trans h'.b4 k90.size, h'.tabs.kp k90 (by omega) (by omega), h.b5⟩
        refine ih (i + 1) (i : Int) H90 (by omega) ?_ h90 x90 (f'.frt (k90.mono fun b _ hb => by subst hb; exact hb4))
        have he := seq_iff.1 he
        rw [he]
        exact kindAt hi3 _ (List.getElem?_eq_getElem hi4)
      · unfold F63_3
        rw [wr (by omega) (by omega)]
        refine ih (i + 1) k H' (by omega) ?_ h' x' f'
        rw [hk]
        rcases hi3 with rfl | rfl | rfl
        · have he : seq (tok (nxt r)) S_INT = false := he
          simp [he]
        · have he : seq (tok (nxt r)) S_STR = false := he
          simp [he]
        · have he : seq (tok (nxt r)) S_BOOL = false := he
          simp [he]
    · have hp := of_decide_eq_false hp
      obtain rfl : i = 0 := by omega
      refine ⟨fun h => (by cases h), fun _ => ?_⟩
      unfold F63_3
      rw [wr (by omega) (by omega)]
      refine ih 1 k H' (by omega) ?_ h' x' f'
      rw [hk]
      simp

theorem c31_2 {Q : Int → Hp → Prop} (h : PS B H rb tb s r nmv sl A) (hs : s.size ≤ 4096)
    (hQ : ∀ H', PS B H' rb tb s (nxt r) nmv sl A → Kp (Fr B) H H' → Q (if nxt r = [] then 0 else 24) H') : F31_2 Q (some ⟨rb, 0, none⟩) H := by
  refine c60n h.rd hs fun H64 rd64 k64 => ?_
  obtain ⟨h64, f64⟩ := h.adv rd64 k64
  refine c64 h64.rd ⟨fun hh => ?_, fun hh => ?_⟩
  · have := hQ H64 h64 f64
    rw [if_neg (of_decide_eq_false (notT hh))] at this
    exact this
  · have := hQ H64 h64 f64
    rw [if_pos (of_decide_eq_true (notF hh))] at this
    exact this

theorem bytes_S1 : bytes S___ = [41] := rfl
theorem bytes_S2 : bytes S____ = [44] := rfl
theorem bytes_S3 : bytes S__ = [40] := rfl
theorem bytes_S4 : bytes S_TYPE = [84, 89, 80, 69] := rfl

theorem c31_L3 {Q : Int → Hp → Prop} {H0 : Hp} (hs : s.size ≤ 4096) : ∀ (n : Nat) (r : List Nat) (sl : Sl) (A : List (ByteArray × Int)) (H : Hp), n + A.length = 17 → A.length ≤ 16 → PS B H rb tb s r nmv sl A → Kp (Fr B) H0 H →
    (∀ sl' H', PS B H' rb tb s (loopP n r A).2.1 nmv sl' (loopP n r A).2.2 → Kp (Fr B) H0 H' → Q (loopP n r A).1 H') → F31_L3 Q (some ⟨rb, 0, none⟩) (some ⟨tb, 0, none⟩) H := by
  intro n r sl A H hn hA h hf hQ X hX
  induction n generalizing r sl A H with
  | zero => omega
  | succ n ih =>
    have hln := h.l.n
    unfold loopP at hQ
    refine hX _ ⟨_, rfl, tok r, h.rd.row.cell_of (i := 3) rfl, fun h1 => ?_, fun h1 => ?_⟩
    · have h1 := notT h1
      rw [seq_tl (bytes_tok h.rd.1), bytes_S1] at h1
      rw [if_neg (of_decide_eq_false h1)] at hQ
      -- an attribute
      have four : ∀ (r2 : List Nat) (H2 : Hp), PS B H2 rb tb s r2 nmv sl A → Kp (Fr B) H0 H2 → (∀ sl' H', PS B H' rb tb s (if (attrP r2 A).1 = 0 then loopP n (attrP r2 A).2.1 (attrP r2 A).2.2 else attrP r2 A).2.1 nmv sl' (if (attrP r2 A).1 = 0 then loopP n (attrP r2 A).2.1 (attrP r2 A).2.2 else attrP r2 A).2.2 → Kp (Fr B) H0 H' → Q (if (attrP r2 A).1 = 0 then loopP n (attrP r2 A).2.1 (attrP r2 A).2.2 else attrP r2 A).1 H') →
          F31_4 Q X (some ⟨rb, 0, none⟩) (some ⟨tb, 0, none⟩) false H2 := fun r2 H2 h2 f2 hQ2 => by
        refine ⟨fun h => (by cases h), fun _ => c63 h2 hs hA fun sl3 H3 h3 f3 => ⟨fun he => ?_, fun he => ?_⟩⟩
        · rw [if_neg (of_decide_eq_true he)] at hQ2
          exact hQ2 sl3 H3 h3 (f2.frt f3)
        · have he : (attrP r2 A).1 = 0 := by
            by_cases e : (attrP r2 A).1 = 0
            · exact e
            · exact absurd e (of_decide_eq_false he)
          rw [if_pos he] at hQ2
          have hlen : (attrP r2 A).2.2.length = A.length + 1 ∧ A.length ≠ 16 := by
            unfold attrP at he ⊢
            split at he
            · cases he
            · split at he
              · cases he
              · rename_i h16
                split at he
                · cases he
                · split at he
                  · cases he
                  · split at he
                    · cases he
                    · rename_i a b c d
                      rw [if_neg (by assumption), if_neg (by assumption), if_neg (by assumption), if_neg (by assumption), if_neg (by assumption)]
                      exact ⟨by simp, h16⟩
          exact ih _ sl3 _ H3 (by omega) (by omega) h3 (f2.frt f3) hQ2
      refine ⟨_, rfl, sl, h.t.cell_of (i := 1) rfl, fun h2 => ?_, fun h2 => ?_⟩
      · have hA0 : A ≠ [] := fun e => by
          subst e
          have := of_decide_eq_true h2
          simp at hln
          omega
        rw [if_neg hA0] at hQ
        refine c61 h.rd hs (fun hc => ?_) fun hc H2 rd2 k2 => ?_
        · rw [bytes_S2] at hc
          rw [if_neg hc] at hQ
          exact ⟨fun _ => hQ sl H h hf, fun h => (by cases h)⟩
        · rw [bytes_S2] at hc
          rw [if_pos hc] at hQ
          obtain ⟨h2', f2'⟩ := h.adv rd2 k2
          exact four _ H2 h2' (hf.frt f2') hQ
      · have hA0 : A = [] := List.eq_nil_of_length_eq_zero (by have := of_decide_eq_false h2; omega)
        rw [if_pos hA0] at hQ
        exact four r H h hf hQ
    · have h1 := notF h1
      rw [seq_tl (bytes_tok h.rd.1), bytes_S1] at h1
      rw [if_pos (of_decide_eq_true h1)] at hQ
      refine c31_2 h hs fun H2 h2 f2 => ?_
      by_cases he : nxt r = []
      · rw [if_pos he] at hQ ⊢
        exact hQ sl H2 h2 (hf.frt f2)
      · rw [if_neg he] at hQ ⊢
        exact hQ sl H2 h2 (hf.frt f2)

/-- The reader as it is made. -/
theorem c31 {Q : Int → Hp → Prop} (hr : Row H rb 89 [.string s, .int .i64 0, .int .i64 0, .string E]) (ht : Row H tb 27 [.string E, Sl.v Sl.nil]) (hs : s.size ≤ 4096) (htab : Tabs H) (b1 : B ≤ rb) (b2 : B ≤ tb) (b4 : B ≤ H.size) (b5 : 1 < B)
    (hQ : ∀ sl' H', PS B H' rb tb s (declP (bytes s)).2.1 (declP (bytes s)).2.2.1 sl' (declP (bytes s)).2.2.2 → Kp (Fr B) H H' → Q (declP (bytes s)).1 H') : F31 (some ⟨rb, 0, none⟩) (some ⟨tb, 0, none⟩) H Q := by
  refine c60 (n := 0) hr (Nat.zero_le _) hs fun H1 rd1 k1 => ?_
  rw [List.drop_zero] at rd1
  have hne : rb ≠ tb := hr.ne_type ht (by decide)
  have h1 : PS B H1 rb tb s (skipB (bytes s)) E Sl.nil [] := ⟨rd1, k1.row ht (Ne.symm hne), Lst.nil _ _, b1, b2, fun b hb => (by cases hb), Nat.le_trans b4 k1.size, htab.kp k1 (by omega) (by omega), b5⟩
  have f1 : Kp (Fr B) H H1 := k1.mono fun b _ hb => by subst hb; exact b1
  unfold declP at hQ
  simp only [] at hQ
  generalize skipB (bytes s) = r0 at h1 hQ
  refine c61 h1.rd hs (fun hc => ?_) fun hc H5 rd5 k5 => ?_
  · rw [bytes_S4] at hc
    rw [if_pos hc] at hQ
    exact ⟨fun _ => ⟨fun _ => hQ _ H1 h1 f1, fun h => (by cases h)⟩, fun h => (by cases h)⟩
  rw [bytes_S4] at hc
  rw [if_neg (by simpa using hc)] at hQ
  obtain ⟨h5, f5⟩ := h1.adv rd5 k5
  have ff5 := f1.frt f5
  generalize nxt r0 = r1 at h5 hQ rd5
  refine ⟨fun h => (by cases h), fun _ => c62 h5.rd ⟨fun hw => ?_, fun hw => ?_⟩⟩
  · rw [if_pos (notT hw)] at hQ
    exact hQ _ H5 h5 ff5
  rw [if_neg (by rw [notF hw]; decide)] at hQ
  refine ⟨_, rfl, tok r1, h5.rd.row.cell_of (i := 3) rfl, c17 h5.tabs.w ⟨fun hn => ?_, fun hn => ?_⟩⟩
  · rw [if_pos (notT hn)] at hQ
    exact hQ _ H5 h5 ff5
  rw [if_neg (by rw [notF hn]; decide)] at hQ
  refine ⟨_, rfl, tok r1, h5.rd.row.cell_of (i := 3) rfl, _, rfl, h5.t.some (i := 0) (by simp), h5.t.frz 0, fun H29 e29 => ?_⟩
  have t29 : Row H29 tb 27 [.string (tok r1), Sl.v Sl.nil] := h5.t.set' e29
  have k29 : Kp (fun x => x = tb) H5 H29 := (Kp.refl _ _).set' e29 (.inl rfl)
  have h29 : PS B H29 rb tb s r1 (tok r1) Sl.nil [] := ⟨h5.rd.kp k29 hne, t29, Lst.nil _ _, b1, b2, fun b hb => (by cases hb), Nat.le_trans h5.b4 k29.size, h5.tabs.kp k29 (by omega) (by omega), b5⟩
  have ff29 := ff5.frt (k29.mono fun b _ hb => by subst hb; exact b2)
  refine c60n h29.rd hs fun H33 rd33 k33 => ?_
  obtain ⟨h33, f33⟩ := h29.adv rd33 k33
  have ff33 := ff29.frt f33
  refine c61 h33.rd hs (fun hc => ?_) fun hc H35 rd35 k35 => ?_
  · rw [bytes_S3] at hc
    rw [if_pos hc] at hQ
    exact ⟨fun _ => hQ _ H33 h33 ff33, fun h => (by cases h)⟩
  rw [bytes_S3] at hc
  rw [if_neg (by simpa using hc)] at hQ
  obtain ⟨h35, f35⟩ := h33.adv rd35 k35
  exact ⟨fun h => (by cases h), fun _ => c31_L3 hs 17 _ Sl.nil [] H35 rfl (Nat.zero_le _) h35 (ff33.frt f35) hQ⟩

/-- A declaration is read. -/
theorem c14 {Q : ByteArray → Sl → Int → Int → Hp → Prop} (htab : Tabs H)
    (q2 : 4096 < s.size → ∀ H', Kp No H H' → Q E Sl.nil 0 2 H')
    (q1 : s.size ≤ 4096 → (declP (bytes s)).1 ≠ 0 → ∀ H', Kp No H H' → Q E Sl.nil ((s.size - (declP (bytes s)).2.1.length : Nat) : Int) (declP (bytes s)).1 H')
    (q0 : s.size ≤ 4096 → (declP (bytes s)).1 = 0 → ∀ sl H', Lst aF H' sl (declP (bytes s)).2.2.2 → (∀ b, sl.at b → H.size ≤ b) → Kp No H H' → Q (declP (bytes s)).2.2.1 sl 0 0 H') : F14 s H Q := by
  have hsz := htab.size
  intro H1 e1
  have k1 : Kp No H H1 := (Kp.refl No H).push' e1
  have s1 := size_push' e1
  have z1 : Row H1 H.size 27 [.string E, Sl.v Sl.nil] := Row.new' e1
  refine ⟨fun hl => ⟨z1.mayw (by decide), fun H4 e4 => ?_⟩, fun hl => fun H10 e10 => fun H12 e12 => ?_⟩
  · have z4 : Row H4 H.size 27 [.string E, Sl.v Sl.nil] := z1.fill' e4 rfl
    exact ⟨_, _, z4.all, q2 (by have := of_decide_eq_true hl; omega) H4 (k1.sets' e4 (.inr (Nat.le_refl _)))⟩
  have hl : s.size ≤ 4096 := by have := of_decide_eq_false hl; omega
  have k10 : Kp No H1 H10 := (Kp.refl No _).push' e10
  have s10 := size_push' e10
  have k12 : Kp No H10 H12 := (Kp.refl No _).push' e12
  have s12 := size_push' e12
  have r12 : Row H12 H1.size 89 [.string s, .int .i64 0, .int .i64 0, .string E] := k12.row (Row.new' e10) id
  have t12 : Row H12 H10.size 27 [.string E, Sl.v Sl.nil] := Row.new' e12
  have z12 := (k10.trans k12 fun _ h => h.elim).row z1 id
  have kk12 : Kp No H H12 := (k1.trans k10 fun _ h => h.elim).trans k12 fun _ h => h.elim
  refine c31 (B := H1.size) r12 t12 hl (htab.no kk12) (Nat.le_refl _) (by omega) (by omega) (by omega) fun sl H14 h14 f14 => ?_
  have z14 := f14.row z12 (by show ¬ H1.size ≤ H.size; omega)
  have kk14 : Kp No H H14 := kk12.trans f14 fun b hb => .inr (by have : H1.size ≤ b := hb; omega)
  refine ⟨fun he => ?_, fun he => ?_⟩
  · refine ⟨_, h14.rd.row.cell_of (i := 1) rfl, z14.mayw (by decide), fun H20 e20 => ?_⟩
    have z20 : Row H20 H.size 27 [.string E, Sl.v Sl.nil] := z14.fill' e20 rfl
    have k20 : Kp (fun x => x = H.size) H14 H20 := (Kp.refl _ _).sets' e20 (.inl rfl)
    have hne : H1.size ≠ H.size := by omega
    exact ⟨(k20.row h14.rd.row hne).cell_of (i := 1) rfl, _, _, z20.all, q1 hl (of_decide_eq_true he) H20 (kk14.trans k20 fun b hb => .inr (by omega))⟩
  · have he : (declP (bytes s)).1 = 0 := by
      by_cases e : (declP (bytes s)).1 = 0
      · exact e
      · exact absurd e (of_decide_eq_false he)
    refine ⟨_, _, h14.t.all, z14.mayw (by simp), fun H30 e30 => ?_⟩
    have z30 : Row H30 H.size 27 [.string (declP (bytes s)).2.2.1, Sl.v sl] := z14.fill' e30 rfl
    have k30 : Kp (fun x => x = H.size) H14 H30 := (Kp.refl _ _).sets' e30 (.inl rfl)
    have hb3 := h14.b3
    exact ⟨_, _, z30.all, q0 hl he sl H30 (h14.l.kp k30 fun b hb e => by have := hb3 b hb; omega) (fun b hb => by have := hb3 b hb; omega) (kk14.trans k30 fun b hb => .inr (by omega))⟩
end
end Go.Hw
