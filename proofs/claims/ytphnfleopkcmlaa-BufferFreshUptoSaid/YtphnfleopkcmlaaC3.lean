/- The document's own buffer: Path and Nodes. Own work of this session. -/
import Derived.Test.YtphnfleopkcmlaaC2
set_option linter.unusedVariables false
namespace Go.Hw
open Go

theorem made_toList (z : Array Value) : ∀ m : Nat, (made z m).toList = (List.replicate m z.toList).flatten
  | 0 => by simp [made, Builtin.zeroCells]
  | m + 1 => by
    have ih := made_toList z m
    unfold made Builtin.zeroCells at ih ⊢
    rw [Array.toList_map, Array.toList_range] at ih ⊢
    rw [Nat.succ_mul, List.range_add, List.map_append, ih, List.replicate_succ', List.flatten_append]
    congr 1
    simp only [List.map_map, List.flatten_cons, List.flatten_nil, List.append_nil]
    apply List.ext_getElem?
    intro i
    simp only [List.getElem?_map]
    by_cases hi : i < z.size
    · rw [List.getElem?_range hi]
      show some (z[(m * z.size + i) % z.size]!) = _
      rw [Nat.add_comm, Nat.add_mul_mod_self_right, Nat.mod_eq_of_lt hi, getElem!_pos z i hi]
      simp [hi]
    · rw [List.getElem?_eq_none (by simp; omega), List.getElem?_eq_none (by simpa using Nat.le_of_not_lt hi)]
      rfl

theorem made_flat {α : Type} {t k : Nat} (F : Fmt α t k) (x : α) (m : Nat) {z : Array Value} (hz : z.toList = F.f x) : (made z m).toList = (List.replicate m x).flatMap F.f := by
  rw [made_toList, hz]
  induction m with
  | zero => rfl
  | succ m ih => rw [List.replicate_succ, List.replicate_succ, List.flatten_cons, List.flatMap_cons, ih]

section
variable {F S : Nat → Prop} {H H' : Hp} {g n : Nat} {st : Int} {f : Fn} {rs : Sl} {R : List (Option (List RN))}

theorem c32 {i : Int} {Q : Sl → Int → Hp → Prop} (h : RI F H g st n f) (hn : n ≤ 1000000) (q0 : atI f i = none → Q Sl.nil 130 H)
    (q1 : ∀ l, atI f i = some l → l.length ≤ n → ∀ H' r, Lst mF H' r l.reverse → (∀ b, r.at b → H.size ≤ b) → Kp No H H' → Q r 0 H') : F32 (some ⟨g, 0, none⟩) i H Q := by
  obtain ⟨rs, R, b, rfl⟩ := h
  refine c44 b hn ?_
  rw [rowsR_at] at *
  cases ha : atI (fnOf R) i with
  | none => exact ⟨fun _ => q0 (by rw [ha]; rfl), fun hh => by cases hh⟩
  | some c =>
    obtain ⟨h0, hlt, hi, hmem⟩ := runR_of ha
    have hrn := b.rl.n
    rw [List.length_map] at hrn
    obtain ⟨hcn, hch, hcl, hcm⟩ := b.ch c hmem
    have q1 := q1 (marksR c) (by rw [ha]; rfl) (by simpa using hcl)
    have hc0 := hch
    obtain ⟨p, hp, _, cp⟩ := b.rl.rd.get (i := i.toNat) (x := hdp c) (by rw [List.getElem?_map, hi]; rfl)
    have hlen : ∃ a, hdp c = some a ∧ cell H (a.add 3) = some (.int .i64 (c.length : Int)) := by
      cases c with
      | nil => exact absurd rfl hcn
      | cons x t => exact ⟨_, rfl, hch.2.1.cell_of (i := 3) rfl⟩
    obtain ⟨a15, ha15, hc15⟩ := hlen
    refine ⟨fun hh => (by cases hh), fun _ => ⟨_, rfl, rs, b.row.cell_of (i := 1) rfl, p, hp, by omega, by omega, _, cp.1, a15, ha15, (c.length : Int), hc15, by omega, by omega, by omega, by omega, fun H19 e19 => ?_⟩⟩
    have k19 : Kp No H H19 := (Kp.refl No _).push' e19
    have s19 := size_push' e19
    have b19 := b.kp k19 fun _ _ => id
    have e19' : H19 = Array.push H (.cells (made #[(.int .i64 0), (.int .i64 0)] c.length) 32) := e19
    have z19 : Row H19 H.size 32 ((List.replicate c.length ((0, 0) : Mk)).flatMap mF.f) := by
      have := Row.new' e19'
      rwa [made_flat mF ((0, 0) : Mk) c.length (z := #[(.int .i64 0), (.int .i64 0)]) rfl] at this
    have l19 : Lst mF H19 (Sl.mk (some ⟨H.size, 0, none⟩) (c.length : Int).toNat (c.length : Int).toNat) (List.replicate c.length ((0, 0) : Mk)) := by
      refine ⟨.inr ⟨H.size, [], rfl, by simpa using z19, ?_, ?_, Nat.le_refl _, ?_⟩⟩
      · rw [fl_len mF.len]; simp
      · rw [List.append_nil, fl_len mF.len]; simp
      · show (c.length : Int).toNat ≤ _
        omega
    obtain ⟨p2, hp2, _, cp2⟩ := b19.rl.rd.get (i := i.toNat) (x := hdp c) (by rw [List.getElem?_map, hi]; rfl)
    refine ⟨_, rfl, rs, b19.row.cell_of (i := 1) rfl, p2, hp2, by omega, by omega, _, cp2.1, ?_⟩
    generalize hsl : (Sl.mk (some ⟨H.size, 0, none⟩) (c.length : Int).toNat (c.length : Int).toNat) = sl at l19
    have hat : ∀ b, sl.at b → b = H.size := fun b hb => by
      subst hsl
      have : (some ⟨H.size, 0, none⟩ : Option Addr) = some ⟨b, 0, none⟩ := hb
      injection this with this
      injection this with this
      exact this.symm
    intro X hX
    suffices G : ∀ (cur : List RN) (zs D : List Mk) (H' : Hp), zs.length = cur.length → D.length + cur.length = c.length → Chain F H' cur → (∃ pre, pre ++ cur = c ∧ D = (marksR pre).reverse) → Lst mF H' sl (zs ++ D) → Kp No H H' → X (cur.length : Int) (hdp cur) H' from
      G c (List.replicate c.length (0, 0)) [] H19 (by simp) (by simp) (b19.ch c hmem).2.1 ⟨[], rfl, rfl⟩ (by simpa using l19) k19
    intro cur
    induction cur with
    | nil =>
      intro zs D H' hz hd _ ⟨pre, hpre, hD⟩ l' k'
      refine hX _ _ _ ⟨fun hh => (by cases hh), fun _ => ?_⟩
      have : zs ++ D = (marksR c).reverse := by
        rw [List.eq_nil_of_length_eq_zero hz, hD, ← hpre]; simp
      exact q1 H' sl (this ▸ l') (fun b hb => by rw [hat b hb]; omega) k'
    | cons x t ih =>
      intro zs D H' hz hd hcur ⟨pre, hpre, hD⟩ l' k'
      obtain ⟨hFx, hrx, hct⟩ := hcur
      obtain ⟨zs', z, rfl⟩ : ∃ zs' z, zs = zs' ++ [z] := ⟨zs.dropLast, zs.getLast (by intro h; rw [h] at hz; simp at hz), (List.dropLast_concat_getLast _).symm⟩
      have hz' : zs'.length = t.length := by simpa using hz
      have hw : IntKind.i64.wrap (((x :: t).length : Int) - 1) = (t.length : Int) := by
        simp only [List.length_cons] at hd ⊢
        rw [wr (by omega) (by omega)]; omega
      have hn2 := l'.n
      obtain ⟨a, ha1, hsa, hin, hmw, hset⟩ := l'.set (i := t.length) (by simp; omega) x.mark
      refine hX _ _ _ ⟨fun _ => ⟨_, rfl, _, _, hrx.cells (o := 0) (i := 0) rfl, a, ha1, ?_⟩, fun hh => (by cases hh)⟩
      rw [hw]
      refine ⟨by omega, by omega, hmw, fun H49 e49 => ?_⟩
      obtain ⟨l49, k49⟩ := hset H49 e49
      have hnl : ∀ b, F b → ¬ sl.at b := fun bb hb hh => by
        have h1 := b.lt bb hb
        have h2 := hat bb hh
        omega
      have rx49 := k49.row hrx (hnl _ hFx)
      have es : ((zs' ++ [z]) ++ D).set t.length x.mark = zs' ++ (x.mark :: D) := by
        rw [List.append_assoc, List.set_append_right _ _ (by omega), hz']
        simp
      rw [es] at l49
      refine ⟨_, rfl, _, rx49.cell_of (i := 2) rfl, ih zs' (x.mark :: D) H49 hz' (by simp at hd ⊢; omega) (hct.kp k49 hnl) ⟨pre ++ [x], by simp [hpre], by simp [hD]⟩ l49 (k'.trans k49 fun bb hb => .inr (by rw [hat bb hb]; omega))⟩

def gone (L : ML (Option Addr) Bool) (x : RN) : Prop := mget L (some ⟨x.ad, 0, none⟩) = some true

theorem c34 {Q : Int → Hp → Prop} (h : RI F H g st n f) (hn : n ≤ 1000000) (hQ : ∀ H' (D : List Mk), D.Nodup → (∀ m, m ∈ D ↔ OnRow f m) → Kp No H H' → Q D.length H') : F34 (some ⟨g, 0, none⟩) H Q := by
  obtain ⟨rs, R, b, rfl⟩ := h
  have hrl := b.rlen
  have hrn := b.rl.n
  rw [List.length_map] at hrn
  intro H1 e1 H3 e3
  have s1 := size_push' e1
  have s3 := size_push' e3
  have k1 := (Kp.refl No H).push' e1
  have k3 := (Kp.refl No H1).push' e3
  have m1 : mapAt mk32 mv4 H3 (some H.size) [] 0 := (mapAt.new e1).kp k3 id
  have m3 : mapAt mk87 mv4 H3 (some H1.size) [] 0 := mapAt.new e3
  intro X hX
  suffices G : ∀ (d i : Nat) (S : ML Mk Bool) (cs : Nat) (L : ML (Option Addr) Bool) (cl : Nat) (H' : Hp), i + d = R.length → mapAt mk32 mv4 H' (some H.size) S cs → mapAt mk87 mv4 H' (some H1.size) L cl → (mkeys S).Nodup → (∀ e ∈ L, ∃ x t, e.1 = hdp (x :: t) ∧ Chain F H' (x :: t)) →
      (∀ m ∈ mkeys S, OnRow (rowsR R) m) → (∀ j, j < i → ∀ c, R[j]? = some (some c) → ∀ y ∈ c, y.mark ∈ mkeys S) → (∀ x t, Chain F H' (x :: t) → gone L x → ∀ y ∈ x :: t, y.mark ∈ mkeys S) → Kp No H H' → X (i : Int) H' from
    G R.length 0 [] 0 [] 0 H3 (by omega) m1 m3 List.nodup_nil (fun e he => by cases he) (fun m hm => by cases hm) (fun j hj => by omega) (fun x t _ hg => by cases hg) (k1.trans k3 fun _ h => h.elim)
  intro d
  induction d with
  | zero =>
    intro i S cs L cl H' hi mS mL hnd hL hS hdone hgone k
    have b' := b.kp k fun _ _ => id
    refine hX _ _ ⟨_, rfl, rs, b'.row.cell_of (i := 1) rfl, fun hh => absurd (of_decide_eq_true hh) (by omega), fun _ => ⟨S, cs, mS, ?_⟩⟩
    have := hQ H' (mkeys S) hnd (fun m => ⟨hS m, fun ⟨j, l, hj, hm⟩ => ?_⟩) k
    · simpa [mkeys] using this
    · have hjl : j < R.length := by
        by_cases h : j < R.length
        · exact h
        · rw [rowsR_none (by omega)] at hj; cases hj
      rw [rowsR_get hjl] at hj
      cases hr : R[j] with
      | none => rw [hr] at hj; cases hj
      | some c =>
        rw [hr] at hj
        injection hj with hj
        subst hj
        obtain ⟨y, hy, rfl⟩ := List.mem_map.1 hm
        exact hdone j (by omega) c (by rw [List.getElem?_eq_getElem hjl, hr]) y hy
  | succ d ih =>
    intro i S cs L cl H' hi mS mL hnd hL hS hdone hgone k
    have b' := b.kp k fun _ _ => id
    have hil : i < R.length := by omega
    have hw : IntKind.i64.wrap ((i : Int) + 1) = ((i + 1 : Nat) : Int) := by rw [wr (by omega) (by omega)]; omega
    obtain ⟨p, hp, _, cp⟩ := b'.rl.rd.get (i := i) (x := rq R[i]) (by rw [List.getElem?_map, List.getElem?_eq_getElem hil]; rfl)
    refine hX _ _ ⟨_, rfl, rs, b'.row.cell_of (i := 1) rfl, fun _ => ⟨_, rfl, rs, b'.row.cell_of (i := 1) rfl, p, hp, by omega, by omega, _, cp.1, ?_⟩, fun hh => absurd (of_decide_eq_false hh) (by omega)⟩
    intro Y hY
    -- the row at this handle; none counts as the empty one
    obtain ⟨c, hrq, hcc, hcr, hcrow⟩ : ∃ c : List RN, rq R[i] = hdp c ∧ (∀ H'', Kp No H H'' → Chain F H'' c) ∧ (∀ y ∈ c, OnRow (rowsR R) y.mark) ∧ (∀ c', R[i]? = some (some c') → c' = c) := by
      cases hr : R[i] with
      | none => exact ⟨[], rfl, fun _ _ => trivial, fun y hy => (by cases hy), fun c' hc' => by rw [List.getElem?_eq_getElem hil, hr] at hc'; cases hc'⟩
      | some c =>
        refine ⟨c, rfl, fun H'' k'' => (b.ch c (hr ▸ List.getElem_mem hil)).2.1.kp k'' fun _ _ => id, fun y hy => ⟨i, marksR c, by rw [rowsR_get hil, hr]; rfl, List.mem_map_of_mem hy⟩, fun c' hc' => ?_⟩
        rw [List.getElem?_eq_getElem hil, hr] at hc'
        injection hc' with hc'
        injection hc' with hc'
        exact hc'.symm
    rw [hrq]
    suffices G2 : ∀ (cur : List RN) (S : ML Mk Bool) (cs : Nat) (L : ML (Option Addr) Bool) (cl : Nat) (H' : Hp), (∃ pre, pre ++ cur = c ∧ ∀ y ∈ pre, y.mark ∈ mkeys S) → mapAt mk32 mv4 H' (some H.size) S cs → mapAt mk87 mv4 H' (some H1.size) L cl → (mkeys S).Nodup → (∀ e ∈ L, ∃ x t, e.1 = hdp (x :: t) ∧ Chain F H' (x :: t)) →
        (∀ m ∈ mkeys S, OnRow (rowsR R) m) → (∀ j, j < i → ∀ c, R[j]? = some (some c) → ∀ y ∈ c, y.mark ∈ mkeys S) → (∀ x t, Chain F H' (x :: t) → gone L x → (∀ y ∈ x :: t, y.mark ∈ mkeys S) ∨ (cur.length < (x :: t).length ∧ ∀ y ∈ x :: t, y.mark ∈ mkeys S ∨ y.mark ∈ marksR cur)) → Kp No H H' → Chain F H' cur → Y (hdp cur) H' from
      G2 c S cs L cl H' ⟨[], rfl, fun y hy => by cases hy⟩ mS mL hnd hL hS hdone (fun x t hx hg => .inl (hgone x t hx hg)) k (hcc H' k)
    have fin : ∀ (cur : List RN) (S : ML Mk Bool) (cs : Nat) (L : ML (Option Addr) Bool) (cl : Nat) (H' : Hp), (∃ pre, pre ++ cur = c ∧ ∀ y ∈ pre, y.mark ∈ mkeys S) → (∀ y ∈ cur, y.mark ∈ mkeys S) → mapAt mk32 mv4 H' (some H.size) S cs → mapAt mk87 mv4 H' (some H1.size) L cl → (mkeys S).Nodup → (∀ e ∈ L, ∃ x t, e.1 = hdp (x :: t) ∧ Chain F H' (x :: t)) →
        (∀ m ∈ mkeys S, OnRow (rowsR R) m) → (∀ j, j < i → ∀ c, R[j]? = some (some c) → ∀ y ∈ c, y.mark ∈ mkeys S) → (∀ x t, Chain F H' (x :: t) → gone L x → (∀ y ∈ x :: t, y.mark ∈ mkeys S) ∨ (cur.length < (x :: t).length ∧ ∀ y ∈ x :: t, y.mark ∈ mkeys S ∨ y.mark ∈ marksR cur)) → Kp No H H' → F34_3 Q X (some ⟨g, 0, none⟩) (some H.size) (some H1.size) (i : Int) H' := by
      intro cur S cs L cl H' ⟨pre, hpre, hin⟩ hcur mS mL hnd hL hS hdone hgone k
      unfold F34_3
      rw [hw]
      refine ih (i + 1) S cs L cl H' (by omega) mS mL hnd hL hS (fun j hj c' hc' y hy => ?_) (fun x t hx hg y hy => ?_) k
      · by_cases hji : j = i
        · subst hji
          have := hcrow c' hc'
          subst this
          rw [← hpre] at hy
          rcases List.mem_append.1 hy with hy | hy
          · exact hin y hy
          · exact hcur y hy
        · exact hdone j (by omega) c' hc' y hy
      · rcases hgone x t hx hg with h | ⟨_, h⟩
        · exact h y hy
        · rcases h y hy with h | h
          · exact h
          · obtain ⟨z, hz, hze⟩ := List.mem_map.1 h
            rw [← hze]; exact hcur z hz
    intro cur
    induction cur with
    | nil =>
      intro S cs L cl H' hpre mS mL hnd hL hS hdone hgone k _
      exact hY _ _ ⟨fun hh => (by cases hh), fun _ => fin [] S cs L cl H' hpre (fun y hy => by cases hy) mS mL hnd hL hS hdone hgone k⟩
    | cons x t ih2 =>
      intro S cs L cl H' hpre mS mL hnd hL hS hdone hgone k hcur
      have hcur' := hcur
      obtain ⟨hFx, hrx, hct⟩ := hcur'
      have hMK : MapK mk87 mv4 Plain H' (some H1.size) L cl (hdp (x :: t)) := by
        refine ⟨mL, fun e he => ?_, hrx.plain⟩
        obtain ⟨x', t', h1, h2⟩ := hL e he
        rw [h1]
        exact h2.2.1.plain
      refine hY _ _ ⟨fun _ => ⟨L, cl, hMK, fun hh => ?_, fun hh => ?_⟩, fun hh => (by cases hh)⟩
      · have hng : ¬ gone L x := fun hg => by
          have hg : mget L (hdp (x :: t)) = some true := hg
          rw [hg] at hh
          cases hh
        refine ⟨H1.size, L, cl, rfl, hMK, fun H40 e40 => ?_⟩
        have k40 : Kp (fun b => b = H1.size) H' H40 := (Kp.refl _ _).seto' e40 (.inl rfl)
        have s40 := size_seto' e40
        have sk := k.size
        have kk40 : Kp No H H40 := k.trans k40 fun _ hb => .inr (by omega)
        have hF40 : ∀ b, F b → ¬ (b = H1.size) := fun bb hb hh => by
          have := b.lt bb hb
          omega
        have mL40 : mapAt mk87 mv4 H40 (some H1.size) _ _ := mapAt.put mL.lt e40
        have mS40 := mS.kp k40 (by omega)
        have cur40 : Chain F H40 (x :: t) := hcur.kp k40 hF40
        refine ⟨_, rfl, _, _, cur40.2.1.cells (o := 0) (i := 0) rfl, H.size, S, cs, rfl, MapK.of mS40, fun H52 e52 => ?_⟩
        have k52 : Kp (fun b => b = H.size) H40 H52 := (Kp.refl _ _).seto' e52 (.inl rfl)
        have hF52 : ∀ b, F b → ¬ (b = H.size) := fun bb hb hh => by
          have := b.lt bb hb
          omega
        have kk52 : Kp No H H52 := kk40.trans k52 fun _ hb => .inr (by omega)
        have mS52 : mapAt mk32 mv4 H52 (some H.size) _ _ := mapAt.put mS40.lt e52
        have mL52 := mL40.kp k52 (by omega)
        have cur52 : Chain F H52 (x :: t) := cur40.kp k52 hF52
        have hkS : ∀ m, m ∈ mkeys (mput S cs (x.mark.1, x.mark.2) true).1 ↔ m ∈ mkeys S ∨ m = x.mark := fun m => by
          rw [mkeys_mput]
          split
          · rename_i hx
            exact ⟨.inl, fun h => by rcases h with h | h; exact h; rw [h]; exact hx⟩
          · rw [List.mem_append, List.mem_singleton]
        have back : ∀ {c : List RN}, Chain F H52 c → Chain F H' c := fun {c} hc => by
          induction c with
          | nil => trivial
          | cons y s ihc =>
            refine ⟨hc.1, ?_, ihc hc.2.2⟩
            have h1 := hc.1
            have h2 := hc.2.1
            have hl : y.ad < H'.size := Nat.lt_of_lt_of_le (b.lt _ h1) sk
            unfold Row at h2 ⊢
            rw [← k40.blk _ hl (hF40 _ h1), ← k52.blk _ (by omega) (hF52 _ h1)]
            exact h2
        refine ⟨_, rfl, _, cur52.2.1.cell_of (i := 2) rfl, ?_⟩
        refine ih2 _ _ _ _ H52 ?_ mS52 mL52 (mput_nodup hnd _ _ _) (fun e he => ?_) (fun m hm => ?_) (fun j hj c' hc' y hy => (hkS _).2 (.inl (hdone j hj c' hc' y hy))) (fun x' t' hx' hg => ?_) kk52 cur52.2.2
        · obtain ⟨pre, h1, h2⟩ := hpre
          refine ⟨pre ++ [x], by simp [h1], fun y hy => (hkS _).2 ?_⟩
          rcases List.mem_append.1 hy with hy | hy
          · exact .inl (h2 y hy)
          · rw [List.mem_singleton] at hy
            exact .inr (by rw [hy])
        · rcases mem_mput he with he | ⟨he, _⟩
          · obtain ⟨x', t', h1, h2⟩ := hL e he
            exact ⟨x', t', h1, (h2.kp k40 hF40).kp k52 hF52⟩
          · exact ⟨x, t, he, cur52⟩
        · rcases (hkS m).1 hm with h | h
          · exact hS m h
          · obtain ⟨pre, h1, _⟩ := hpre
            rw [h]; exact hcr x (by rw [← h1]; simp)
        · have hg : mget (mput L cl (hdp (x :: t)) true).1 (hdp (x' :: t')) = some true := hg
          rw [mget_mput] at hg
          by_cases he : hdp (x' :: t') = hdp (x :: t)
          · have := hx'.un cur52 he
            injection this with e1 e2
            subst e1 e2
            refine .inr ⟨by simp, fun y hy => ?_⟩
            rcases List.mem_cons.1 hy with rfl | hy
            · exact .inl ((hkS _).2 (.inr rfl))
            · exact .inr (List.mem_map_of_mem hy)
          · rw [if_neg he] at hg
            rcases hgone x' t' (back hx') hg with h | ⟨h1, h2⟩
            · exact .inl fun y hy => (hkS _).2 (.inl (h y hy))
            · refine .inr ⟨by simp at h1 ⊢; omega, fun y hy => ?_⟩
              rcases h2 y hy with h | h
              · exact .inl ((hkS _).2 (.inl h))
              · rcases List.mem_cons.1 h with h | h
                · exact .inl ((hkS _).2 (.inr h))
                · exact .inr h
      · have hg : gone L x := by
          show mget L (hdp (x :: t)) = some true
          cases hm : mget L (hdp (x :: t)) with
          | none => rw [hm] at hh; cases hh
          | some v =>
            rw [hm] at hh
            cases v with
            | true => rfl
            | false => cases hh
        have : ∀ y ∈ x :: t, y.mark ∈ mkeys S := by
          rcases hgone x t hcur hg with h | ⟨h, _⟩
          · exact h
          · exact absurd h (Nat.lt_irrefl _)
        exact fin (x :: t) S cs L cl H' hpre this mS mL hnd hL hS hdone hgone k
end
end Go.Hw
