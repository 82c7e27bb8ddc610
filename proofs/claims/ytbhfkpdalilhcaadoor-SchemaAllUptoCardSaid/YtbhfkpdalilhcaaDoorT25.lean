/- A step, played by both: all kinds. Own work of this session. -/
import Derived.Test.YtbhfkpdalilhcaaDoorT24
set_option linter.unusedVariables false
namespace Go.Hw
open Go

section
variable {H : Hp} {hb pb : Nat} {O : Nat → Prop} {ta tv : Sl} {o : SOp} {sa sv : Sl}
theorem StepC.hoA {H17 : Hp} {s : Sl} (h : StepC H hb pb O ta tv o sa sv) (k : H.size ≤ H17.size) (hs : ∀ b, s.at b → ta.at b ∨ H17.size ≤ b) : (∀ b, O b → ¬ HO hb s tv b) ∧ (∀ b, HO hb s tv b → HO hb ta tv b ∨ H.size ≤ b) ∧ (∀ b, O b ∨ HO hb s tv b → (O b ∨ HO hb ta tv b) ∨ H.size ≤ b) := by
  refine ⟨fun b ob g => ?_, fun b g => ?_, fun b g => ?_⟩
  · have := h.p.lt ob
    rcases g with e | g | g
    · exact h.dj b ob (.inl e)
    · rcases hs b g with g | g
      · exact h.dj b ob (.inr (.inl g))
      · omega
    · exact h.dj b ob (.inr (.inr g))
  · rcases g with e | g | g
    · exact .inl (.inl e)
    · rcases hs b g with g | g
      · exact .inl (.inr (.inl g))
      · exact .inr (by omega)
    · exact .inl (.inr (.inr g))
  · rcases g with g | e | g | g
    · exact .inl (.inl g)
    · exact .inl (.inr (.inl e))
    · rcases hs b g with g | g
      · exact .inl (.inr (.inr (.inl g)))
      · exact .inr (by omega)
    · exact .inl (.inr (.inr (.inr g)))
theorem StepC.hoV {H17 : Hp} {s : Sl} (h : StepC H hb pb O ta tv o sa sv) (k : H.size ≤ H17.size) (hs : ∀ b, s.at b → tv.at b ∨ H17.size ≤ b) : (∀ b, O b → ¬ HO hb ta s b) ∧ (∀ b, HO hb ta s b → HO hb ta tv b ∨ H.size ≤ b) ∧ (∀ b, O b ∨ HO hb ta s b → (O b ∨ HO hb ta tv b) ∨ H.size ≤ b) := by
  refine ⟨fun b ob g => ?_, fun b g => ?_, fun b g => ?_⟩
  · have := h.p.lt ob
    rcases g with e | g | g
    · exact h.dj b ob (.inl e)
    · exact h.dj b ob (.inr (.inl g))
    · rcases hs b g with g | g
      · exact h.dj b ob (.inr (.inr g))
      · omega
  · rcases g with e | g | g
    · exact .inl (.inl e)
    · exact .inl (.inr (.inl g))
    · rcases hs b g with g | g
      · exact .inl (.inr (.inr g))
      · exact .inr (by omega)
  · rcases g with g | e | g | g
    · exact .inl (.inl g)
    · exact .inl (.inr (.inl e))
    · exact .inl (.inr (.inr (.inl g)))
    · rcases hs b g with g | g
      · exact .inl (.inr (.inr (.inr g)))
      · exact .inr (by omega)
set_option maxHeartbeats 1000000 in
theorem c22 {Q : Bool → Hp → Prop} (h : StepC H hb pb O ta tv o sa sv) (hQ : ∀ H', After H hb pb O ta tv H' → Q true H') : F22 (some ⟨pb, 0, none⟩) o.kind o.which o.name sa o.text o.ty o.time sv H Q := by
  intro H1 e1
  have k1 : Kp No H H1 := (Kp.refl _ _).push' e1
  have s1 := size_push' e1
  have r1 : Row H1 H.size 65 (o.row sa sv) := Row.new' e1
  have k01 : Kp (fun b => O b ∨ HO hb ta tv b) H H1 := k1.mono fun _ _ g => g.elim
  have hno : ∀ H', Kp No H1 H' → Q true H' := fun H' k => hQ H' (After.same h.p h.h h.dj (k1.trans k fun _ g => g.elim))
  obtain ⟨cb, mr, rb, s, M, Z, c, x⟩ := h.p
  have x1 := x.no k1
  have hh1 := h.h.no k1
  have lA := h.la
  have lV := h.lv
  have c2 : ∀ {Hx : Hp}, Row Hx H.size 65 (o.row sa sv) → cells Hx (Addr.add ⟨H.size, 0, none⟩ 2) [.string o.name, Sl.v sa] 0 := fun r => rowcs (i := 2) r rfl
  have c5 : ∀ {Hx : Hp}, Row Hx H.size 65 (o.row sa sv) → cells Hx (Addr.add ⟨H.size, 0, none⟩ 5) (tR o.ty o.time sv) 0 := fun r => rowcs (i := 5) r rfl
  have nHO : ∀ {s' s'' : Sl}, (∀ b, s'.at b → ta.at b ∨ H1.size ≤ b) → (∀ b, s''.at b → tv.at b ∨ H1.size ≤ b) → ¬ HO hb s' s'' H.size := fun {s' s''} h1 h2 g => by
    rcases g with e | g | g
    · have := h.h.row.lt; omega
    · rcases h1 _ g with g | g
      · have := h.h.lt (.inr (.inl g)); omega
      · omega
    · rcases h2 _ g with g | g
      · have := h.h.lt (.inr (.inr g)); omega
      · omega
  refine ⟨_, r1.cell_of (i := 0) rfl, fun g1 => ?_, fun _ => ⟨fun g2 => ?_, fun _ => ⟨fun g3 => ?_, fun _ => ⟨fun g4 => ?_, fun _ => ⟨fun g5 => ?_, fun _ => ⟨fun g6 => ?_, fun _ => ⟨fun g7 => ?_, fun _ => hno H1 (Kp.refl _ _)⟩⟩⟩⟩⟩⟩⟩
  · -- Declare
    refine ⟨_, rfl, _, x1.row.cell_of (i := 0) rfl, _, rfl, _, rowc (i := 2) x1.row rfl, _, _, c2 r1, ?_⟩
    refine c39 hh1 (fun H' k => h.rdA _ (k01.trans k fun b g => .inl (.inr (g.imp id .inl)))) lA fun s39 H17 hh17 la17 k17 hs39 => ?_
    obtain ⟨d1, d2, d3⟩ := h.hoA (s := s39) k1.size hs39
    have sz17 := k17.size
    have n39 := nHO hs39 (s'' := tv) fun b g => .inl g
    have k17' : Kp (fun b => O b ∨ HO hb ta tv b) H H17 := (k1.mono fun _ _ g => g.elim).trans k17 fun b g => .inl (.inr (g.imp id .inl))
    have k017 := k17'
    have x17 := x1.kp k17 fun b ob g => h.dj b ob (g.imp id .inl)
    have r17 := k17.row r1 (fun g => by
      rcases g with e | g
      · exact n39 (.inl e)
      · have := h.h.lt (.inr (.inl g)); omega)
    have t17 := h.tabs k017
    refine ⟨x17.row.cell_of (i := 0) rfl, ?_⟩
    -- the end
    have last : ∀ (O' : Nat → Prop) (e : Int) (H32 : Hp), PairH H32 hb pb O' → (∀ b, O' b → O b ∨ (H17.size ≤ b ∧ b < H32.size)) → Kp O H17 H32 → ∃ a35 : Addr, some (⟨pb, 0, none⟩ : Addr) = some a35 ∧ (
       ∃ x38 : (Option Addr), cell H32 (Addr.add a35 2) = some (.pointer x38) ∧ (
       ∃ (x40 : ByteArray) (x41 : Sl), cells H32 (Addr.add ⟨H.size, 0, none⟩ 2) [.string x40, (Sl.v x41)] 0 ∧ (
       F41 x38 x40 x41 H32 (fun (r44 : Bool) (H42 : Hp) => (r44 = true → (Q (decide (e = e)) H42)) ∧ (r44 = false → (Q false H42)))))) := fun O' e H32 p32 hO' k32 => by
      have k032 := k017.trans k32 fun b g => .inl (.inl g)
      have hh32 := hh17.kp k32 (fun g => d1 _ g (.inl rfl)) (fun b g g' => d1 _ g' (.inr (.inl g))) fun b g g' => d1 _ g' (.inr (.inr g))
      have la32 := la17.kp k32 fun b g g' => d1 _ g' (.inr (.inl g))
      have r32 := k32.row r17 fun g => by have := x.lt _ g; omega
      have dj' : ∀ b, O' b → ¬ HO hb s39 tv b := fun b g g' => (hO' b g).elim (fun g => d1 b g g') fun ⟨g, _⟩ => by have := hh17.lt g'; omega
      have p32' := p32
      obtain ⟨cb', mr', rb', s', M', Z', c', x32⟩ := p32'
      refine ⟨_, rfl, _, rowc (i := 2) x32.row rfl, _, _, c2 r32, ?_⟩
      refine c41 hh32 la32 (fun H' k => h.rdA _ (k032.trans k fun b g => d3 b (.inr (.inr (.inl g))))) lA fun H42 hh42 k42 => ⟨fun _ => ?_, fun g => (by cases g)⟩
      rw [decide_eq_true (rfl : e = e)]
      refine hQ H42 ⟨O', s39, tv, p32.kp k42 fun b g g' => dj' b g (.inr (.inl g')), hh42, dj', fun b g => (hO' b g).imp id fun g => by omega, d2, ?_⟩
      exact (k17'.trans k32 fun b g => .inl (.inl g)).trans k42 fun b g => (d2 b (.inr (.inl g))).imp .inr id
    have lr := la17.rd
    have noth : ∀ {e : Int} {H22 : Hp}, Kp No H17 H22 → (∀ {Q' : Int → Hp → Prop}, (∀ H', Kp No H22 H' → Q' e H') → F40 (some ⟨rb, 0, none⟩) o.name sa H22 Q') → ∃ a25 : Addr, some (⟨pb, 0, none⟩ : Addr) = some a25 ∧ (
       ∃ x28 : (Option Addr), cell H22 (Addr.add a25 1) = some (.pointer x28) ∧ (
       ∃ (x30 : ByteArray) (x31 : Sl), cells H22 (Addr.add ⟨H.size, 0, none⟩ 2) [.string x30, (Sl.v x31)] 0 ∧ (
       F40 x28 x30 x31 H22 (fun (r34 : Int) (H32 : Hp) => ∃ a35 : Addr, some (⟨pb, 0, none⟩ : Addr) = some a35 ∧ (
       ∃ x38 : (Option Addr), cell H32 (Addr.add a35 2) = some (.pointer x38) ∧ (
       ∃ (x40 : ByteArray) (x41 : Sl), cells H32 (Addr.add ⟨H.size, 0, none⟩ 2) [.string x40, (Sl.v x41)] 0 ∧ (
       F41 x38 x40 x41 H32 (fun (r44 : Bool) (H42 : Hp) => (r44 = true → (Q (decide (e = r34)) H42)) ∧ (r44 = false → (Q false H42)))))))))) := fun {e H22} k22 f40 => by
      have x22 := x17.no k22
      refine ⟨_, rfl, _, rowc (i := 1) x22.row rfl, _, _, c2 (k22.row r17 id), f40 fun H32 k32 => ?_⟩
      have kk := k22.trans k32 fun _ g => g.elim
      exact last O e H32 ⟨_, _, _, _, _, _, _, x17.no kk⟩ (fun b g => .inl g) (kk.mono fun _ _ g => g.elim)
    have k022 : ∀ {H22}, Kp No H17 H22 → Kp (fun b => O b ∨ HO hb ta tv b) H H22 := fun k => k017.trans k fun _ g => g.elim
    refine c9c t17.w x17.cat lr.1 lr.2 lA h.ln (fun hw H22 k22 => ?_) (fun hw hex H22 k22 => ?_) (fun hw hnex hful H22 k22 => ?_) fun hw hnex hful r H22 hcat hr k22 => ?_
    · exact noth k22 fun q => c40 (x17.rf.no k22) x.len (h.rdA _ (k022 k22)) lA (fun _ H' k => q H' k) (fun g => absurd g hw) (fun g => absurd g hw) fun g => absurd g hw
    · exact noth k22 fun q => c40 (x17.rf.no k22) x.len (h.rdA _ (k022 k22)) lA (fun g => absurd hw g) (fun _ _ H' k => q H' k) (fun _ g => by obtain ⟨z, hz, e⟩ := hex; exact absurd e (g z hz)) fun _ g => by obtain ⟨z, hz, e⟩ := hex; exact absurd e (g z hz)
    · exact noth k22 fun q => c40 (x17.rf.no k22) x.len (h.rdA _ (k022 k22)) lA (fun g => absurd hw g) (fun _ ⟨z, hz, e⟩ => absurd e (hnex z hz)) (fun _ _ _ H' k => q H' k) fun _ _ g => by omega
    · have kO : Kp O H17 H22 := k22.mono fun b _ e => by subst e; exact x.omr
      have rf22 := x17.rf.kpM x17.cat.m k22
      have pr22 := k22.row x17.row fun e => map_ne_row x17.cat.m x17.row e.symm
      have k022' := k017.trans kO fun b g => .inl (.inl g)
      have r22 := kO.row r17 fun g => by have := x.lt _ g; omega
      refine ⟨_, rfl, _, rowc (i := 1) pr22 rfl, _, _, c2 r22, ?_⟩
      refine c40 rf22 x.len (h.rdA _ k022') lA (fun g => absurd hw g) (fun _ ⟨z, hz, e⟩ => absurd e (hnex z hz)) (fun _ _ g => by omega) fun _ _ _ s' m H32 hrf hs' hm k32 => ?_
      have kO2 : Kp O H22 H32 := k32.mono fun b _ g => by
        rcases g with e | g
        · subst e; exact x.orb
        · exact x.os b g
      have sz22 := k22.size
      have sz32 := k32.size
      have pr32 := k32.row pr22 fun g => by
        rcases g with e | g
        · rw [e] at pr22; exact absurd (pr22.inj rf22.row).2 (by decide)
        · exact rf22.l.ne pr22 (by decide) g
      refine last _ 0 H32 ⟨cb, mr, rb, s', M ++ [m], Z ++ [⟨o.name, r, o.A, c⟩], c + 1, x17.ext (B := H17.size) (Nat.le_refl _) pr32 (hcat.kpR rf22 k32) (hrf _ rfl rfl) hful (fun b g => (hs' b g).imp id fun g => by omega) hr (fun b g => by have := hm b g; omega) (by omega)⟩ (fun b g => g) (kO.trans kO2 fun b g => .inl g)
  · -- Find
    exact st2 h k1 r1 hno
  · -- List
    refine ⟨_, rfl, _, x1.row.cell_of (i := 0) rfl, _, rfl, _, rowc (i := 1) x1.row rfl, c18 x1.cat x1.len fun sl M1 D1 H132 hD1 hs1 told1 k132 => ?_⟩
    have x132 := x1.no k132
    refine ⟨rowc (i := 1) x132.row rfl, c45 x132.rf x132.len x132.A16 fun sl2 M2 D2 H136 hD2 hs2 told2 k136 => ?_⟩
    have eD := sorted_one x.cat.nd hD1 hD2 hs1 hs2
    subst eD
    have l1 := hD1.length_eq
    have e1 := told1.len
    have e2 := told2.len
    have hl := x.len
    refine c44 (told1.l.rd.kp0 k136) told2.l.rd (by omega) (by omega) (fun i m m2 gm gm2 => ?_) fun H139 k139 => hno H139 ((k132.trans k136 fun _ g => g.elim).trans k139 fun _ g => g.elim)
    obtain ⟨z, gz⟩ : ∃ z, D1[i]? = some z := ⟨_, List.getElem?_eq_getElem (by have := (List.getElem?_eq_some_iff.1 gm).1; omega)⟩
    have a1 := told1.a i m z gm gz
    have a2 := told2.a i m2 z gm2 gz
    have := x.A16 z (hD1.mem_iff.1 (List.mem_of_getElem? gz))
    exact ⟨a1.1.trans a2.1.symm, z.A, a1.2.1.rd.kp0 k136, a2.2.1.rd, by omega⟩
  · -- Check
    refine ⟨_, rfl, _, x1.row.cell_of (i := 0) rfl, _, rfl, _, rowc (i := 2) x1.row rfl, _, _, _, c5 r1, ?_⟩
    refine c46 hh1 (fun H' k => h.rdV _ (k01.trans k fun b g => .inl (.inr (g.imp id .inr)))) lV fun s46 H155 hh155 la155 k155 hs46 => ?_
    obtain ⟨d1, d2, d3⟩ := h.hoV (s := s46) k1.size hs46
    have sz155 := k155.size
    have n46 := nHO (s' := ta) (fun b g => .inl g) hs46
    have k155' : Kp (fun b => O b ∨ HO hb ta tv b) H H155 := (k1.mono fun _ _ g => g.elim).trans k155 fun b g => .inl (.inr (g.imp id .inr))
    have k0155 := k155'
    have x155 := x1.kp k155 fun b ob g => h.dj b ob (g.imp id .inr)
    have r155 := k155.row r1 (fun g => by
      rcases g with e | g
      · exact n46 (.inl e)
      · have := h.h.lt (.inr (.inr g)); omega)
    have lr := la155.rd
    refine ⟨x155.row.cell_of (i := 0) rfl, ?_⟩
    -- behind the first
    have rest : ∀ {e : Int} {H161 : Hp}, Kp No H155 H161 → (∀ {H1 : Hp} {Q' : Int → Hp → Prop}, RefH H1 rb s M Z → RdL vF H1 sv o.V → (∀ H', Kp No H1 H' → Q' e H') → F47 (some ⟨rb, 0, none⟩) o.ty o.time sv H1 Q') → ∃ a164 : Addr, some (⟨pb, 0, none⟩ : Addr) = some a164 ∧ (
       ∃ x167 : (Option Addr), cell H161 (Addr.add a164 1) = some (.pointer x167) ∧ (
       ∃ (x169 : ByteArray) (x170 : Int) (x171 : Sl), cells H161 (Addr.add ⟨H.size, 0, none⟩ 5) (tR x169 x170 x171) 0 ∧ (
       F47 x167 x169 x170 x171 H161 (fun (r174 : Int) (H172 : Hp) => ∃ a175 : Addr, some (⟨pb, 0, none⟩ : Addr) = some a175 ∧ (
       ∃ x178 : (Option Addr), cell H172 (Addr.add a175 2) = some (.pointer x178) ∧ (
       ∃ (x180 : ByteArray) (x181 : Int) (x182 : Sl), cells H172 (Addr.add ⟨H.size, 0, none⟩ 5) (tR x180 x181 x182) 0 ∧ (
       F48 x178 x180 x181 x182 H172 (fun (r185 : Bool) (H183 : Hp) => (r185 = true → (Q (decide (e = r174)) H183)) ∧ (r185 = false → (Q false H183)))))))))) := fun {e H161} k161 f47 => by
      have x161 := x155.no k161
      have k0161 := k0155.trans k161 fun _ g => g.elim
      have r161 := k161.row r155 id
      refine ⟨_, rfl, _, rowc (i := 1) x161.row rfl, _, _, _, c5 r161, f47 x161.rf (h.rdV _ k0161) fun H172 k172 => ?_⟩
      have kk := k161.trans k172 fun _ g => g.elim
      have x172 := x155.no kk
      have k0172 := k0155.trans kk fun _ g => g.elim
      refine ⟨_, rfl, _, rowc (i := 2) x172.row rfl, _, _, _, c5 (kk.row r155 id), ?_⟩
      refine c48 (hh155.no kk) (la155.kp kk fun _ _ => id) (fun H' k => h.rdV _ (k0172.trans k fun b g => d3 b (.inr (.inr (.inr g))))) lV fun H183 hh183 k183 => ⟨fun _ => ?_, fun g => (by cases g)⟩
      rw [decide_eq_true (rfl : e = e)]
      refine hQ H183 ⟨O, ta, s46, ⟨_, _, _, _, _, _, _, x172.kp k183 fun b g g' => d1 b g (.inr (.inr g'))⟩, hh183, d1, fun b g => .inl g, d2, ?_⟩
      exact (k155'.trans kk fun b g => g.elim).trans k183 fun b g => (d2 b (.inr (.inr g))).imp .inr id
    rcases name_cases Z o.ty with ⟨z, hz, e⟩ | hz
    · have uni : ∀ z' ∈ Z, z'.n = o.ty → z' = z := fun z' hz' e' => name_inj x.cat.nd hz' hz (e'.trans e.symm)
      refine c11c x155.cat lr (by omega) (fun hn => absurd e (hn z hz)) fun z' hz' e' H161 k161 => ?_
      rw [uni z' hz' e']
      refine rest k161 fun hrf hV q => c47 hrf x.len x.A16 hV (by omega) (fun hn => absurd e (hn z hz)) fun z'' hz'' e'' H' k => ?_
      rw [uni z'' hz'' e'']
      exact q H' k
    · refine c11c x155.cat lr (by omega) (fun hn H161 k161 => ?_) fun z' hz' e' => absurd e' (hz z' hz')
      exact rest k161 fun hrf hV q => c47 hrf x.len x.A16 hV (by omega) (fun _ H' k => q H' k) fun z' hz' e' => absurd e' (hz z' hz')
  · -- Name
    refine ⟨_, rowc (i := 4) r1 rfl, _, rowc (i := 4) r1 rfl, c17 (h.tabs k01).w ⟨rowc (i := 4) r1 rfl, c49 fun H' k => ?_⟩⟩
    have e : (nm o.text == nm o.text) = true := by simp
    rw [e]
    exact hno H' k
  · -- Parse
    obtain ⟨n0, A0, at_, e0, hA0, f14, f50⟩ := c14f o.text
    refine ⟨_, rowc (i := 4) r1 rfl, f14 (h.tabs k01) fun rA H203 l203 b203 k203 => fun H209 e209 => ?_⟩
    have r209 := Row.new' e209
    have k209 : Kp No H203 H209 := (Kp.refl _ _).push' e209
    refine ⟨r209.mayw (by simp), fun H211 e211 => ?_⟩
    have r211 : Row H211 H203.size 27 [.string n0, Sl.v rA] := r209.fill' e211 rfl
    have k211 : Kp No H203 H211 := k209.sets' e211 (.inr (Nat.le_refl _))
    have l211 := l203.kp k211 fun _ _ => id
    have k1211 := k203.trans k211 fun _ g => g.elim
    refine ⟨_, rowc (i := 4) (k1211.row r1 id) rfl, f50 fun rB H216 l216 b216 k216 => fun H222 e222 => ?_⟩
    have r222 := Row.new' e222
    have k222 : Kp No H216 H222 := (Kp.refl _ _).push' e222
    refine ⟨r222.mayw (by simp), fun H224 e224 => ?_⟩
    have r224 : Row H224 H216.size 27 [.string n0, Sl.v rB] := r222.fill' e224 rfl
    have k224 : Kp No H216 H224 := k222.sets' e224 (.inr (Nat.le_refl _))
    have kk := k216.trans k224 fun _ g => g.elim
    refine ⟨fun _ => ⟨fun _ => ⟨_, _, (kk.row r211 id).all, _, _, r224.all, ?_⟩, fun g => absurd rfl (of_decide_eq_false g)⟩, fun g => absurd rfl (of_decide_eq_false g)⟩
    exact same15 (l211.rd.kp0 kk) (l216.rd.kp0 k224) (by omega) fun H237 k237 => hno H237 ((k1211.trans kk fun _ g => g.elim).trans k237 fun _ g => g.elim)
  · -- Print
    refine ⟨_, rfl, _, rowc (i := 2) x1.row rfl, _, _, c2 r1, ?_⟩
    refine c39 hh1 (fun H' k => h.rdA _ (k01.trans k fun b g => .inl (.inr (g.imp id .inl)))) lA fun s39 H248 hh248 la248 k248 hs39 => ?_
    obtain ⟨d1, d2, d3⟩ := h.hoA (s := s39) k1.size hs39
    have sz248 := k248.size
    have n39 := nHO hs39 (s'' := tv) fun b g => .inl g
    have k248' : Kp (fun b => O b ∨ HO hb ta tv b) H H248 := (k1.mono fun _ _ g => g.elim).trans k248 fun b g => .inl (.inr (g.imp id .inl))
    have k0248 := k248'
    have x248 := x1.kp k248 fun b ob g => h.dj b ob (g.imp id .inl)
    have r248 := k248.row r1 (fun g => by
      rcases g with e | g
      · exact n39 (.inl e)
      · have := h.h.lt (.inr (.inl g)); omega)
    have lr := la248.rd
    have rest : ∀ {t : ByteArray} {e : Int} {H252 : Hp}, Kp No H248 H252 → (∀ {H1 : Hp} {Q' : ByteArray → Int → Hp → Prop}, RdL aF H1 sa o.A → (∀ H', Kp No H1 H' → Q' t e H') → F51 o.name sa H1 Q') → ∃ (x257 : ByteArray) (x258 : Sl), cells H252 (Addr.add ⟨H.size, 0, none⟩ 2) [.string x257, (Sl.v x258)] 0 ∧ (
       F51 x257 x258 H252 (fun (r261 : ByteArray) (r262 : Int) (H259 : Hp) => ∃ a263 : Addr, some (⟨pb, 0, none⟩ : Addr) = some a263 ∧ (
       ∃ x266 : (Option Addr), cell H259 (Addr.add a263 2) = some (.pointer x266) ∧ (
       ∃ (x268 : ByteArray) (x269 : Sl), cells H259 (Addr.add ⟨H.size, 0, none⟩ 2) [.string x268, (Sl.v x269)] 0 ∧ (
       F41 x266 x268 x269 H259 (fun (r272 : Bool) (H270 : Hp) => (r272 = true → (((decide (e = r262)) = true → (Q (seq t r261) H270)) ∧ ((decide (e = r262)) = false → (Q false H270)))) ∧ (r272 = false → (Q false H270)))))))) := fun {t e H252} k252 f51 => by
      have k0252 := k0248.trans k252 fun _ g => g.elim
      refine ⟨_, _, c2 (k252.row r248 id), f51 (h.rdA _ k0252) fun H259 k259 => ?_⟩
      have kk := k252.trans k259 fun _ g => g.elim
      have x259 := x248.no kk
      have k0259 := k0248.trans kk fun _ g => g.elim
      refine ⟨_, rfl, _, rowc (i := 2) x259.row rfl, _, _, c2 (kk.row r248 id), ?_⟩
      refine c41 (hh248.no kk) (la248.kp kk fun _ _ => id) (fun H' k => h.rdA _ (k0259.trans k fun b g => d3 b (.inr (.inr (.inl g))))) lA fun H270 hh270 k270 => ⟨fun _ => ⟨fun _ => ?_, fun g => absurd rfl (of_decide_eq_false g)⟩, fun g => (by cases g)⟩
      rw [seq_refl]
      refine hQ H270 ⟨O, s39, tv, ⟨_, _, _, _, _, _, _, x259.kp k270 fun b g g' => d1 b g (.inr (.inl g'))⟩, hh270, d1, fun b g => .inl g, d2, ?_⟩
      exact (k248'.trans kk fun b g => g.elim).trans k270 fun b g => (d2 b (.inr (.inl g))).imp .inr id
    refine c13 (h.tabs k0248) lr.1 lr.2 lA (fun hw H252 k252 => rest k252 fun hA q => ?_) fun hw H252 k252 => rest k252 fun hA q => ?_
    · exact c51 hA lA (fun _ H' k => q H' k) fun g => absurd g hw
    · exact c51 hA lA (fun g => absurd hw g) fun _ H' k => q H' k
end
end Go.Hw
