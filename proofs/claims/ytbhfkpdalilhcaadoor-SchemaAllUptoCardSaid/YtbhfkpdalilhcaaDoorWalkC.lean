/- The walks of this seat, printed by a program of this session (wip/tools/gen.py): of each function what it does to the heap, and that it does so. -/
import Derived.Test.YtbhfkpdalilhcaaDoorHwZ
import Derived.Test.YtbhfkpdalilhcaaDoorProg
import Derived.Test.YtbhfkpdalilhcaaDoorWAux
import Derived.Test.YtbhfkpdalilhcaaDoorWalkB
set_option linter.unusedVariables false
set_option linter.unusedSimpArgs false
set_option maxRecDepth 100000
set_option maxHeartbeats 4000000
namespace Go.Hw
open Go Go.Proofs Tryd
def F19_2 (Q : Bool → Hp → Prop) (y36 : (Option Addr)) (y37 : (Option Addr)) (y57 : Bool) (H_2 : Hp) : Prop :=
(y57 = true → (F37 H_2 (fun (r62 : ByteArray) (r63 : Sl) (H60 : Hp) => 
 F22 y36 1 0 r62 r63 bE bE 0 Sl.nil H60 (fun (r66 : Bool) (H64 : Hp) => 
 (r66 = true → (F22 y36 2 0 bE Sl.nil S_Trade bE 0 Sl.nil H64 (fun (r71 : Bool) (H69 : Hp) => 
 (r71 = true → (F22 y37 2 0 bE Sl.nil S_Trade bE 0 Sl.nil H69 (fun (r76 : Bool) (H74 : Hp) => 
 Q r76 H74))) ∧
 (r71 = false → (Q false H69))))) ∧
 (r66 = false → (Q false H64)))))) ∧
 (y57 = false → (Q false H_2))
def F19_1 (Q : Bool → Hp → Prop) (y11 : (Option Addr)) (y12 : (Option Addr)) (y15 : Bool) (H_1 : Hp) : Prop :=
(y15 = true → (Q false H_1)) ∧
 (y15 = false → (F37 H_1 (fun (r19 : ByteArray) (r20 : Sl) (H17 : Hp) => 
 F13 r19 r20 H17 (fun (r23 : ByteArray) (r24 : Int) (H21 : Hp) => 
 F14 r23 H21 (fun (r27 : ByteArray) (r28 : Sl) (r29 r30 : Int) (H25 : Hp) => 
 ∀ H31 : Hp, H31 = Array.push H25 (.cells #[(sv bE), sN] 27) → (
 mayw H31 (bk H25) 2 0 ∧ ∀ H33 : Hp, H33 = sets H31 (bk H25) [(sv r27), (Sl.v r28)] 0 → (
 ((decide (r24 = 0)) = true → (((seq r23 S_TYPE_Trade__price_INT__s) = true → (((decide (r30 = 0)) = true → (((decide (r29 = 0)) = true → (∃ (x47 : ByteArray) (x48 : Sl), cells H33 (bk H25) [(sv x47), (Sl.v x48)] 0 ∧ (
 F37 H33 (fun (r51 : ByteArray) (r52 : Sl) (H49 : Hp) => 
 cells H49 (bk H25) [(sv x47), (Sl.v x48)] 0 ∧ (
 F15 x47 x48 r51 r52 H49 (fun (r56 : Bool) (H54 : Hp) => 
 F19_2 Q y11 y12 r56 H54)))))) ∧
 ((decide (r29 = 0)) = false → (F19_2 Q y11 y12 false H33)))) ∧
 ((decide (r30 = 0)) = false → (F19_2 Q y11 y12 false H33)))) ∧
 ((seq r23 S_TYPE_Trade__price_INT__s) = false → (F19_2 Q y11 y12 false H33)))) ∧
 ((decide (r24 = 0)) = false → (F19_2 Q y11 y12 false H33)))))))))
def F19 (H : Hp) (Q : Bool → Hp → Prop) : Prop :=
∀ H1 : Hp, H1 = Array.push H (.cells #[sN, sN] 60) → (
 F21 (some (bk H)) H1 (fun (r5 : (Option Addr)) (r6 : Bool) (H3 : Hp) => 
 F21 (some (bk H)) H3 (fun (r9 : (Option Addr)) (r10 : Bool) (H7 : Hp) => 
 ((!r6) = true → (F19_1 Q r5 r9 true H7)) ∧
 ((!r6) = false → (F19_1 Q r5 r9 (!r10) H7)))))
theorem walk19 {w0 : World} {H : Hp} {Q : Bool → Hp → Prop} (h : F19 H Q) :
  Good prog w0 19 #[] H (fun v H => ∃ (r0 : Bool) , v = (bv r0) ∧ Q r0 H) := by
 unfold F19 at h
 refine Good.enter' (fn := f19) func19 rfl rfl rfl (ws (wr_ (hv (v := (bv false)) rfl (av rfl) (hn (nt (ws ?_))))))
 refine wr_ (hv (v := (.agg #[sN, sN])) rfl (HVal.build' (cs := [sN, sN]) runUnderlying60 zeroValue60 places60 rfl) (ho rfl (ob (v := (.agg #[sN, sN])) rfl) ?_))
 rintro _ H1 ⟨rfl, e2⟩
 replace h := h H1 e2
 refine hv (v := (pp (bk H))) rfl (av rfl) (hn (nt (ws (wr_ (hv (v := (pp (bk H))) rfl (mv rfl) ?_)))))
 refine ho rfl (HOp.call' 21 [(pp (bk H))] (cap := []) rfl rfl call21 (walk21 h)) ?_
 rintro _ H3 ⟨r5, r6, rfl, h⟩
 refine hv (v := (.tuple #[(.pointer r5), (bv r6)])) rfl (mv rfl) (hv (v := (.pointer r5)) rfl (HVal.extract rfl rfl) (hv (v := (bv r6)) rfl (HVal.extract rfl rfl) ?_))
 refine hv (v := (.pointer r5)) rfl (av rfl) (hv (v := (bv r6)) rfl (av rfl) (hn (nt (ws (wr_ (hv (v := (pp (bk H))) rfl (mv rfl) ?_))))))
 refine ho rfl (HOp.call' 21 [(pp (bk H))] (cap := []) rfl rfl call21 (walk21 h)) ?_
 rintro _ H7 ⟨r9, r10, rfl, h⟩
 refine hv (v := (.tuple #[(.pointer r9), (bv r10)])) rfl (mv rfl) (hv (v := (.pointer r9)) rfl (HVal.extract rfl rfl) (hv (v := (bv r10)) rfl (HVal.extract rfl rfl) ?_))
 refine hv (v := (.pointer r9)) rfl (av rfl) (hv (v := (bv r10)) rfl (av rfl) (hn (nt (ws (wc (fun ρ H_1 => ∃ (y15 : Bool), Env.Is ρ [(2, (.pointer r5)), (4, (.pointer r9)), (29, (bv y15))] ∧ F19_1 Q r5 r9 y15 H_1) ?_ ?_)))))
 ·refine wr_ (hv (v := (bv r6)) rfl (mv rfl) (hv (v := (bv (!r6))) rfl (HVal.not rfl) (hv (v := (bv (!r6))) rfl (mv rfl) ?_)))
  obtain ⟨hT, hF⟩ := h
  rcases Bool.eq_false_or_eq_true (!r6) with hb13 | hb14
  ·have h := hT hb13
   refine hs_ rfl rfl rfl rfl (cB hb13) (hs_ rfl rfl rfl rfl (cB hb13) (hv (v := (bv true)) rfl (pt_ rfl hb13 rfl) (hn (nt ?_))))
   exact ⟨true, (isp rfl), h⟩
  have h := hF hb14
  refine hg (v := (bv r10)) rfl rfl rfl rfl (cB hb14) (mv rfl) (hg (v := (bv (!r10))) rfl rfl rfl rfl (cB hb14) (HVal.not rfl) (hv (v := (bv (!r10))) rfl (pf_ rfl hb14 rfl) ?_))
  refine hn (nt ?_)
  exact ⟨(!r10), (isp rfl), h⟩
 rintro ρ H_1 ⟨y15, hI, h⟩
 obtain ⟨ρ0, rfl⟩ := hI.ex
 clear hI; unfold F19_1 at h
 obtain ⟨hT, hF⟩ := h
 refine wk y15 rfl (fun hb16 => ?_) (fun hb16 => ?_)
 ·have h := hT hb16
  refine ws (wr_ (hv (v := (bv false)) rfl (av rfl) (hn (nt (HW.ret (tr ?_))))))
  exact ⟨_, resOf1 rfl Res1.t, ⟨false, rfl, h⟩⟩
 have h := hF hb16
 refine wp_ (nt (ws (wr_ (ho rfl (HOp.call' 37 [] (cap := []) rfl rfl call37 (walk37 h)) ?_))))
 rintro _ H17 ⟨r19, r20, rfl, h⟩
 refine ho rfl (HOp.call' 13 [(.agg #[(sv r19), (Sl.v r20)])] (cap := []) rfl rfl call13 (walk13 h)) ?_
 rintro _ H21 ⟨r23, r24, rfl, h⟩
 refine hv (v := (.tuple #[(sv r23), (iv r24)])) rfl (mv rfl) (hv (v := (sv r23)) rfl (HVal.extract rfl rfl) (hv (v := (iv r24)) rfl (HVal.extract rfl rfl) ?_))
 refine hv (v := (sv r23)) rfl (av rfl) (hv (v := (iv r24)) rfl (av rfl) (hn (nt (ws (wr_ (hv (v := (sv r23)) rfl (mv rfl) ?_))))))
 refine ho rfl (HOp.call' 14 [(sv r23)] (cap := []) rfl rfl call14 (walk14 h)) ?_
 rintro _ H25 ⟨r27, r28, r29, r30, rfl, h⟩
 refine hv (v := (.tuple #[(.agg #[(sv r27), (Sl.v r28)]), (iv r29), (iv r30)])) rfl (mv rfl) (hv (v := (.agg #[(sv r27), (Sl.v r28)])) rfl (HVal.extract rfl rfl) ?_)
 refine hv (v := (iv r29)) rfl (HVal.extract rfl rfl) (hv (v := (iv r30)) rfl (HVal.extract rfl rfl) (ho rfl (HOp.alloc zeroValue27) ?_))
 rintro _ H31 ⟨rfl, e32⟩
 replace h := h H31 e32
 obtain ⟨z35, h⟩ := h
 refine hq (HOp.storeN' (l := [(sv r27), (Sl.v r28)]) sizeOf27 rfl rfl rfl z35) ?_
 rintro _ H33 e34
 replace h := h H33 e34
 refine hv (v := (iv r29)) rfl (av rfl) (hv (v := (iv r30)) rfl (av rfl) (hn (nt (wc (fun ρ H_2 => ∃ (y57 : Bool), Env.Is ρ [(2, (.pointer r5)), (4, (.pointer r9)), (11, (bv y57))] ∧ F19_2 Q r5 r9 y57 H_2) ?_ ?_))))
 ·refine HW.draw mixed [(0, some []), (1, some []), (2, some []), (3, some []), (4, some []), (5, some []), (6, some []), (7, some []), (8, some []), (9, some []), (10, some []), (11, some []), (12, some []), (13, some []), (14, some []), (15, some [17]), (16, none), (17, none), (18, some []), (19, some [])] rfl (by kernel_rfl) (by kernel_rfl) ?_
  refine pv (v := (iv r24)) rfl rfl (fun _ => mv rfl) (pv (v := (bv (decide (r24 = 0)))) rfl rfl (fun _ => HVal.eqlI rfl rfl) (pv (v := (bv (decide (r24 = 0)))) rfl rfl (fun _ => mv rfl) ?_))
  obtain ⟨hT, hF⟩ := h
  rcases Bool.eq_false_or_eq_true (decide (r24 = 0)) with hb38 | hb39
  ·have h := hT hb38
   refine HPlan.gtakev (v := (sv r23)) rfl rfl rfl rfl rfl (cB hb38) (fun _ => mv rfl) (HPlan.gtakev (v := (bv (seq r23 S_TYPE_Trade__price_INT__s))) rfl rfl rfl rfl rfl (cB hb38) (fun _ => HVal.eqlS rfl rfl) ?_)
   refine pv (v := (bv (seq r23 S_TYPE_Trade__price_INT__s))) rfl rfl (fun _ => pt_ rfl hb38 rfl) (pv (v := (bv (seq r23 S_TYPE_Trade__price_INT__s))) rfl rfl (fun _ => mv rfl) ?_)
   obtain ⟨hT, hF⟩ := h
   rcases Bool.eq_false_or_eq_true (seq r23 S_TYPE_Trade__price_INT__s) with hb40 | hb41
   ·have h := hT hb40
    refine HPlan.gtakev (v := (iv r30)) rfl rfl rfl rfl rfl (cB hb40) (fun _ => mv rfl) (HPlan.gtakev (v := (bv (decide (r30 = 0)))) rfl rfl rfl rfl rfl (cB hb40) (fun _ => HVal.eqlI rfl rfl) ?_)
    refine pv (v := (bv (decide (r30 = 0)))) rfl rfl (fun _ => pt_ rfl hb40 rfl) (pv (v := (bv (decide (r30 = 0)))) rfl rfl (fun _ => mv rfl) ?_)
    obtain ⟨hT, hF⟩ := h
    rcases Bool.eq_false_or_eq_true (decide (r30 = 0)) with hb42 | hb43
    ·have h := hT hb42
     refine HPlan.gtakev (v := (iv r29)) rfl rfl rfl rfl rfl (cB hb42) (fun _ => mv rfl) (HPlan.gtakev (v := (bv (decide (r29 = 0)))) rfl rfl rfl rfl rfl (cB hb42) (fun _ => HVal.eqlI rfl rfl) ?_)
     refine pv (v := (bv (decide (r29 = 0)))) rfl rfl (fun _ => pt_ rfl hb42 rfl) (pv (v := (bv (decide (r29 = 0)))) rfl rfl (fun _ => mv rfl) ?_)
     obtain ⟨hT, hF⟩ := h
     rcases Bool.eq_false_or_eq_true (decide (r29 = 0)) with hb44 | hb45
     ·have h := hT hb44
      obtain ⟨x47, x48, c46, h⟩ := h
      refine HPlan.gtakel (v := (.agg #[(sv x47), (Sl.v x48)])) (fun X => cells X (bk H25) [(sv x47), (Sl.v x48)] 0) rfl rfl rfl rfl rfl (cB hb44) (fun _ hX => ln [(sv x47), (Sl.v x48)] isAgg27 sizeOf27 rfl hX) c46 ?_
      refine HPlan.gops rfl rfl rfl rfl rfl (cB hb44) (HOp.call' 37 [] (cap := []) rfl rfl call37 (walk37 h)) ?_
      rintro _ H49 ⟨r51, r52, rfl, h⟩
      obtain ⟨s53, h⟩ := h
      refine ⟨SC_of ⟨fun _ => s53, trivial⟩, ?_⟩
      refine HPlan.gops rfl rfl rfl rfl rfl (cB hb44) (HOp.call' 15 [(.agg #[(sv x47), (Sl.v x48)]), (.agg #[(sv r51), (Sl.v r52)])] (cap := []) rfl rfl call15 (walk15 h)) ?_
      rintro _ H54 ⟨r56, rfl, h⟩
      refine ⟨SC_of ⟨nofun, trivial⟩, ?_⟩
      refine pv (v := (bv r56)) rfl rfl (fun _ => pt_ rfl hb44 rfl) (pv (v := (bv r56)) rfl rfl (fun _ => av rfl) (HPlan.done ?_))
      refine nt ?_
      exact ⟨r56, (isp rfl), h⟩
     have h := hF hb45
     refine pg rfl rfl rfl rfl (cB hb45) (HPlan.opgskip rfl rfl rfl rfl (cB hb45) (HPlan.opgskip rfl rfl rfl rfl (cB hb45) (pv (v := (bv false)) rfl rfl (fun _ => pf_ rfl hb45 rfl) ?_)))
     refine pv (v := (bv false)) rfl rfl (fun _ => av rfl) (HPlan.done (nt ?_))
     exact ⟨false, (isp rfl), h⟩
    have h := hF hb43
    refine pg rfl rfl rfl rfl (cB hb43) (pg rfl rfl rfl rfl (cB hb43) (pv (v := (bv false)) rfl rfl (fun _ => pf_ rfl hb43 rfl) ?_))
    refine pv (v := (bv false)) rfl rfl (fun _ => mv rfl) (pg rfl rfl rfl rfl rfl (HPlan.opgskip rfl rfl rfl rfl rfl (HPlan.opgskip rfl rfl rfl rfl rfl ?_)))
    refine pv (v := (bv false)) rfl rfl (fun _ => pf_ rfl rfl rfl) (pv (v := (bv false)) rfl rfl (fun _ => av rfl) (HPlan.done ?_))
    refine nt ?_
    exact ⟨false, (isp rfl), h⟩
   have h := hF hb41
   refine pg rfl rfl rfl rfl (cB hb41) (pg rfl rfl rfl rfl (cB hb41) (pv (v := (bv false)) rfl rfl (fun _ => pf_ rfl hb41 rfl) ?_))
   refine pv (v := (bv false)) rfl rfl (fun _ => mv rfl) (pg rfl rfl rfl rfl rfl (pg rfl rfl rfl rfl rfl (pv (v := (bv false)) rfl rfl (fun _ => pf_ rfl rfl rfl) ?_)))
   refine pv (v := (bv false)) rfl rfl (fun _ => mv rfl) (pg rfl rfl rfl rfl rfl (HPlan.opgskip rfl rfl rfl rfl rfl (HPlan.opgskip rfl rfl rfl rfl rfl ?_)))
   refine pv (v := (bv false)) rfl rfl (fun _ => pf_ rfl rfl rfl) (pv (v := (bv false)) rfl rfl (fun _ => av rfl) (HPlan.done ?_))
   refine nt ?_
   exact ⟨false, (isp rfl), h⟩
  have h := hF hb39
  refine pg rfl rfl rfl rfl (cB hb39) (pg rfl rfl rfl rfl (cB hb39) (pv (v := (bv false)) rfl rfl (fun _ => pf_ rfl hb39 rfl) ?_))
  refine pv (v := (bv false)) rfl rfl (fun _ => mv rfl) (pg rfl rfl rfl rfl rfl (pg rfl rfl rfl rfl rfl (pv (v := (bv false)) rfl rfl (fun _ => pf_ rfl rfl rfl) ?_)))
  refine pv (v := (bv false)) rfl rfl (fun _ => mv rfl) (pg rfl rfl rfl rfl rfl (pg rfl rfl rfl rfl rfl (pv (v := (bv false)) rfl rfl (fun _ => pf_ rfl rfl rfl) ?_)))
  refine pv (v := (bv false)) rfl rfl (fun _ => mv rfl) (pg rfl rfl rfl rfl rfl (HPlan.opgskip rfl rfl rfl rfl rfl (HPlan.opgskip rfl rfl rfl rfl rfl ?_)))
  refine pv (v := (bv false)) rfl rfl (fun _ => pf_ rfl rfl rfl) (pv (v := (bv false)) rfl rfl (fun _ => av rfl) (HPlan.done ?_))
  refine nt ?_
  exact ⟨false, (isp rfl), h⟩
 rintro ρ H_2 ⟨y57, hI, h⟩
 obtain ⟨ρ0, rfl⟩ := hI.ex
 clear hI; unfold F19_2 at h
 refine ws (wr_ (hv (v := (bv y57)) rfl (mv rfl) (hv (v := (bv y57)) rfl (mv rfl) ?_)))
 obtain ⟨hT, hF⟩ := h
 rcases Bool.eq_false_or_eq_true y57 with hb58 | hb59
 ·have h := hT hb58
  refine hg (v := (.pointer r5)) rfl rfl rfl rfl (cB hb58) (mv rfl) (HList.gops rfl rfl rfl rfl (cB hb58) (HOp.call' 37 [] (cap := []) rfl rfl call37 (walk37 h)) ?_)
  rintro _ H60 ⟨r62, r63, rfl, h⟩
  refine hg (v := (.agg #[(iv 1), (iv 0), (sv r62), (Sl.v r63), (sv bE), (sv bE), (iv 0), sN])) rfl rfl rfl rfl (cB hb58) (HVal.build' (cs := [(iv 1), (iv 0), (sv r62), (Sl.v r63), (sv bE), (sv bE), (iv 0), sN]) runUnderlying65 zeroValue65 places65 (by kernel_rfl)) ?_
  refine HList.gops rfl rfl rfl rfl (cB hb58) (HOp.call' 22 [(.pointer r5), (.agg #[(iv 1), (iv 0), (sv r62), (Sl.v r63), (sv bE), (sv bE), (iv 0), sN])] (cap := []) rfl rfl call22 (walk22 h)) ?_
  rintro _ H64 ⟨r66, rfl, h⟩
  refine hv (v := (bv r66)) rfl (pt_ rfl hb58 rfl) (hv (v := (bv r66)) rfl (mv rfl) ?_)
  obtain ⟨hT, hF⟩ := h
  rcases Bool.eq_false_or_eq_true r66 with hb67 | hb68
  ·have h := hT hb67
   refine hg (v := (.pointer r5)) rfl rfl rfl rfl (cB hb67) (mv rfl) (hg (v := (.agg #[(iv 2), (iv 0), (sv bE), sN, (sv S_Trade), (sv bE), (iv 0), sN])) rfl rfl rfl rfl (cB hb67) (HVal.build' (cs := [(iv 2), (iv 0), (sv bE), sN, (sv S_Trade), (sv bE), (iv 0), sN]) runUnderlying65 zeroValue65 places65 (by kernel_rfl)) ?_)
   refine HList.gops rfl rfl rfl rfl (cB hb67) (HOp.call' 22 [(.pointer r5), (.agg #[(iv 2), (iv 0), (sv bE), sN, (sv S_Trade), (sv bE), (iv 0), sN])] (cap := []) rfl rfl call22 (walk22 h)) ?_
   rintro _ H69 ⟨r71, rfl, h⟩
   refine hv (v := (bv r71)) rfl (pt_ rfl hb67 rfl) (hv (v := (bv r71)) rfl (mv rfl) ?_)
   obtain ⟨hT, hF⟩ := h
   rcases Bool.eq_false_or_eq_true r71 with hb72 | hb73
   ·have h := hT hb72
    refine hg (v := (.pointer r9)) rfl rfl rfl rfl (cB hb72) (mv rfl) (hg (v := (.agg #[(iv 2), (iv 0), (sv bE), sN, (sv S_Trade), (sv bE), (iv 0), sN])) rfl rfl rfl rfl (cB hb72) (HVal.build' (cs := [(iv 2), (iv 0), (sv bE), sN, (sv S_Trade), (sv bE), (iv 0), sN]) runUnderlying65 zeroValue65 places65 (by kernel_rfl)) ?_)
    refine HList.gops rfl rfl rfl rfl (cB hb72) (HOp.call' 22 [(.pointer r9), (.agg #[(iv 2), (iv 0), (sv bE), sN, (sv S_Trade), (sv bE), (iv 0), sN])] (cap := []) rfl rfl call22 (walk22 h)) ?_
    rintro _ H74 ⟨r76, rfl, h⟩
    refine hv (v := (bv r76)) rfl (pt_ rfl hb72 rfl) (hv (v := (bv r76)) rfl (av rfl) (hn (nt (HW.ret ?_))))
    exact ⟨_, resOf1 rfl Res1.t, ⟨r76, rfl, h⟩⟩
   have h := hF hb73
   refine hs_ rfl rfl rfl rfl (cB hb73) (hs_ rfl rfl rfl rfl (cB hb73) (hs_ rfl rfl rfl rfl (cB hb73) (hv (v := (bv false)) rfl (pf_ rfl hb73 rfl) ?_)))
   refine hv (v := (bv false)) rfl (av rfl) (hn (nt (HW.ret ?_)))
   exact ⟨_, resOf1 rfl Res1.t, ⟨false, rfl, h⟩⟩
  have h := hF hb68
  refine hs_ rfl rfl rfl rfl (cB hb68) (hs_ rfl rfl rfl rfl (cB hb68) (hs_ rfl rfl rfl rfl (cB hb68) (hv (v := (bv false)) rfl (pf_ rfl hb68 rfl) ?_)))
  refine hv (v := (bv false)) rfl (mv rfl) (hs_ rfl rfl rfl rfl rfl (hs_ rfl rfl rfl rfl rfl (hs_ rfl rfl rfl rfl rfl ?_)))
  refine hv (v := (bv false)) rfl (pf_ rfl rfl rfl) (hv (v := (bv false)) rfl (av rfl) (hn (nt (HW.ret ?_))))
  exact ⟨_, resOf1 rfl Res1.t, ⟨false, rfl, h⟩⟩
 have h := hF hb59
 refine hs_ rfl rfl rfl rfl (cB hb59) (hs_ rfl rfl rfl rfl (cB hb59) (hs_ rfl rfl rfl rfl (cB hb59) (hs_ rfl rfl rfl rfl (cB hb59) ?_)))
 refine hv (v := (bv false)) rfl (pf_ rfl hb59 rfl) (hv (v := (bv false)) rfl (mv rfl) (hs_ rfl rfl rfl rfl rfl (hs_ rfl rfl rfl rfl rfl ?_)))
 refine hs_ rfl rfl rfl rfl rfl (hv (v := (bv false)) rfl (pf_ rfl rfl rfl) (hv (v := (bv false)) rfl (mv rfl) (hs_ rfl rfl rfl rfl rfl ?_)))
 refine hs_ rfl rfl rfl rfl rfl (hs_ rfl rfl rfl rfl rfl (hv (v := (bv false)) rfl (pf_ rfl rfl rfl) (hv (v := (bv false)) rfl (av rfl) ?_)))
 refine hn (nt (HW.ret ?_))
 exact ⟨_, resOf1 rfl Res1.t, ⟨false, rfl, h⟩⟩

def F6_2 (Q : Bool → Hp → Prop) (X1 : Int → Hp → Prop) (y23 : Sl) (y24 y25 : Addr) (y26 y27 : Int) (H_2 : Hp) : Prop :=
(0 : Int) ≤ y27 ∧ y27 < ((8 : Nat) : Int) ∧ (
 ∃ x61 : (Option Addr), cell H_2 (Addr.add y25 (y27.toNat * 1)) = some (.pointer x61) ∧ (
 ∃ a62 : Addr, (y23).b = some a62 ∧ (0 : Int) ≤ y26 ∧ y26 < ((y23).n : Int) ∧ (
 ∃ (x67 x68 : Int) (x69 : ByteArray) (x70 : Sl) (x71 x72 : ByteArray) (x73 : Int) (x74 : Sl), cells H_2 (Addr.add a62 (y26.toNat * 8)) [(iv x67), (iv x68), (sv x69), (Sl.v x70), (sv x71), (sv x72), (iv x73), (Sl.v x74)] 0 ∧ (
 F22 x61 x67 x68 x69 x70 x71 x72 x73 x74 H_2 (fun (r77 : Bool) (H75 : Hp) => 
 ((!r77) = true → (Q false H75)) ∧
 ((!r77) = false → (X1 (IntKind.i64.wrap (y26 + 1)) H75)))))))
def F6_3 (Q : Bool → Hp → Prop) (X1 : Int → Hp → Prop) (y28 : Sl) (y29 y30 : Addr) (y31 y32 : Int) (y41 : Bool) (H_3 : Hp) : Prop :=
(y41 = true → (F21 (some y29) H_3 (fun (r49 : (Option Addr)) (r50 : Bool) (H47 : Hp) => 
 ((!r50) = true → (Q false H47)) ∧
 ((!r50) = false → ((0 : Int) ≤ y32 ∧ y32 < ((8 : Nat) : Int) ∧ (
 (cell H47 (Addr.add y30 (y32.toNat * 1))).isSome = true ∧ frz H47 (Addr.add y30 (y32.toNat * 1)) = false ∧ ∀ H54 : Hp, H54 = setc H47 (Addr.add y30 (y32.toNat * 1)) (.pointer r49) → (
 F6_2 Q X1 y28 y29 y30 y31 y32 H54))))))) ∧
 (y41 = false → (F6_2 Q X1 y28 y29 y30 y31 y32 H_3))
def F6_L1b (Q : Bool → Hp → Prop) (X1 : Int → Hp → Prop) (y10 : Sl) (y11 y12 : Addr) (y9 : Int) (H_1 : Hp) : Prop :=
((decide (y9 < ((y10).n : Int))) = true → (∃ a14 : Addr, (y10).b = some a14 ∧ (0 : Int) ≤ y9 ∧ y9 < ((y10).n : Int) ∧ (
 ∃ x19 : Int, cell H_1 (Addr.add (Addr.add a14 (y9.toNat * 8)) 1) = some (iv x19) ∧ (
 F20 x19 H_1 (fun (r22 : Int) (H20 : Hp) => 
 ∃ a33 : Addr, (y10).b = some a33 ∧ (0 : Int) ≤ y9 ∧ y9 < ((y10).n : Int) ∧ (
 ∃ x38 : Int, cell H20 (Addr.add a33 (y9.toNat * 8)) = some (iv x38) ∧ (
 ((decide (x38 = 8)) = true → (F6_3 Q X1 y10 y11 y12 y9 r22 true H20)) ∧
 ((decide (x38 = 8)) = false → ((0 : Int) ≤ r22 ∧ r22 < ((8 : Nat) : Int) ∧ (
 ∃ x45 : (Option Addr), cell H20 (Addr.add y12 (r22.toNat * 1)) = some (.pointer x45) ∧ (
 F6_3 Q X1 y10 y11 y12 y9 r22 (x45.isNone) H20))))))))))) ∧
 ((decide (y9 < ((y10).n : Int))) = false → (Q true H_1))
def F6_L1 (Q : Bool → Hp → Prop) (y10 : Sl) (y11 y12 : Addr) (y9 : Int) (H_1 : Hp) : Prop :=
 ∀ X1 : Int → Hp → Prop, (∀ (y9 : Int) (H_1 : Hp), F6_L1b Q X1 y10 y11 y12 y9 H_1 → X1 y9 H_1) → X1 y9 H_1
def F6 (p0 : Sl) (H : Hp) (Q : Bool → Hp → Prop) : Prop :=
F19 H (fun (r3 : Bool) (H1 : Hp) => 
 ((!r3) = true → (Q false H1)) ∧
 ((!r3) = false → (∀ H5 : Hp, H5 = Array.push H1 (.cells #[sN, sN] 60) → (
 ∀ H7 : Hp, H7 = Array.push H5 (.cells #[(.pointer none), (.pointer none), (.pointer none), (.pointer none), (.pointer none), (.pointer none), (.pointer none), (.pointer none)] 62) → (
 F6_L1 Q p0 (bk H1) (bk H5) 0 H7)))))
theorem walk6 {w0 : World} {p0 : Sl} {H : Hp} {Q : Bool → Hp → Prop} (h : F6 p0 H Q) :
  Good prog w0 6 #[(Sl.v p0)] H (fun v H => ∃ (r0 : Bool) , v = (bv r0) ∧ Q r0 H) := by
 unfold F6 at h
 refine Good.enter' (fn := f6) func6 rfl rfl rfl (ws (wr_ (hv (v := (bv false)) rfl (av rfl) (hn (nt (ws ?_))))))
 refine ws (wr_ (ho rfl (HOp.call' 19 [] (cap := []) rfl rfl call19 (walk19 h)) ?_))
 rintro _ H1 ⟨r3, rfl, h⟩
 refine hv (v := (bv (!r3))) rfl (HVal.not rfl) (hn (nt ?_))
 obtain ⟨hT, hF⟩ := h
 refine wk (!r3) rfl (fun hb4 => ?_) (fun hb4 => ?_)
 ·have h := hT hb4
  refine ws (wr_ (hv (v := (bv false)) rfl (av rfl) (hn (nt (HW.ret (tr ?_))))))
  exact ⟨_, resOf1 rfl Res1.t, ⟨false, rfl, h⟩⟩
 have h := hF hb4
 refine wp_ (nt (ws (wr_ (hv (v := (.agg #[sN, sN])) rfl (HVal.build' (cs := [sN, sN]) runUnderlying60 zeroValue60 places60 rfl) ?_))))
 refine ho rfl (ob (v := (.agg #[sN, sN])) rfl) ?_
 rintro _ H5 ⟨rfl, e6⟩
 replace h := h H5 e6
 refine hv (v := (pp (bk H1))) rfl (av rfl) (hn (nt (ws (wr_ (ho rfl (HOp.alloc zeroValue62) ?_)))))
 rintro _ H7 ⟨rfl, e8⟩
 replace h := h H7 e8
 refine hn (nt (ws (ws (wr_ (hv (v := (iv 0)) rfl (av rfl) (hn (nt (wb (HW.loop' (fun L1 hL1 => ?_))))))))))
 obtain ⟨X1, hX1⟩ : ∃ X1 : Int → Hp → Prop, ∀ (y9 : Int) (H_1 : Hp), X1 y9 H_1 ↔ ∀ ρ, Env.Is ρ [(0, (Sl.v p0)), (3, (pp (bk H1))), (4, (pp (bk H5))), (5, (iv y9))] → L1 ρ H_1 := ⟨_, fun _ _ => Iff.rfl⟩
 refine (hX1 _ _).1 (h X1 ?_) _ ?_
 rotate_left
 ·exact (isp rfl)
 clear h
 intro y9 H_1 h
 refine (hX1 _ _).2 fun ρ hI => ?_
 obtain ⟨ρ0, rfl⟩ := hI.ex
 clear hI; unfold F6_L1b at h; refine hL1 _ _ ?_
 refine ws (ws (wr_ (hv (v := (iv y9)) rfl (mv rfl) (hv (v := (Sl.v p0)) rfl (mv rfl) (hv (v := (iv ((p0).n : Int))) rfl (HVal.len runUnderlying56 rfl) ?_)))))
 refine hv (v := (bv (decide (y9 < ((p0).n : Int))))) rfl (HVal.lss rfl rfl) (hn (nt ?_))
 obtain ⟨hT, hF⟩ := h
 refine wk (decide (y9 < ((p0).n : Int))) rfl (fun hb13 => ?_) (fun hb13 => ?_)
 ·have h := hT hb13
  refine wp_ (nt (ws (wb (ws (wr_ (hv (v := (Sl.v p0)) rfl (mv rfl) (hv (v := (iv y9)) rfl (mv rfl) ?_)))))))
  obtain ⟨a14, e15, b16, b17, h⟩ := h
  refine hv (v := (pp (Addr.add a14 (y9.toNat * 8)))) rfl (ia runUnderlying56 sizeOf65 (Sl.v_some rfl e15) rfl b16 b17) ?_
  refine hv (v := (pp (Addr.add (Addr.add a14 (y9.toNat * 8)) 1))) rfl (fa runUnderlying65 rfl rfl sizeOf3 rfl) ?_
  obtain ⟨x19, c18, h⟩ := h
  refine hv (v := (iv x19)) rfl (l1 isAgg3 rfl c18) (ho rfl (HOp.call' 20 [(iv x19)] (cap := []) rfl rfl call20 (walk20 h)) ?_)
  rintro _ H20 ⟨r22, rfl, h⟩
  refine hv (v := (iv r22)) rfl (av rfl) (hn (nt (wc (fun ρ H_2 => Env.Is ρ [(0, (Sl.v p0)), (3, (pp (bk H1))), (4, (pp (bk H5))), (5, (iv y9)), (6, (iv r22))] ∧ F6_2 Q X1 p0 (bk H1) (bk H5) y9 r22 H_2) ?_ ?_)))
  ·refine wc (fun ρ H_3 => ∃ (y41 : Bool), Env.Is ρ [(0, (Sl.v p0)), (3, (pp (bk H1))), (4, (pp (bk H5))), (5, (iv y9)), (6, (iv r22)), (37, (bv y41))] ∧ F6_3 Q X1 p0 (bk H1) (bk H5) y9 r22 y41 H_3) ?_ ?_
   ·refine wr_ (hv (v := (Sl.v p0)) rfl (mv rfl) (hv (v := (iv y9)) rfl (mv rfl) ?_))
    obtain ⟨a33, e34, b35, b36, h⟩ := h
    refine hv (v := (pp (Addr.add a33 (y9.toNat * 8)))) rfl (ia runUnderlying56 sizeOf65 (Sl.v_some rfl e34) rfl b35 b36) ?_
    refine hv (v := (pp (Addr.add a33 (y9.toNat * 8)))) rfl (HVal.fieldAddr0 runUnderlying65 rfl rfl sizeOf3 rfl) ?_
    obtain ⟨x38, c37, h⟩ := h
    refine hv (v := (iv x38)) rfl (l1 isAgg3 rfl c37) (hv (v := (bv (decide (x38 = 8)))) rfl (HVal.eqlI rfl rfl) (hv (v := (bv (decide (x38 = 8)))) rfl (mv rfl) ?_))
    obtain ⟨hT, hF⟩ := h
    rcases Bool.eq_false_or_eq_true (decide (x38 = 8)) with hb39 | hb40
    ·have h := hT hb39
     refine hs_ rfl rfl rfl rfl (cB hb39) (hs_ rfl rfl rfl rfl (cB hb39) (hs_ rfl rfl rfl rfl (cB hb39) (hs_ rfl rfl rfl rfl (cB hb39) ?_)))
     refine hv (v := (bv true)) rfl (pt_ rfl hb39 rfl) (hn (nt ?_))
     exact ⟨true, (isp rfl), h⟩
    have h := hF hb40
    refine hg (v := (iv r22)) rfl rfl rfl rfl (cB hb40) (mv rfl) ?_
    obtain ⟨b42, b43, h⟩ := h
    refine hg (v := (pp (Addr.add (bk H5) (r22.toNat * 1)))) rfl rfl rfl rfl (cB hb40) (HVal.indexAddrA runUnderlying62 sizeOf61 rfl rfl b42 b43) ?_
    obtain ⟨x45, c44, h⟩ := h
    refine hg (v := (.pointer x45)) rfl rfl rfl rfl (cB hb40) (l1 isAgg61 rfl c44) (hg (v := (bv (x45.isNone))) rfl rfl rfl rfl (cB hb40) (HVal.eqlPN underlying61 rfl rfl) ?_)
    refine hv (v := (bv (x45.isNone))) rfl (pf_ rfl hb40 rfl) (hn (nt ?_))
    exact ⟨(x45.isNone), (isp rfl), h⟩
   rintro ρ H_3 ⟨y41, hI, h⟩
   obtain ⟨ρ0, rfl⟩ := hI.ex
   clear hI; unfold F6_3 at h
   obtain ⟨hT, hF⟩ := h
   refine wk y41 rfl (fun hb46 => ?_) (fun hb46 => ?_)
   ·have h := hT hb46
    refine ws (wr_ (hv (v := (pp (bk H1))) rfl (mv rfl) (ho rfl (HOp.call' 21 [(pp (bk H1))] (cap := []) rfl rfl call21 (walk21 h)) ?_)))
    rintro _ H47 ⟨r49, r50, rfl, h⟩
    refine hv (v := (.tuple #[(.pointer r49), (bv r50)])) rfl (mv rfl) (hv (v := (.pointer r49)) rfl (HVal.extract rfl rfl) (hv (v := (bv r50)) rfl (HVal.extract rfl rfl) ?_))
    refine hv (v := (.pointer r49)) rfl (av rfl) (hv (v := (bv r50)) rfl (av rfl) (hn (nt (ws (ws (wr_ ?_))))))
    refine hv (v := (bv r50)) rfl (mv rfl) (hv (v := (bv (!r50))) rfl (HVal.not rfl) (hn (nt ?_)))
    obtain ⟨hT, hF⟩ := h
    refine wk (!r50) rfl (fun hb51 => ?_) (fun hb51 => ?_)
    ·have h := hT hb51
     refine ws (wr_ (hv (v := (bv false)) rfl (av rfl) (hn (nt (HW.ret (tr (tr (br (tr (tr (br (tr ?_))))))))))))
     exact ⟨_, resOf1 rfl Res1.t, ⟨false, rfl, h⟩⟩
    have h := hF hb51
    refine wp_ (nt (wr_ (hv (v := (iv r22)) rfl (mv rfl) (hv (v := (.pointer r49)) rfl (mv rfl) ?_))))
    obtain ⟨b52, b53, h⟩ := h
    refine hv (v := (pp (Addr.add (bk H5) (r22.toNat * 1)))) rfl (HVal.indexAddrA runUnderlying62 sizeOf61 rfl rfl b52 b53) ?_
    obtain ⟨z56, z57, h⟩ := h
    refine hq (HOp.store1 sizeOf61 rfl rfl rfl z56 z57) ?_
    rintro _ H54 e55
    replace h := h H54 e55
    refine hn (nt ?_)
    exact ⟨(isp rfl), h⟩
   have h := hF hb46
   refine wp_ (nt ?_)
   exact ⟨(isp rfl), h⟩
  rintro ρ H_2 ⟨hI, h⟩
  obtain ⟨ρ0, rfl⟩ := hI.ex
  clear hI; unfold F6_2 at h
  refine ws (HW.draw mixed [(0, some []), (1, some []), (2, some [7]), (3, some []), (4, some []), (5, some []), (6, some [7]), (7, none), (8, some [])] rfl (by kernel_rfl) (by kernel_rfl) ?_)
  refine pv (v := (iv r22)) rfl rfl (fun _ => mv rfl) ?_
  obtain ⟨b58, b59, h⟩ := h
  refine pv (v := (pp (Addr.add (bk H5) (r22.toNat * 1)))) rfl rfl (fun _ => HVal.indexAddrA runUnderlying62 sizeOf61 rfl rfl b58 b59) ?_
  obtain ⟨x61, c60, h⟩ := h
  refine pl (v := (.pointer x61)) (fun X => cell X (Addr.add (bk H5) (r22.toNat * 1)) = some (.pointer x61)) rfl rfl (fun _ hX => l1 isAgg61 rfl hX) c60 ?_
  refine pv (v := (Sl.v p0)) rfl rfl (fun _ => mv rfl) (pv (v := (iv y9)) rfl rfl (fun _ => mv rfl) ?_)
  obtain ⟨a62, e63, b64, b65, h⟩ := h
  refine pv (v := (pp (Addr.add a62 (y9.toNat * 8)))) rfl rfl (fun _ => ia runUnderlying56 sizeOf65 (Sl.v_some rfl e63) rfl b64 b65) ?_
  obtain ⟨x67, x68, x69, x70, x71, x72, x73, x74, c66, h⟩ := h
  refine pl (v := (.agg #[(iv x67), (iv x68), (sv x69), (Sl.v x70), (sv x71), (sv x72), (iv x73), (Sl.v x74)])) (fun X => cells X (Addr.add a62 (y9.toNat * 8)) [(iv x67), (iv x68), (sv x69), (Sl.v x70), (sv x71), (sv x72), (iv x73), (Sl.v x74)] 0) rfl rfl (fun _ hX => ln [(iv x67), (iv x68), (sv x69), (Sl.v x70), (sv x71), (sv x72), (iv x73), (Sl.v x74)] isAgg65 sizeOf65 rfl hX) c66 ?_
  refine po rfl rfl (HOp.call' 22 [(.pointer x61), (.agg #[(iv x67), (iv x68), (sv x69), (Sl.v x70), (sv x71), (sv x72), (iv x73), (Sl.v x74)])] (cap := []) rfl rfl call22 (walk22 h)) ?_
  rintro _ H75 ⟨r77, rfl, h⟩
  refine ⟨SC_of ⟨nofun, nofun, trivial⟩, ?_⟩
  refine pv (v := (bv r77)) rfl rfl (fun _ => av rfl) (HPlan.done (nt (ws (wr_ (hv (v := (bv r77)) rfl (mv rfl) ?_)))))
  refine hv (v := (bv (!r77))) rfl (HVal.not rfl) (hn (nt ?_))
  obtain ⟨hT, hF⟩ := h
  refine wk (!r77) rfl (fun hb78 => ?_) (fun hb78 => ?_)
  ·have h := hT hb78
   refine ws (wr_ (hv (v := (bv false)) rfl (av rfl) (hn (nt (HW.ret (br (tr (tr (br (tr ?_))))))))))
   exact ⟨_, resOf1 rfl Res1.t, ⟨false, rfl, h⟩⟩
  have h := hF hb78
  refine wp_ (nb (nt (wr_ (hv (v := (iv y9)) rfl (mv rfl) (hv (v := (iv (IntKind.i64.wrap (y9 + 1)))) rfl (HVal.add rfl rfl) ?_)))))
  refine hv (v := (iv (IntKind.i64.wrap (y9 + 1)))) rfl (av rfl) (hn (nt ?_))
  exact (hX1 _ _).1 h _ (isp rfl)
 have h := hF hb13
 refine we (te (te (be (nt (ws (wr_ (hv (v := (bv true)) rfl (av rfl) (hn (nt (HW.ret ?_))))))))))
 exact ⟨_, resOf1 rfl Res1.t, ⟨true, rfl, h⟩⟩

end Go.Hw
