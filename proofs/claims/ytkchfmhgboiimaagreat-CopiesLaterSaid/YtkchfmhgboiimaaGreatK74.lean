/-
  Texts joined: Rx38, Z9, Z10, Z11, Z12, Z13, Z14, Za, Sd38, Se38, Sf38, Sg38, Si38, Sh38, OpA, OpR, Sk38, Sm38, OpZ.
-/
import Derived.Test.YtkchfmhgboiimaaGreatProg
import Derived.Test.YtkchfmhgboiimaaGreatRows
import Derived.ProofKit
import Derived.OpenShut
import Derived.Carry
import Derived.ChangeSame
import Derived.Deep.Slices
import Derived.Lib.SmallJoins
import Derived.Test.YtkchfmhgboiimaaGreatK70
import Derived.Test.YtkchfmhgboiimaaGreatK71
import Derived.Test.YtkchfmhgboiimaaGreatK72
import Derived.Test.YtkchfmhgboiimaaGreatK73
set_option linter.unusedSimpArgs false
set_option linter.unusedVariables false
namespace Go.Proofs.YtkchfmhgboiimaaGreat
open Go.RowKit Go.Maps
theorem inf81 : Inf Tryz.prog 81 47 4 64 (.agg #[I 0, I 0, .slice none 0 0, .slice none 0 0]) := ⟨Tryz.underlying81, by kernel_rfl⟩
attribute [local go_sem] Oper.semAt_some
def G_copies_Read (F : Nat) (p_0 : List KCopy) (p_1 : Int) (p_2 : Int) : Option ((List KVersion) × Int) :=
  Option.bind (Option.bind (G_copies_Valid F p_0) (fun v_3 =>
    ifB (v_3)
      (ifB (decide (p_2 < 1))
        (some true)
        (Option.bind (G_copies_isTime F p_2) (fun v_6 =>
        some (!v_6))))
      (some true)) : Option (Bool)) (fun (v_8 : Bool) => 
    ifB (v_8)
      (some (([] : List KVersion), 1))
      (Option.bind (G_copies_find F p_0 p_1) (fun v_10 =>
      ifB (decide (v_10 < 0))
        (some (([] : List KVersion), 4))
        (Option.bind (ixI p_0 v_10) (fun v_12 =>
        Option.bind (ifB ((((v_12.Log.length : Nat) : Int) == 0))
            (some true)
            (Option.bind (ixI v_12.Log (IntKind.i64.wrap (((v_12.Log.length : Nat) : Int) - 1))) (fun v_16 =>
            some (decide (v_16.Ts < p_2)))) : Option (Bool)) (fun (v_20 : Bool) => 
          ifB (v_20)
            (some (([] : List KVersion), 63))
            (rdG v_12.Log p_2)))))))
set_option maxRecDepth 100000 in
set_option maxHeartbeats 16000000 in
theorem z_copies_Read (F : Nat) (p_0_A : Option Addr) (p_0_c : Nat) (p_0 : List KCopyL) (p_1 : Int) (p_2 : Int) (r : (List KVersion) × Int) (hG : G_copies_Read F (p_0.map KCopyL.p) p_1 p_2 = some r) :
  Cn Tryz.prog 21 [.slice p_0_A p_0.length p_0_c, I p_1, I p_2] [RowC p_0_A p_0_c KCopyL.cells KCopyL.ok p_0] (fun q : KSapi_VersionL => r.1 = q.l) (fun q => .tuple #[.slice q.A q.l.length q.c, I r.2]) (fun q => [RowC q.A q.c KVersion.cells tr q.l]) := by
 unfold G_copies_Read at hG
 try (simp only [un2, un3, un4, un5, un6, un7, un8, Sum.elim_inl, Sum.elim_inr, List.length_map, KCopyL.n_Log] at hG; replace hG : _ = _ := hG)
 refine finM Tryz.func21 rfl rfl (mr KCopyL.mv m0) fun S0 w0 hT => ?_
 refine sq ?_; refine rg ?_; refine l1 ?_; refine nw 6 vp [.slice none 0 0] 33 fun g_1 => ?_
 refine l1 ?_; refine nw 7 vp [I 0] 26 fun g_2 => ?_
 refine nl ?_; refine tN ?_; refine sq ?_; obtain ⟨o_7, hG, hG_7⟩ := bind_some hG; refine jn (fun K E a w => ∃ (v_8 : Bool), Js S0 w0 68 ([(25, B v_8)] ++ K) (se E [0, 1, 2]) (v_8 = o_7) a w) ?_ ?_
 ·replace hG := bind_some hG; obtain ⟨v_3, hy_3, hG⟩ := hG; replace hG := ifB_cases hG; rcases hG with ⟨h_4, hG⟩ | ⟨h_4, hG⟩
  ·replace hG := ifB_cases hG; rcases hG with ⟨h_5, hG⟩ | ⟨h_5, hG⟩
   ·refine rg ?_; refine rn 1 [] f0 [(14, .slice p_0_A p_0.length p_0_c)] ?_; refine l1 ?_; refine cl 15 (z_copies_Valid F p_0_A p_0_c p_0 _ hy_3) hT ⟨ga 2, trivial⟩ ?_; refine rn 2 [] f0 [(17, B (!v_3))] ?_; refine sb 17 (nt h_4) ?_; refine rn 4 [] f0 [(21, B (decide (p_2 < 1)))] ?_; refine sb 21 (bt h_5) ?_; refine ra [] f0 [(25, B true)] ?_; refine tN ?_; exact fun a w S hK hE => ⟨true, S, hK.wk, hE.sel [0, 1, 2], Option.some.inj hG⟩
   ·replace hG := bind_some hG; obtain ⟨v_6, hy_6, hG⟩ := hG; refine rg ?_; refine rn 1 [] f0 [(14, .slice p_0_A p_0.length p_0_c)] ?_; refine l1 ?_; refine cl 15 (z_copies_Valid F p_0_A p_0_c p_0 _ hy_3) hT ⟨ga 2, trivial⟩ ?_; refine rn 2 [] f0 [(17, B (!v_3))] ?_; refine sb 17 (nt h_4) ?_; refine rn 4 [] f0 [(21, B (decide (p_2 < 1)))] ?_; refine sb 21 (bf h_5) ?_; refine rn 1 [] f0 [(22, I p_2)] ?_; refine l1 ?_; refine cl 23 (z_copies_isTime F p_2 _ hy_6) hT trivial ?_; refine ra [] f0 [(25, B (!v_6))] ?_; refine tN ?_; exact fun a w S hK hE => ⟨!v_6, S, hK.wk, hE.sel [0, 1, 2], Option.some.inj hG⟩
  ·refine rg ?_; refine rn 1 [] f0 [(14, .slice p_0_A p_0.length p_0_c)] ?_; refine l1 ?_; refine cl 15 (z_copies_Valid F p_0_A p_0_c p_0 _ hy_3) hT ⟨ga 2, trivial⟩ ?_; refine rn 2 [] f0 [(17, B (!v_3))] ?_; refine sb 17 (nf h_4) ?_; refine ra [] f0 [(25, B true)] ?_; refine tN ?_; exact fun a w S hK hE => ⟨true, S, hK.wk, hE.sel [0, 1, 2], Option.some.inj hG⟩
 ·rintro a w ⟨v_8, hJ⟩; refine hJ.go fun ho_ => ?_
  clear hJ; subst ho_; replace hG := hG_7
  try (simp only [un2, un3, un4, un5, un6, un7, un8, Sum.elim_inl, Sum.elim_inr, List.length_map, KCopyL.n_Log] at hG; replace hG : _ = _ := hG)
  rcases ifB_cases hG with ⟨h_9, hG⟩ | ⟨h_9, hG⟩
  ·refine sb 25 (bt h_9) ?_; refine ct ?_; refine sq ?_; refine rg ?_; refine l1 ?_; refine sr 1 g_1 [(0, .slice none 0 0)] ?_; refine l1 ?_; refine sr 0 g_2 [(0, I 1)] ?_; refine nl ?_; refine tN ?_; refine kR ?_; refine tR ?_; refine goM ?_; obtain rfl := Option.some.inj hG; exact rtn [(1, 0, 1), (0, 0, 1)] ⟨none, 0, ([] : List KVersion)⟩ rfl ⟨gn, trivial⟩
  ·refine sb 25 (bf h_9) ?_; refine cf ?_; refine kS ?_; refine tN ?_; refine sq ?_; replace hG := bind_some hG; obtain ⟨v_10, hy_10, hG⟩ := hG; refine rg ?_; refine rn 2 [] f0 [(26, .slice p_0_A p_0.length p_0_c), (27, I p_1)] ?_; refine l1 ?_; refine cl 28 (z_copies_find F p_0_A p_0_c p_0 p_1 _ hy_10) hT ⟨ga 2, trivial⟩ ?_; refine ra [] f0 [(8, I v_10)] ?_; refine tN ?_; refine sq ?_; refine sq ?_; refine rg ?_; refine ra [] f0 [(30, B (decide (v_10 < 0)))] ?_; refine tN ?_; rcases ifB_cases hG with ⟨h_11, hG⟩ | ⟨h_11, hG⟩
   ·refine sb 30 (bt h_11) ?_; refine ct ?_; refine sq ?_; refine rg ?_; refine l1 ?_; refine sr 1 g_1 [(0, .slice none 0 0)] ?_; refine l1 ?_; refine sr 0 g_2 [(0, I 4)] ?_; refine nl ?_; refine tN ?_; refine kR ?_; refine tR ?_; refine goM ?_; obtain rfl := Option.some.inj hG; exact rtn [(1, 0, 1), (0, 0, 1)] ⟨none, 0, ([] : List KVersion)⟩ rfl ⟨gn, trivial⟩
   ·refine sb 30 (bf h_11) ?_; refine cf ?_; refine kS ?_; refine tN ?_; refine sq ?_; replace hG := bind_some hG; obtain ⟨v_12o, hy_12, hG⟩ := hG; refine rg ?_; refine fxn (p := KCopyL.p) inf22 (gd' (RowC p_0_A p_0_c KCopyL.cells KCopyL.ok p_0) 2) hy_12 fun v_12 b_13 o_14 he_12 hi_12 => ?_
    subst he_12
    try (simp only [un2, un3, un4, un5, un6, un7, un8, Sum.elim_inl, Sum.elim_inr, List.length_map, KCopyL.n_Log] at hG; replace hG : _ = _ := hG)
    refine ra [(2, 0, 0, 0), (1, 1, 0, 1)] (fc (hi_12 .i64) f0) [(9, .slice v_12.Log_A v_12.Log.length v_12.Log_c)] ?_; refine tN ?_; refine sq ?_; obtain ⟨o_19, hG, hG_19⟩ := bind_some hG; refine jn (fun K E a w => ∃ (v_20 : Bool), Js S0 w0 68 ([(49, B v_20)] ++ K) ([.dat (RowC v_12.Log_A v_12.Log_c KTxL.cells KTxL.ok v_12.Log)] ++ se E [2, 3]) (v_20 = o_19) a w) ?_ ?_
    ·replace hG := ifB_cases hG; rcases hG with ⟨h_15, hG⟩ | ⟨h_15, hG⟩
     ·refine rg ?_; refine rn 4 [] f0 [(39, B (((v_12.Log.length : Nat) : Int) == 0))] ?_
      try simp only [List.length_map, KCopyL.n_Log] at h_15
      refine sb 39 (bt h_15) ?_; refine ra [] f0 [(49, B true)] ?_; refine tN ?_; refine fm (RowC v_12.Log_A v_12.Log_c KTxL.cells KTxL.ok v_12.Log) (gm (KCopyL.ok v_12) 1 fun _ _ h => h.f_Log) ?_; exact fun a w S hK hE => ⟨true, S, hK.wk, hE.sel [0, 3, 4], Option.some.inj hG⟩
     ·replace hG := bind_some hG; obtain ⟨v_16o, hy_16, hG⟩ := hG; refine rg ?_; refine rn 4 [] f0 [(39, B (((v_12.Log.length : Nat) : Int) == 0))] ?_
      try simp only [List.length_map, KCopyL.n_Log] at h_15
      refine sb 39 (bf h_15) ?_; refine fxn (p := KTxL.p) inf81 (gm (KCopyL.ok v_12) 1 fun _ _ h => h.f_Log) hy_16 fun v_16 b_17 o_18 he_16 hi_16 => ?_
      subst he_16
      try (simp only [un2, un3, un4, un5, un6, un7, un8, Sum.elim_inl, Sum.elim_inr, List.length_map, KCopyL.n_Log] at hG; replace hG : _ = _ := hG)
      refine ra [(4, 0, 0, 0), (1, 1, 0, 1)] (fc (hi_16 .i64) f0) [(49, B (decide (v_16.Ts < p_2)))] ?_; refine tN ?_; refine fm (RowC v_12.Log_A v_12.Log_c KTxL.cells KTxL.ok v_12.Log) (gm (KCopyL.ok v_12) 3 fun _ _ h => h.f_Log) ?_; exact fun a w S hK hE => ⟨decide (v_16.Ts < p_2), S, hK.wk, hE.sel [0, 5, 6], Option.some.inj hG⟩
    ·rintro a w ⟨v_20, hJ⟩; refine hJ.go fun ho_ => ?_
     clear hJ; subst ho_; replace hG := hG_19
     try (simp only [un2, un3, un4, un5, un6, un7, un8, Sum.elim_inl, Sum.elim_inr, List.length_map, KCopyL.n_Log] at hG; replace hG : _ = _ := hG)
     rcases ifB_cases hG with ⟨h_21, hG⟩ | ⟨h_21, hG⟩
     ·refine sb 49 (bt h_21) ?_; refine ct ?_; refine sq ?_; refine rg ?_; refine l1 ?_; refine sr 2 g_1 [(0, .slice none 0 0)] ?_; refine l1 ?_; refine sr 1 g_2 [(0, I 63)] ?_; refine nl ?_; refine tN ?_; refine kR ?_; refine tR ?_; refine goM ?_; obtain rfl := Option.some.inj hG; exact rtn [(2, 0, 1), (1, 0, 1)] ⟨none, 0, ([] : List KVersion)⟩ rfl ⟨gn, trivial⟩
     ·refine sb 49 (bf h_21) ?_; refine cf ?_; refine kS ?_; refine tN ?_; refine sq ?_; refine rg ?_; refine l1 ?_; refine nw 10 vp [.slice none 0 0] 33 fun g_22 => ?_
      refine nl ?_; refine tN ?_; refine sq ?_; refine sq ?_; intro a w S hK hE; replace hG : rdG (v_12.Log.map KTxL.p) p_2 = some r := hG; obtain ⟨⟨hG1, hG2, hG3⟩, m, hm, rfl⟩ := rdG_some hG; obtain ⟨⟨hgX, hg2, hg1⟩, ⟨hX2, hX1, h21⟩, bX, b2, b1, hL, hB⟩ := rdEz hE; obtain ⟨⟨ts⟩, ds⟩ := a; obtain rfl : ds = [] := hK.d
      try (simp only [un2, un3, un4, un5, un6, un7, un8, Sum.elim_inl, Sum.elim_inr, List.length_map, KCopyL.n_Log] at hG; replace hG : _ = _ := hG)
      obtain ⟨t0, t1, t2, t3, t4, t5, t6, t7, t8, t9, t10, t11, t12, t13, t14, t15, t16, t17, t18, t19, t20, t21, t22, t23, t24, t25, t26, t27, t28, t29, t30, t31, t32, t33, t34, t35, t36, t37, t38, t39, t40, t41, t42, t43, t44, t45, t46, t47, t48, t49, t50, t51, t52, t53, t54, t55, t56, t57, t58, t59, t60, t61, t62, t63, t64, t65, t66, t67, rfl⟩ := l68 (l := ts) (by simpa using hK.s); obtain rfl : t2 = .int .i64 p_2 := by simpa using hK.k 2 _ rfl
      obtain rfl : t6 = .pointer (some ⟨g_1, 0, none⟩) := Option.some.inj (show some t6 = some (.pointer (some ⟨g_1, 0, none⟩)) from hK.k 6 _ rfl); obtain rfl : t7 = .pointer (some ⟨g_2, 0, none⟩) := Option.some.inj (show some t7 = some (.pointer (some ⟨g_2, 0, none⟩)) from hK.k 7 _ rfl); obtain rfl : t9 = .slice v_12.Log_A v_12.Log.length v_12.Log_c := by simpa using hK.k 9 _ rfl
      obtain rfl : t10 = .pointer (some ⟨g_22, 0, none⟩) := Option.some.inj (show some t10 = some (.pointer (some ⟨g_22, 0, none⟩)) from hK.k 10 _ rfl)
      try (simp only [un2, un3, un4, un5, un6, un7, un8, Sum.elim_inl, Sum.elim_inr, List.length_map, KCopyL.n_Log] at hG; replace hG : _ = _ := hG)
      clear hK hE; simp only [List.length_map] at hG1; refine (wpIn_wide (n := 40)).1 ?_
      gi_wp2_with (refine ⟨trivial, ?_⟩; gi_at_call 56; refine (versions_in Fence.wide _ trivial rfl _ _ _ w).mono ?_; rintro e w1 ⟨rfl, rfl⟩)
      refine wp_block ?_; refine (wpIn_wide (n := 40)).1 ?_; have hXw := bX.lt; have h1w := b1.lt; have h2w := b2.lt; have hBb := (Blk.new w 81 #[.slice v_12.Log_A v_12.Log.length v_12.Log_c]).cell 0; obtain ⟨W1, hW1⟩ : ∃ W1, W1 = w.alloc (.cells #[.slice v_12.Log_A v_12.Log.length v_12.Log_c] 81) := ⟨_, rfl⟩; have hbl : Below w.heap.size w W1 := by rw [hW1]; exact (Below.refl _ _).alloc (Nat.le_refl _) _
      have hsz1 : W1.heap.size = w.heap.size + 1 := by rw [hW1]; simp
      simp only [← hW1] at hBb ⊢; clear hW1; have bX1 := bX.below hbl hXw; have b11 := b1.below hbl h1w; have b21 := b2.below hbl h2w; have hL1 := hL.kp (KpB.below hbl); have hW1n : w.heap.size ≠ g_22 := by omega
      have hzW : w0.heap.size ≤ W1.heap.size := by have := hB.size; omega
      have hzB : Below w0.heap.size w0 W1 := hB.trans (hbl.mono hB.size); have hsq := versions_stops Fence.wide (40 - 1) trivial rfl (by omega) w.heap.size g_22 v_12.Log_A v_12.Log_c v_12.Log hG1 (fun t ht => hG2 _ (List.mem_map_of_mem ht)) hW1n W1 bX1.lt hBb hL1; rw [vk_vs] at hsq; refine wpIn_rangeFunc_ownH (w := W1) rfl (by omega) (gf := 82) (lb := #[.pointer (some ⟨w.heap.size, 0, none⟩)]) rfl trivial (enters_of Tryz.func82 (by kernel_rfl) rfl) hsq (fun h k => h.trans k) (fun W l o o' _ h hc _ => KpB.put W l o o' h hc) (Below.refl _ _) (fun _ => rfl)
       (Sto38 w0.heap.size g_22 W1) (fun _ pre _ => (putsS [] pre).2 ≠ 0) (Sto38.own _ hzW) (fun _ _ _ _ _ hs _ _ => hs)
       ⟨KpB.refl _ _, Below.refl _ _, [], none, 0, rfl, Nat.zero_le _, by unfold maxLen; omega, bX1, Rd.nil _ _, fun _ h => by cases h⟩
       (fun x a' W => ∃ g, W1.heap.size ≤ g ∧ Blk W g 50 #[.int .i64 x.key, .int .i64 x.ts, .int .i64 x.value, .bool x.gone] ∧ a' = { tmps := #[t0, t1, .int .i64 p_2, t3, t4, t5, .pointer (some ⟨g_1, 0, none⟩), .pointer (some ⟨g_2, 0, none⟩), t8, .slice v_12.Log_A v_12.Log.length v_12.Log_c, .pointer (some ⟨g_22, 0, none⟩), .pointer (some ⟨g, 0, none⟩), t12, t13, t14, t15, t16, t17, t18, t19, t20, t21, t22, t23, t24, t25, t26, t27, t28, t29, t30, t31, t32, t33, t34, t35, t36, t37, t38, t39, t40, t41, t42, t43, t44, t45, t46, t47, t48, t49, .slice v_12.Log_A v_12.Log.length v_12.Log_c, .func (.func 82) #[] #[.pointer (some ⟨w.heap.size, 0, none⟩)], .agg #[.int .i64 x.key, .int .i64 x.ts, .int .i64 x.value, .bool x.gone], t53, t54, t55, t56, t57, t58, t59, t60, t61, t62, t63, t64, t65, t66, t67], defers := [] }) (fun x a' _ V W row hs hg hr => ?keep) ?assign ?body ?done ?stop
      case keep =>
       obtain ⟨g, h1, h2, h3⟩ := hs; exact ⟨g, h1, KpB.own (X := 0) hg (fun r e => (hr r e).2) h2 rfl, h3⟩
      case assign =>
       intro l pre x W K hS hK
       dsimp only [Ver.val]
       gi_wp2
       have hb := (Below.refl W.heap.size W).alloc (Nat.le_refl _) (.cells #[.int .i64 x.key, .int .i64 x.ts, .int .i64 x.value, .bool x.gone] 50); exact hK _ _ (keeps_below hb) (KpB.below hb) (hS.below hb hzW) ⟨W.heap.size, hS.k.size, Blk.new W _ _, rfl⟩
      case body =>
       rintro l pre x a' W hl hlr ⟨hk, hz0, m0, A0, c0, hm0, hmc, hcm, bX0, hv0, hA0⟩ ⟨g, hgl, hbg, rfl⟩ hlt; have hXl := bX0.lt; have b10 := b11.kp hk (Ne.symm hX1); have b20 := b21.kp hk (Ne.symm hX2); have cX : W.cell? ⟨g_22, 0, none⟩ = some (.slice A0 m0.length c0) := bX0.cell 0; have cg0 : W.cell? ⟨g, 0, none⟩ = some (.int .i64 x.key) := hbg.cell 0; have cg1 : W.cell? ⟨g, 1, none⟩ = some (.int .i64 x.ts) := hbg.cell 1; have cg2 : W.cell? ⟨g, 2, none⟩ = some (.int .i64 x.value) := hbg.cell 2; have cg3 : W.cell? ⟨g, 3, none⟩ = some (.bool x.gone) := hbg.cell 3; obtain ⟨⟨m2, e2⟩, hq⟩ : ∃ q, putS m0 x = q := ⟨_, rfl⟩; have hcall := put_fr A0 c0 m0 x W (by unfold maxLen at hcm; omega) hv0; rw [hq] at hcall; refine wpIn_block ?_
       gi_wp2_with (refine ⟨trivial, ?_⟩; gi_at_call 57; refine (CallsIn.inRound l (callsIn_wide.2 hcall)).mono ?_; rintro e w2 ⟨A2, c2, rfl, hl2, hm2, hv2, hf2, hb2⟩; have bX2 := bX0.below hb2 hXl; have b12 := b10.below hb2 b10.lt; have b22 := b20.below hb2 b20.lt; have cX2 := bX2.cell 0; have fX2 := bX2.frozen 0; have c12 := b12.cell 0; have f12 := b12.frozen 0; have c22 := b22.cell 0; have f22 := b22.frozen 0; dsimp only at hl2 hv2)
       ·rename_i hne
        have hne : e2 ≠ 0 := by simpa using hne
        refine ⟨keeps_two b10 b20 hb2 0 0 _ _, ?_⟩
        show (putsS [] (pre ++ [x])).2 ≠ 0; rw [puts_snoc x hm0, hq]
        simp [hne]
       ·rename_i hne
        have hne : e2 = 0 := by simpa using hne
        exact ⟨keeps_put bX0 hb2 0 _, (KpB.below hb2).trans (KpB.setX _ _ _ _), Sto38.put hk hz0 hzW hgX hXl hm0 (by rw [hq, hne]) hb2 hl2 hm2 bX2 rfl hv2 hf2⟩
      case done =>
       rintro D ys W hD rfl ⟨hk, hz0, m0, A0, c0, hm0, hmc, hcm, bX0, hv0, hA0⟩ hK; rw [hm] at hm0
       injection hm0 with e0 _
       subst e0; have hXl := bX0.lt; have b10 := b11.kp hk (Ne.symm hX1); have b20 := b21.kp hk (Ne.symm hX2); have cX : W.cell? ⟨g_22, 0, none⟩ = some (.slice A0 m.length c0) := bX0.cell 0; have hcall := read_fr A0 c0 m p_2 W (by unfold maxLen at hcm; omega) hv0; obtain ⟨⟨m2, e2⟩, hq⟩ : ∃ q, readS m p_2 = q := ⟨_, rfl⟩; rw [hq] at hcall
       change Code.wp _ _ _ _ _
       refine (wpIn_wide (n := 40)).1 ?_
       gi_wp2_with (refine ⟨trivial, ?_⟩; gi_at_call 58; refine (callsIn_wide.2 hcall).mono ?_; rintro e w2 ⟨A2, c2, rfl, hl2, hm2, hv2, hf2, hb2⟩; have b12 := b10.below hb2 b10.lt; have b22 := b20.below hb2 b20.lt; have c12 := b12.cell 0; have f12 := b12.frozen 0; have c22 := b22.cell 0; have f22 := b22.frozen 0; dsimp only at hl2 hv2)
       have hDl := (Array.getElem?_eq_some_iff.1 hK).1; have hDn : ∀ g t cs, Blk W g t cs → D ≠ g := fun g t cs hb e => by subst e; rw [hb] at hK; cases hK
       have hK3 : ((w2.setCell ⟨g_1, 0, none⟩ (.slice A2 m2.length c2)).setCell ⟨g_2, 0, none⟩ (.int .i64 e2)).heap[D]? = some (.deferred (some [])) := by
        rw [Below.heap_setCell _ ⟨g_2, 0, none⟩ _ D (hDn _ _ _ b20), Below.heap_setCell _ ⟨g_1, 0, none⟩ _ D (hDn _ _ _ b10)]; exact (hb2.block D hDl).trans hK
       refine ⟨by simp, .inl ⟨_, _, rfl, run_takeDeferred hK3, ?_⟩⟩; have d1 := ((b12.set_ 0 (.slice A2 m2.length c2)).far (p := ⟨g_2, 0, none⟩) (Ne.symm h21) (.int .i64 e2)); have d2 := ((b22.far (p := ⟨g_1, 0, none⟩) h21 (.slice A2 m2.length c2)).set_ 0 (.int .i64 e2)); have e1 := (World.cell?_of_block (World.putObj_heap_other (o := .deferred none) (hDn _ _ _ b10).symm)).trans (d1.cell 0); have e2' := (World.cell?_of_block (World.putObj_heap_other (o := .deferred none) (hDn _ _ _ b20).symm)).trans (d2.cell 0); exact ⟨_, sx_run (vs := [.slice A2 m2.length c2, .int .i64 e2]) (r := .tuple #[.slice A2 m2.length c2, .int .i64 e2]) (obs := [(⟨g_1, 0, none⟩, .slice A2 m2.length c2), (⟨g_2, 0, none⟩, .int .i64 e2)]) _ (by kernel_rfl) ⟨e1, e2', trivial⟩, rdOut hq (hzB.trans hz0) hb2 hg1 hg2 b10.lt b20.lt (by omega) hDl hl2 hv2 hf2 _⟩
      case stop =>
       rintro D c pre W _ hp hx _; obtain ⟨us, hu⟩ := hp; rw [← hu] at hm; obtain ⟨m', h1, _⟩ := puts_app hm; rw [h1] at hx; exact absurd rfl hx
end Go.Proofs.YtkchfmhgboiimaaGreat
namespace Go.Proofs.YtkchfmhgboiimaaGreat
open Go.RowKit Go.Maps
def G_regulatorlaw38_head (F : Nat)  : Option (Bool) :=
  Option.bind (G_regulatorlaw38_tx F 1 10 5 7) (fun v_1 =>
  Option.bind (G_regulatorlaw38_tx F 2 20 6 8) (fun v_2 =>
  Option.bind (G_regulatorlaw38_tx F 3 30 5 9) (fun v_3 =>
  Option.bind (slI ([v_1, v_2, v_3] : List KTx) 0 1) (fun v_5 =>
  Option.bind (slI ([v_1, v_2, v_3] : List KTx) 0 2) (fun v_6 =>
  Option.bind (G_copies_Safe F ([(⟨1, ([v_1, v_2, v_3] : List KTx)⟩ : KCopy), (⟨2, v_5⟩ : KCopy), (⟨3, v_6⟩ : KCopy)] : List KCopy)) (un2 fun v_8 v_9 =>
  Option.bind (G_copies_Elect F ([(⟨1, ([v_1, v_2, v_3] : List KTx)⟩ : KCopy), (⟨2, v_5⟩ : KCopy), (⟨3, v_6⟩ : KCopy)] : List KCopy) ([2, 3] : List Int)) (un2 fun v_11 v_12 =>
  Option.bind (G_copies_Elect F ([(⟨1, ([v_1, v_2, v_3] : List KTx)⟩ : KCopy), (⟨2, v_5⟩ : KCopy), (⟨3, v_6⟩ : KCopy)] : List KCopy) ([3, 1] : List Int)) (un2 fun v_14 v_15 =>
  Option.bind (G_copies_Ship F ([(⟨1, ([v_1, v_2, v_3] : List KTx)⟩ : KCopy), (⟨2, v_5⟩ : KCopy), (⟨3, v_6⟩ : KCopy)] : List KCopy) 1 3 1) (un2 fun v_16 v_17 =>
  Option.bind (G_copies_Safe F v_16) (un2 fun v_18 v_19 =>
  Option.bind (G_copies_Read F ([(⟨1, ([v_1, v_2, v_3] : List KTx)⟩ : KCopy), (⟨2, v_5⟩ : KCopy), (⟨3, v_6⟩ : KCopy)] : List KCopy) 3 20) (un2 fun v_20 v_21 =>
  Option.bind (G_copies_Read F ([(⟨1, ([v_1, v_2, v_3] : List KTx)⟩ : KCopy), (⟨2, v_5⟩ : KCopy), (⟨3, v_6⟩ : KCopy)] : List KCopy) 3 21) (un2 fun v_22 v_23 =>
  Option.bind (G_copies_Elect F ([(⟨1, ([v_1, v_2, v_3] : List KTx)⟩ : KCopy), (⟨2, v_5⟩ : KCopy), (⟨3, v_6⟩ : KCopy)] : List KCopy) ([2] : List Int)) (un2 fun v_25 v_26 =>
  Option.bind (ifB ((v_9 == 0))
      (ifB ((v_12 == 0))
        (ifB ((v_15 == 0))
          (ifB ((v_17 == 0))
            (ifB ((v_19 == 0))
              (ifB ((v_21 == 0))
                (ifB ((v_23 == 63))
                  (some (v_26 == 20))
                  (some false))
                (some false))
              (some false))
            (some false))
          (some false))
        (some false))
      (some false) : Option (Bool)) (fun (v_35 : Bool) => 
    Option.bind (ifB (v_35)
        (ifB ((v_8 == 2))
          (ifB ((v_11 == 3))
            (ifB ((v_14 == 1))
              (ifB ((v_18 == 3))
                (Option.bind (G_copies_Valid F ([(⟨1, ([v_1, v_2, v_3] : List KTx)⟩ : KCopy), (⟨2, v_5⟩ : KCopy), (⟨3, v_6⟩ : KCopy)] : List KCopy)) (fun v_41 =>
                some v_41))
                (some false))
              (some false))
            (some false))
          (some false))
        (some false) : Option (Bool)) (fun (v_43 : Bool) => 
      Option.bind (ifB (v_43)
          (Option.bind (G_regulatorref33_Same F v_20 ([(⟨5, 10, 7, false⟩ : KVersion), (⟨6, 20, 8, false⟩ : KVersion)] : List KVersion)) (fun v_46 =>
          some v_46))
          (some false) : Option (Bool)) (fun (v_48 : Bool) => 
        some v_48))))))))))))))))
set_option maxRecDepth 100000 in
set_option maxHeartbeats 16000000 in
theorem z_regulatorlaw38_head (F : Nat)  (r : Bool) (hG : G_regulatorlaw38_head F  = some r) :
  Cf Tryz.prog 10 [] [] (B r) := by
 unfold G_regulatorlaw38_head at hG
 try (simp only [un2, un3, un4, un5, un6, un7, un8, Sum.elim_inl, Sum.elim_inr, List.length_map, KCopyL.n_Log] at hG; replace hG : _ = _ := hG)
 refine fi Tryz.func10 rfl rfl m0 fun S0 w0 hT => ?_
 refine sq ?_; refine rg ?_; refine ra [] f0 [] ?_; refine tN ?_; refine sq ?_; replace hG := bind_some hG; obtain ⟨v_1o, hy_1, hG⟩ := hG; replace hG := bind_some hG; obtain ⟨v_2o, hy_2, hG⟩ := hG; replace hG := bind_some hG; obtain ⟨v_3o, hy_3, hG⟩ := hG; refine rg ?_; refine l1 ?_; refine cn 20 (z_regulatorlaw38_tx F 1 10 5 7 _ hy_1) hT (fun _ => (mc KTxL.mv m0)) trivial ?_; rintro v_1 hq_1; obtain rfl : v_1.p = v_1o := hq_1.symm
 try (simp only [un2, un3, un4, un5, un6, un7, un8, Sum.elim_inl, Sum.elim_inr, List.length_map, KCopyL.n_Log] at hG; replace hG : _ = _ := hG)
 refine l1 ?_; refine cn 21 (z_regulatorlaw38_tx F 2 20 6 8 _ hy_2) hT (fun _ => (mc KTxL.mv m0)) trivial ?_; rintro v_2 hq_2; obtain rfl : v_2.p = v_2o := hq_2.symm
 try (simp only [un2, un3, un4, un5, un6, un7, un8, Sum.elim_inl, Sum.elim_inr, List.length_map, KCopyL.n_Log] at hG; replace hG : _ = _ := hG)
 refine l1 ?_; refine cn 22 (z_regulatorlaw38_tx F 3 30 5 9 _ hy_3) hT (fun _ => (mc KTxL.mv m0)) trivial ?_; rintro v_3 hq_3; obtain rfl : v_3.p = v_3o := hq_3.symm
 try (simp only [un2, un3, un4, un5, un6, un7, un8, Sum.elim_inl, Sum.elim_inr, List.length_map, KCopyL.n_Log] at hG; replace hG : _ = _ := hG)
 refine l1 ?_; refine nw 23 (vs 3) [I v_1.ID, I v_1.Ts, .slice v_1.Reads_A v_1.Reads.length v_1.Reads_c, .slice v_1.Writes_A v_1.Writes.length v_1.Writes_c, I v_2.ID, I v_2.Ts, .slice v_2.Reads_A v_2.Reads.length v_2.Reads_c, .slice v_2.Writes_A v_2.Writes.length v_2.Writes_c, I v_3.ID, I v_3.Ts, .slice v_3.Reads_A v_3.Reads.length v_3.Reads_c, .slice v_3.Writes_A v_3.Writes.length v_3.Writes_c] 47 fun g_4 => ?_
 refine ra [] f0 [(1, Sb g_4 3 3)] ?_; refine tN ?_; refine sq ?_; replace hG := bind_some hG; obtain ⟨v_5o, hy_5, hG⟩ := hG; replace hG := bind_some hG; obtain ⟨v_6o, hy_6, hG⟩ := hG; refine sB 0 g_4 KTxL.cells KTxL.ok ([v_1, v_2, v_3] : List KTxL) KTxL.mv (ec (gi 3) (ec (gi 2) (ec (gi 1) e0))) ?_; refine fpn (p := KTxL.p) false true inf38 (gd' (RowC (some ⟨g_4, 0, none⟩) 3 KTxL.cells KTxL.ok ([v_1, v_2, v_3] : List KTxL)) 0) hy_5 fun v_5 v_5_A v_5_c he_5 hp_5 => ?_
 subst he_5
 try (simp only [un2, un3, un4, un5, un6, un7, un8, Sum.elim_inl, Sum.elim_inr, List.length_map, KCopyL.n_Log] at hG; replace hG : _ = _ := hG)
 refine fpn (p := KTxL.p) false true inf38 (gd' (RowC (some ⟨g_4, 0, none⟩) 3 KTxL.cells KTxL.ok ([v_1, v_2, v_3] : List KTxL)) 1) hy_6 fun v_6 v_6_A v_6_c he_6 hp_6 => ?_
 subst he_6
 try (simp only [un2, un3, un4, un5, un6, un7, un8, Sum.elim_inl, Sum.elim_inr, List.length_map, KCopyL.n_Log] at hG; replace hG : _ = _ := hG)
 refine hb [0, 1, 2, 3, 4, 5] ?_; refine ht [0, 1, 2, 3, 4, 5] [0, 1, 2, 3, 4, 5, 6, 7] [(3, 0, 0, 0), (2, 0, 0, 0)] (fc (hp_5 .i64 .i64) (fc (hp_6 .i64 .i64) f0)) [(25, .agg #[I 1, Sb g_4 3 3]), (28, .agg #[I 2, .slice v_5_A v_5.length v_5_c]), (31, .agg #[I 3, .slice v_6_A v_6.length v_6_c])] ?_; refine ho [8] ⟨?_, trivial⟩; refine h1 ?_; refine nw 32 (vs 3) [I 1, Sb g_4 3 3, I 2, .slice v_5_A v_5.length v_5_c, I 3, .slice v_6_A v_6.length v_6_c] 40 fun g_7 => ?_
 refine hk [1, 2, 3, 4, 5, 6] ?_; refine ht [1, 2, 3, 4, 5, 6] [9] [] f0 [(2, Sb g_7 3 3)] ?_; refine he ?_; refine tN ?_; refine sq ?_; replace hG := bind_some hG; obtain ⟨⟨v_8, v_9⟩, hy_8, hG⟩ := hG; refine rg ?_; refine rn 1 [] f0 [(34, Sb g_7 3 3)] ?_; refine l1 ?_; refine cl 35 (z_copies_Safe F (some ⟨g_7, 0, none⟩) 3 ([(⟨1, (some ⟨g_4, 0, none⟩), 3, ([v_1, v_2, v_3] : List KTxL)⟩ : KCopyL), (⟨2, v_5_A, v_5_c, v_5⟩ : KCopyL), (⟨3, v_6_A, v_6_c, v_6⟩ : KCopyL)] : List KCopyL) _ hy_8) hT ⟨ba 0 (ec (((gd' (RowC (some ⟨g_4, 0, none⟩) 3 KTxL.cells KTxL.ok ([v_1, v_2, v_3] : List KTxL)) 3)).m fun _ _ h => ⟨h⟩) (ec (((gd' (RowC v_5_A v_5_c KTxL.cells KTxL.ok v_5) 2)).m fun _ _ h => ⟨h⟩) (ec (((gd' (RowC v_6_A v_6_c KTxL.cells KTxL.ok v_6) 1)).m fun _ _ h => ⟨h⟩) e0))).a, trivial⟩ ?_; refine ra [] f0 [(3, I v_8), (4, I v_9)] ?_; refine tN ?_; refine sq ?_; replace hG := bind_some hG; obtain ⟨⟨v_11, v_12⟩, hy_11, hG⟩ := hG; refine rg ?_; refine rn 1 [] f0 [(39, Sb g_7 3 3)] ?_; refine l1 ?_; refine nw 40 (vs 2) [I 2, I 3] 3 fun g_10 => ?_
 refine l1 ?_; refine cl 41 (z_copies_Elect F (some ⟨g_7, 0, none⟩) 3 ([(⟨1, (some ⟨g_4, 0, none⟩), 3, ([v_1, v_2, v_3] : List KTxL)⟩ : KCopyL), (⟨2, v_5_A, v_5_c, v_5⟩ : KCopyL), (⟨3, v_6_A, v_6_c, v_6⟩ : KCopyL)] : List KCopyL) (some ⟨g_10, 0, none⟩) 2 ([2, 3] : List Int) _ hy_11) hT ⟨ba 1 (ec (((gd' (RowC (some ⟨g_4, 0, none⟩) 3 KTxL.cells KTxL.ok ([v_1, v_2, v_3] : List KTxL)) 4)).m fun _ _ h => ⟨h⟩) (ec (((gd' (RowC v_5_A v_5_c KTxL.cells KTxL.ok v_5) 3)).m fun _ _ h => ⟨h⟩) (ec (((gd' (RowC v_6_A v_6_c KTxL.cells KTxL.ok v_6) 2)).m fun _ _ h => ⟨h⟩) e0))).a, ba 0 et.a, trivial⟩ ?_; refine ra [] f0 [(5, I v_11), (6, I v_12)] ?_; refine tN ?_; refine sq ?_; replace hG := bind_some hG; obtain ⟨⟨v_14, v_15⟩, hy_14, hG⟩ := hG; refine rg ?_; refine rn 1 [] f0 [(45, Sb g_7 3 3)] ?_; refine l1 ?_; refine nw 46 (vs 2) [I 3, I 1] 3 fun g_13 => ?_
 refine l1 ?_; refine cl 47 (z_copies_Elect F (some ⟨g_7, 0, none⟩) 3 ([(⟨1, (some ⟨g_4, 0, none⟩), 3, ([v_1, v_2, v_3] : List KTxL)⟩ : KCopyL), (⟨2, v_5_A, v_5_c, v_5⟩ : KCopyL), (⟨3, v_6_A, v_6_c, v_6⟩ : KCopyL)] : List KCopyL) (some ⟨g_13, 0, none⟩) 2 ([3, 1] : List Int) _ hy_14) hT ⟨ba 2 (ec (((gd' (RowC (some ⟨g_4, 0, none⟩) 3 KTxL.cells KTxL.ok ([v_1, v_2, v_3] : List KTxL)) 5)).m fun _ _ h => ⟨h⟩) (ec (((gd' (RowC v_5_A v_5_c KTxL.cells KTxL.ok v_5) 4)).m fun _ _ h => ⟨h⟩) (ec (((gd' (RowC v_6_A v_6_c KTxL.cells KTxL.ok v_6) 3)).m fun _ _ h => ⟨h⟩) e0))).a, ba 0 et.a, trivial⟩ ?_; refine ra [] f0 [(7, I v_14), (8, I v_15)] ?_; refine tN ?_; refine sq ?_; replace hG := bind_some hG; obtain ⟨⟨v_16o, v_17⟩, hy_16, hG⟩ := hG; refine rg ?_; refine rn 1 [] f0 [(51, Sb g_7 3 3)] ?_; refine sB 2 g_7 KCopyL.cells KCopyL.ok ([(⟨1, (some ⟨g_4, 0, none⟩), 3, ([v_1, v_2, v_3] : List KTxL)⟩ : KCopyL), (⟨2, v_5_A, v_5_c, v_5⟩ : KCopyL), (⟨3, v_6_A, v_6_c, v_6⟩ : KCopyL)] : List KCopyL) KCopyL.mv (ec (((gd' (RowC (some ⟨g_4, 0, none⟩) 3 KTxL.cells KTxL.ok ([v_1, v_2, v_3] : List KTxL)) 5)).m fun _ _ h => ⟨h⟩) (ec (((gd' (RowC v_5_A v_5_c KTxL.cells KTxL.ok v_5) 4)).m fun _ _ h => ⟨h⟩) (ec (((gd' (RowC v_6_A v_6_c KTxL.cells KTxL.ok v_6) 3)).m fun _ _ h => ⟨h⟩) e0))) ?_; refine l1 ?_; refine cn 52 (z_copies_Ship F (some ⟨g_7, 0, none⟩) 3 ([(⟨1, (some ⟨g_4, 0, none⟩), 3, ([v_1, v_2, v_3] : List KTxL)⟩ : KCopyL), (⟨2, v_5_A, v_5_c, v_5⟩ : KCopyL), (⟨3, v_6_A, v_6_c, v_6⟩ : KCopyL)] : List KCopyL) 1 3 1 _ hy_16) hT (fun _ => (mr KCopyL.mv m0)) ⟨gi 2, trivial⟩ ?_; rintro ⟨v_16_A, v_16_c, v_16⟩ hq_16; obtain rfl : (v_16.map KCopyL.p) = v_16o := hq_16.symm
 try (simp only [un2, un3, un4, un5, un6, un7, un8, Sum.elim_inl, Sum.elim_inr, List.length_map, KCopyL.n_Log] at hG; replace hG : _ = _ := hG)
 refine ra [] f0 [(9, .slice v_16_A v_16.length v_16_c), (10, I v_17)] ?_; refine tN ?_; refine sq ?_; replace hG := bind_some hG; obtain ⟨⟨v_18, v_19⟩, hy_18, hG⟩ := hG; refine rg ?_; refine rn 1 [] f0 [(56, .slice v_16_A v_16.length v_16_c)] ?_; refine l1 ?_; refine cl 57 (z_copies_Safe F v_16_A v_16_c v_16 _ hy_18) hT ⟨ga 0, trivial⟩ ?_; refine ra [] f0 [(11, I v_18), (12, I v_19)] ?_; refine tN ?_; refine sq ?_; replace hG := bind_some hG; obtain ⟨⟨v_20o, v_21⟩, hy_20, hG⟩ := hG; refine rg ?_; refine rn 1 [] f0 [(61, Sb g_7 3 3)] ?_; refine l1 ?_; refine cn 62 (z_copies_Read F (some ⟨g_7, 0, none⟩) 3 ([(⟨1, (some ⟨g_4, 0, none⟩), 3, ([v_1, v_2, v_3] : List KTxL)⟩ : KCopyL), (⟨2, v_5_A, v_5_c, v_5⟩ : KCopyL), (⟨3, v_6_A, v_6_c, v_6⟩ : KCopyL)] : List KCopyL) 3 20 _ hy_20) hT (fun _ => (mr tr_mv m0)) ⟨gi 3, trivial⟩ ?_; rintro ⟨v_20_A, v_20_c, v_20⟩ hq_20; obtain rfl : v_20 = v_20o := hq_20.symm
 try (simp only [un2, un3, un4, un5, un6, un7, un8, Sum.elim_inl, Sum.elim_inr, List.length_map, KCopyL.n_Log] at hG; replace hG : _ = _ := hG)
 refine ra [] f0 [(13, .slice v_20_A v_20.length v_20_c), (14, I v_21)] ?_; refine tN ?_; refine sq ?_; replace hG := bind_some hG; obtain ⟨⟨v_22o, v_23⟩, hy_22, hG⟩ := hG; refine rg ?_; refine rn 1 [] f0 [(66, Sb g_7 3 3)] ?_; refine l1 ?_; refine cn 67 (z_copies_Read F (some ⟨g_7, 0, none⟩) 3 ([(⟨1, (some ⟨g_4, 0, none⟩), 3, ([v_1, v_2, v_3] : List KTxL)⟩ : KCopyL), (⟨2, v_5_A, v_5_c, v_5⟩ : KCopyL), (⟨3, v_6_A, v_6_c, v_6⟩ : KCopyL)] : List KCopyL) 3 21 _ hy_22) hT (fun _ => (mr tr_mv m0)) ⟨gi 4, trivial⟩ ?_; rintro ⟨v_22_A, v_22_c, v_22⟩ hq_22; obtain rfl : v_22 = v_22o := hq_22.symm
 try (simp only [un2, un3, un4, un5, un6, un7, un8, Sum.elim_inl, Sum.elim_inr, List.length_map, KCopyL.n_Log] at hG; replace hG : _ = _ := hG)
 refine ra [] f0 [(16, I v_23)] ?_; refine tN ?_; refine sq ?_; replace hG := bind_some hG; obtain ⟨⟨v_25, v_26⟩, hy_25, hG⟩ := hG; refine rg ?_; refine rn 1 [] f0 [(71, Sb g_7 3 3)] ?_; refine l1 ?_; refine nw 72 (vs 1) [I 2] 3 fun g_24 => ?_
 refine l1 ?_; refine cl 73 (z_copies_Elect F (some ⟨g_7, 0, none⟩) 3 ([(⟨1, (some ⟨g_4, 0, none⟩), 3, ([v_1, v_2, v_3] : List KTxL)⟩ : KCopyL), (⟨2, v_5_A, v_5_c, v_5⟩ : KCopyL), (⟨3, v_6_A, v_6_c, v_6⟩ : KCopyL)] : List KCopyL) (some ⟨g_24, 0, none⟩) 1 ([2] : List Int) _ hy_25) hT ⟨ga 6, ba 0 et.a, trivial⟩ ?_; refine ra [] f0 [(18, I v_26)] ?_; refine tN ?_; obtain ⟨o_34, hG, hG_34⟩ := bind_some hG; refine jn (fun K E a w => ∃ (v_35 : Bool), Js S0 w0 135 ([(19, B v_35)] ++ K) (se E [2, 6]) (v_35 = o_34) a w) ?_ ?_
 ·replace hG := ifB_cases hG; rcases hG with ⟨h_27, hG⟩ | ⟨h_27, hG⟩
  ·replace hG := ifB_cases hG; rcases hG with ⟨h_28, hG⟩ | ⟨h_28, hG⟩
   ·replace hG := ifB_cases hG; rcases hG with ⟨h_29, hG⟩ | ⟨h_29, hG⟩
    ·replace hG := ifB_cases hG; rcases hG with ⟨h_30, hG⟩ | ⟨h_30, hG⟩
     ·replace hG := ifB_cases hG; rcases hG with ⟨h_31, hG⟩ | ⟨h_31, hG⟩
      ·replace hG := ifB_cases hG; rcases hG with ⟨h_32, hG⟩ | ⟨h_32, hG⟩
       ·replace hG := ifB_cases hG; rcases hG with ⟨h_33, hG⟩ | ⟨h_33, hG⟩
        ·refine rg ?_; refine rn 3 [] f0 [(78, B (v_9 == 0))] ?_; refine sb 78 (bt h_27) ?_; refine rn 4 [] f0 [(82, B (v_12 == 0))] ?_; refine sb 82 (bt h_28) ?_; refine rn 4 [] f0 [(86, B (v_15 == 0))] ?_; refine sb 86 (bt h_29) ?_; refine rn 4 [] f0 [(90, B (v_17 == 0))] ?_; refine sb 90 (bt h_30) ?_; refine rn 4 [] f0 [(94, B (v_19 == 0))] ?_; refine sb 94 (bt h_31) ?_; refine rn 4 [] f0 [(98, B (v_21 == 0))] ?_; refine sb 98 (bt h_32) ?_; refine rn 4 [] f0 [(102, B (v_23 == 63))] ?_; refine sb 102 (bt h_33) ?_; refine ra [] f0 [(19, B (v_26 == 20))] ?_; refine tN ?_; exact fun a w S hK hE => ⟨(v_26 == 20), S, hK.wk, hE.sel [2, 6], Option.some.inj hG⟩
        ·refine rg ?_; refine rn 3 [] f0 [(78, B (v_9 == 0))] ?_; refine sb 78 (bt h_27) ?_; refine rn 4 [] f0 [(82, B (v_12 == 0))] ?_; refine sb 82 (bt h_28) ?_; refine rn 4 [] f0 [(86, B (v_15 == 0))] ?_; refine sb 86 (bt h_29) ?_; refine rn 4 [] f0 [(90, B (v_17 == 0))] ?_; refine sb 90 (bt h_30) ?_; refine rn 4 [] f0 [(94, B (v_19 == 0))] ?_; refine sb 94 (bt h_31) ?_; refine rn 4 [] f0 [(98, B (v_21 == 0))] ?_; refine sb 98 (bt h_32) ?_; refine rn 4 [] f0 [(102, B (v_23 == 63))] ?_; refine sb 102 (bf h_33) ?_; refine ra [] f0 [(19, B false)] ?_; refine tN ?_; exact fun a w S hK hE => ⟨false, S, hK.wk, hE.sel [2, 6], Option.some.inj hG⟩
       ·refine rg ?_; refine rn 3 [] f0 [(78, B (v_9 == 0))] ?_; refine sb 78 (bt h_27) ?_; refine rn 4 [] f0 [(82, B (v_12 == 0))] ?_; refine sb 82 (bt h_28) ?_; refine rn 4 [] f0 [(86, B (v_15 == 0))] ?_; refine sb 86 (bt h_29) ?_; refine rn 4 [] f0 [(90, B (v_17 == 0))] ?_; refine sb 90 (bt h_30) ?_; refine rn 4 [] f0 [(94, B (v_19 == 0))] ?_; refine sb 94 (bt h_31) ?_; refine rn 4 [] f0 [(98, B (v_21 == 0))] ?_; refine sb 98 (bf h_32) ?_; refine ra [] f0 [(19, B false)] ?_; refine tN ?_; exact fun a w S hK hE => ⟨false, S, hK.wk, hE.sel [2, 6], Option.some.inj hG⟩
      ·refine rg ?_; refine rn 3 [] f0 [(78, B (v_9 == 0))] ?_; refine sb 78 (bt h_27) ?_; refine rn 4 [] f0 [(82, B (v_12 == 0))] ?_; refine sb 82 (bt h_28) ?_; refine rn 4 [] f0 [(86, B (v_15 == 0))] ?_; refine sb 86 (bt h_29) ?_; refine rn 4 [] f0 [(90, B (v_17 == 0))] ?_; refine sb 90 (bt h_30) ?_; refine rn 4 [] f0 [(94, B (v_19 == 0))] ?_; refine sb 94 (bf h_31) ?_; refine ra [] f0 [(19, B false)] ?_; refine tN ?_; exact fun a w S hK hE => ⟨false, S, hK.wk, hE.sel [2, 6], Option.some.inj hG⟩
     ·refine rg ?_; refine rn 3 [] f0 [(78, B (v_9 == 0))] ?_; refine sb 78 (bt h_27) ?_; refine rn 4 [] f0 [(82, B (v_12 == 0))] ?_; refine sb 82 (bt h_28) ?_; refine rn 4 [] f0 [(86, B (v_15 == 0))] ?_; refine sb 86 (bt h_29) ?_; refine rn 4 [] f0 [(90, B (v_17 == 0))] ?_; refine sb 90 (bf h_30) ?_; refine ra [] f0 [(19, B false)] ?_; refine tN ?_; exact fun a w S hK hE => ⟨false, S, hK.wk, hE.sel [2, 6], Option.some.inj hG⟩
    ·refine rg ?_; refine rn 3 [] f0 [(78, B (v_9 == 0))] ?_; refine sb 78 (bt h_27) ?_; refine rn 4 [] f0 [(82, B (v_12 == 0))] ?_; refine sb 82 (bt h_28) ?_; refine rn 4 [] f0 [(86, B (v_15 == 0))] ?_; refine sb 86 (bf h_29) ?_; refine ra [] f0 [(19, B false)] ?_; refine tN ?_; exact fun a w S hK hE => ⟨false, S, hK.wk, hE.sel [2, 6], Option.some.inj hG⟩
   ·refine rg ?_; refine rn 3 [] f0 [(78, B (v_9 == 0))] ?_; refine sb 78 (bt h_27) ?_; refine rn 4 [] f0 [(82, B (v_12 == 0))] ?_; refine sb 82 (bf h_28) ?_; refine ra [] f0 [(19, B false)] ?_; refine tN ?_; exact fun a w S hK hE => ⟨false, S, hK.wk, hE.sel [2, 6], Option.some.inj hG⟩
  ·refine rg ?_; refine rn 3 [] f0 [(78, B (v_9 == 0))] ?_; refine sb 78 (bf h_27) ?_; refine ra [] f0 [(19, B false)] ?_; refine tN ?_; exact fun a w S hK hE => ⟨false, S, hK.wk, hE.sel [2, 6], Option.some.inj hG⟩
 ·rintro a w ⟨v_35, hJ⟩; refine hJ.go fun ho_ => ?_
  clear hJ; subst ho_; replace hG := hG_34
  try (simp only [un2, un3, un4, un5, un6, un7, un8, Sum.elim_inl, Sum.elim_inr, List.length_map, KCopyL.n_Log] at hG; replace hG : _ = _ := hG)
  obtain ⟨o_42, hG, hG_42⟩ := bind_some hG; refine jn (fun K E a w => ∃ (v_43 : Bool), Js S0 w0 135 ([(19, B v_43)] ++ K) (se E [0]) (v_43 = o_42) a w) ?_ ?_
  ·replace hG := ifB_cases hG; rcases hG with ⟨h_36, hG⟩ | ⟨h_36, hG⟩
   ·replace hG := ifB_cases hG; rcases hG with ⟨h_37, hG⟩ | ⟨h_37, hG⟩
    ·replace hG := ifB_cases hG; rcases hG with ⟨h_38, hG⟩ | ⟨h_38, hG⟩
     ·replace hG := ifB_cases hG; rcases hG with ⟨h_39, hG⟩ | ⟨h_39, hG⟩
      ·replace hG := ifB_cases hG; rcases hG with ⟨h_40, hG⟩ | ⟨h_40, hG⟩
       ·replace hG := bind_some hG; obtain ⟨v_41, hy_41, hG⟩ := hG; refine rg ?_; refine rn 2 [] f0 [(107, B v_35)] ?_; refine sb 107 (bt h_36) ?_; refine rn 4 [] f0 [(111, B (v_8 == 2))] ?_; refine sb 111 (bt h_37) ?_; refine rn 4 [] f0 [(115, B (v_11 == 3))] ?_; refine sb 115 (bt h_38) ?_; refine rn 4 [] f0 [(119, B (v_14 == 1))] ?_; refine sb 119 (bt h_39) ?_; refine rn 4 [] f0 [(123, B (v_18 == 3))] ?_; refine sb 123 (bt h_40) ?_; refine rn 1 [] f0 [(124, Sb g_7 3 3)] ?_; refine l1 ?_; refine cl 125 (z_copies_Valid F (some ⟨g_7, 0, none⟩) 3 ([(⟨1, (some ⟨g_4, 0, none⟩), 3, ([v_1, v_2, v_3] : List KTxL)⟩ : KCopyL), (⟨2, v_5_A, v_5_c, v_5⟩ : KCopyL), (⟨3, v_6_A, v_6_c, v_6⟩ : KCopyL)] : List KCopyL) _ hy_41) hT ⟨ga 1, trivial⟩ ?_; refine ra [] f0 [(19, B v_41)] ?_; refine tN ?_; exact fun a w S hK hE => ⟨v_41, S, hK.wk, hE.sel [0], Option.some.inj hG⟩
       ·refine rg ?_; refine rn 2 [] f0 [(107, B v_35)] ?_; refine sb 107 (bt h_36) ?_; refine rn 4 [] f0 [(111, B (v_8 == 2))] ?_; refine sb 111 (bt h_37) ?_; refine rn 4 [] f0 [(115, B (v_11 == 3))] ?_; refine sb 115 (bt h_38) ?_; refine rn 4 [] f0 [(119, B (v_14 == 1))] ?_; refine sb 119 (bt h_39) ?_; refine rn 4 [] f0 [(123, B (v_18 == 3))] ?_; refine sb 123 (bf h_40) ?_; refine ra [] f0 [(19, B false)] ?_; refine tN ?_; exact fun a w S hK hE => ⟨false, S, hK.wk, hE.sel [0], Option.some.inj hG⟩
      ·refine rg ?_; refine rn 2 [] f0 [(107, B v_35)] ?_; refine sb 107 (bt h_36) ?_; refine rn 4 [] f0 [(111, B (v_8 == 2))] ?_; refine sb 111 (bt h_37) ?_; refine rn 4 [] f0 [(115, B (v_11 == 3))] ?_; refine sb 115 (bt h_38) ?_; refine rn 4 [] f0 [(119, B (v_14 == 1))] ?_; refine sb 119 (bf h_39) ?_; refine ra [] f0 [(19, B false)] ?_; refine tN ?_; exact fun a w S hK hE => ⟨false, S, hK.wk, hE.sel [0], Option.some.inj hG⟩
     ·refine rg ?_; refine rn 2 [] f0 [(107, B v_35)] ?_; refine sb 107 (bt h_36) ?_; refine rn 4 [] f0 [(111, B (v_8 == 2))] ?_; refine sb 111 (bt h_37) ?_; refine rn 4 [] f0 [(115, B (v_11 == 3))] ?_; refine sb 115 (bf h_38) ?_; refine ra [] f0 [(19, B false)] ?_; refine tN ?_; exact fun a w S hK hE => ⟨false, S, hK.wk, hE.sel [0], Option.some.inj hG⟩
    ·refine rg ?_; refine rn 2 [] f0 [(107, B v_35)] ?_; refine sb 107 (bt h_36) ?_; refine rn 4 [] f0 [(111, B (v_8 == 2))] ?_; refine sb 111 (bf h_37) ?_; refine ra [] f0 [(19, B false)] ?_; refine tN ?_; exact fun a w S hK hE => ⟨false, S, hK.wk, hE.sel [0], Option.some.inj hG⟩
   ·refine rg ?_; refine rn 2 [] f0 [(107, B v_35)] ?_; refine sb 107 (bf h_36) ?_; refine ra [] f0 [(19, B false)] ?_; refine tN ?_; exact fun a w S hK hE => ⟨false, S, hK.wk, hE.sel [0], Option.some.inj hG⟩
  ·rintro a w ⟨v_43, hJ⟩; refine hJ.go fun ho_ => ?_
   clear hJ; subst ho_; replace hG := hG_42
   try (simp only [un2, un3, un4, un5, un6, un7, un8, Sum.elim_inl, Sum.elim_inr, List.length_map, KCopyL.n_Log] at hG; replace hG : _ = _ := hG)
   obtain ⟨o_47, hG, hG_47⟩ := bind_some hG; refine jn (fun K E a w => ∃ (v_48 : Bool), Js S0 w0 135 ([(0, B v_48)] ++ K) (se E []) (v_48 = o_47) a w) ?_ ?_
   ·replace hG := ifB_cases hG; rcases hG with ⟨h_44, hG⟩ | ⟨h_44, hG⟩
    ·replace hG := bind_some hG; obtain ⟨v_46, hy_46, hG⟩ := hG; refine rg ?_; refine rn 2 [] f0 [(128, B v_43)] ?_; refine sb 128 (bt h_44) ?_; refine rn 3 [] f0 [(129, .slice v_20_A v_20.length v_20_c), (130, .agg #[I 5, I 10, I 7, B false]), (131, .agg #[I 6, I 20, I 8, B false])] ?_; refine l1 ?_; refine nw 132 (vs 2) [I 5, I 10, I 7, B false, I 6, I 20, I 8, B false] 50 fun g_45 => ?_
     refine l1 ?_; refine cl 133 (z_regulatorref33_Same F v_20_A v_20_c v_20 (some ⟨g_45, 0, none⟩) 2 ([(⟨5, 10, 7, false⟩ : KVersion), (⟨6, 20, 8, false⟩ : KVersion)] : List KVersion) _ hy_46) hT ⟨ga 1, ba 0 et.a, trivial⟩ ?_; refine ra [] f0 [(0, B v_46)] ?_; refine tN ?_; exact fun a w S hK hE => ⟨v_46, S, hK.wk, hE.sel [], Option.some.inj hG⟩
    ·refine rg ?_; refine rn 2 [] f0 [(128, B v_43)] ?_; refine sb 128 (bf h_44) ?_; refine ra [] f0 [(0, B false)] ?_; refine tN ?_; exact fun a w S hK hE => ⟨false, S, hK.wk, hE.sel [], Option.some.inj hG⟩
   ·rintro a w ⟨v_48, hJ⟩; refine hJ.go fun ho_ => ?_
    clear hJ; subst ho_; replace hG := hG_47
    try (simp only [un2, un3, un4, un5, un6, un7, un8, Sum.elim_inl, Sum.elim_inr, List.length_map, KCopyL.n_Log] at hG; replace hG : _ = _ := hG)
    refine kR ?_; obtain rfl := Option.some.inj hG; exact rt []
end Go.Proofs.YtkchfmhgboiimaaGreat
namespace Go.Proofs.YtkchfmhgboiimaaGreat
open Go.RowKit Go.Maps
def G_regulatorlaw38_usable (F : Nat) (p_0 : List KCopy) : Option (Bool) :=
 Option.bind (Option.bind (G_regulatorref38_Few F p_0) (fun v_1 =>
  ifB (v_1)
   (Option.bind (G_regulatorref38_Valid F p_0) (fun v_3 =>
   some v_3))
   (some false)) : Option (Bool)) (fun (v_5 : Bool) =>
  some v_5)
set_option maxRecDepth 100000 in
set_option maxHeartbeats 16000000 in
theorem z_regulatorlaw38_usable (F : Nat) (p_0_A : Option Addr) (p_0_c : Nat) (p_0 : List KCopyL) (r : Bool) (hG : G_regulatorlaw38_usable F (p_0.map KCopyL.p) = some r) :
  Cf Tryz.prog 24 [.slice p_0_A p_0.length p_0_c] [RowC p_0_A p_0_c KCopyL.cells KCopyL.ok p_0] (B r) := by
 unfold G_regulatorlaw38_usable at hG
 try (simp only [un2, un3, un4, un5, un6, un7, un8, Sum.elim_inl, Sum.elim_inr, List.length_map, KCopyL.n_Log] at hG; replace hG : _ = _ := hG)
 refine fi Tryz.func24 rfl rfl (mr KCopyL.mv m0) fun S0 w0 hT => ?_
 refine sq ?_; refine rg ?_; refine ra [] f0 [] ?_; refine tN ?_; obtain ⟨o_4, hG, hG_4⟩ := bind_some hG; refine jn (fun K E a w => ∃ (v_5 : Bool), Js S0 w0 9 ([(2, B v_5)] ++ K) (se E []) (v_5 = o_4) a w) ?_ ?_
 ·replace hG := bind_some hG; obtain ⟨v_1, hy_1, hG⟩ := hG; replace hG := ifB_cases hG; rcases hG with ⟨h_2, hG⟩ | ⟨h_2, hG⟩
  ·replace hG := bind_some hG; obtain ⟨v_3, hy_3, hG⟩ := hG; refine rg ?_; refine rn 1 [] f0 [(3, .slice p_0_A p_0.length p_0_c)] ?_; refine l1 ?_; refine cl 4 (z_regulatorref38_Few F p_0_A p_0_c p_0 _ hy_1) hT ⟨ga 0, trivial⟩ ?_; refine rn 1 [] f0 [(5, B v_1)] ?_; refine sb 5 (bt h_2) ?_; refine rn 1 [] f0 [(6, .slice p_0_A p_0.length p_0_c)] ?_; refine l1 ?_; refine cl 7 (z_regulatorref38_Valid F p_0_A p_0_c p_0 _ hy_3) hT ⟨ga 0, trivial⟩ ?_; refine ra [] f0 [(2, B v_3)] ?_; refine tN ?_; exact fun a w S hK hE => ⟨v_3, S, hK.wk, hE.sel [], Option.some.inj hG⟩
  ·refine rg ?_; refine rn 1 [] f0 [(3, .slice p_0_A p_0.length p_0_c)] ?_; refine l1 ?_; refine cl 4 (z_regulatorref38_Few F p_0_A p_0_c p_0 _ hy_1) hT ⟨ga 0, trivial⟩ ?_; refine rn 1 [] f0 [(5, B v_1)] ?_; refine sb 5 (bf h_2) ?_; refine ra [] f0 [(2, B false)] ?_; refine tN ?_; exact fun a w S hK hE => ⟨false, S, hK.wk, hE.sel [], Option.some.inj hG⟩
 ·rintro a w ⟨v_5, hJ⟩; refine hJ.go fun ho_ => ?_
  clear hJ; subst ho_; replace hG := hG_4
  try (simp only [un2, un3, un4, un5, un6, un7, un8, Sum.elim_inl, Sum.elim_inr, List.length_map, KCopyL.n_Log] at hG; replace hG : _ = _ := hG)
  refine kR ?_; obtain rfl := Option.some.inj hG; exact rt []
end Go.Proofs.YtkchfmhgboiimaaGreat
namespace Go.Proofs.YtkchfmhgboiimaaGreat
open Go.RowKit Go.Maps
end Go.Proofs.YtkchfmhgboiimaaGreat
namespace Go.Proofs.YtkchfmhgboiimaaGreat
open Go.RowKit Go.Maps
end Go.Proofs.YtkchfmhgboiimaaGreat
namespace Go.Proofs.YtkchfmhgboiimaaGreat
open Go.RowKit Go.Maps
end Go.Proofs.YtkchfmhgboiimaaGreat
namespace Go.Proofs.YtkchfmhgboiimaaGreat
open Go.RowKit Go.Maps
def G_regulatorlaw38_CopiesLater (F : Nat) (p_0 : List KCopy) (p_1 : Int) (p_2 : Int) (p_3 : Int) (p_4 : Int) (p_5 : Int) : Option (Bool) :=
  Option.bind (G_regulatorlaw38_head F ) (fun v_1 =>
  Option.bind (G_regulatorlaw38_usable F p_0) (fun v_2 =>
  ifB (v_2)
    (Option.bind (whenG (!(((p_0.length : Nat) : Int) == 0)) ()) (fun v_4 =>
    Option.bind (ixI p_0 (Int.tmod (IntKind.i64.wrap p_4) ((p_0.length : Nat) : Int))) (fun v_5 =>
    Option.bind (whenG (!(((p_0.length : Nat) : Int) == 0)) ()) (fun v_8 =>
    Option.bind (ixI p_0 (Int.tmod (IntKind.i64.wrap p_1) ((p_0.length : Nat) : Int))) (fun v_9 =>
    Option.bind (whenG (!(((p_0.length : Nat) : Int) == 0)) ()) (fun v_12 =>
    Option.bind (ixI p_0 (Int.tmod (IntKind.i64.wrap p_2) ((p_0.length : Nat) : Int))) (fun v_13 =>
    Option.bind (G_copies_Ship F p_0 v_9.ID v_13.ID (IntKind.i64.wrap p_3)) (un2 fun v_16 v_17 =>
    Option.bind (G_copies_Read F p_0 v_5.ID p_5) (un2 fun v_18 v_19 =>
    Option.bind (G_copies_Read F v_16 v_5.ID p_5) (un2 fun v_20 v_21 =>
    Option.bind (ifB (v_1)
        (ifB ((v_17 == 0))
          (ifB ((v_19 == 0))
            (ifB ((v_21 == 0))
              (Option.bind (G_regulatorref33_Same F v_18 v_20) (fun v_26 =>
              some v_26))
              (some false))
            (some true))
          (some false))
        (some false) : Option (Bool)) (fun (v_28 : Bool) => 
      some v_28)))))))))))
    (some v_1)))
set_option maxRecDepth 100000 in
set_option maxHeartbeats 16000000 in
theorem z_regulatorlaw38_CopiesLater (F : Nat) (p_0_A : Option Addr) (p_0_c : Nat) (p_0 : List KCopyL) (p_1 : Int) (p_2 : Int) (p_3 : Int) (p_4 : Int) (p_5 : Int) (r : Bool) (hG : G_regulatorlaw38_CopiesLater F (p_0.map KCopyL.p) p_1 p_2 p_3 p_4 p_5 = some r) :
  Cf Tryz.prog 9 [.slice p_0_A p_0.length p_0_c, Y p_1, Y p_2, Y p_3, Y p_4, I p_5] [RowC p_0_A p_0_c KCopyL.cells KCopyL.ok p_0] (B r) := by
 unfold G_regulatorlaw38_CopiesLater at hG
 try (simp only [un2, un3, un4, un5, un6, un7, un8, Sum.elim_inl, Sum.elim_inr, List.length_map, KCopyL.n_Log] at hG; replace hG : _ = _ := hG)
 refine fi Tryz.func9 rfl rfl (mr KCopyL.mv m0) fun S0 w0 hT => ?_
 refine sq ?_; refine rg ?_; refine ra [] f0 [] ?_; refine tN ?_; refine sq ?_; replace hG := bind_some hG; obtain ⟨v_1, hy_1, hG⟩ := hG; refine rg ?_; refine l1 ?_; refine cl 21 (z_regulatorlaw38_head F  _ hy_1) hT trivial ?_; refine ra [] f0 [(13, B v_1)] ?_; refine tN ?_; refine sq ?_; refine sq ?_; replace hG := bind_some hG; obtain ⟨v_2, hy_2, hG⟩ := hG; refine rg ?_; refine rn 1 [] f0 [(22, .slice p_0_A p_0.length p_0_c)] ?_; refine l1 ?_; refine cl 23 (z_regulatorlaw38_usable F p_0_A p_0_c p_0 _ hy_2) hT ⟨ga 0, trivial⟩ ?_; refine ra [] f0 [(24, B (!v_2))] ?_; refine tN ?_; rcases ifB_cases hG with ⟨h_3, hG⟩ | ⟨h_3, hG⟩
 ·refine sb 24 (nt h_3) ?_; refine cf ?_; refine kS ?_; refine tN ?_; refine sq ?_; replace hG := bind_some hG; obtain ⟨v_4, hy_4, hG⟩ := hG; replace hG := bind_some hG; obtain ⟨v_5o, hy_5, hG⟩ := hG; refine rg ?_; refine fxn (p := KCopyL.p) inf22 (gd' (RowC p_0_A p_0_c KCopyL.cells KCopyL.ok p_0) 0) hy_5 fun v_5 b_6 o_7 he_5 hi_5 => ?_
  subst he_5
  try (simp only [un2, un3, un4, un5, un6, un7, un8, Sum.elim_inl, Sum.elim_inr, List.length_map, KCopyL.n_Log] at hG; replace hG : _ = _ := hG)
  refine ra [(5, 0, 0, 0), (0, 0, 0, 0), (1, 1, 0, 0)] (fc (fun W => run_rem (T := 3) (k := .i64) (p := IntKind.i64.wrap p_4) (q := ((p_0.length : Nat) : Int)) (nz_of (whenG_some hy_4).1) W) (fc (hi_5 .i64) f0)) [(14, I v_5.ID)] ?_; refine tN ?_; refine sq ?_; replace hG := bind_some hG; obtain ⟨v_8, hy_8, hG⟩ := hG; replace hG := bind_some hG; obtain ⟨v_9o, hy_9, hG⟩ := hG; replace hG := bind_some hG; obtain ⟨v_12, hy_12, hG⟩ := hG; replace hG := bind_some hG; obtain ⟨v_13o, hy_13, hG⟩ := hG; replace hG := bind_some hG; obtain ⟨⟨v_16o, v_17⟩, hy_16, hG⟩ := hG; refine fxn (p := KCopyL.p) inf22 (gd' (RowC p_0_A p_0_c KCopyL.cells KCopyL.ok p_0) 2) hy_9 fun v_9 b_10 o_11 he_9 hi_9 => ?_
  subst he_9
  try (simp only [un2, un3, un4, un5, un6, un7, un8, Sum.elim_inl, Sum.elim_inr, List.length_map, KCopyL.n_Log] at hG; replace hG : _ = _ := hG)
  refine fxn (p := KCopyL.p) inf22 (gd' (RowC p_0_A p_0_c KCopyL.cells KCopyL.ok p_0) 4) hy_13 fun v_13 b_14 o_15 he_13 hi_13 => ?_
  subst he_13
  try (simp only [un2, un3, un4, un5, un6, un7, un8, Sum.elim_inl, Sum.elim_inr, List.length_map, KCopyL.n_Log] at hG; replace hG : _ = _ := hG)
  refine hb [0, 1, 2, 3, 4, 5, 6] ?_; refine ht [0, 1, 2, 3, 4, 5, 6] [0, 1, 2, 3, 4, 5, 6, 7, 8, 9, 10, 11, 12, 13, 14, 15, 16, 17, 18, 19, 20] [(6, 0, 0, 0), (0, 0, 0, 0), (1, 1, 2, 0), (5, 0, 0, 0), (0, 0, 0, 0), (1, 1, 0, 0)] (fc (fun W => run_rem (T := 3) (k := .i64) (p := IntKind.i64.wrap p_1) (q := ((p_0.length : Nat) : Int)) (nz_of (whenG_some hy_8).1) W) (fc (hi_9 .i64) (fc (fun W => run_rem (T := 3) (k := .i64) (p := IntKind.i64.wrap p_2) (q := ((p_0.length : Nat) : Int)) (nz_of (whenG_some hy_12).1) W) (fc (hi_13 .i64) f0)))) [(36, .slice p_0_A p_0.length p_0_c), (45, I v_9.ID), (54, I v_13.ID), (56, I (IntKind.i64.wrap p_3))] ?_; refine ho [21] ⟨?_, trivial⟩; refine h1 ?_; refine cn 57 (z_copies_Ship F p_0_A p_0_c p_0 v_9.ID v_13.ID (IntKind.i64.wrap p_3) _ hy_16) hT (fun _ => (mr KCopyL.mv m0)) ⟨gi 6, trivial⟩ ?_; rintro ⟨v_16_A, v_16_c, v_16⟩ hq_16; obtain rfl : (v_16.map KCopyL.p) = v_16o := hq_16.symm
  try (simp only [un2, un3, un4, un5, un6, un7, un8, Sum.elim_inl, Sum.elim_inr, List.length_map, KCopyL.n_Log] at hG; replace hG : _ = _ := hG)
  refine hk [1, 2, 3, 4, 5, 6, 7] ?_; refine ht [1, 2, 3, 4, 5, 6, 7] [22, 23, 24, 25, 26] [] f0 [(15, .slice v_16_A v_16.length v_16_c), (16, I v_17)] ?_; refine he ?_; refine tN ?_; refine sq ?_; replace hG := bind_some hG; obtain ⟨⟨v_18o, v_19⟩, hy_18, hG⟩ := hG; refine rg ?_; refine rn 3 [] f0 [(61, .slice p_0_A p_0.length p_0_c), (62, I v_5.ID), (63, I p_5)] ?_; refine l1 ?_; refine cn 64 (z_copies_Read F p_0_A p_0_c p_0 v_5.ID p_5 _ hy_18) hT (fun _ => (mr tr_mv m0)) ⟨gi 7, trivial⟩ ?_; rintro ⟨v_18_A, v_18_c, v_18⟩ hq_18; obtain rfl : v_18 = v_18o := hq_18.symm
  try (simp only [un2, un3, un4, un5, un6, un7, un8, Sum.elim_inl, Sum.elim_inr, List.length_map, KCopyL.n_Log] at hG; replace hG : _ = _ := hG)
  refine ra [] f0 [(17, .slice v_18_A v_18.length v_18_c), (18, I v_19)] ?_; refine tN ?_; refine sq ?_; replace hG := bind_some hG; obtain ⟨⟨v_20o, v_21⟩, hy_20, hG⟩ := hG; refine rg ?_; refine rn 3 [] f0 [(68, .slice v_16_A v_16.length v_16_c), (69, I v_5.ID), (70, I p_5)] ?_; refine l1 ?_; refine cn 71 (z_copies_Read F v_16_A v_16_c v_16 v_5.ID p_5 _ hy_20) hT (fun _ => (mr tr_mv m0)) ⟨gi 1, trivial⟩ ?_; rintro ⟨v_20_A, v_20_c, v_20⟩ hq_20; obtain rfl : v_20 = v_20o := hq_20.symm
  try (simp only [un2, un3, un4, un5, un6, un7, un8, Sum.elim_inl, Sum.elim_inr, List.length_map, KCopyL.n_Log] at hG; replace hG : _ = _ := hG)
  refine ra [] f0 [(19, .slice v_20_A v_20.length v_20_c), (20, I v_21)] ?_; refine tN ?_; obtain ⟨o_27, hG, hG_27⟩ := bind_some hG; refine jn (fun K E a w => ∃ (v_28 : Bool), Js S0 w0 92 ([(12, B v_28)] ++ K) (se E []) (v_28 = o_27) a w) ?_ ?_
  ·replace hG := ifB_cases hG; rcases hG with ⟨h_22, hG⟩ | ⟨h_22, hG⟩
   ·replace hG := ifB_cases hG; rcases hG with ⟨h_23, hG⟩ | ⟨h_23, hG⟩
    ·replace hG := ifB_cases hG; rcases hG with ⟨h_24, hG⟩ | ⟨h_24, hG⟩
     ·replace hG := ifB_cases hG; rcases hG with ⟨h_25, hG⟩ | ⟨h_25, hG⟩
      ·replace hG := bind_some hG; obtain ⟨v_26, hy_26, hG⟩ := hG; refine rg ?_; refine rn 2 [] f0 [(75, B v_1)] ?_; refine sb 75 (bt h_22) ?_; refine rn 4 [] f0 [(79, B (v_17 == 0))] ?_; refine sb 79 (bt h_23) ?_; refine rn 3 [] f0 [(82, B (!(v_19 == 0)))] ?_; refine sb 82 (nt h_24) ?_; refine rn 3 [] f0 [(85, B (v_21 == 0))] ?_; refine sb 85 (bt h_25) ?_; refine rn 2 [] f0 [(86, .slice v_18_A v_18.length v_18_c), (87, .slice v_20_A v_20.length v_20_c)] ?_; refine l1 ?_; refine cl 88 (z_regulatorref33_Same F v_18_A v_18_c v_18 v_20_A v_20_c v_20 _ hy_26) hT ⟨ga 1, ga 0, trivial⟩ ?_; refine ra [] f0 [(12, B v_26)] ?_; refine tN ?_; exact fun a w S hK hE => ⟨v_26, S, hK.wk, hE.sel [], Option.some.inj hG⟩
      ·refine rg ?_; refine rn 2 [] f0 [(75, B v_1)] ?_; refine sb 75 (bt h_22) ?_; refine rn 4 [] f0 [(79, B (v_17 == 0))] ?_; refine sb 79 (bt h_23) ?_; refine rn 3 [] f0 [(82, B (!(v_19 == 0)))] ?_; refine sb 82 (nt h_24) ?_; refine rn 3 [] f0 [(85, B (v_21 == 0))] ?_; refine sb 85 (bf h_25) ?_; refine ra [] f0 [(12, B false)] ?_; refine tN ?_; exact fun a w S hK hE => ⟨false, S, hK.wk, hE.sel [], Option.some.inj hG⟩
     ·refine rg ?_; refine rn 2 [] f0 [(75, B v_1)] ?_; refine sb 75 (bt h_22) ?_; refine rn 4 [] f0 [(79, B (v_17 == 0))] ?_; refine sb 79 (bt h_23) ?_; refine rn 3 [] f0 [(82, B (!(v_19 == 0)))] ?_; refine sb 82 (nf h_24) ?_; refine ra [] f0 [(12, B true)] ?_; refine tN ?_; exact fun a w S hK hE => ⟨true, S, hK.wk, hE.sel [], Option.some.inj hG⟩
    ·refine rg ?_; refine rn 2 [] f0 [(75, B v_1)] ?_; refine sb 75 (bt h_22) ?_; refine rn 4 [] f0 [(79, B (v_17 == 0))] ?_; refine sb 79 (bf h_23) ?_; refine ra [] f0 [(12, B false)] ?_; refine tN ?_; exact fun a w S hK hE => ⟨false, S, hK.wk, hE.sel [], Option.some.inj hG⟩
   ·refine rg ?_; refine rn 2 [] f0 [(75, B v_1)] ?_; refine sb 75 (bf h_22) ?_; refine ra [] f0 [(12, B false)] ?_; refine tN ?_; exact fun a w S hK hE => ⟨false, S, hK.wk, hE.sel [], Option.some.inj hG⟩
  ·rintro a w ⟨v_28, hJ⟩; refine hJ.go fun ho_ => ?_
   clear hJ; subst ho_; replace hG := hG_27
   try (simp only [un2, un3, un4, un5, un6, un7, un8, Sum.elim_inl, Sum.elim_inr, List.length_map, KCopyL.n_Log] at hG; replace hG : _ = _ := hG)
   refine kR ?_; obtain rfl := Option.some.inj hG; exact rt []
 ·refine sb 24 (nf h_3) ?_; refine ct ?_; refine sq ?_; refine rg ?_; refine ra [] f0 [(12, B v_1)] ?_; refine tN ?_; refine kR ?_; refine tR ?_; obtain rfl := Option.some.inj hG; exact rt []
end Go.Proofs.YtkchfmhgboiimaaGreat
namespace Go.Proofs.YtkchfmhgboiimaaGreat
open Go.RowKit Go.Maps
end Go.Proofs.YtkchfmhgboiimaaGreat
namespace Go.Proofs.YtkchfmhgboiimaaGreat
theorem dnot {p q : Prop} [Decidable p] [Decidable q] (h : p ↔ ¬q) : decide p = !decide q := by
 rw [← decide_not]; exact decide_eq_decide.2 h
theorem deq {p q : Prop} [Decidable p] [Decidable q] (h : p ↔ q) : decide p = decide q := decide_eq_decide.2 h
def frL {α : Type} (p : Nat → α → Bool) : List α → Nat → Bool
 | [], _ => true
 | x :: xs, k => p k x && frL p xs (k + 1)
theorem frL_iff {α : Type} {p : Nat → α → Bool} : ∀ {l : List α} {k : Nat}, frL p l k = true ↔ ∀ j (h : j < l.length), p (k + j) l[j] = true
 | [], k => ⟨fun _ j h => absurd h (Nat.not_lt_zero _), fun _ => rfl⟩
 | x :: l, k => by
  rw [frL, Bool.and_eq_true, frL_iff]; constructor
  ·rintro ⟨h1, h2⟩ j hj
   match j, hj with
   | 0, _ => exact h1
   | j + 1, hj =>
    have := h2 j (by simpa using hj); rw [show k + (j + 1) = k + 1 + j by omega]; exact this
  ·intro h; refine ⟨h 0 (by simp), fun j hj => ?_⟩; have := h (j + 1) (by simpa using hj); rw [show k + 1 + j = k + (j + 1) by omega]; exact this
def foI {α β : Type} (h : β → Nat → α → β) : List α → Nat → β → β
 | [], _, b => b
 | x :: xs, k, b => foI h xs (k + 1) (h b k x)
theorem foI_inv {α β : Type} {h : β → Nat → α → β} (P : Nat → β → Prop) : ∀ {l : List α} {k : Nat} {b : β}, P k b → (∀ j (hj : j < l.length) b, P (k + j) b → P (k + j + 1) (h b (k + j) l[j])) → P (k + l.length) (foI h l k b)
 | [], k, b, h0, _ => h0
 | x :: l, k, b, h0, hs => by
  have h1 := hs 0 (by simp) b h0; have := foI_inv (l := l) (k := k + 1) P h1 fun j hj b hb => by
   have := hs (j + 1) (by simpa using hj) b (by rwa [show k + (j + 1) = k + 1 + j by omega])
   rwa [show k + (j + 1) = k + 1 + j by omega] at this
  rw [List.length_cons, show k + (l.length + 1) = k + 1 + l.length by omega]; exact this
section
variable {σ ρ α β : Type}
theorem iter_chk {f : σ → Option (σ ⊕ ρ)} (e : β → Int → σ) (l : List α) (p : Nat → α → Bool) (g : β → Nat → α → β) (fin : β → ρ) (r : ρ) (I : Nat → β → Prop) (hn : ∀ b, I l.length b → f (e b (l.length : Int)) = some (.inr (fin b)))
  (hk : ∀ b k (h : k < l.length), I k b → f (e b (k : Int)) = some (if p k l[k] = true then .inl (e (g b k l[k]) ((k : Int) + 1)) else .inr r) ∧ I (k + 1) (g b k l[k])) {F : Nat} (hF : l.length < F) (b : β) (hb : I 0 b) :
  iter f F (e b 0) = some (if frL p l 0 = true then fin (foI g l 0 b) else r) := by
 refine iter_from l (fun b k => e b (k : Int)) (fun b k x => if p k x = true then .inl (g b k x) else .inr r) fin I (fun l k b => if frL p l k = true then fin (foI g l k b) else r) (fun _ _ => rfl) (fun x xs k b => ?_) hn (fun b k h hb => ⟨?_, fun b' h' => ?_⟩) hF b hb
 ·rw [frL]; cases p k x <;> simp [foI]
 ·rw [(hk b k h hb).1]; cases p k l[k] <;> rfl
 ·have h1 := (hk b k h hb).2
  split at h'
  ·cases h'; exact h1
  ·cases h'
theorem iter_chkU {f : Int → Option (Int ⊕ ρ)} (l : List α) (p : Nat → α → Bool) (a r : ρ) (hn : f (l.length : Int) = some (.inr a))
  (hk : ∀ k (h : k < l.length), f (k : Int) = some (if p k l[k] = true then .inl ((k : Int) + 1) else .inr r)) {F : Nat} (hF : l.length < F) :
  iter f F 0 = some (if frL p l 0 = true then a else r) := by
 have := iter_chk (f := f) (β := Unit) (fun _ k => k) l p (fun _ _ _ => ()) (fun _ => a) r (fun _ _ => True) (fun _ _ => hn) (fun _ k h _ => ⟨hk k h, trivial⟩) hF () trivial; exact this
theorem iter_eqL [DecidableEq α] {f : Int → Option (Int ⊕ ρ)} (l m : List α) (hl : l.length = m.length) (a b : ρ) (hn : f (l.length : Int) = some (.inr a))
  (hk : ∀ k (h : k < l.length) (h' : k < m.length), f (k : Int) = some (if decide (l[k] = m[k]) = true then .inl ((k : Int) + 1) else .inr b)) {F : Nat} (hF : l.length < F) :
  iter f F 0 = some (if decide (l = m) = true then a else b) := by
 rw [iter_chkU l (fun k x => decide (m[k]? = some x)) a b hn (fun k h => ?_) hF]
 ·congr 2
  refine propext ?_; rw [frL_iff, decide_eq_true_eq]; constructor
  ·intro h; refine List.ext_getElem hl fun j h1 h2 => ?_
   have := h j h1; rw [Nat.zero_add, decide_eq_true_eq, List.getElem?_eq_getElem h2] at this; exact (Option.some.inj this).symm
  ·rintro rfl j hj
   simp [hj]
 ·rw [hk k h (hl ▸ h), List.getElem?_eq_getElem (hl ▸ h)]
  congr 2
  refine propext ?_; simp only [decide_eq_true_eq, Option.some.injEq]; exact ⟨fun h => h.symm, fun h => h.symm⟩
end
structure FewT (t : KTx) : Prop where
 r : t.Reads.length ≤ 20
 w : t.Writes.length ≤ 20
structure FewC (l : List KCopy) : Prop where
 n : l.length ≤ 10
 g : ∀ c ∈ l, c.Log.length ≤ 30
 t : ∀ c ∈ l, ∀ t ∈ c.Log, FewT t
theorem isTime_p (F : Nat) (n : Int) : G_copies_isTime F n = some (decide (0 ≤ n) && decide (n ≤ 3000000000000000)) := by
 unfold G_copies_isTime; cases decide (0 ≤ n) <;> rfl
theorem size_p (F : Nat) (c : KCopy) : G_copies_size F c = some ((c.Log.length : Nat) : Int) := rfl
def fdI : Option Nat → Int
 | none => -1
 | some k => (k : Int)
theorem find_p (l : List KCopy) (id : Int) (hl : l.length ≤ 10) {F : Nat} (hF : 64 ≤ F) : G_copies_find F l id = some (fdI (fnd l id)) := by
 unfold G_copies_find; rw [iter_fdL l (fun c => c.ID == id) (.inl ()) (fun k => .inr (k : Int)) ?_ ?_ (by omega)]
 ·unfold fnd; cases List.findIdx? (fun c : KCopy => c.ID == id) l <;> rfl
 ·simp only [ltn, ifB_f]
 ·intro k h; simp only [ltl h, ifB_t, ixI_get h, ob_some, w64_1 h (by omega)]; cases l[k].ID == id <;> rfl
theorem wr1_p (F : Nat) (s : KSeen) : G_copies_wrong_1 F s = some (!seenB s) := by
 unfold G_copies_wrong_1 seenB; rw [isTime_p, dnot (p := s.Key > 1000) (q := s.Key ≤ 1000) (by omega)]; cases decide (s.Key ≤ 1000) <;> rfl
theorem wr2_p (F : Nat) (w : KWrite) : G_copies_wrong_2 F w = some (!writB w) := by
 unfold G_copies_wrong_2 writB; rw [dnot (p := w.Key > 1000) (q := w.Key ≤ 1000) (by omega), dnot (p := w.Value < 0) (q := 0 ≤ w.Value) (by omega), dnot (p := w.Value > 1000000) (q := w.Value ≤ 1000000) (by omega)]; cases decide (w.Key ≤ 1000) <;> cases decide (0 ≤ w.Value) <;> cases decide (w.Value ≤ 1000000) <;> cases w.Gone <;> rfl
theorem fd_neg {α : Type} (p : α → Bool) (l : List α) : decide (fdI (l.findIdx? (fun x => !p x)) ≥ 0) = !l.all p := by
 cases h : l.findIdx? (fun x => !p x) with
 | none =>
  rw [List.findIdx?_eq_none_iff] at h; have : l.all p = true := List.all_eq_true.2 fun x hx => by simpa using h x hx
  rw [this]; rfl
 | some k =>
  rw [List.findIdx?_eq_some_iff_getElem] at h; obtain ⟨hk, h1, _⟩ := h; have : l.all p = false := by
   rw [Bool.eq_false_iff]; intro h2; have := List.all_eq_true.1 h2 l[k] (List.getElem_mem hk); rw [this] at h1; simp at h1
  rw [this]; simp only [Bool.not_false, decide_eq_true_eq]
  show (0 : Int) ≤ (k : Int)
  omega
theorem wrong_p (t : KTx) {F : Nat} (hF : 64 ≤ F) : G_copies_wrong F t = some (!txS t) := by
  have hc : (ifB (decide (t.ID < 1)) (some true) (ifB (decide (t.ID > 1000000)) (some true) (ifB (decide (t.Ts < 1)) (some true) (Option.bind (G_copies_isTime F t.Ts) (fun v_5 => ifB (v_5) (ifB (decide (((t.Reads.length : Nat) : Int) > 8)) (some true) (some (decide (((t.Writes.length : Nat) : Int) > 8)))) (some true))))) : Option Bool) =
      some (!(decide (1 ≤ t.ID) && decide (t.ID ≤ 1000000) && decide (1 ≤ t.Ts) && decide (t.Ts ≤ 3000000000000000) && decide (t.Reads.length ≤ 8) && decide (t.Writes.length ≤ 8))) := by
    rw [isTime_p, dnot (p := t.ID < 1) (q := 1 ≤ t.ID) (by omega), dnot (p := t.ID > 1000000) (q := t.ID ≤ 1000000) (by omega), dnot (p := t.Ts < 1) (q := 1 ≤ t.Ts) (by omega), dnot (p := ((t.Reads.length : Nat) : Int) > 8) (q := t.Reads.length ≤ 8) (by omega), dnot (p := ((t.Writes.length : Nat) : Int) > 8) (q := t.Writes.length ≤ 8) (by omega)]
    by_cases h1 : 1 ≤ t.Ts
    · rw [decide_eq_true (p := 0 ≤ t.Ts) (by omega)]
      cases decide (1 ≤ t.ID) <;> cases decide (t.ID ≤ 1000000) <;> cases decide (1 ≤ t.Ts) <;> cases decide (t.Ts ≤ 3000000000000000) <;> cases decide (t.Reads.length ≤ 8) <;> rfl
    · rw [decide_eq_false h1]
      cases decide (1 ≤ t.ID) <;> cases decide (t.ID ≤ 1000000) <;> rfl
  unfold G_copies_wrong
  rw [hc, ob_some]
  unfold txS
  cases hB : (decide (1 ≤ t.ID) && decide (t.ID ≤ 1000000) && decide (1 ≤ t.Ts) && decide (t.Ts ≤ 3000000000000000) && decide (t.Reads.length ≤ 8) && decide (t.Writes.length ≤ 8)) with
  | false => rfl
  | true =>
    simp only [Bool.and_eq_true, decide_eq_true_eq] at hB
    obtain ⟨⟨_, hr⟩, hw⟩ := hB
    simp only [Bool.not_true, ifB_f, Bool.true_and]
    rw [iter_fdL t.Reads (fun x => !seenB x) (.inl ()) (fun k => .inr (k : Int)) ?a1 ?a2 (by omega), iter_fdL t.Writes (fun x => !writB x) (.inl ()) (fun k => .inr (k : Int)) ?b1 ?b2 (by omega),
      iter_rise (fun x i => (i, x)) t.Reads (·.Key) (.inl ()) (.inr ()) ?c1 ?c2 (by omega) 0, iter_rise (fun x i => (i, x)) t.Writes (·.Key) (.inl ()) (.inr ()) ?d1 ?d2 (by omega) 0]
    case a1 => simp only [ltn, ifB_f]
    case b1 => simp only [ltn, ifB_f]
    case c1 => intro x; simp only [un2, ltn, ifB_f]
    case d1 => intro x; simp only [un2, ltn, ifB_f]
    case a2 =>
      intro k h
      simp only [ltl h, ifB_t, ixI_get h, ob_some, w64_1 h (by omega), wr1_p]
      cases seenB t.Reads[k] <;> rfl
    case b2 =>
      intro k h
      simp only [ltl h, ifB_t, ixI_get h, ob_some, w64_1 h (by omega), wr2_p]
      cases writB t.Writes[k] <;> rfl
    case c2 =>
      intro x k h
      simp only [un2, ltl h, ifB_t, ixI_get h, ob_some, w64_1 h (by omega), G_copies_wrong_3]
      rw [dnot (p := t.Reads[k].Key ≤ x) (q := x < t.Reads[k].Key) (by omega)]
      by_cases hx : x < t.Reads[k].Key <;> simp [hx, ifB]
    case d2 =>
      intro x k h
      simp only [un2, ltl h, ifB_t, ixI_get h, ob_some, w64_1 h (by omega), G_copies_wrong_4]
      rw [dnot (p := t.Writes[k].Key ≤ x) (q := x < t.Writes[k].Key) (by omega)]
      by_cases hx : x < t.Writes[k].Key <;> simp [hx, ifB]
    have e1 := fd_neg seenB t.Reads
    have e2 := fd_neg writB t.Writes
    cases h1 : List.findIdx? (fun x => !seenB x) t.Reads with
    | some k =>
      rw [h1] at e1
      have : t.Reads.all seenB = false := by rw [← Bool.not_inj_iff, ← e1]; simp [fdI]
      rw [this]
      simp [ifB, ob_some]
    | none =>
      rw [h1] at e1
      have : t.Reads.all seenB = true := by rw [← Bool.not_inj_iff, ← e1]; simp [fdI]
      rw [this]
      cases h2 : List.findIdx? (fun x => !writB x) t.Writes with
      | some k =>
        rw [h2] at e2
        have : t.Writes.all writB = false := by rw [← Bool.not_inj_iff, ← e2]; simp [fdI]
        rw [this]
        simp [ifB, ob_some]
      | none =>
        rw [h2] at e2
        have : t.Writes.all writB = true := by rw [← Bool.not_inj_iff, ← e2]; simp [fdI]
        rw [this]
        cases risF 0 (t.Reads.map (·.Key)) <;> cases risF 0 (t.Writes.map (·.Key)) <;> simp [ifB, ob_some]
theorem leq (n m : Nat) : (((n : Nat) : Int) == ((m : Nat) : Int)) = decide (n = m) := by rw [Bool.eq_iff_iff]; simp; omega
theorem iff_bool {a b : Bool} (h : a = true ↔ b = true) : a = b := Bool.eq_iff_iff.2 h
theorem eqS_p (a b : List KSeen) (h : a.length ≤ 60) {F : Nat} (hF : 64 ≤ F) : G_slices_Equal_api_Seen_api_Seen F a b = some (decide (a = b)) := by
 unfold G_slices_Equal_api_Seen_api_Seen
 by_cases hl : a.length = b.length
 ·rw [leq, decide_eq_true hl, ifB_t, iter_eqL a b hl (.inl ()) (.inr ()) ?_ ?_ (by omega)]
  ·cases decide (a = b) <;> rfl
  ·simp only [ltn, ifB_f]
  ·intro k h1 h2; simp only [ltl h1, ifB_t, ixI_get h1, ixI_get h2, ob_some, w64_1 h1 (by omega)]; cases decide (a[k] = b[k]) <;> rfl
 ·rw [leq, decide_eq_false hl, ifB_f, decide_eq_false (fun e => hl (congrArg List.length e))]
theorem eqW_p (a b : List KWrite) (h : a.length ≤ 60) {F : Nat} (hF : 64 ≤ F) : G_slices_Equal_api_Write_api_Write F a b = some (decide (a = b)) := by
 unfold G_slices_Equal_api_Write_api_Write
 by_cases hl : a.length = b.length
 ·rw [leq, decide_eq_true hl, ifB_t, iter_eqL a b hl (.inl ()) (.inr ()) ?_ ?_ (by omega)]
  ·cases decide (a = b) <;> rfl
  ·simp only [ltn, ifB_f]
  ·intro k h1 h2; simp only [ltl h1, ifB_t, ixI_get h1, ixI_get h2, ob_some, w64_1 h1 (by omega)]; cases decide (a[k] = b[k]) <;> rfl
 ·rw [leq, decide_eq_false hl, ifB_f, decide_eq_false (fun e => hl (congrArg List.length e))]
theorem tx_ext (a b : KTx) : decide (a = b) = (decide (a.ID = b.ID) && (decide (a.Ts = b.Ts) && (decide (a.Reads = b.Reads) && decide (a.Writes = b.Writes)))) := by
 refine iff_bool ?_; simp only [Bool.and_eq_true, decide_eq_true_eq]; constructor
 ·rintro rfl; exact ⟨rfl, rfl, rfl, rfl⟩
 ·rintro ⟨h1, h2, h3, h4⟩; cases a; cases b; simp only at h1 h2 h3 h4; subst h1 h2 h3 h4; rfl
theorem beq_dec (a b : Int) : (a == b) = decide (a = b) := iff_bool (by simp)
theorem equal_p (a b : KTx) (h : FewT a) {F : Nat} (hF : 64 ≤ F) : G_copies_equal F a b = some (decide (a = b)) := by
 unfold G_copies_equal; rw [eqS_p _ _ (by have := h.r; omega) hF, eqW_p _ _ (by have := h.w; omega) hF, tx_ext, beq_dec, beq_dec]; cases decide (a.ID = b.ID) <;> cases decide (a.Ts = b.Ts) <;> cases decide (a.Reads = b.Reads) <;> rfl
theorem key_r (F : Nat) (n : Int) : G_regulatorref33_Key F n = some (decide (1 ≤ n) && decide (n ≤ 1000)) := by
 unfold G_regulatorref33_Key; show Option.bind (ifB (decide (1 ≤ n)) _ _) _ = _; cases decide (1 ≤ n) <;> rfl
theorem stamp_r (F : Nat) (n : Int) : G_regulatorref33_Stamp F n = some (decide (1 ≤ n) && decide (n ≤ 3000000000000000)) := by
 unfold G_regulatorref33_Stamp; show Option.bind (ifB (decide (1 ≤ n)) _ _) _ = _; cases decide (1 ≤ n) <;> rfl
theorem ver_r (F : Nat) (k v : Int) (g : Bool) : G_regulatorref33_Version F ⟨k, 1, v, g⟩ = some (decide (1 ≤ k) && (decide (k ≤ 1000) && decide (0 ≤ v) && decide (v ≤ 1000000) && (!g || v == 0))) := by
 unfold G_regulatorref33_Version; rw [key_r, stamp_r]
 show Option.bind (Option.bind _ _) _ = _
 simp only [ob_some]; rw [show decide (v ≥ 0) = decide (0 ≤ v) from rfl]; cases decide (1 ≤ k) <;> cases decide (k ≤ 1000) <;> cases decide (0 ≤ v) <;> cases decide (v ≤ 1000000) <;> cases g <;> rfl
theorem ris_ix {α : Type} (key : α → Int) (l : List α) : risF 0 (l.map key) = frL (fun k x => decide (1 ≤ key x) && (k == 0 || decide (((l.map key).getD (k - 1) 0) < key x))) l 0 := by
 refine iff_bool ?_; rw [risF_iff, frL_iff, List.pairwise_cons]; constructor
 ·rintro ⟨h1, h2⟩ j hj; simp only [Nat.zero_add, Bool.and_eq_true, Bool.or_eq_true, decide_eq_true_eq, beq_iff_eq]; have := h1 (key l[j]) (List.mem_map_of_mem (List.getElem_mem hj)); refine ⟨by omega, ?_⟩
  by_cases h0 : j = 0
  ·exact .inl h0
  ·refine .inr ?_; have h3 := List.pairwise_iff_getElem.1 h2 (j - 1) j (by simp; omega) (by simpa using hj) (by omega); rw [List.getD, List.getElem?_eq_getElem (by simp; omega), Option.getD_some]
   simpa using h3
 ·intro h; have hst : ∀ j (hj : j + 1 < (l.map key).length), (l.map key)[j]'(by omega) < (l.map key)[j + 1] := fun j hj => by
   have := h (j + 1) (by simpa using hj); simp only [Nat.zero_add, Bool.and_eq_true, Bool.or_eq_true, decide_eq_true_eq, beq_iff_eq] at this; have h3 := this.2.resolve_left (by omega); rw [Nat.add_sub_cancel, List.getD, List.getElem?_eq_getElem (by omega), Option.getD_some] at h3
   simpa using h3
  refine ⟨fun x hx => ?_, ?_⟩
  ·obtain ⟨y, hy, rfl⟩ := List.mem_map.1 hx; obtain ⟨j, hj, rfl⟩ := List.getElem_of_mem hy; have := h j hj; simp only [Nat.zero_add, Bool.and_eq_true, decide_eq_true_eq] at this; omega
  ·have key2 : ∀ (d i : Nat) (hj : i + d + 1 < (l.map key).length), (l.map key)[i]'(by omega) < (l.map key)[i + d + 1] := by
    intro d
    induction d with
    | zero => intro i hj; exact hst i hj
    | succ d ih =>
     intro i hj; have h1 := ih i (by omega); have h2 := hst (i + d + 1) (by omega); exact Int.lt_trans h1 h2
   rw [List.pairwise_iff_getElem]; intro i j hi hj hij; have := key2 (j - i - 1) i (by omega)
   simpa [show i + (j - i - 1) + 1 = j by omega] using this
theorem frL_and {α : Type} {p q : Nat → α → Bool} : ∀ {l : List α} {k : Nat}, frL (fun j x => p j x && q j x) l k = (frL p l k && frL q l k)
 | [], _ => rfl
 | x :: l, k => by
  rw [frL, frL, frL, frL_and]; cases p k x <;> cases q k x <;> cases frL p l (k + 1) <;> simp
theorem frL_all {α : Type} {p : α → Bool} : ∀ {l : List α} {k : Nat}, frL (fun _ x => p x) l k = l.all p
 | [], _ => rfl
 | x :: l, k => by rw [frL, List.all_cons, frL_all]
theorem getD_map {α : Type} (key : α → Int) {l : List α} {k : Nat} (h : k < l.length) : (l.map key).getD k 0 = key l[k] := by
 rw [List.getD, List.getElem?_eq_getElem (by simpa using h), Option.getD_some, List.getElem_map]
theorem reads_r (l : List KSeen) (hl : l.length ≤ 60) {F : Nat} (hF : 64 ≤ F) : G_regulatorref38_reads F l = some (l.all seenB && risF 0 (l.map (·.Key)) && decide (l.length ≤ 8)) := by
 unfold G_regulatorref38_reads; rw [iter_chkU l (fun k x => seenB x && (decide (1 ≤ x.Key) && (k == 0 || decide ((l.map (·.Key)).getD (k - 1) 0 < x.Key)))) (.inl ()) (.inr ()) ?_ ?_ (by omega)]
 ·rw [frL_and, frL_all, ← ris_ix (fun x : KSeen => x.Key) l, deq (p := ((l.length : Nat) : Int) ≤ 8) (q := l.length ≤ 8) (by omega)]; cases l.all seenB <;> cases risF 0 (l.map (·.Key)) <;> simp [ob_some]
 ·simp only [ltn, ifB_f]
 ·intro k h; simp only [ltl h, ifB_t, ixI_get h, ob_some, w64_1 h (by omega), key_r]; have hp : ∀ h0 : 0 < k, ixI l (IntKind.i64.wrap ((k : Int) - 1)) = some (l[k - 1]'(by omega)) := fun h0 => by rw [w64_p h0 (by omega)]; exact ixI_get (by omega)
  unfold seenB; rw [dnot (p := l[k].Ts < 0) (q := 0 ≤ l[k].Ts) (by omega), dnot (p := l[k].Ts > 3000000000000000) (q := l[k].Ts ≤ 3000000000000000) (by omega)]
  by_cases h0 : 0 < k
  ·rw [decide_eq_true (p := (k : Int) > 0) (by omega), ifB_t, hp h0, ob_some, getD_map (fun x : KSeen => x.Key) (by omega), dnot (p := l[k].Key ≤ l[k - 1].Key) (q := l[k - 1].Key < l[k].Key) (by omega), show (k == 0) = false by simpa using (by omega : k ≠ 0)]; cases decide (1 ≤ l[k].Key) <;> cases decide (l[k].Key ≤ 1000) <;> cases decide (0 ≤ l[k].Ts) <;> cases decide (l[k].Ts ≤ 3000000000000000) <;> cases decide (l[k - 1].Key < l[k].Key) <;> rfl
  ·rw [decide_eq_false (p := (k : Int) > 0) (by omega), ifB_f, show (k == 0) = true by simpa using (by omega : k = 0)]; cases decide (1 ≤ l[k].Key) <;> cases decide (l[k].Key ≤ 1000) <;> cases decide (0 ≤ l[k].Ts) <;> cases decide (l[k].Ts ≤ 3000000000000000) <;> rfl
theorem writes_r (l : List KWrite) (hl : l.length ≤ 60) {F : Nat} (hF : 64 ≤ F) : G_regulatorref38_writes F l = some (l.all writB && risF 0 (l.map (·.Key)) && decide (l.length ≤ 8)) := by
 unfold G_regulatorref38_writes; rw [iter_chkU l (fun k x => writB x && (decide (1 ≤ x.Key) && (k == 0 || decide ((l.map (·.Key)).getD (k - 1) 0 < x.Key)))) (.inl ()) (.inr ()) ?_ ?_ (by omega)]
 ·rw [frL_and, frL_all, ← ris_ix (fun x : KWrite => x.Key) l, deq (p := ((l.length : Nat) : Int) ≤ 8) (q := l.length ≤ 8) (by omega)]; cases l.all writB <;> cases risF 0 (l.map (·.Key)) <;> simp [ob_some]
 ·simp only [ltn, ifB_f]
 ·intro k h; simp only [ltl h, ifB_t, ixI_get h, ob_some, w64_1 h (by omega), ver_r]; have hp : ∀ h0 : 0 < k, ixI l (IntKind.i64.wrap ((k : Int) - 1)) = some (l[k - 1]'(by omega)) := fun h0 => by rw [w64_p h0 (by omega)]; exact ixI_get (by omega)
  unfold writB
  by_cases h0 : 0 < k
  ·rw [decide_eq_true (p := (k : Int) > 0) (by omega), ifB_t, hp h0, ob_some, getD_map (fun x : KWrite => x.Key) (by omega), dnot (p := l[k].Key ≤ l[k - 1].Key) (q := l[k - 1].Key < l[k].Key) (by omega), show (k == 0) = false by simpa using (by omega : k ≠ 0)]; cases decide (1 ≤ l[k].Key) <;> cases (decide (l[k].Key ≤ 1000) && decide (0 ≤ l[k].Value) && decide (l[k].Value ≤ 1000000) && (!l[k].Gone || l[k].Value == 0)) <;> cases decide (l[k - 1].Key < l[k].Key) <;> rfl
  ·rw [decide_eq_false (p := (k : Int) > 0) (by omega), ifB_f, show (k == 0) = true by simpa using (by omega : k = 0)]; cases decide (1 ≤ l[k].Key) <;> cases (decide (l[k].Key ≤ 1000) && decide (0 ≤ l[k].Value) && decide (l[k].Value ≤ 1000000) && (!l[k].Gone || l[k].Value == 0)) <;> rfl
theorem tx_r (t : KTx) (h : FewT t) {F : Nat} (hF : 64 ≤ F) : G_regulatorref38_Tx F t = some (txS t) := by
 unfold G_regulatorref38_Tx; rw [reads_r _ (by have := h.r; omega) hF, writes_r _ (by have := h.w; omega) hF]; simp only [ob_some]; rw [show decide (t.ID ≥ 1) = decide (1 ≤ t.ID) from rfl, show decide (t.Ts ≥ 1) = decide (1 ≤ t.Ts) from rfl]; unfold txS; cases decide (1 ≤ t.ID) <;> cases decide (t.ID ≤ 1000000) <;> cases decide (1 ≤ t.Ts) <;> cases decide (t.Ts ≤ 3000000000000000) <;> cases decide (t.Reads.length ≤ 8) <;> cases decide (t.Writes.length ≤ 8) <;> cases t.Reads.all seenB <;> cases t.Writes.all writB <;> cases risF 0 (t.Reads.map (·.Key)) <;> cases risF 0 (t.Writes.map (·.Key)) <;> rfl
theorem log_r (l : List KTx) (hl : l.length ≤ 60) (ht : ∀ t ∈ l, FewT t) {F : Nat} (hF : 64 ≤ F) : G_regulatorref38_Log F l = some (logS l) := by
 unfold G_regulatorref38_Log; rw [iter_chkU l (fun k x => txS x && (decide (1 ≤ x.Ts) && (k == 0 || decide ((l.map (·.Ts)).getD (k - 1) 0 < x.Ts)))) (.inl ()) (.inr ()) ?_ ?_ (by omega)]
 ·rw [frL_and, frL_all, ← ris_ix (fun x : KTx => x.Ts) l, decide_eq_true (p := ((l.length : Nat) : Int) ≤ 2000) (by omega)]; unfold logS; cases l.all txS <;> cases risF 0 (l.map (·.Ts)) <;> simp [ob_some]
 ·simp only [ltn, ifB_f]
 ·intro k h; simp only [ltl h, ifB_t, ixI_get h, ob_some, w64_1 h (by omega), tx_r _ (ht _ (List.getElem_mem h)) hF]; have hp : ∀ h0 : 0 < k, ixI l (IntKind.i64.wrap ((k : Int) - 1)) = some (l[k - 1]'(by omega)) := fun h0 => by rw [w64_p h0 (by omega)]; exact ixI_get (by omega)
  cases hx : txS l[k] with
  | false => rfl
  | true =>
   have h1 := ((txs_iff _).1 hx).ts.1; rw [decide_eq_true h1]
   by_cases h0 : 0 < k
   ·rw [decide_eq_true (p := (k : Int) > 0) (by omega), ifB_t, ifB_t, hp h0, ob_some, getD_map (fun x : KTx => x.Ts) (by omega), dnot (p := l[k].Ts ≤ l[k - 1].Ts) (q := l[k - 1].Ts < l[k].Ts) (by omega), show (k == 0) = false by simpa using (by omega : k ≠ 0)]; cases decide (l[k - 1].Ts < l[k].Ts) <;> rfl
   ·rw [decide_eq_false (p := (k : Int) > 0) (by omega), ifB_t, ifB_f, show (k == 0) = true by simpa using (by omega : k = 0)]; rfl
theorem sameTx_r (a b : KTx) (h : FewT a) {F : Nat} (hF : 64 ≤ F) : G_regulatorref38_SameTx F a b = some (decide (a = b)) := by
 unfold G_regulatorref38_SameTx; have hr := h.r; have hw := h.w; rw [tx_ext, leq, leq, beq_dec, beq_dec]
 by_cases h1 : a.ID = b.ID
 ·by_cases h2 : a.Ts = b.Ts
  ·by_cases h3 : a.Reads.length = b.Reads.length
   ·by_cases h4 : a.Writes.length = b.Writes.length
    ·rw [decide_eq_true h1, decide_eq_true h2, decide_eq_true h3, decide_eq_true h4]; simp only [ifB_t, ob_some, Bool.not_true, ifB_f, Bool.true_and]; rw [iter_eqL a.Reads b.Reads h3 (.inl ()) (.inr ()) ?a1 ?a2 (by omega), iter_eqL a.Writes b.Writes h4 (.inl ()) (.inr ()) ?b1 ?b2 (by omega)]
     case a1 => simp only [ltn, ifB_f]
     case b1 => simp only [ltn, ifB_f]
     case a2 =>
      intro k h1 h2; simp only [ltl h1, ifB_t, ixI_get h1, ixI_get h2, ob_some, w64_1 h1 (by omega)]; cases decide (a.Reads[k] = b.Reads[k]) <;> rfl
     case b2 =>
      intro k h1 h2; simp only [ltl h1, ifB_t, ixI_get h1, ixI_get h2, ob_some, w64_1 h1 (by omega)]; cases decide (a.Writes[k] = b.Writes[k]) <;> rfl
     cases decide (a.Reads = b.Reads) <;> cases decide (a.Writes = b.Writes) <;> rfl
    ·rw [decide_eq_true h1, decide_eq_true h2, decide_eq_true h3, decide_eq_false h4, decide_eq_false (p := a.Writes = b.Writes) (fun e => h4 (congrArg List.length e)), Bool.and_false]; rfl
   ·rw [decide_eq_true h1, decide_eq_true h2, decide_eq_false h3, decide_eq_false (p := a.Reads = b.Reads) (fun e => h3 (congrArg List.length e))]; rfl
  ·rw [decide_eq_true h1, decide_eq_false h2]; rfl
 ·rw [decide_eq_false h1]; rfl
theorem sameLog_r (a b : List KTx) (hl : a.length ≤ 60) (h : ∀ t ∈ a, FewT t) {F : Nat} (hF : 64 ≤ F) : G_regulatorref38_SameLog F a b = some (decide (a = b)) := by
 unfold G_regulatorref38_SameLog
 by_cases hl : a.length = b.length
 ·rw [leq, decide_eq_true hl, ifB_t, iter_eqL a b hl (.inl ()) (.inr ()) ?_ ?_ (by omega)]
  ·cases decide (a = b) <;> rfl
  ·simp only [ltn, ifB_f]
  ·intro k h1 h2; simp only [ltl h1, ifB_t, ixI_get h1, ixI_get h2, ob_some, w64_1 h1 (by omega), sameTx_r _ _ (h _ (List.getElem_mem h1)) hF]; cases decide (a[k] = b[k]) <;> rfl
 ·rw [leq, decide_eq_false hl, ifB_f, decide_eq_false (fun e => hl (congrArg List.length e))]
theorem same33_r (a b : List KVersion) {F : Nat} (hF : a.length < F) (hb : a.length ≤ 5000) : G_regulatorref33_Same F a b = some (decide (a = b)) := by
 unfold G_regulatorref33_Same
 by_cases hl : a.length = b.length
 ·rw [leq, decide_eq_true hl, ifB_t, iter_eqL a b hl (.inl ()) (.inr ()) ?_ ?_ hF]
  ·cases decide (a = b) <;> rfl
  ·simp only [ltn, ifB_f]
  ·intro k h1 h2; simp only [ltl h1, ifB_t, ixI_get h1, ixI_get h2, ob_some, w64_1 h1 (by omega)]; cases decide (a[k] = b[k]) <;> rfl
 ·rw [leq, decide_eq_false hl, ifB_f, decide_eq_false (fun e => hl (congrArg List.length e))]
end Go.Proofs.YtkchfmhgboiimaaGreat
namespace Go.Proofs.YtkchfmhgboiimaaGreat
theorem vcmp_p (F : Nat) (a b : KCopy) : ∃ v, G_copies_Valid_1 F a b = some v ∧ decide (v > 0) = decide (b.Log.length < a.Log.length) := by
 unfold G_copies_Valid_1 G_cmp_Compare_int G_cmp_isNaN_int; rw [size_p, size_p]; simp only [ob_some]; rw [show (!(((a.Log.length : Nat) : Int) == ((a.Log.length : Nat) : Int))) = false by simp, show (!(((b.Log.length : Nat) : Int) == ((b.Log.length : Nat) : Int))) = false by simp]; simp only [ifB_f]
 by_cases h1 : ((a.Log.length : Nat) : Int) < ((b.Log.length : Nat) : Int)
 ·rw [decide_eq_true h1, decide_eq_false (p := b.Log.length < a.Log.length) (by omega)]; exact ⟨-1, rfl, rfl⟩
 ·rw [decide_eq_false h1]
  by_cases h2 : ((a.Log.length : Nat) : Int) > ((b.Log.length : Nat) : Int)
  ·rw [decide_eq_true h2, decide_eq_true (p := b.Log.length < a.Log.length) (by omega)]; exact ⟨1, rfl, rfl⟩
  ·rw [decide_eq_false h2, decide_eq_false (p := b.Log.length < a.Log.length) (by omega)]; exact ⟨0, rfl, rfl⟩
def lgC (b c : KCopy) : KCopy := if b.Log.length < c.Log.length then c else b
theorem lgC_log : ∀ (l : List KCopy) (b : KCopy), (l.foldl lgC b).Log = l.foldl (fun m c => if m.length < c.Log.length then c.Log else m) b.Log
 | [], _ => rfl
 | c :: l, b => by
  rw [List.foldl_cons, List.foldl_cons, lgC_log]
  congr 1
  unfold lgC
  split <;> rfl
theorem lgC_lg {c : KCopy} {l : List KCopy} : (l.foldl lgC c).Log = lgS (c :: l) := by
 rw [lgC_log]; unfold lgS; rw [List.foldl_cons]
 congr 1
 split
 ·rfl
 ·next h => exact List.eq_nil_of_length_eq_zero (by simpa using h)
theorem fewLg {l : List KCopy} (h : FewC l) : (lgS l).length ≤ 30 ∧ ∀ t ∈ lgS l, FewT t := by
 by_cases h0 : l = []
 ·subst h0; exact ⟨Nat.zero_le _, fun _ h => absurd h List.not_mem_nil⟩
 ·obtain ⟨c, hc, e⟩ := lg_mem h0; rw [e]; exact ⟨h.g c hc, h.t c hc⟩
theorem not_seq (F : Nat) {l : List KCopy} (h : FewC l) (hF : 64 ≤ F) (c : KCopy) (hc : c ∈ l) : (Option.bind (G_copies_size F c) (fun v_677 =>
                                  Option.bind (slI (lgS l) 0 v_677) (fun v_678 =>
                                  Option.bind (ifB ((((c.Log.length : Nat) : Int) == ((v_678.length : Nat) : Int)))
                                      (Option.bind (Option.bind (iter (σ := Int) (ρ := Unit ⊕ Unit) (fun (v_703 : Int) => 
                                            (ifB (decide (v_703 < ((c.Log.length : Nat) : Int)))
                                              (Option.bind (ixI c.Log v_703) (fun v_706 =>
                                              Option.bind (ixI v_678 v_703) (fun v_710 =>
                                              Option.bind (G_copies_equal F v_706 v_710) (fun v_714 =>
                                              ifB (v_714)
                                                (some (.inl (IntKind.i64.wrap (v_703 + 1))))
                                                (some (.inr (.inr ())))))))
                                              (some (.inr (.inl ()))) : Option (Int ⊕ (Unit ⊕ Unit)))) F 0) (Sum.elim (fun (_ : Unit) => 
                                          some (.inl ())) (fun (_ : Unit) => 
                                          some (.inr ()))) : Option (Unit ⊕ Unit)) (Sum.elim (fun (_ : Unit) => 
                                        some true) (fun (_ : Unit) => 
                                        some false)))
                                      (some false) : Option (Bool)) (fun (v_717 : Bool) => 
                                    some (!v_717)))) : Option (Bool)) = some (!decide (c.Log = (lgS l).take c.Log.length)) := by
  have hle := lg_ge hc
  have hg := h.g c hc
  rw [size_p, ob_some, show (0 : Int) = ((0 : Nat) : Int) from rfl, slI_ok (Nat.zero_le _) hle, ob_some, List.drop_zero]
  have hlen : c.Log.length = ((lgS l).take c.Log.length).length := by rw [List.length_take]; omega
  rw [leq, decide_eq_true hlen, ifB_t, show ((0 : Nat) : Int) = 0 from rfl, iter_eqL c.Log ((lgS l).take c.Log.length) hlen (.inl ()) (.inr ()) ?_ ?_ (by omega)]
  · cases decide (c.Log = (lgS l).take c.Log.length) <;> rfl
  · simp only [ltn, ifB_f]
  · intro k h1 h2
    simp only [ltl h1, ifB_t, ixI_get h1, ixI_get h2, ob_some, w64_1 h1 (by omega), equal_p _ _ (h.t c hc _ (List.getElem_mem h1)) hF]
    cases decide (c.Log[k] = ((lgS l).take c.Log.length)[k]) <;> rfl
theorem ids_last {l : List KCopy} (h0 : 0 < l.length) (h : risF 0 (l.map (·.ID)) = true) : l.all (fun c => decide (c.ID ≤ 64)) = decide (l[l.length - 1].ID ≤ 64) := by
 refine iff_bool ?_; rw [List.all_eq_true, decide_eq_true_eq]; constructor
 ·intro h; simpa using h l[l.length - 1] (List.getElem_mem _)
 ·intro h1 c hc; obtain ⟨j, hj, rfl⟩ := List.getElem_of_mem hc; rw [risF_iff, List.pairwise_cons] at h; rw [decide_eq_true_eq]; rcases Nat.lt_or_ge j (l.length - 1) with h2 | h2
  ·have := List.pairwise_iff_getElem.1 h.2 j (l.length - 1) (by simpa using hj) (by simp; omega) h2; simp only [List.getElem_map] at this; omega
  ·obtain rfl : j = l.length - 1 := by omega
   exact h1
set_option maxHeartbeats 1000000 in
theorem valid_p (l : List KCopy) (h : FewC l) {F : Nat} (hF : 64 ≤ F) : G_copies_Valid F l = some (validS l) := by
  have hn := h.n
  obtain ⟨hlg, hlt⟩ := fewLg h
  unfold G_copies_Valid
  rw [iter_rise (fun x i => (i, x)) l (·.ID) (.inl ()) (.inr ()) ?a1 ?a2 (by omega) 0]
  case a1 => intro x; simp only [un2, ltn, ifB_f]
  case a2 =>
    intro x k h
    simp only [un2, ltl h, ifB_t, ixI_get h, ob_some, w64_1 h (by omega), G_copies_id]
    rw [dnot (p := l[k].ID ≤ x) (q := x < l[k].ID) (by omega)]
    by_cases hx : x < l[k].ID <;> simp [hx, ifB]
  by_cases h0 : l.length = 0
  · have : l = [] := List.eq_nil_of_length_eq_zero h0
    subst this
    rfl
  have h1 : 0 < l.length := by omega
  rw [beq_dec, decide_eq_false (p := ((l.length : Nat) : Int) = 0) (by omega), ifB_f]
  by_cases h7 : l.length ≤ 7
  case neg =>
    rw [decide_eq_true (p := ((l.length : Nat) : Int) > 7) (by omega)]
    unfold validS
    rw [decide_eq_false h7, Bool.and_false]; rfl
  rw [decide_eq_false (p := ((l.length : Nat) : Int) > 7) (by omega), ifB_f]
  cases hr : risF 0 (l.map (·.ID)) with
  | false =>
    unfold validS
    rw [hr, Bool.and_false]; rfl
  | true =>
  have hlast : ixI l (IntKind.i64.wrap (((l.length : Nat) : Int) - 1)) = some l[l.length - 1] := by rw [w64_p h1 (by omega)]; exact ixI_get (by omega)
  simp only [if_true, ob_some, Sum.elim_inl, ifB_t, hlast]
  unfold validS
  rw [hr, ids_last h1 hr, dnot (p := l[l.length - 1].ID > 64) (q := l[l.length - 1].ID ≤ 64) (by omega)]
  cases hl64 : decide (l[l.length - 1].ID ≤ 64) with
  | false => simp [ifB]
  | true =>
  rw [decide_eq_false (p := ((l.length : Nat) : Int) < 1) (by omega)]
  have e0 : ixI l 0 = some l[0] := ixI_get (k := 0) h1
  simp only [Bool.not_true, ifB_f, e0, ob_some]
  obtain ⟨c, l', rfl⟩ : ∃ c l', l = c :: l' := by
    cases l with
    | nil => simp at h1
    | cons c l' => exact ⟨c, l', rfl⟩
  have hf := iter_fold (ρ := Int × List KTx) (f := (un3 fun (v_141 : Int) (v_142 : (List KTx)) (v_145 : Int) => 
                (ifB (decide (v_145 < (((c :: l').length : Nat) : Int)))
                  (Option.bind (Option.bind (ixI (c :: l') v_145) (fun v_148 =>
                    Option.bind (G_copies_Valid_1 F v_148 (⟨v_141, v_142⟩ : KCopy)) (fun v_151 =>
                    ifB (decide (v_151 > 0))
                      (Option.bind (ixI (c :: l') v_145) (fun v_153 =>
                      some (v_153.ID, v_153.Log)))
                      (some (v_141, v_142)))) : Option ((Int × (List KTx)))) (un2 fun (v_157 : Int) (v_158 : (List KTx)) => 
                    some (.inl (v_157, v_158, IntKind.i64.wrap (v_145 + 1)))))
                  (some (.inr (v_141, v_142))) : Option ((Int × (List KTx) × Int) ⊕ (Int × (List KTx)))))) (fun (b : KCopy) i => (b.ID, b.Log, i + 1)) l' lgC (fun b => (b.ID, b.Log)) (fun _ _ => True) ?b1 ?b2 (F := F) (by simp at hn; omega) c trivial
  case b1 =>
    intro b _
    simp only [un3]
    rw [show ((l'.length : Nat) : Int) + 1 = (((c :: l').length : Nat) : Int) by simp, ltn]
    rfl
  case b2 =>
    intro b k hk _
    refine ⟨?_, trivial⟩
    have hk1 : k + 1 < (c :: l').length := by simpa using hk
    simp only [un3]
    rw [show ((k : Nat) : Int) + 1 = ((k + 1 : Nat) : Int) by omega, ltl hk1, ifB_t, ixI_get hk1, ob_some]
    obtain ⟨v, hv1, hv2⟩ := vcmp_p F (c :: l')[k + 1] ⟨b.ID, b.Log⟩
    rw [hv1, ob_some, hv2, ob_some, w64_1 hk1 (by omega), List.getElem_cons_succ]
    unfold lgC
    by_cases hb : b.Log.length < l'[k].Log.length
    · rw [decide_eq_true hb, if_pos hb]; rfl
    · rw [decide_eq_false hb, if_neg hb]; rfl
  simp only [List.getElem_cons_zero] at hf ⊢
  rw [show ((0 : Int) + 1) = 1 from rfl] at hf
  rw [hf]
  simp only [ob_some, un2]
  rw [lgC_lg]
  obtain ⟨L, hL⟩ : ∃ L, lgS (c :: l') = L := ⟨_, rfl⟩
  rw [decide_eq_true (p := (((lgS (c :: l')).length : Nat) : Int) ≤ 2000) (by omega), ifB_t,
    iter_fdL (lgS (c :: l')) (fun x => !txS x) (.inl ()) (fun k => .inr (k : Int)) ?c1 ?c2 (by omega),
    iter_rise (fun x i => (i, x)) (lgS (c :: l')) (·.Ts) (.inl ()) (.inr ()) ?d1 ?d2 (by omega) 0,
    iter_fdL (c :: l') (fun x => !decide (x.Log = (lgS (c :: l')).take x.Log.length)) (.inl ()) (fun k => .inr (k : Int)) ?g1 ?g2 (by omega)]
  case c1 => simp only [ltn, ifB_f]
  case c2 =>
    intro k h
    simp only [ltl h, ifB_t, ixI_get h, ob_some, w64_1 h (by omega), wrong_p _ hF]
    cases txS (lgS (c :: l'))[k] <;> rfl
  case d1 => intro x; simp only [un2, ltn, ifB_f]
  case d2 =>
    intro x k h
    simp only [un2, ltl h, ifB_t, ixI_get h, ob_some, w64_1 h (by omega), G_copies_Valid_3]
    rw [dnot (p := (lgS (c :: l'))[k].Ts ≤ x) (q := x < (lgS (c :: l'))[k].Ts) (by omega)]
    by_cases hx : x < (lgS (c :: l'))[k].Ts <;> simp [hx, ifB]
  case g1 => simp only [ltn, ifB_f]
  case g2 =>
    intro k hk
    simp only [ltl hk, ifB_t, ixI_get hk]
    rw [ob_some, not_seq F h hF _ (List.getElem_mem hk), ob_some, w64_1 hk (by omega)]
    cases decide ((c :: l')[k].Log = (lgS (c :: l')).take (c :: l')[k].Log.length) <;> rfl
  have e1 := fd_neg txS (lgS (c :: l'))
  have e2 := fd_neg (fun x : KCopy => decide (x.Log = (lgS (c :: l')).take x.Log.length)) (c :: l')
  rw [decide_eq_true (p := 1 ≤ (c :: l').length) h1, decide_eq_true h7, decide_eq_true (p := (lgS (c :: l')).length ≤ 2000) (by omega)]
  unfold logS
  simp only [Bool.true_and, Bool.and_true]
  cases h1 : List.findIdx? (fun x => !txS x) (lgS (c :: l')) with
  | some k =>
    rw [h1] at e1
    have : (lgS (c :: l')).all txS = false := by rw [← Bool.not_inj_iff, ← e1]; simp [fdI]
    rw [this]
    simp [ifB, ob_some]
  | none =>
    rw [h1] at e1
    have : (lgS (c :: l')).all txS = true := by rw [← Bool.not_inj_iff, ← e1]; simp [fdI]
    rw [this]
    cases h2 : List.findIdx? (fun x : KCopy => !decide (x.Log = (lgS (c :: l')).take x.Log.length)) (c :: l') with
    | some k =>
      rw [h2] at e2
      have : (c :: l').all (fun x : KCopy => decide (x.Log = (lgS (c :: l')).take x.Log.length)) = false := by rw [← Bool.not_inj_iff, ← e2]; simp [fdI]
      rw [this]
      cases risF 0 ((lgS (c :: l')).map (·.Ts)) <;> simp [ifB, ob_some]
    | none =>
      rw [h2] at e2
      have : (c :: l').all (fun x : KCopy => decide (x.Log = (lgS (c :: l')).take x.Log.length)) = true := by rw [← Bool.not_inj_iff, ← e2]; simp [fdI]
      rw [this]
      cases risF 0 ((lgS (c :: l')).map (·.Ts)) <;> simp [ifB, ob_some]
end Go.Proofs.YtkchfmhgboiimaaGreat
namespace Go.Proofs.YtkchfmhgboiimaaGreat
theorem lg_snoc (l : List KCopy) (c : KCopy) : lgS (l ++ [c]) = if (lgS l).length < c.Log.length then c.Log else lgS l := by
 unfold lgS; rw [List.foldl_append]; rfl
theorem lg_one (c : KCopy) : lgS [c] = c.Log := by
 show (if (0 : Nat) < c.Log.length then c.Log else []) = c.Log
 split
 ·rfl
 ·next h => exact (List.eq_nil_of_length_eq_zero (by omega)).symm
def lenAt (l : List KCopy) (b : Nat) : Nat := (l[b]?.map fun c => c.Log.length).getD 0
theorem lenAt_get {l : List KCopy} {b : Nat} (h : b < l.length) : lenAt l b = l[b].Log.length := by unfold lenAt; rw [List.getElem?_eq_getElem h]; rfl
def lgX (l : List KCopy) : Nat := foI (fun b k (x : KCopy) => if lenAt l b < x.Log.length then k else b) l 0 0
theorem lgX_spec {l : List KCopy} (h0 : 0 < l.length) : ∃ h : lgX l < l.length, l[lgX l].Log = lgS l := by
 have := foI_inv (h := fun b k (x : KCopy) => if lenAt l b < x.Log.length then k else b) (fun k b => (k = 0 ∧ b = 0) ∨ (∃ h : b < l.length, b < k ∧ l[b].Log = lgS (l.take k))) (l := l) (k := 0) (b := 0) (.inl ⟨rfl, rfl⟩) fun j hj b hb => by
  refine .inr ?_; rw [Nat.zero_add] at hb ⊢; have hs : lgS (l.take (j + 1)) = if (lgS (l.take j)).length < l[j].Log.length then l[j].Log else lgS (l.take j) := by
   rw [List.take_succ_eq_append_getElem hj, lg_snoc]
  rcases hb with ⟨rfl, rfl⟩ | ⟨hb, hlt, e⟩
  ·rw [lenAt_get h0, if_neg (Nat.lt_irrefl _)]; refine ⟨h0, by omega, ?_⟩; rw [List.take_succ_eq_append_getElem h0, List.take_zero, List.nil_append, lg_one]
  ·rw [lenAt_get hb, hs, e]
   split
   ·exact ⟨hj, by omega, rfl⟩
   ·exact ⟨hb, by omega, e⟩
 rw [Nat.zero_add] at this; rcases this with ⟨h, _⟩ | ⟨h, _, e⟩
 ·omega
 ·rw [List.take_length] at e; exact ⟨h, e⟩
theorem fewMem {l : List KCopy} (h : FewC l) {c : KCopy} (hc : c ∈ l) : c.Log.length ≤ 60 ∧ ∀ t ∈ c.Log, FewT t := ⟨by have := h.g c hc; omega, h.t c hc⟩
set_option maxHeartbeats 1000000 in
theorem valid_r (l : List KCopy) (h : FewC l) {F : Nat} (hF : 64 ≤ F) : G_regulatorref38_Valid F l = some (validS l) := by
  have hn := h.n
  unfold G_regulatorref38_Valid
  rw [dnot (p := ((l.length : Nat) : Int) < 1) (q := 1 ≤ l.length) (by omega), dnot (p := ((l.length : Nat) : Int) > 7) (q := l.length ≤ 7) (by omega)]
  rw [valid_ref]
  by_cases h1 : 1 ≤ l.length
  case neg => rw [decide_eq_false h1]; rfl
  by_cases h7 : l.length ≤ 7
  case neg => rw [decide_eq_true h1, decide_eq_false h7]; rfl
  rw [decide_eq_true h1, decide_eq_true h7]
  simp only [Bool.not_true, ifB_f, ob_some, Bool.true_and]
  have e1 := iter_chk (ρ := Int ⊕ Unit) (f := (un2 fun (v_99 : Int) (v_100 : Int) => 
            (ifB (decide (v_100 < ((l.length : Nat) : Int)))
              (Option.bind (Option.bind (ixI l v_100) (fun v_103 =>
                Option.bind (G_regulatorref38_Log F v_103.Log) (fun v_106 =>
                Option.bind (ifB (v_106)
                    (Option.bind (ixI l v_100) (fun v_108 =>
                    ifB (decide (v_108.ID < 1))
                      (some true)
                      (Option.bind (ixI l v_100) (fun v_112 =>
                      ifB (decide (v_112.ID > 64))
                        (some true)
                        (ifB (decide (v_100 > 0))
                          (Option.bind (ixI l v_100) (fun v_117 =>
                          Option.bind (ixI l (IntKind.i64.wrap (v_100 - 1))) (fun v_120 =>
                          some (decide (v_117.ID ≤ v_120.ID)))))
                          (some false))))))
                    (some true) : Option (Bool)) (fun (v_124 : Bool) => 
                  ifB (v_124)
                    (some (.inr ()))
                    (Option.bind (ixI l v_100) (fun v_126 =>
                    Option.bind (ixI l v_99) (fun v_129 =>
                    ifB (decide (((v_126.Log.length : Nat) : Int) > ((v_129.Log.length : Nat) : Int)))
                      (some (.inl v_100))
                      (some (.inl v_99)))))))) : Option (Int ⊕ Unit)) (Sum.elim (fun (v_134 : Int) => 
                some (.inl (v_134, IntKind.i64.wrap (v_100 + 1)))) (fun (_ : Unit) => 
                some (.inr (.inr ())))))
              (some (.inr (.inl v_99))) : Option ((Int × Int) ⊕ (Int ⊕ Unit))))) (fun (b : Nat) i => ((b : Int), i)) l
      (fun k x => (logS x.Log && decide (x.ID ≤ 64)) && (decide (1 ≤ x.ID) && (k == 0 || decide ((l.map (·.ID)).getD (k - 1) 0 < x.ID)))) (fun b k x => if lenAt l b < x.Log.length then k else b) (fun b => .inl (b : Int)) (.inr ()) (fun _ b => b < l.length) ?a1 ?a2 (F := F) (by omega) 0 (by omega)
  case a1 => intro b _; simp only [un2, ltn, ifB_f]
  case a2 =>
    intro b k hk hb
    have hm := List.getElem_mem hk
    simp only [un2, ltl hk, ifB_t, ixI_get hk, ixI_get hb, ob_some, w64_1 hk (by omega), log_r _ (fewMem h hm).1 (fewMem h hm).2 hF]
    have hp : ∀ h0 : 0 < k, ixI l (IntKind.i64.wrap ((k : Int) - 1)) = some (l[k - 1]'(by omega)) := fun h0 => by rw [w64_p h0 (by omega)]; exact ixI_get (by omega)
    refine ⟨?_, by split <;> omega⟩
    rw [dnot (p := l[k].ID < 1) (q := 1 ≤ l[k].ID) (by omega), dnot (p := l[k].ID > 64) (q := l[k].ID ≤ 64) (by omega), deq (p := ((l[k].Log.length : Nat) : Int) > ((l[b].Log.length : Nat) : Int)) (q := l[b].Log.length < l[k].Log.length) (by omega), lenAt_get hb]
    have hs : ∀ c : Bool, (if c = true then (.inl (((if l[b].Log.length < l[k].Log.length then k else b : Nat) : Int), (k : Int) + 1) : (Int × Int) ⊕ (Int ⊕ Unit)) else .inr (.inr ())) = if c = true then (if l[b].Log.length < l[k].Log.length then .inl ((k : Int), (k : Int) + 1) else .inl ((b : Int), (k : Int) + 1)) else .inr (.inr ()) := fun c => by
      cases c
      · rfl
      · by_cases hg : l[b].Log.length < l[k].Log.length
        · rw [if_pos rfl, if_pos rfl, if_pos hg, if_pos hg]
        · rw [if_pos rfl, if_pos rfl, if_neg hg, if_neg hg]
    rw [hs]
    by_cases h0 : 0 < k
    · rw [decide_eq_true (p := (k : Int) > 0) (by omega), ifB_t, hp h0, ob_some, getD_map (fun x : KCopy => x.ID) (by omega), dnot (p := l[k].ID ≤ l[k - 1].ID) (q := l[k - 1].ID < l[k].ID) (by omega), show (k == 0) = false by simpa using (by omega : k ≠ 0)]
      by_cases hg : l[b].Log.length < l[k].Log.length
      · rw [decide_eq_true hg, if_pos hg]
        cases logS l[k].Log <;> cases decide (1 ≤ l[k].ID) <;> cases decide (l[k].ID ≤ 64) <;> cases decide (l[k - 1].ID < l[k].ID) <;> rfl
      · rw [decide_eq_false hg, if_neg hg]
        cases logS l[k].Log <;> cases decide (1 ≤ l[k].ID) <;> cases decide (l[k].ID ≤ 64) <;> cases decide (l[k - 1].ID < l[k].ID) <;> rfl
    · rw [decide_eq_false (p := (k : Int) > 0) (by omega), ifB_f, show (k == 0) = true by simpa using (by omega : k = 0)]
      by_cases hg : l[b].Log.length < l[k].Log.length
      · rw [decide_eq_true hg, if_pos hg]
        cases logS l[k].Log <;> cases decide (1 ≤ l[k].ID) <;> cases decide (l[k].ID ≤ 64) <;> rfl
      · rw [decide_eq_false hg, if_neg hg]
        cases logS l[k].Log <;> cases decide (1 ≤ l[k].ID) <;> cases decide (l[k].ID ≤ 64) <;> rfl
  rw [show (((0 : Nat) : Int)) = 0 from rfl] at e1
  rw [e1, frL_and, frL_all, ← ris_ix (fun x : KCopy => x.ID) l]
  have hq : l.all (fun c => logS c.Log && decide (c.Log.length ≤ 2000) && decide (c.ID ≤ 64)) = l.all (fun c => logS c.Log && decide (c.ID ≤ 64)) := by
    refine iff_bool ?_
    rw [List.all_eq_true, List.all_eq_true]
    constructor
    · intro h x hx; have := h x hx; simp only [Bool.and_eq_true] at this ⊢; exact ⟨this.1.1, this.2⟩
    · intro h' x hx; have := h' x hx; have h3 := h.g x hx; simp only [Bool.and_eq_true, decide_eq_true_eq] at this ⊢; exact ⟨⟨this.1, by omega⟩, this.2⟩
  rw [hq]
  cases l.all (fun c => logS c.Log && decide (c.ID ≤ 64)) with
  | false => simp
  | true =>
  cases risF 0 (l.map (·.ID)) with
  | false => simp
  | true =>
  obtain ⟨hx, hxl⟩ := lgX_spec (l := l) (by omega)
  simp only [Bool.and_self, if_true, ob_some, Sum.elim_inl, Bool.true_and]
  rw [show foI (fun b k (x : KCopy) => if lenAt l b < x.Log.length then k else b) l 0 0 = lgX l from rfl]
  rw [iter_allL l (fun c => decide (c.Log = (lgS l).take c.Log.length)) (.inl ()) (.inr ()) ?b1 ?b2 (by omega)]
  case b1 => simp only [ltn, ifB_f]
  case b2 =>
    intro k hk
    have hm := List.getElem_mem hk
    have hle := lg_ge hm
    simp only [ltl hk, ifB_t, ixI_get hk, ixI_get hx, ob_some, w64_1 hk (by omega), hxl]
    rw [show (0 : Int) = ((0 : Nat) : Int) from rfl, slI_ok (Nat.zero_le _) hle, ob_some, List.drop_zero, sameLog_r _ _ (fewMem h hm).1 (fewMem h hm).2 hF, ob_some]
    cases decide (l[k].Log = (lgS l).take l[k].Log.length) <;> rfl
  cases l.all (fun c => decide (c.Log = (lgS l).take c.Log.length)) <;> rfl
def fewTB (t : KTx) : Bool := decide (t.Reads.length ≤ 20) && decide (t.Writes.length ≤ 20)
def fewCB (c : KCopy) : Bool := decide (c.Log.length ≤ 30) && c.Log.all fewTB
def fewS (l : List KCopy) : Bool := decide (l.length ≤ 10) && l.all fewCB
theorem few_iff {l : List KCopy} : fewS l = true ↔ FewC l := by
 unfold fewS fewCB fewTB; simp only [Bool.and_eq_true, decide_eq_true_eq, List.all_eq_true]; exact ⟨fun h => ⟨h.1, fun c hc => (h.2 c hc).1, fun c hc t ht => ⟨((h.2 c hc).2 t ht).1, ((h.2 c hc).2 t ht).2⟩⟩, fun h => ⟨h.n, fun c hc => ⟨h.g c hc, fun t ht => ⟨(h.t c hc t ht).r, (h.t c hc t ht).w⟩⟩⟩⟩
set_option maxHeartbeats 1000000 in
theorem few_r (l : List KCopy) {F : Nat} (hF : 64 ≤ F) : G_regulatorref38_Few F l = some (fewS l) := by
 unfold G_regulatorref38_Few; rw [iter_allL (l.take 20) fewCB (.inl ()) (.inr ()) ?a1 ?a2 (by rw [List.length_take]; omega)]
 case a1 =>
  rw [List.length_take]
  by_cases h : l.length ≤ 20
  ·rw [Nat.min_eq_right h, ltn]; rfl
  ·rw [Nat.min_eq_left (by omega), ltl (by omega)]; rfl
 case a2 =>
  intro k hk; rw [List.length_take] at hk; have hk1 : k < l.length := by omega
  simp only [ltl hk1, ifB_t, ixI_get hk1, ob_some, w64_1 (k := k) (n := 20) (by omega) (by omega), List.getElem_take]; rw [decide_eq_true (p := (k : Int) < 20) (by omega), dnot (p := ((l[k].Log.length : Nat) : Int) > 30) (q := l[k].Log.length ≤ 30) (by omega)]; simp only [ifB_t]; unfold fewCB
  by_cases h30 : l[k].Log.length ≤ 30
  ·rw [decide_eq_true h30, iter_allL l[k].Log fewTB (.inl ()) (.inr ()) ?b1 ?b2 (by omega)]
   case b1 => simp only [ltn, ifB_f]
   case b2 =>
    intro j hj; simp only [ltl hj, ifB_t, ixI_get hj, ob_some, w64_1 hj (by omega)]; unfold fewTB; rw [dnot (p := ((l[k].Log[j].Reads.length : Nat) : Int) > 20) (q := l[k].Log[j].Reads.length ≤ 20) (by omega), dnot (p := ((l[k].Log[j].Writes.length : Nat) : Int) > 20) (q := l[k].Log[j].Writes.length ≤ 20) (by omega)]; cases decide (l[k].Log[j].Reads.length ≤ 20) <;> cases decide (l[k].Log[j].Writes.length ≤ 20) <;> rfl
   cases l[k].Log.all fewTB <;> rfl
  ·rw [decide_eq_false h30]; rfl
 unfold fewS; rw [deq (p := ((l.length : Nat) : Int) ≤ 10) (q := l.length ≤ 10) (by omega)]
 by_cases h : l.length ≤ 10
 ·rw [List.take_of_length_le (by omega), decide_eq_true h]; cases l.all fewCB <;> rfl
 ·rw [decide_eq_false h]; cases (l.take 20).all fewCB <;> rfl
def shipS (l : List KCopy) (i k n : Int) : List KCopy × Int :=
 if validS l && decide (0 ≤ n) then (match fnd l i, fnd l k with | some i, some k => (shipL l i k n.toNat, 0) | _, _ => ([], 4)) else ([], 1)
theorem fdI_neg (o : Option Nat) : decide (fdI o < 0) = o.isNone := by
 cases o with
 | none => rfl
 | some k => exact decide_eq_false (by show ¬ (k : Int) < 0; omega)
theorem take_min {α : Type} (l : List α) {b : Nat} (hb : b ≤ l.length) (n : Nat) : l.take (b + min n (l.length - b)) = l.take (b + n) := by
 rw [List.take_eq_take_iff]; omega
theorem app_nil {α : Type} (B : Nat) {l : List α} (h : l.length * B ≤ 140737488355328) : apG B ([] : List α) l = some l := by
 rw [apG_ok (by simpa using h)]; rfl
theorem ship_p (l : List KCopy) (i k n : Int) (h : FewC l) (hn : n ≤ 9223372036854775807) {F : Nat} (hF : 64 ≤ F) : G_copies_Ship F l i k n = some (shipS l i k n) := by
 have hln := h.n; unfold G_copies_Ship shipS; rw [valid_p l h hF, ob_some]; cases hv : validS l with
 | false => rfl
 | true =>
 rw [dnot (p := n < 0) (q := 0 ≤ n) (by omega)]; simp only [ifB_t, ob_some, un4, Bool.true_and]
 by_cases h0 : 0 ≤ n
 case neg => rw [decide_eq_false h0]; rfl
 rw [decide_eq_true h0]; simp only [Bool.not_true, ifB_f, if_true, find_p _ _ hln hF, ob_some, fdI_neg]; cases hi : fnd l i with
 | none => cases fnd l k <;> rfl
 | some a =>
 cases hk : fnd l k with
 | none => rfl
 | some b =>
 obtain ⟨ha, _⟩ := fnd_some hi; obtain ⟨hb, _⟩ := fnd_some hk; have ga := h.g _ (List.getElem_mem ha); have gb := h.g _ (List.getElem_mem hb); simp only [Option.isNone_some, ifB_f, ob_some]; rw [app_nil 32 (by omega)]; simp only [ob_some, fdI, ixI_get ha, ixI_get hb, size_p]; rw [shipL_eq ha hb, deq (p := ((l[a].Log.length : Nat) : Int) > ((l[b].Log.length : Nat) : Int)) (q := l[b].Log.length < l[a].Log.length) (by omega)]
 by_cases hlt : l[b].Log.length < l[a].Log.length
 ·rw [decide_eq_true hlt, if_pos hlt, ifB_t]; have ew : IntKind.i64.wrap (((l[b].Log.length : Nat) : Int) + (min n (IntKind.i64.wrap (((l[a].Log.length : Nat) : Int) - ((l[b].Log.length : Nat) : Int))))) = ((l[b].Log.length + min n.toNat (l[a].Log.length - l[b].Log.length) : Nat) : Int) := by
   rw [w64_id (n := ((l[a].Log.length : Nat) : Int) - ((l[b].Log.length : Nat) : Int)) (by omega) (by omega), w64_id (by omega) (by omega)]; omega
  rw [ew, show (0 : Int) = ((0 : Nat) : Int) from rfl, slI_ok (Nat.zero_le _) (by omega), ob_some, List.drop_zero, take_min _ (by omega), app_nil 64 (by rw [List.length_take]; omega), ob_some]; unfold stI; rw [if_pos ⟨by omega, by omega⟩]; rfl
 ·rw [decide_eq_false hlt, if_neg hlt]; rfl
end Go.Proofs.YtkchfmhgboiimaaGreat
namespace Go.Proofs.YtkchfmhgboiimaaGreat
end Go.Proofs.YtkchfmhgboiimaaGreat
namespace Go.Proofs.YtkchfmhgboiimaaGreat
def lastT (log : List KTx) : Int := (log.map (·.Ts)).getD (log.length - 1) 0
def lateB (log : List KTx) (t : Int) : Bool := decide (log.length = 0) || decide (lastT log < t)
def readX (l : List KCopy) (id t : Int) : List KVersion × Int :=
 if validS l && stampB t then (match fnd l id with | none => ([], 4) | some k => (match l[k]? with | none => ([], 4) | some c => if lateB c.Log t then ([], 63) else kRes (readC c.Log t))) else ([], 1)
theorem readX_at {l : List KCopy} {id t : Int} {k : Nat} (hv : validS l = true) (ht : stampB t = true) (hf : fnd l id = some k) (hk : k < l.length) : readX l id t = if lateB l[k].Log t then ([], 63) else kRes (readC l[k].Log t) := by
 unfold readX; rw [hv, ht, hf]; simp only [Bool.and_self, if_true, List.getElem?_eq_getElem hk]
theorem late_p (log : List KTx) (t : Int) (hl : log.length ≤ 5000) : (ifB ((((log.length : Nat) : Int) == 0)) (some true) (Option.bind (ixI log (IntKind.i64.wrap (((log.length : Nat) : Int) - 1))) (fun v_16 => some (decide (v_16.Ts < t)))) : Option Bool) = some (lateB log t) := by
 unfold lateB; rw [beq_dec, deq (p := ((log.length : Nat) : Int) = 0) (q := log.length = 0) (by omega)]
 by_cases h0 : log.length = 0
 ·rw [decide_eq_true h0]; rfl
 ·rw [decide_eq_false h0, w64_p (by omega) (by omega), ifB_f, ixI_get (by omega), ob_some, Bool.false_or]; unfold lastT; rw [getD_map (fun x : KTx => x.Ts) (by omega)]
theorem log_few {l : List KCopy} (h : FewC l) (hv : validS l = true) {k : Nat} (hk : k < l.length) : l[k].Log.length ≤ 30 ∧ logS l[k].Log = true ∧ (vsOf l[k].Log).length ≤ 240 := by
 have hc := (cps_iff l).1 hv; have h1 := h.g _ (List.getElem_mem hk); have h2 := hc.logc (List.getElem_mem hk); have h3 := vs_len h2; exact ⟨h1, h2, by omega⟩
theorem rdG_ok {log : List KTx} (h1 : log.length ≤ 30) (h2 : logS log = true) (t : Int) : rdG log t = some (kRes (readC log t)) := by
 obtain ⟨m, _, p2, r2, _⟩ := readC_ok h2 (by omega) t; unfold rdG; have h3 := vs_len h2; rw [p2, if_pos]
 ·rw [r2]
 ·simp only [Bool.and_eq_true, decide_eq_true_eq, List.all_eq_true]; exact ⟨⟨⟨by omega, fun x hx => by have := (((logS_iff log).1 h2).1 x hx).few.2; omega⟩, by omega⟩, trivial⟩
theorem read_p (l : List KCopy) (id t : Int) (h : FewC l) {F : Nat} (hF : 64 ≤ F) : G_copies_Read F l id t = some (readX l id t) := by
 have hln := h.n; unfold G_copies_Read readX; rw [valid_p l h hF, ob_some, isTime_p]; cases hv : validS l with
 | false => rfl
 | true =>
 have hs : (ifB (decide (t < 1)) (some true) (Option.bind (some (decide (0 ≤ t) && decide (t ≤ 3000000000000000))) (fun v_6 => some (!v_6))) : Option Bool) = some (!stampB t) := by
  unfold stampB; rw [dnot (p := t < 1) (q := 1 ≤ t) (by omega)]
  by_cases h1 : 1 ≤ t
  ·rw [decide_eq_true h1, decide_eq_true (p := 0 ≤ t) (by omega)]; rfl
  ·rw [decide_eq_false h1]; rfl
 rw [ifB_t, hs, ob_some]; cases ht : stampB t with
 | false => rfl
 | true =>
 simp only [Bool.not_true, ifB_f, find_p _ _ hln hF, ob_some, fdI_neg, Bool.and_self, if_true]; cases hf : fnd l id with
 | none => rfl
 | some k =>
 obtain ⟨hk, _⟩ := fnd_some hf; obtain ⟨h1, h2, _⟩ := log_few h hv hk; simp only [Option.isNone_some, ifB_f, fdI, ixI_get hk, ob_some, List.getElem?_eq_getElem hk]; rw [late_p _ _ (by omega), ob_some]; cases lateB l[k].Log t with
 | true => rfl
 | false =>
  rw [ifB_f, rdG_ok h1 h2]; rfl
def vX (t : KTx) (w : KWrite) : Ver := ⟨w.Key, t.Ts, w.Value, w.Gone⟩
theorem putS_len (l : List Ver) (v : Ver) : (putS l v).1.length ≤ l.length + 1 := by
 unfold putS
 split
 ·exact Nat.zero_le _
 ·split
  ·exact Nat.zero_le _
  ·split
   ·exact Nat.zero_le _
   ·exact Nat.le_of_eq (putL_len l v)
theorem puts_len : ∀ {vs l m : List Ver}, putsS l vs = (m, 0) → m.length ≤ l.length + vs.length
 | [], l, m, h => by
  have h : (l, (0 : Int)) = (m, 0) := h
  injection h with h _
  subst h; simp
 | v :: vs, l, m, h => by
  have h' : (if (putS l v).2 = 0 then putsS (putS l v).1 vs else ([], (putS l v).2)) = (m, 0) := h
  by_cases hc : (putS l v).2 = 0
  ·rw [if_pos hc] at h'; have h1 := puts_len h'; have h2 : (putS l v).1.length ≤ l.length + 1 := putS_len l v; rw [List.length_cons]; omega
  ·rw [if_neg hc] at h'
   injection h' with _ h2
   exact absurd h2 hc
theorem heads_le : ∀ (p : Option Int) (l : List Ver), (heads p l).length ≤ l.length
 | _, [] => Nat.le_refl _
 | p, v :: l => by
  unfold heads
  split
  ·exact Nat.le_trans (heads_le p l) (by simp)
  ·simpa using heads_le (some v.key) l
theorem read_len {l : List KCopy} (h : FewC l) (id t : Int) : (readX l id t).1.length ≤ 240 := by
 unfold readX; cases hv : validS l with
 | false => exact Nat.zero_le _
 | true =>
 cases ht : stampB t with
 | false => exact Nat.zero_le _
 | true =>
 cases hf : fnd l id with
 | none => exact Nat.zero_le _
 | some k =>
 obtain ⟨hk, _⟩ := fnd_some hf; obtain ⟨h1, h2, h3⟩ := log_few h hv hk; simp only [Bool.and_self, if_true, List.getElem?_eq_getElem hk]
 split
 ·exact Nat.zero_le _
 ·obtain ⟨m, hm1, p2, r2, _⟩ := readC_ok h2 (by omega) t; rw [r2]; have hml := puts_len p2; simp only [List.length_nil] at hml
  show ((readS m t).1.map Ver.k).length ≤ 240
  rw [List.length_map]; unfold readS
  split
  ·exact Nat.zero_le _
  ·unfold readL; exact Nat.le_trans (List.length_filterMap_le _ _) (Nat.le_trans (heads_le _ _) (by omega))
end Go.Proofs.YtkchfmhgboiimaaGreat
namespace Go.Proofs.YtkchfmhgboiimaaGreat
theorem head38 : G_regulatorlaw38_head 300 = some true := by kernel_rfl
end Go.Proofs.YtkchfmhgboiimaaGreat
namespace Go.Proofs.YtkchfmhgboiimaaGreat
open Go.ChangeShapes Go.WideShapes Go.ChangeAt Go.RowKit Go.Deep
theorem own : ownKnob Tryz.prog.godebug = none := by kernel_rfl
theorem laidOut : laidOutB Tryz.prog = true := by kernel_rfl
section
variable {H : Type} {enc : TypeId × Value → H}
theorem trodAll_below {P : Program} (hl : laidOutB P = true) {W W' : World} (hb : Below W.heap.size W W') : ∀ {ts : List TypeId} {vs : List Value} {ds : List (DataW H)} {ps : List MemPlace},
  (∀ t ∈ ts, P.readableRec t = true ∧ t < P.types.size) → DataW.TrodAll enc P W 0 (fun _ => true) true ts vs ds ps → (∀ x ∈ ps, x.block < W.heap.size) →
  DataW.TrodAll enc P W' 0 (fun b => decide (b < W.heap.size)) true ts vs ds ps
 | [], vs, ds, ps, _, h, _ => by
  obtain ⟨rfl, rfl, rfl⟩ := trodAll_nil h; rfl
 | t :: ts, vs, ds, ps, hr, h, hlt => by
  obtain ⟨v, vs', d, ds', p, q, rfl, rfl, rfl, h1, h2⟩ := trodAll_cons h; have h0 := hr t (by simp); exact trodAll_cons_mk (Below.trod hl h0.1 h0.2 h1 hb (fun x hx => hlt x (by simp [hx]))) (trodAll_below hl hb (fun t ht => hr t (by simp [ht])) h2 (fun x hx => hlt x (by simp [hx])))
theorem post_true {P : Program} {fn : Func} {s : ChangeSpec} {W W' : World} {args : Array Value} {ds gs : List (DataW H)} {before : List MemPlace} {b : TypeId} (hl : laidOutB P = true)
  (hr : ∀ t ∈ fn.params.toList, P.readableRec t = true ∧ t < P.types.size) (hb4 : P.underlying b = some .bool) (hrt : fn.resultTypes = #[b]) (hs : s.vars = [])
  (hW : DataW.Whole enc P fn.params.toList s.vars false W args.toList ds gs before) (hres : (s.fn H (ds ++ gs)).results = [.lit (.bool true)]) (hargs : (s.fn H (ds ++ gs)).args = ds) (hvs : (s.fn H (ds ++ gs)).vars = [])
  (hb : Below W.heap.size W W') : s.post enc P fn false true false false W args (.bool true) W' := by
 have hW' := hW; obtain ⟨p, q, hA, hV, rfl, _, _⟩ := hW; rw [hs] at hV; obtain ⟨rfl, rfl⟩ := trodVars_none hV; refine ⟨_, _, _, [], p, [], hW', ?_, ?_, ?_, hb.frame _, fun h => by cases h⟩
 ·rw [hres, hrt]; exact trodAll_mk1 (shut_bool hb4 true)
 ·rw [hargs]; exact trodAll_below hl hb hr hA (fun x hx => by simpa using hW'.lt x (by simp [hx]))
 ·rw [hvs, hs]; rfl
end
end Go.Proofs.YtkchfmhgboiimaaGreat
namespace Go.Proofs.YtkchfmhgboiimaaGreat
open Go.ChangeShapes Go.WideShapes Go.ChangeAt Go.RowKit Go.Deep
def inKd (k : IntKind) (n : Int) : Prop := (Lit.int k n).wf = true
theorem inKd_u8 {n : Int} (h : inKd .u8 n) : 0 ≤ n ∧ n ≤ 255 := by
 have : IntKind.u8.min ≤ n ∧ n ≤ IntKind.u8.max := by simpa [inKd, Lit.wf] using h
 rwa [show IntKind.u8.min = 0 by decide, show IntKind.u8.max = 255 by decide] at this
theorem rowS_all {w : World} {A : Option Addr} {xs : List Value} (h : Rd w A xs) : RowS (fun g => g < w.heap.size) w A xs := ⟨h, fun hn => by obtain ⟨b, o, e, hb, _⟩ := h hn; exact ⟨b, o, e, hb⟩⟩
theorem choose_ltK {α : Type} [Inhabited α] {n : Nat} {p : Nat → α → Prop} (h : ∀ i, i < n → ∃ v, p i v) : ∃ V : Nat → α, ∀ i, i < n → p i (V i) := by
 have h' : ∀ i, ∃ v, i < n → p i v := fun i => by
  rcases Nat.lt_or_ge i n with hi | hi
  ·obtain ⟨v, hv⟩ := h i hi; exact ⟨v, fun _ => hv⟩
  ·exact ⟨default, fun h => absurd h (Nat.not_lt.2 hi)⟩
 exact ⟨fun i => Classical.choose (h' i), fun i => Classical.choose_spec (h' i)⟩
theorem fl_get {α : Type} (f : α → List Value) (m : Nat) (hm : ∀ x, (f x).length = m) : ∀ (l : List α) (k j : Nat) (hk : k < l.length), j < m → (l.flatMap f)[k * m + j]? = (f l[k])[j]?
 | [], k, j, hk, _ => absurd hk (Nat.not_lt_zero _)
 | x :: l, 0, j, _, hj => by
  rw [List.flatMap_cons, Nat.zero_mul, Nat.zero_add, List.getElem?_append_left (by rw [hm]; exact hj)]; rfl
 | x :: l, k + 1, j, hk, hj => by
  rw [List.flatMap_cons, List.getElem?_append_right (by rw [hm, Nat.add_mul]; omega), hm]; have := fl_get f m hm l k j (by simpa using hk) hj; rw [← show (k + 1) * m + j - m = k * m + j from by rw [Nat.add_mul]; omega] at this; exact this
theorem cell_ltK {w : World} {b o : Nat} {u : Value} (h : w.cell? ⟨b, o, none⟩ = some u) : b < w.heap.size := World.block_lt_of_cell? w ⟨b, o, none⟩ h
section
variable {α : Type} {f : α → List Value} {m : Nat} {w : World}
theorem rd_mk {b o : Nat} {l : List α} (hm : ∀ x, (f x).length = m) (h0 : 0 < m) (h : ∀ i (hi : i < l.length) j, j < m → w.cell? ⟨b, o + i * m + j, none⟩ = (f l[i])[j]?) : Rd w (some ⟨b, o, none⟩) (l.flatMap f) := fun hne => by
 have hl : 0 < l.length := by
  cases l with
  | nil => exact absurd rfl hne
  | cons _ _ => simp
 have hlen := fl_len f m hm l; refine ⟨b, o, rfl, ?_, fun j u hu => ?_⟩
 ·have h1 := h 0 hl 0 h0; have h2 : (f l[0])[0]? = some ((f l[0])[0]'(by rw [hm]; exact h0)) := List.getElem?_eq_getElem _; rw [h2] at h1; exact cell_ltK h1
 ·have hj : j < l.length * m := by
   have := (List.getElem?_eq_some_iff.1 hu).1
   rwa [hlen] at this
  have hi : j / m < l.length := Nat.div_lt_of_lt_mul (by rw [Nat.mul_comm]; exact hj); have hr : j % m < m := Nat.mod_lt _ h0; have he : j / m * m + j % m = j := by rw [Nat.mul_comm]; exact Nat.div_add_mod _ _
  have hg := fl_get f m hm l (j / m) (j % m) hi hr; rw [he] at hg; rw [hg] at hu; have := h (j / m) hi (j % m) hr; rw [Nat.add_assoc, he] at this; rw [this]; exact hu
end
section
variable {H : Type} {enc : TypeId × Value → H} {w : World} {base : Nat} {spare : Nat → Bool} {held : Bool}
theorem trod_rowS {α : Type} [Inhabited α] (f : α → List Value) {m : Nat} (h0 : 0 < m) (hm : ∀ x, (f x).length = m) {T E : TypeId} (hu : Tryz.prog.underlying T = some (.slice E)) (hc : Tryz.prog.cellsOf E = m) (Q : α → Prop)
  (hE : ∀ n cs x, DataW.trod enc Tryz.prog w base spare held n E cs = some x → ∃ v, cs = f v ∧ Q v) {fuel : Nat} {cs : List Value} {x : DataW H × List MemPlace} (h : DataW.trod enc Tryz.prog w base spare held fuel T cs = some x) :
  ∃ (A : Option Addr) (c : Nat) (l : List α), cs = [.slice A l.length c] ∧ l.length ≤ c ∧ c ≤ maxLen ∧ Rd w A (l.flatMap f) ∧ ∀ v ∈ l, Q v := by
 obtain ⟨d, p⟩ := x; rcases open_slice hu h with ⟨hcs, _⟩ | ⟨a, len, cap, mm, n, D, Pl, hcs, _, hl, hmx, hmm, _, hx⟩
 ·exact ⟨none, 0, [], hcs, Nat.le_refl _, Nat.zero_le _, Rd.nil _ _, fun v hv => by cases hv⟩
 ·have hlm : len ≤ mm := by rw [hmm]; split <;> omega
  have hex : ∀ i, i < len → ∃ v : α, (∀ j, j < m → w.cell? ((a.add (i * m)).add j) = (f v)[j]?) ∧ Q v := fun i hi => by
   obtain ⟨cs', h1, h2⟩ := hx i (by omega); rw [hc] at h1; obtain ⟨v, rfl, hq⟩ := hE _ _ _ h2; exact ⟨v, (World.cells?_some h1).2.2, hq⟩
  obtain ⟨V, hV⟩ := choose_ltK hex; refine ⟨some a, cap, (List.range len).map V, by rw [hcs]; simp, by simpa using hl, hmx, ?_, ?_⟩
  ·rcases Nat.eq_zero_or_pos len with h00 | h00
   ·subst h00; exact Rd.nil _ _
   obtain ⟨b, o, spot⟩ := a; have hs : spot = none := by
    have := (hV 0 h00).1 0 h0; simp only [Nat.zero_mul, Addr.add, if_true] at this; have h2 : (f (V 0))[0]? = some ((f (V 0))[0]'(by rw [hm]; exact h0)) := List.getElem?_eq_getElem _; rw [h2] at this; exact World.cell?_spot this
   subst hs; refine rd_mk hm h0 fun i hi j hj => ?_
   have hi' : i < len := by simpa using hi
   have e : ∀ j, (((⟨b, o, none⟩ : Addr).add (i * m)).add j) = ⟨b, o + i * m + j, none⟩ := fun j => by rw [add_addr, add_addr]
   have hcc := (hV i hi').1 j hj; rw [e] at hcc; simp only [List.getElem_map, List.getElem_range]; exact hcc
  ·intro v hv; obtain ⟨i, hi, rfl⟩ := List.mem_map.1 hv; exact (hV i (List.mem_range.1 hi)).2
end
end Go.Proofs.YtkchfmhgboiimaaGreat
namespace Go.Proofs.YtkchfmhgboiimaaGreat
open Go.RowKit
theorem few_ship {l : List KCopy} (h : FewC l) {i k : Nat} (hi : i < l.length) (hk : k < l.length) (n : Nat) : FewC (shipL l i k n) := by
 rw [shipL_eq hi hk]
 split
 ·refine ⟨by rw [List.length_set]; exact h.n, fun c hc => ?_, fun c hc t ht => ?_⟩
  ·rcases List.mem_or_eq_of_mem_set hc with hc | rfl
   ·exact h.g c hc
   ·have := h.g _ (List.getElem_mem hi)
    show (l[i].Log.take _).length ≤ 30
    rw [List.length_take]; omega
  ·rcases List.mem_or_eq_of_mem_set hc with hc | rfl
   ·exact h.t c hc t ht
   ·exact h.t _ (List.getElem_mem hi) t (List.mem_of_mem_take ht)
 ·exact h
theorem usable_p (l : List KCopy) {F : Nat} (hF : 64 ≤ F) : G_regulatorlaw38_usable F l = some (fewS l && validS l) := by
 unfold G_regulatorlaw38_usable; rw [few_r l hF, ob_some]; cases hfw : fewS l with
 | false => rfl
 | true => rw [ifB_t, valid_r l (few_iff.1 hfw) hF]; rfl
theorem tmod8 {p : Int} (h : inKd .u8 p) {n : Nat} (hn : 0 < n) : Int.tmod (IntKind.i64.wrap p) ((n : Nat) : Int) = ((p.toNat % n : Nat) : Int) := by
 obtain ⟨h0, h1⟩ := inKd_u8 h; rw [w64_id (by omega) (by omega), Int.tmod_eq_emod_of_nonneg h0]
 conv => lhs; rw [← Int.toNat_of_nonneg h0]
 rw [Int.natCast_emod]
theorem ship_own {l : List KCopy} (hv : validS l = true) {i k : Nat} (hi : i < l.length) (hk : k < l.length) {n : Int} (hn : 0 ≤ n) : shipS l l[i].ID l[k].ID n = (shipL l i k n.toNat, 0) := by
 have hc := (cps_iff l).1 hv; unfold shipS; rw [hv, decide_eq_true hn, fnd_at hc.up hi, fnd_at hc.up hk]; rfl
theorem ship_id {l : List KCopy} {i k : Nat} (hi : i < l.length) (hk : k < l.length) (n : Nat) {j : Nat} (hj : j < l.length) : ((shipL l i k n)[j]'(by rw [shipL_len hi hk]; exact hj)).ID = l[j].ID := by
 by_cases e : j = k
 ·subst e; rw [shipL_at hi hk]
 ·rw [shipL_other hi hk n hj e]
theorem w8 {p : Int} (h : inKd .u8 p) : IntKind.i64.wrap p = p := by
 have := inKd_u8 h; exact w64_id (by omega) (by omega)
theorem later {a b : List KTx} {t : Int} (hb : logS b = true) (hl : b.length ≤ 500) (hle : a.length ≤ b.length) (hp : a = b.take a.length) (h : lateB a t = false) : lateB b t = false ∧ readC b t = readC a t := by
 unfold lateB at h ⊢; simp only [Bool.or_eq_false_iff, decide_eq_false_iff_not] at h ⊢; obtain ⟨h1, h2⟩ := h; obtain ⟨_, hu⟩ := (logS_iff b).1 hb; have hup := List.pairwise_iff_getElem.1 hu; have e1 : lastT a = b[a.length - 1].Ts := by
  unfold lastT; rw [getD_map (fun x : KTx => x.Ts) (show a.length - 1 < a.length by omega)]; have : a[a.length - 1]'(by omega) = b[a.length - 1] := by
   have h3 : a[a.length - 1]? = (b.take a.length)[a.length - 1]? := by rw [← hp]
   rw [List.getElem?_eq_getElem (by omega), List.getElem?_take_of_lt (by omega), List.getElem?_eq_getElem (by omega)] at h3; exact Option.some.inj h3
  rw [this]
 refine ⟨⟨by omega, ?_⟩, ?_⟩
 ·unfold lastT; rw [getD_map (fun x : KTx => x.Ts) (show b.length - 1 < b.length by omega)]; rcases Nat.eq_or_lt_of_le (show a.length - 1 ≤ b.length - 1 by omega) with e | hlt
  ·have : b[b.length - 1] = b[a.length - 1] := by congr 1; omega
   rw [this, ← e1]; exact h2
  ·have := hup (a.length - 1) (b.length - 1) (by omega) (by omega) hlt; omega
 ·conv => rhs; rw [hp]
  refine readC_take hb hl fun u hu' => ?_
  obtain ⟨j, hj, rfl⟩ := List.getElem_of_mem hu'; rw [List.length_drop] at hj; rw [List.getElem_drop]; have := hup (a.length - 1) (a.length + j) (by omega) (by omega) (by omega); omega
theorem readC_e {log : List KTx} (h : logS log = true) (hl : log.length ≤ 500) {t : Int} (ht : stampB t = true) : (readC log t).2 = 0 := by
 obtain ⟨m, s, _, r, _⟩ := readC_ok h hl t; rw [r]; unfold readS; rw [(sto_iff m).2 s, ht]; rfl
theorem readX_ok {l : List KCopy} (h : FewC l) (hv : validS l = true) {k : Nat} (hk : k < l.length) {t : Int} (he : (readX l l[k].ID t).2 = 0) : stampB t = true ∧ lateB l[k].Log t = false ∧ readX l l[k].ID t = kRes (readC l[k].Log t) := by
 have hc := (cps_iff l).1 hv; cases ht : stampB t with
 | false =>
  unfold readX at he; rw [ht, Bool.and_false] at he
  simp at he
 | true =>
  rw [readX_at hv ht (fnd_at hc.up hk) hk] at he ⊢; cases hl : lateB l[k].Log t with
  | true =>
   rw [hl] at he
   simp at he
  | false => exact ⟨rfl, rfl, rfl⟩
theorem law38_later {l : List KCopy} {a b most w ts : Int} (ha : inKd .u8 a) (hb : inKd .u8 b) (hm : inKd .u8 most) (hw : inKd .u8 w) : G_regulatorlaw38_CopiesLater 300 l a b most w ts = some true := by
 obtain ⟨m0, m1⟩ := inKd_u8 hm; unfold G_regulatorlaw38_CopiesLater; rw [head38, usable_p l (by omega)]; simp only [ob_some]; cases hfv : (fewS l && validS l) with
 | false => rfl
 | true =>
 rw [Bool.and_eq_true] at hfv; obtain ⟨hfw, hv⟩ := hfv; have h := few_iff.1 hfw; have hc := (cps_iff l).1 hv; have hln := h.n; have h1 : 0 < l.length := hc.one; rw [tmod8 ha h1, tmod8 hb h1, tmod8 hw h1, w8 hm, beq_dec, decide_eq_false (p := ((l.length : Nat) : Int) = 0) (by omega)]; obtain ⟨i, hi, ei⟩ : ∃ i, i < l.length ∧ a.toNat % l.length = i := ⟨_, Nat.mod_lt _ h1, rfl⟩; obtain ⟨k, hk, ek⟩ : ∃ i, i < l.length ∧ b.toNat % l.length = i := ⟨_, Nat.mod_lt _ h1, rfl⟩; obtain ⟨j, hj, ej⟩ : ∃ i, i < l.length ∧ w.toNat % l.length = i := ⟨_, Nat.mod_lt _ h1, rfl⟩; rw [ei, ek, ej]; obtain ⟨hcM, hlg⟩ := ship_cps hc hi hk most.toNat; have hfM := few_ship h hi hk most.toNat; have hlM := shipL_len hi hk most.toNat; have hvM := (cps_iff _).2 hcM; have hjM : j < (shipL l i k most.toNat).length := by rw [hlM]; exact hj
 simp only [ifB_t, ob_some, Bool.not_false, whenG_t, ixI_get hi, ixI_get hk, ixI_get hj, ship_p l _ _ _ h (show most ≤ 9223372036854775807 by omega) (show 64 ≤ 300 by omega), ship_own hv hi hk m0, un2, beq_self_eq_true, read_p l _ _ h (show 64 ≤ 300 by omega), read_p _ _ _ hfM (show 64 ≤ 300 by omega)]; rw [beq_dec, beq_dec]
 by_cases e1 : (readX l l[j].ID ts).2 = 0
 case neg => rw [decide_eq_false e1]; rfl
 rw [decide_eq_true e1, ifB_t]; obtain ⟨st, q1, r1⟩ := readX_ok h hv hj e1; have hl1 := read_len h l[j].ID ts; obtain ⟨gj, vj, _⟩ := log_few h hv hj; obtain ⟨gM, vM, _⟩ := log_few hfM hvM hjM; have hpre : l[j].Log.length ≤ (shipL l i k most.toNat)[j].Log.length ∧ l[j].Log = (shipL l i k most.toNat)[j].Log.take l[j].Log.length := by
  by_cases e : j = k
  ·subst e; rw [shipL_at hi hj]; simp only
   split
   ·next hlt =>
    refine ⟨by rw [List.length_take]; omega, ?_⟩; rw [List.take_take, Nat.min_eq_left (by omega)]; exact hc.two (List.getElem_mem hj) (List.getElem_mem hi) (by omega)
   ·exact ⟨Nat.le_refl _, (List.take_of_length_le (Nat.le_refl _)).symm⟩
  ·rw [shipL_other hi hk _ hj e]; exact ⟨Nat.le_refl _, (List.take_of_length_le (Nat.le_refl _)).symm⟩
 obtain ⟨q2, q3⟩ := later vM (by omega) hpre.1 hpre.2 q1; have r2 : readX (shipL l i k most.toNat) l[j].ID ts = kRes (readC (shipL l i k most.toNat)[j].Log ts) := by
  rw [← ship_id hi hk most.toNat hj, readX_at hvM st (fnd_at hcM.up hjM) hjM, q2]; rfl
 have e2 : (readX (shipL l i k most.toNat) l[j].ID ts).2 = 0 := by
  rw [r2]; exact readC_e vM (by omega) st
 rw [decide_eq_true e2, ifB_t, same33_r _ _ (by omega) (by omega), r1, r2, q3, decide_eq_true (p := (kRes (readC l[j].Log ts)).1 = (kRes (readC l[j].Log ts)).1) rfl]; rfl
end Go.Proofs.YtkchfmhgboiimaaGreat
namespace Go.Proofs.YtkchfmhgboiimaaGreat
open Go.RowKit
structure ElI (l : List KCopy) (bt : Nat → Bool) (k : Nat) (b : List Int × Nat) : Prop where
 nd : b.1.Nodup
 m : ∀ n, n ∈ b.1 ↔ ∃ j, ∃ h : j < l.length, j < k ∧ bt j = true ∧ l[j].ID = n
 ge : ∀ j (h : j < l.length), j < k → bt j = true → l[j].Log.length ≤ b.2
 eq : b.2 = 0 ∨ ∃ j, ∃ h : j < l.length, j < k ∧ bt j = true ∧ l[j].Log.length = b.2
 ln : b.1.length ≤ k
end Go.Proofs.YtkchfmhgboiimaaGreat
namespace Go.Proofs.YtkchfmhgboiimaaGreat
open Go.ChangeShapes Go.WideShapes Go.ChangeAt Go.RowKit Go.Deep
section
variable {H : Type} {enc : TypeId × Value → H} {w : World} {base : Nat} {spare : Nat → Bool} {held : Bool}
set_option maxRecDepth 10000
theorem trod_int {n : Nat} {cs : List Value} {x : DataW H × List MemPlace} (h : DataW.trod enc Tryz.prog w base spare held n 3 cs = some x) : ∃ v : Int, cs = c_i64 v ∧ inKd .i64 v := by
 obtain ⟨a, e, _, hw⟩ := DataW.trod_int Tryz.underlying3 h; exact ⟨a, e, hw⟩
theorem cl_int : Tryz.prog.cellsOf 3 = 1 := by kernel_rfl
theorem cl_api_Seen : Tryz.prog.cellsOf 90 = 2 := by kernel_rfl
structure KSeen.rng (x : KSeen) : Prop where
 r_Key : inKd .i64 x.Key
 r_Ts : inKd .i64 x.Ts
theorem tf_api_Seen : ∃ f0 f1 : Field, Tryz.prog.underlying 90 = some (.struct #[f0, f1]) ∧ (f0.offset = 0 ∧ f0.type = 3) ∧ (f1.offset = 1 ∧ f1.type = 3) := ⟨_, _, Tryz.underlying90, ⟨by kernel_rfl, by kernel_rfl⟩, ⟨by kernel_rfl, by kernel_rfl⟩⟩
theorem trod_api_Seen {n : Nat} {cs : List Value} {x : DataW H × List MemPlace} (h : DataW.trod enc Tryz.prog w base spare held n 90 cs = some x) : ∃ v : KSeen, cs = v.cells ∧ KSeen.rng v := by
 obtain ⟨f0, f1, hu, ⟨o0, t0⟩, ⟨o1, t1⟩⟩ := tf_api_Seen; obtain ⟨xs, n', _, _, hlen, hxl, hf⟩ := DataW.trod_struct hu h; rw [cl_api_Seen] at hlen
 match cs, hlen with
 | [c0, c1], _ =>
  have q0 := hf 0 f0 rfl; obtain ⟨y0, hy0⟩ : ∃ y, xs[0]? = some y := ⟨_, List.getElem?_eq_getElem (by rw [hxl]; exact (by decide : 0 < 2))⟩; rw [hy0, o0, t0, cl_int] at q0; obtain ⟨v0, e0, hg0⟩ := trod_int q0; replace e0 : [c0] = [I v0] := e0; simp only [List.cons.injEq, and_true] at e0; obtain rfl := e0; have q1 := hf 1 f1 rfl; obtain ⟨y1, hy1⟩ : ∃ y, xs[1]? = some y := ⟨_, List.getElem?_eq_getElem (by rw [hxl]; exact (by decide : 1 < 2))⟩; rw [hy1, o1, t1, cl_int] at q1; obtain ⟨v1, e1, hg1⟩ := trod_int q1; replace e1 : [c1] = [I v1] := e1; simp only [List.cons.injEq, and_true] at e1; obtain rfl := e1; exact ⟨⟨v0, v1⟩, rfl, ⟨hg0, hg1⟩⟩
instance : Inhabited KSeen := ⟨⟨0, 0⟩⟩
theorem trod_Sl_api_Seen {n : Nat} {cs : List Value} {x : DataW H × List MemPlace} (h : DataW.trod enc Tryz.prog w base spare held n 44 cs = some x) :
  ∃ (A : Option Addr) (c : Nat) (l : List KSeen), cs = [.slice A l.length c] ∧ RowC A c KSeen.cells tr l (fun g => g < w.heap.size) w ∧ (∀ y ∈ l, KSeen.rng y) := by
 obtain ⟨A, c, l, h1, h2, h3, h4, h5⟩ := trod_rowS KSeen.cells (m := 2) (by decide) (fun _ => rfl) Tryz.underlying44 cl_api_Seen (fun v : KSeen => KSeen.rng v) (fun _ _ _ hx => trod_api_Seen hx) h; exact ⟨A, c, l, h1, ⟨rowS_all h4, h2, fun _ _ => trivial⟩, h5⟩
theorem cl_Sl_api_Seen : Tryz.prog.cellsOf 44 = 1 := by kernel_rfl
theorem trod_bool {n : Nat} {cs : List Value} {x : DataW H × List MemPlace} (h : DataW.trod enc Tryz.prog w base spare held n 4 cs = some x) : ∃ v : Bool, cs = c_bool v ∧ True := by
 obtain ⟨a, e, _⟩ := DataW.trod_bool Tryz.underlying4 h; exact ⟨a, e, trivial⟩
theorem cl_bool : Tryz.prog.cellsOf 4 = 1 := by kernel_rfl
theorem cl_api_Write : Tryz.prog.cellsOf 52 = 3 := by kernel_rfl
structure KWrite.rng (x : KWrite) : Prop where
 r_Key : inKd .i64 x.Key
 r_Value : inKd .i64 x.Value
 r_Gone : (fun _ : Bool => True) x.Gone
theorem tf_api_Write : ∃ f0 f1 f2 : Field, Tryz.prog.underlying 52 = some (.struct #[f0, f1, f2]) ∧ (f0.offset = 0 ∧ f0.type = 3) ∧ (f1.offset = 1 ∧ f1.type = 3) ∧ (f2.offset = 2 ∧ f2.type = 4) := ⟨_, _, _, Tryz.underlying52, ⟨by kernel_rfl, by kernel_rfl⟩, ⟨by kernel_rfl, by kernel_rfl⟩, ⟨by kernel_rfl, by kernel_rfl⟩⟩
theorem trod_api_Write {n : Nat} {cs : List Value} {x : DataW H × List MemPlace} (h : DataW.trod enc Tryz.prog w base spare held n 52 cs = some x) : ∃ v : KWrite, cs = v.cells ∧ KWrite.rng v := by
 obtain ⟨f0, f1, f2, hu, ⟨o0, t0⟩, ⟨o1, t1⟩, ⟨o2, t2⟩⟩ := tf_api_Write; obtain ⟨xs, n', _, _, hlen, hxl, hf⟩ := DataW.trod_struct hu h; rw [cl_api_Write] at hlen
 match cs, hlen with
 | [c0, c1, c2], _ =>
  have q0 := hf 0 f0 rfl; obtain ⟨y0, hy0⟩ : ∃ y, xs[0]? = some y := ⟨_, List.getElem?_eq_getElem (by rw [hxl]; exact (by decide : 0 < 3))⟩; rw [hy0, o0, t0, cl_int] at q0; obtain ⟨v0, e0, hg0⟩ := trod_int q0; replace e0 : [c0] = [I v0] := e0; simp only [List.cons.injEq, and_true] at e0; obtain rfl := e0; have q1 := hf 1 f1 rfl; obtain ⟨y1, hy1⟩ : ∃ y, xs[1]? = some y := ⟨_, List.getElem?_eq_getElem (by rw [hxl]; exact (by decide : 1 < 3))⟩; rw [hy1, o1, t1, cl_int] at q1; obtain ⟨v1, e1, hg1⟩ := trod_int q1; replace e1 : [c1] = [I v1] := e1; simp only [List.cons.injEq, and_true] at e1; obtain rfl := e1; have q2 := hf 2 f2 rfl; obtain ⟨y2, hy2⟩ : ∃ y, xs[2]? = some y := ⟨_, List.getElem?_eq_getElem (by rw [hxl]; exact (by decide : 2 < 3))⟩; rw [hy2, o2, t2, cl_bool] at q2; obtain ⟨v2, e2, hg2⟩ := trod_bool q2; replace e2 : [c2] = [B v2] := e2; simp only [List.cons.injEq, and_true] at e2; obtain rfl := e2; exact ⟨⟨v0, v1, v2⟩, rfl, ⟨hg0, hg1, hg2⟩⟩
instance : Inhabited KWrite := ⟨⟨0, 0, false⟩⟩
theorem trod_Sl_api_Write {n : Nat} {cs : List Value} {x : DataW H × List MemPlace} (h : DataW.trod enc Tryz.prog w base spare held n 45 cs = some x) :
  ∃ (A : Option Addr) (c : Nat) (l : List KWrite), cs = [.slice A l.length c] ∧ RowC A c KWrite.cells tr l (fun g => g < w.heap.size) w ∧ (∀ y ∈ l, KWrite.rng y) := by
 obtain ⟨A, c, l, h1, h2, h3, h4, h5⟩ := trod_rowS KWrite.cells (m := 3) (by decide) (fun _ => rfl) Tryz.underlying45 cl_api_Write (fun v : KWrite => KWrite.rng v) (fun _ _ _ hx => trod_api_Write hx) h; exact ⟨A, c, l, h1, ⟨rowS_all h4, h2, fun _ _ => trivial⟩, h5⟩
theorem cl_Sl_api_Write : Tryz.prog.cellsOf 45 = 1 := by kernel_rfl
theorem cl_api_Tx : Tryz.prog.cellsOf 47 = 4 := by kernel_rfl
structure KTx.rng (x : KTx) : Prop where
 r_ID : inKd .i64 x.ID
 r_Ts : inKd .i64 x.Ts
 r_Reads : (fun l : List KSeen => ∀ y ∈ l, KSeen.rng y) x.Reads
 r_Writes : (fun l : List KWrite => ∀ y ∈ l, KWrite.rng y) x.Writes
theorem tf_api_Tx : ∃ f0 f1 f2 f3 : Field, Tryz.prog.underlying 47 = some (.struct #[f0, f1, f2, f3]) ∧ (f0.offset = 0 ∧ f0.type = 3) ∧ (f1.offset = 1 ∧ f1.type = 3) ∧ (f2.offset = 2 ∧ f2.type = 44) ∧ (f3.offset = 3 ∧ f3.type = 45) := ⟨_, _, _, _, Tryz.underlying47, ⟨by kernel_rfl, by kernel_rfl⟩, ⟨by kernel_rfl, by kernel_rfl⟩, ⟨by kernel_rfl, by kernel_rfl⟩, ⟨by kernel_rfl, by kernel_rfl⟩⟩
theorem trod_api_Tx {n : Nat} {cs : List Value} {x : DataW H × List MemPlace} (h : DataW.trod enc Tryz.prog w base spare held n 47 cs = some x) : ∃ v : KTxL, cs = v.cells ∧ KTxL.ok v (fun g => g < w.heap.size) w ∧ KTx.rng v.p := by
 obtain ⟨f0, f1, f2, f3, hu, ⟨o0, t0⟩, ⟨o1, t1⟩, ⟨o2, t2⟩, ⟨o3, t3⟩⟩ := tf_api_Tx; obtain ⟨xs, n', _, _, hlen, hxl, hf⟩ := DataW.trod_struct hu h; rw [cl_api_Tx] at hlen
 match cs, hlen with
 | [c0, c1, c2, c3], _ =>
  have q0 := hf 0 f0 rfl; obtain ⟨y0, hy0⟩ : ∃ y, xs[0]? = some y := ⟨_, List.getElem?_eq_getElem (by rw [hxl]; exact (by decide : 0 < 4))⟩; rw [hy0, o0, t0, cl_int] at q0; obtain ⟨v0, e0, hg0⟩ := trod_int q0; replace e0 : [c0] = [I v0] := e0; simp only [List.cons.injEq, and_true] at e0; obtain rfl := e0; have q1 := hf 1 f1 rfl; obtain ⟨y1, hy1⟩ : ∃ y, xs[1]? = some y := ⟨_, List.getElem?_eq_getElem (by rw [hxl]; exact (by decide : 1 < 4))⟩; rw [hy1, o1, t1, cl_int] at q1; obtain ⟨v1, e1, hg1⟩ := trod_int q1; replace e1 : [c1] = [I v1] := e1; simp only [List.cons.injEq, and_true] at e1; obtain rfl := e1; have q2 := hf 2 f2 rfl; obtain ⟨y2, hy2⟩ : ∃ y, xs[2]? = some y := ⟨_, List.getElem?_eq_getElem (by rw [hxl]; exact (by decide : 2 < 4))⟩; rw [hy2, o2, t2, cl_Sl_api_Seen] at q2; obtain ⟨A2, k2, v2, e2, hr2, hg2⟩ := trod_Sl_api_Seen q2; replace e2 : [c2] = [.slice A2 v2.length k2] := e2; simp only [List.cons.injEq, and_true] at e2; obtain rfl := e2; have q3 := hf 3 f3 rfl; obtain ⟨y3, hy3⟩ : ∃ y, xs[3]? = some y := ⟨_, List.getElem?_eq_getElem (by rw [hxl]; exact (by decide : 3 < 4))⟩; rw [hy3, o3, t3, cl_Sl_api_Write] at q3; obtain ⟨A3, k3, v3, e3, hr3, hg3⟩ := trod_Sl_api_Write q3; replace e3 : [c3] = [.slice A3 v3.length k3] := e3; simp only [List.cons.injEq, and_true] at e3; obtain rfl := e3; exact ⟨⟨v0, v1, A2, k2, v2, A3, k3, v3⟩, rfl, ⟨hr2, hr3⟩, ⟨hg0, hg1, hg2, hg3⟩⟩
instance : Inhabited KTxL := ⟨⟨0, 0, none, 0, [], none, 0, []⟩⟩
theorem trod_Sl_api_Tx {n : Nat} {cs : List Value} {x : DataW H × List MemPlace} (h : DataW.trod enc Tryz.prog w base spare held n 38 cs = some x) :
  ∃ (A : Option Addr) (c : Nat) (l : List KTxL), cs = [.slice A l.length c] ∧ RowC A c KTxL.cells KTxL.ok l (fun g => g < w.heap.size) w ∧ (∀ y ∈ (l.map KTxL.p), KTx.rng y) := by
 obtain ⟨A, c, l, h1, h2, h3, h4, h5⟩ := trod_rowS KTxL.cells (m := 4) (by decide) (fun _ => rfl) Tryz.underlying38 cl_api_Tx (fun v : KTxL => KTxL.ok v (fun g => g < w.heap.size) w ∧ KTx.rng v.p) (fun _ _ _ hx => trod_api_Tx hx) h; exact ⟨A, c, l, h1, ⟨rowS_all h4, h2, fun y hy => (h5 y hy).1⟩, fun y hy => by obtain ⟨z, hz, rfl⟩ := List.mem_map.1 hy; exact (h5 z hz).2⟩
theorem cl_Sl_api_Tx : Tryz.prog.cellsOf 38 = 1 := by kernel_rfl
theorem cl_api_Copy : Tryz.prog.cellsOf 40 = 2 := by kernel_rfl
structure KCopy.rng (x : KCopy) : Prop where
 r_ID : inKd .i64 x.ID
 r_Log : (fun l : List KTx => ∀ y ∈ l, KTx.rng y) x.Log
theorem tf_api_Copy : ∃ f0 f1 : Field, Tryz.prog.underlying 40 = some (.struct #[f0, f1]) ∧ (f0.offset = 0 ∧ f0.type = 3) ∧ (f1.offset = 1 ∧ f1.type = 38) := ⟨_, _, Tryz.underlying40, ⟨by kernel_rfl, by kernel_rfl⟩, ⟨by kernel_rfl, by kernel_rfl⟩⟩
theorem trod_api_Copy {n : Nat} {cs : List Value} {x : DataW H × List MemPlace} (h : DataW.trod enc Tryz.prog w base spare held n 40 cs = some x) : ∃ v : KCopyL, cs = v.cells ∧ KCopyL.ok v (fun g => g < w.heap.size) w ∧ KCopy.rng v.p := by
 obtain ⟨f0, f1, hu, ⟨o0, t0⟩, ⟨o1, t1⟩⟩ := tf_api_Copy; obtain ⟨xs, n', _, _, hlen, hxl, hf⟩ := DataW.trod_struct hu h; rw [cl_api_Copy] at hlen
 match cs, hlen with
 | [c0, c1], _ =>
  have q0 := hf 0 f0 rfl; obtain ⟨y0, hy0⟩ : ∃ y, xs[0]? = some y := ⟨_, List.getElem?_eq_getElem (by rw [hxl]; exact (by decide : 0 < 2))⟩; rw [hy0, o0, t0, cl_int] at q0; obtain ⟨v0, e0, hg0⟩ := trod_int q0; replace e0 : [c0] = [I v0] := e0; simp only [List.cons.injEq, and_true] at e0; obtain rfl := e0; have q1 := hf 1 f1 rfl; obtain ⟨y1, hy1⟩ : ∃ y, xs[1]? = some y := ⟨_, List.getElem?_eq_getElem (by rw [hxl]; exact (by decide : 1 < 2))⟩; rw [hy1, o1, t1, cl_Sl_api_Tx] at q1; obtain ⟨A1, k1, v1, e1, hr1, hg1⟩ := trod_Sl_api_Tx q1; replace e1 : [c1] = [.slice A1 v1.length k1] := e1; simp only [List.cons.injEq, and_true] at e1; obtain rfl := e1; exact ⟨⟨v0, A1, k1, v1⟩, rfl, ⟨hr1⟩, ⟨hg0, hg1⟩⟩
instance : Inhabited KCopyL := ⟨⟨0, none, 0, []⟩⟩
theorem trod_Sl_api_Copy {n : Nat} {cs : List Value} {x : DataW H × List MemPlace} (h : DataW.trod enc Tryz.prog w base spare held n 22 cs = some x) :
  ∃ (A : Option Addr) (c : Nat) (l : List KCopyL), cs = [.slice A l.length c] ∧ RowC A c KCopyL.cells KCopyL.ok l (fun g => g < w.heap.size) w ∧ (∀ y ∈ (l.map KCopyL.p), KCopy.rng y) := by
 obtain ⟨A, c, l, h1, h2, h3, h4, h5⟩ := trod_rowS KCopyL.cells (m := 2) (by decide) (fun _ => rfl) Tryz.underlying22 cl_api_Copy (fun v : KCopyL => KCopyL.ok v (fun g => g < w.heap.size) w ∧ KCopy.rng v.p) (fun _ _ _ hx => trod_api_Copy hx) h; exact ⟨A, c, l, h1, ⟨rowS_all h4, h2, fun y hy => (h5 y hy).1⟩, fun y hy => by obtain ⟨z, hz, rfl⟩ := List.mem_map.1 hy; exact (h5 z hz).2⟩
theorem opn_Sl_api_Copy {r : Reach} {b0 : Nat} {v : Value} {d : DataW H} {p : List MemPlace} (hv : Value.okWide Tryz.prog w r b0 22 v) (h : DataW.Trod enc Tryz.prog w base spare held 22 v d p) : ∃ (A : Option Addr) (c : Nat) (l : List KCopyL), v = .slice A l.length c ∧ RowC A c KCopyL.cells KCopyL.ok l (fun g => g < w.heap.size) w ∧ (∀ y ∈ (l.map KCopyL.p), KCopy.rng y) := by
 obtain ⟨a0, len0, cap0, rfl⟩ := okWide_slice Tryz.underlying22 hv; obtain ⟨fuel, hf⟩ := h; obtain ⟨A, c, l, e, h1, h2⟩ := trod_Sl_api_Copy hf; simp only [Value.cells, List.cons.injEq, and_true] at e; exact ⟨A, c, l, e, h1, h2⟩
theorem opn_int {r : Reach} {b0 : Nat} {v : Value} {d : DataW H} {p : List MemPlace} (hv : Value.okWide Tryz.prog w r b0 3 v) (h : DataW.Trod enc Tryz.prog w base spare held 3 v d p) : ∃ x : Int, v = .int .i64 x ∧ inKd .i64 x := by
 obtain ⟨x, rfl, _, _, hw⟩ := open_int Tryz.underlying3 hv h; exact ⟨x, rfl, hw⟩
theorem opn_uint8 {r : Reach} {b0 : Nat} {v : Value} {d : DataW H} {p : List MemPlace} (hv : Value.okWide Tryz.prog w r b0 5 v) (h : DataW.Trod enc Tryz.prog w base spare held 5 v d p) : ∃ x : Int, v = .int .u8 x ∧ inKd .u8 x := by
 obtain ⟨x, rfl, _, _, hw⟩ := open_int Tryz.underlying5 hv h; exact ⟨x, rfl, hw⟩
end
end Go.Proofs.YtkchfmhgboiimaaGreat
