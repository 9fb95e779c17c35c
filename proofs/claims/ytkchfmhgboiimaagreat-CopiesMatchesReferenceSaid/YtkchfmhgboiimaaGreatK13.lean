/-
  Texts joined: Z4, Z5, Z6, Z7, Z8, Re38.
-/
import Derived.Test.YtkchfmhgboiimaaGreatProg
import Derived.RangeFuncBox
import Derived.RangeFuncLeaves
import Derived.RangeFuncNested
import Derived.Shelf.Abstract
import Derived.WalkKit
import Derived.OwnWalkIn
import Derived.TacticsInMore
import Derived.LoopNIn
import Derived.LoopIn
import Derived.Maps.AppendAt
import Derived.Test.YtkchfmhgboiimaaGreatK10
import Derived.Test.YtkchfmhgboiimaaGreatK11
import Derived.Test.YtkchfmhgboiimaaGreatK12
set_option linter.unusedSimpArgs false
set_option linter.unusedVariables false
namespace Go.Proofs.YtkchfmhgboiimaaGreat
open Go.RowKit Go.Maps
def G_regulatorref38_writes (F : Nat) (p_0 : List KWrite) : Option (Bool) :=
  Option.bind (Option.bind (iter (σ := Int) (ρ := Unit ⊕ Unit) (fun (v_39 : Int) => 
        (ifB (decide (v_39 < ((p_0.length : Nat) : Int)))
          (Option.bind (ixI p_0 v_39) (fun v_42 =>
          Option.bind (ixI p_0 v_39) (fun v_45 =>
          Option.bind (ixI p_0 v_39) (fun v_48 =>
          Option.bind (G_regulatorref33_Version F (⟨v_42.Key, 1, v_45.Value, v_48.Gone⟩ : KVersion)) (fun v_51 =>
          Option.bind (ifB (v_51)
              (ifB (decide (v_39 > 0))
                (Option.bind (ixI p_0 v_39) (fun v_54 =>
                Option.bind (ixI p_0 (IntKind.i64.wrap (v_39 - 1))) (fun v_57 =>
                some (decide (v_54.Key ≤ v_57.Key)))))
                (some false))
              (some true) : Option (Bool)) (fun (v_61 : Bool) => 
            ifB (v_61)
              (some (.inr (.inr ())))
              (some (.inl (IntKind.i64.wrap (v_39 + 1))))))))))
          (some (.inr (.inl ()))) : Option (Int ⊕ (Unit ⊕ Unit)))) F 0) (Sum.elim (fun (_ : Unit) => 
      some (.inl ())) (fun (_ : Unit) => 
      some (.inr ()))) : Option (Unit ⊕ Unit)) (Sum.elim (fun (_ : Unit) => 
    some (decide (((p_0.length : Nat) : Int) ≤ 8))) (fun (_ : Unit) => 
    some false))
set_option maxRecDepth 100000 in
set_option maxHeartbeats 16000000 in
theorem z_regulatorref38_writes (F : Nat) (p_0_A : Option Addr) (p_0_c : Nat) (p_0 : List KWrite) (r : Bool) (hG : G_regulatorref38_writes F p_0 = some r) :
  Cf Tryz.prog 98 [.slice p_0_A p_0.length p_0_c] [RowC p_0_A p_0_c KWrite.cells tr p_0] (B r) := by
 unfold G_regulatorref38_writes at hG
 try (simp only [un2, un3, un4, un5, un6, un7, un8, Sum.elim_inl, Sum.elim_inr, List.length_map, KCopyL.n_Log] at hG; replace hG : _ = _ := hG)
 refine fi Tryz.func98 rfl rfl (mr tr_mv m0) fun S0 w0 hT => ?_
 refine sq ?_; refine rg ?_; refine ra [] f0 [] ?_; refine tN ?_; obtain ⟨o_63, hG, hG_63⟩ := bind_some hG; refine jn (fun K E a w => Js S0 w0 51 (K) (se E [0]) (.inl () = o_63) a w) ?_ ?_
 ·refine sq ?_; refine rg ?_; refine ra [] f0 [(3, I 0)] ?_; refine tN ?_; refine bk ?_; obtain ⟨e_40, hL, hG_40⟩ := bind_some hG; clear hG; obtain ⟨stp_40, hs_40, hL⟩ := iter_gen hL; refine lp (fun K E n_ a w => ∃ (v_39 : Int), Js S0 w0 51 ([(3, I v_39)] ++ K) (se E [0]) (iter stp_40 n_ v_39 = some e_40) a w) F ?_ ?_
  ·exact fun a w S hK hE => ⟨0, S, hK.wk, hE.sel [0], hL⟩
  ·clear hL; rintro n_40 a w ⟨v_39, hJ⟩; refine hJ.go fun hL => ?_
   clear hJ; obtain ⟨m_40, o_40, rfl, hG, hO1_40, hO2_40⟩ := iter_step hL; clear hL; rw [hs_40] at hG
   try (simp only [un2, un3, un4, un5, un6, un7, un8, Sum.elim_inl, Sum.elim_inr, List.length_map, KCopyL.n_Log] at hG; replace hG : _ = _ := hG)
   refine sq ?_; refine sq ?_; refine rg ?_; refine ra [] f0 [(8, B (decide (v_39 < ((p_0.length : Nat) : Int))))] ?_; refine tN ?_; rcases ifB_cases hG with ⟨h_41, hG⟩ | ⟨h_41, hG⟩
   ·try simp only [List.length_map, KCopyL.n_Log] at h_41
    refine sb 8 (bt h_41) ?_; refine ct ?_; refine kS ?_; refine tN ?_; refine sq ?_; refine bk ?_; refine sq ?_; replace hG := bind_some hG; obtain ⟨v_42, hy_42, hG⟩ := hG; replace hG := bind_some hG; obtain ⟨v_45, hy_45, hG⟩ := hG; replace hG := bind_some hG; obtain ⟨v_48, hy_48, hG⟩ := hG; replace hG := bind_some hG; obtain ⟨v_51, hy_51, hG⟩ := hG; refine qb ?_; refine fx inf45 (gd' (RowC p_0_A p_0_c KWrite.cells tr p_0) 0) hy_42 fun b_43 o_44 hi_42 => ?_
    refine fx inf45 (gd' (RowC p_0_A p_0_c KWrite.cells tr p_0) 1) hy_45 fun b_46 o_47 hi_45 => ?_
    refine fx inf45 (gd' (RowC p_0_A p_0_c KWrite.cells tr p_0) 2) hy_48 fun b_49 o_50 hi_48 => ?_
    refine qn 16 [(2, 0, 0, 0), (1, 1, 2, 0), (2, 0, 0, 0), (1, 1, 1, 1), (2, 0, 0, 0), (1, 1, 0, 2)] (fc (hi_42 .i64) (fc (hi_45 .i64) (fc (hi_48 .i64) f0))) [(26, .agg #[I v_42.Key, I 1, I v_45.Value, B v_48.Gone])] ?_; refine qc 27 (z_regulatorref33_Version F (⟨v_42.Key, 1, v_45.Value, v_48.Gone⟩ : KVersion) _ hy_51) hT trivial ?_; refine qa [] f0 [(4, B v_51)] ?_; refine tN ?_; obtain ⟨o_60, hG, hG_60⟩ := bind_some hG; refine jn (fun K E a w => ∃ (v_61 : Bool), Js S0 w0 51 ([(47, B v_61)] ++ K) (se E [3]) (v_61 = o_60) a w) ?_ ?_
    ·replace hG := ifB_cases hG; rcases hG with ⟨h_52, hG⟩ | ⟨h_52, hG⟩
     ·replace hG := ifB_cases hG; rcases hG with ⟨h_53, hG⟩ | ⟨h_53, hG⟩
      ·replace hG := bind_some hG; obtain ⟨v_54, hy_54, hG⟩ := hG; replace hG := bind_some hG; obtain ⟨v_57, hy_57, hG⟩ := hG; refine qb ?_; refine qn 3 [] f0 [(30, B (!v_51))] ?_; refine sb 30 (nt h_52) ?_; refine qn 3 [] f0 [(33, B (decide (v_39 > 0)))] ?_; refine sb 33 (bt h_53) ?_; refine fx inf45 (gd' (RowC p_0_A p_0_c KWrite.cells tr p_0) 3) hy_54 fun b_55 o_56 hi_54 => ?_
       refine fx inf45 (gd' (RowC p_0_A p_0_c KWrite.cells tr p_0) 4) hy_57 fun b_58 o_59 hi_57 => ?_
       refine qa [(2, 0, 0, 0), (1, 1, 1, 0), (3, 0, 0, 0), (1, 1, 0, 0)] (fc (hi_54 .i64) (fc (hi_57 .i64) f0)) [(47, B (decide (v_54.Key ≤ v_57.Key)))] ?_; refine tN ?_; exact fun a w S hK hE => ⟨decide (v_54.Key ≤ v_57.Key), S, hK.wk, hE.sel [5], Option.some.inj hG⟩
      ·refine qb ?_; refine qn 3 [] f0 [(30, B (!v_51))] ?_; refine sb 30 (nt h_52) ?_; refine qn 3 [] f0 [(33, B (decide (v_39 > 0)))] ?_; refine sb 33 (bf h_53) ?_; refine qa [] f0 [(47, B false)] ?_; refine tN ?_; exact fun a w S hK hE => ⟨false, S, hK.wk, hE.sel [3], Option.some.inj hG⟩
     ·refine qb ?_; refine qn 3 [] f0 [(30, B (!v_51))] ?_; refine sb 30 (nf h_52) ?_; refine qa [] f0 [(47, B true)] ?_; refine tN ?_; exact fun a w S hK hE => ⟨true, S, hK.wk, hE.sel [3], Option.some.inj hG⟩
    ·rintro a w ⟨v_61, hJ⟩; refine hJ.go fun ho_ => ?_
     clear hJ; subst ho_; replace hG := hG_60
     try (simp only [un2, un3, un4, un5, un6, un7, un8, Sum.elim_inl, Sum.elim_inr, List.length_map, KCopyL.n_Log] at hG; replace hG : _ = _ := hG)
     rcases ifB_cases hG with ⟨h_62, hG⟩ | ⟨h_62, hG⟩
     ·refine sb 47 (bt h_62) ?_; refine ct ?_; refine sq ?_; refine rg ?_; refine ra [] f0 [(2, B false)] ?_; refine tN ?_; refine kR ?_; refine hR ?_; refine tR ?_; refine tR ?_; have he_ := hO2_40 _ (Option.some.inj hG).symm; subst he_; replace hG := hG_40
      try (simp only [un2, un3, un4, un5, un6, un7, un8, Sum.elim_inl, Sum.elim_inr, List.length_map, KCopyL.n_Log] at hG; replace hG : _ = _ := hG)
      refine hR ?_; refine tR ?_; obtain rfl := Option.some.inj hG; replace hG := hG_63
      try (simp only [un2, un3, un4, un5, un6, un7, un8, Sum.elim_inl, Sum.elim_inr, List.length_map, KCopyL.n_Log] at hG; replace hG : _ = _ := hG)
      obtain rfl := Option.some.inj hG; exact rt []
     ·refine sb 47 (bf h_62) ?_; refine cf ?_; refine kS ?_; refine hN ?_; refine tN ?_; refine rg ?_; refine ra [] f0 [(3, I (IntKind.i64.wrap (v_39 + 1)))] ?_; refine tN ?_; exact fun a w S hK hE => ⟨m_40, ⟨IntKind.i64.wrap (v_39 + 1), S, hK.wk, hE.sel [0], hO1_40 _ (Option.some.inj hG).symm⟩, Nat.lt_succ_self _⟩
   ·try simp only [List.length_map, KCopyL.n_Log] at h_41
    refine sb 8 (bf h_41) ?_; refine cf ?_; refine kX ?_; refine tX ?_; refine tX ?_; have he_ := hO2_40 _ (Option.some.inj hG).symm; subst he_; replace hG := hG_40
    try (simp only [un2, un3, un4, un5, un6, un7, un8, Sum.elim_inl, Sum.elim_inr, List.length_map, KCopyL.n_Log] at hG; replace hG : _ = _ := hG)
    refine hH ?_; refine tN ?_; exact fun a w S hK hE => ⟨S, hK.wk, hE.sel [0], Option.some.inj hG⟩
 ·rintro a w hJ; refine hJ.go fun ho_ => ?_
  clear hJ; subst ho_; replace hG := hG_63
  try (simp only [un2, un3, un4, un5, un6, un7, un8, Sum.elim_inl, Sum.elim_inr, List.length_map, KCopyL.n_Log] at hG; replace hG : _ = _ := hG)
  refine sq ?_; refine rg ?_; refine ra [] f0 [(2, B (decide (((p_0.length : Nat) : Int) ≤ 8)))] ?_; refine tN ?_; refine kR ?_; obtain rfl := Option.some.inj hG; exact rt []
def G_regulatorref38_Same (F : Nat) (p_0 : List KCopy) (p_1 : List KCopy) : Option (Bool) :=
  ifB ((((p_0.length : Nat) : Int) == ((p_1.length : Nat) : Int)))
    (Option.bind (Option.bind (iter (σ := Int) (ρ := Unit ⊕ Unit) (fun (v_39 : Int) => 
          (ifB (decide (v_39 < ((p_0.length : Nat) : Int)))
            (Option.bind (ixI p_0 v_39) (fun v_42 =>
            Option.bind (ixI p_1 v_39) (fun v_45 =>
            Option.bind (G_regulatorref38_SameLog F v_42.Log v_45.Log) (fun v_48 =>
            Option.bind (ifB (v_48)
                (Option.bind (ixI p_0 v_39) (fun v_50 =>
                Option.bind (ixI p_1 v_39) (fun v_53 =>
                some (!(v_50.ID == v_53.ID)))))
                (some true) : Option (Bool)) (fun (v_57 : Bool) => 
              ifB (v_57)
                (some (.inr (.inr ())))
                (some (.inl (IntKind.i64.wrap (v_39 + 1)))))))))
            (some (.inr (.inl ()))) : Option (Int ⊕ (Unit ⊕ Unit)))) F 0) (Sum.elim (fun (_ : Unit) => 
        some (.inl ())) (fun (_ : Unit) => 
        some (.inr ()))) : Option (Unit ⊕ Unit)) (Sum.elim (fun (_ : Unit) => 
      some true) (fun (_ : Unit) => 
      some false)))
    (some false)
set_option maxRecDepth 100000 in
set_option maxHeartbeats 16000000 in
theorem z_regulatorref38_Same (F : Nat) (p_0_A : Option Addr) (p_0_c : Nat) (p_0 : List KCopyL) (p_1_A : Option Addr) (p_1_c : Nat) (p_1 : List KCopyL) (r : Bool) (hG : G_regulatorref38_Same F (p_0.map KCopyL.p) (p_1.map KCopyL.p) = some r) :
  Cf Tryz.prog 16 [.slice p_0_A p_0.length p_0_c, .slice p_1_A p_1.length p_1_c] [RowC p_0_A p_0_c KCopyL.cells KCopyL.ok p_0, RowC p_1_A p_1_c KCopyL.cells KCopyL.ok p_1] (B r) := by
 unfold G_regulatorref38_Same at hG
 try (simp only [un2, un3, un4, un5, un6, un7, un8, Sum.elim_inl, Sum.elim_inr, List.length_map, KCopyL.n_Log] at hG; replace hG : _ = _ := hG)
 refine fi Tryz.func16 rfl rfl (mr KCopyL.mv (mr KCopyL.mv m0)) fun S0 w0 hT => ?_
 refine sq ?_; refine rg ?_; refine ra [] f0 [] ?_; refine tN ?_; refine sq ?_; refine sq ?_; refine rg ?_; refine ra [] f0 [(11, B (!(((p_0.length : Nat) : Int) == ((p_1.length : Nat) : Int))))] ?_; refine tN ?_; rcases ifB_cases hG with ⟨h_1, hG⟩ | ⟨h_1, hG⟩
 ·try simp only [List.length_map, KCopyL.n_Log] at h_1
  refine sb 11 (nt h_1) ?_; refine cf ?_; refine kS ?_; refine tN ?_; obtain ⟨o_59, hG, hG_59⟩ := bind_some hG; refine jn (fun K E a w => Js S0 w0 44 (K) (se E []) (.inl () = o_59) a w) ?_ ?_
  ·refine sq ?_; refine rg ?_; refine ra [] f0 [(5, I 0)] ?_; refine tN ?_; refine bk ?_; obtain ⟨e_40, hL, hG_40⟩ := bind_some hG; clear hG; obtain ⟨stp_40, hs_40, hL⟩ := iter_gen hL; refine lp (fun K E n_ a w => ∃ (v_39 : Int), Js S0 w0 44 ([(5, I v_39)] ++ K) (se E [0, 1]) (iter stp_40 n_ v_39 = some e_40) a w) F ?_ ?_
   ·exact fun a w S hK hE => ⟨0, S, hK.wk, hE.sel [0, 1], hL⟩
   ·clear hL; rintro n_40 a w ⟨v_39, hJ⟩; refine hJ.go fun hL => ?_
    clear hJ; obtain ⟨m_40, o_40, rfl, hG, hO1_40, hO2_40⟩ := iter_step hL; clear hL; rw [hs_40] at hG
    try (simp only [un2, un3, un4, un5, un6, un7, un8, Sum.elim_inl, Sum.elim_inr, List.length_map, KCopyL.n_Log] at hG; replace hG : _ = _ := hG)
    refine sq ?_; refine sq ?_; refine rg ?_; refine ra [] f0 [(15, B (decide (v_39 < ((p_0.length : Nat) : Int))))] ?_; refine tN ?_; rcases ifB_cases hG with ⟨h_41, hG⟩ | ⟨h_41, hG⟩
    ·try simp only [List.length_map, KCopyL.n_Log] at h_41
     refine sb 15 (bt h_41) ?_; refine ct ?_; refine kS ?_; refine tN ?_; refine sq ?_; refine bk ?_; refine sq ?_; replace hG := bind_some hG; obtain ⟨v_42o, hy_42, hG⟩ := hG; replace hG := bind_some hG; obtain ⟨v_45o, hy_45, hG⟩ := hG; replace hG := bind_some hG; obtain ⟨v_48, hy_48, hG⟩ := hG; refine qb ?_; refine fxn (p := KCopyL.p) inf22 (gd' (RowC p_0_A p_0_c KCopyL.cells KCopyL.ok p_0) 0) hy_42 fun v_42 b_43 o_44 he_42 hi_42 => ?_
     subst he_42
     try (simp only [un2, un3, un4, un5, un6, un7, un8, Sum.elim_inl, Sum.elim_inr, List.length_map, KCopyL.n_Log] at hG; replace hG : _ = _ := hG)
     refine fxn (p := KCopyL.p) inf22 (gd' (RowC p_1_A p_1_c KCopyL.cells KCopyL.ok p_1) 3) hy_45 fun v_45 b_46 o_47 he_45 hi_45 => ?_
     subst he_45
     try (simp only [un2, un3, un4, un5, un6, un7, un8, Sum.elim_inl, Sum.elim_inr, List.length_map, KCopyL.n_Log] at hG; replace hG : _ = _ := hG)
     refine qn 10 [(2, 0, 0, 0), (1, 1, 2, 1), (2, 0, 0, 0), (1, 1, 0, 1)] (fc (hi_42 .i64) (fc (hi_45 .i64) f0)) [(22, .slice v_42.Log_A v_42.Log.length v_42.Log_c), (27, .slice v_45.Log_A v_45.Log.length v_45.Log_c)] ?_; refine qc 28 (z_regulatorref38_SameLog F v_42.Log_A v_42.Log_c v_42.Log v_45.Log_A v_45.Log_c v_45.Log _ hy_48) hT ⟨(gm (KCopyL.ok v_42) 3 fun _ _ h => h.f_Log).a, (gm (KCopyL.ok v_45) 1 fun _ _ h => h.f_Log).a, trivial⟩ ?_; refine qa [] f0 [(6, B v_48)] ?_; refine tN ?_; obtain ⟨o_56, hG, hG_56⟩ := bind_some hG; refine jn (fun K E a w => ∃ (v_57 : Bool), Js S0 w0 44 ([(43, B v_57)] ++ K) (se E [4, 5]) (v_57 = o_56) a w) ?_ ?_
     ·replace hG := ifB_cases hG; rcases hG with ⟨h_49, hG⟩ | ⟨h_49, hG⟩
      ·replace hG := bind_some hG; obtain ⟨v_50o, hy_50, hG⟩ := hG; replace hG := bind_some hG; obtain ⟨v_53o, hy_53, hG⟩ := hG; refine qb ?_; refine qn 3 [] f0 [(31, B (!v_48))] ?_; refine sb 31 (nt h_49) ?_; refine fxn (p := KCopyL.p) inf22 (gd' (RowC p_0_A p_0_c KCopyL.cells KCopyL.ok p_0) 4) hy_50 fun v_50 b_51 o_52 he_50 hi_50 => ?_
       subst he_50
       try (simp only [un2, un3, un4, un5, un6, un7, un8, Sum.elim_inl, Sum.elim_inr, List.length_map, KCopyL.n_Log] at hG; replace hG : _ = _ := hG)
       refine fxn (p := KCopyL.p) inf22 (gd' (RowC p_1_A p_1_c KCopyL.cells KCopyL.ok p_1) 7) hy_53 fun v_53 b_54 o_55 he_53 hi_53 => ?_
       subst he_53
       try (simp only [un2, un3, un4, un5, un6, un7, un8, Sum.elim_inl, Sum.elim_inr, List.length_map, KCopyL.n_Log] at hG; replace hG : _ = _ := hG)
       refine qa [(2, 0, 0, 0), (1, 1, 2, 0), (2, 0, 0, 0), (1, 1, 0, 0)] (fc (hi_50 .i64) (fc (hi_53 .i64) f0)) [(43, B (!(v_50.ID == v_53.ID)))] ?_; refine tN ?_; exact fun a w S hK hE => ⟨!(v_50.ID == v_53.ID), S, hK.wk, hE.sel [8, 9], Option.some.inj hG⟩
      ·refine qb ?_; refine qn 3 [] f0 [(31, B (!v_48))] ?_; refine sb 31 (nf h_49) ?_; refine qa [] f0 [(43, B true)] ?_; refine tN ?_; exact fun a w S hK hE => ⟨true, S, hK.wk, hE.sel [4, 5], Option.some.inj hG⟩
     ·rintro a w ⟨v_57, hJ⟩; refine hJ.go fun ho_ => ?_
      clear hJ; subst ho_; replace hG := hG_56
      try (simp only [un2, un3, un4, un5, un6, un7, un8, Sum.elim_inl, Sum.elim_inr, List.length_map, KCopyL.n_Log] at hG; replace hG : _ = _ := hG)
      rcases ifB_cases hG with ⟨h_58, hG⟩ | ⟨h_58, hG⟩
      ·refine sb 43 (bt h_58) ?_; refine ct ?_; refine sq ?_; refine rg ?_; refine ra [] f0 [(4, B false)] ?_; refine tN ?_; refine kR ?_; refine hR ?_; refine tR ?_; refine tR ?_; have he_ := hO2_40 _ (Option.some.inj hG).symm; subst he_; replace hG := hG_40
       try (simp only [un2, un3, un4, un5, un6, un7, un8, Sum.elim_inl, Sum.elim_inr, List.length_map, KCopyL.n_Log] at hG; replace hG : _ = _ := hG)
       refine hR ?_; refine tR ?_; obtain rfl := Option.some.inj hG; replace hG := hG_59
       try (simp only [un2, un3, un4, un5, un6, un7, un8, Sum.elim_inl, Sum.elim_inr, List.length_map, KCopyL.n_Log] at hG; replace hG : _ = _ := hG)
       obtain rfl := Option.some.inj hG; exact rt []
      ·refine sb 43 (bf h_58) ?_; refine cf ?_; refine kS ?_; refine hN ?_; refine tN ?_; refine rg ?_; refine ra [] f0 [(5, I (IntKind.i64.wrap (v_39 + 1)))] ?_; refine tN ?_; exact fun a w S hK hE => ⟨m_40, ⟨IntKind.i64.wrap (v_39 + 1), S, hK.wk, hE.sel [0, 1], hO1_40 _ (Option.some.inj hG).symm⟩, Nat.lt_succ_self _⟩
    ·try simp only [List.length_map, KCopyL.n_Log] at h_41
     refine sb 15 (bf h_41) ?_; refine cf ?_; refine kX ?_; refine tX ?_; refine tX ?_; have he_ := hO2_40 _ (Option.some.inj hG).symm; subst he_; replace hG := hG_40
     try (simp only [un2, un3, un4, un5, un6, un7, un8, Sum.elim_inl, Sum.elim_inr, List.length_map, KCopyL.n_Log] at hG; replace hG : _ = _ := hG)
     refine hH ?_; refine tN ?_; exact fun a w S hK hE => ⟨S, hK.wk, hE.sel [], Option.some.inj hG⟩
  ·rintro a w hJ; refine hJ.go fun ho_ => ?_
   clear hJ; subst ho_; replace hG := hG_59
   try (simp only [un2, un3, un4, un5, un6, un7, un8, Sum.elim_inl, Sum.elim_inr, List.length_map, KCopyL.n_Log] at hG; replace hG : _ = _ := hG)
   refine sq ?_; refine rg ?_; refine ra [] f0 [(4, B true)] ?_; refine tN ?_; refine kR ?_; obtain rfl := Option.some.inj hG; exact rt []
 ·try simp only [List.length_map, KCopyL.n_Log] at h_1
  refine sb 11 (nf h_1) ?_; refine ct ?_; refine sq ?_; refine rg ?_; refine ra [] f0 [(4, B false)] ?_; refine tN ?_; refine kR ?_; refine tR ?_; obtain rfl := Option.some.inj hG; exact rt []
end Go.Proofs.YtkchfmhgboiimaaGreat
namespace Go.Proofs.YtkchfmhgboiimaaGreat
open Go.RowKit Go.Maps
def G_copies_Valid (F : Nat) (p_0 : List KCopy) : Option (Bool) :=
  Option.bind (ifB ((((p_0.length : Nat) : Int) == 0))
      (some true)
      (ifB (decide (((p_0.length : Nat) : Int) > 7))
        (some true)
        (Option.bind (Option.bind (Option.bind (iter (σ := Int × Int) (ρ := Unit ⊕ Unit) (un2 fun (v_21 : Int) (v_22 : Int) => 
                (ifB (decide (v_21 < ((p_0.length : Nat) : Int)))
                  (Option.bind (ixI p_0 v_21) (fun v_25 =>
                  Option.bind (G_copies_id F v_25) (fun v_29 =>
                  ifB (decide (v_29 ≤ v_22))
                    (some (.inr (.inr ())))
                    (Option.bind (G_copies_id F v_25) (fun v_31 =>
                    some (.inl (IntKind.i64.wrap (v_21 + 1), v_31)))))))
                  (some (.inr (.inl ()))) : Option ((Int × Int) ⊕ (Unit ⊕ Unit)))) F (0, 0)) (Sum.elim (fun (_ : Unit) => 
              some (.inl ())) (fun (_ : Unit) => 
              some (.inr ()))) : Option (Unit ⊕ Unit)) (Sum.elim (fun (_ : Unit) => 
            some true) (fun (_ : Unit) => 
            some false)) : Option (Bool)) (fun (v_33 : Bool) => 
          ifB (v_33)
            (Option.bind (ixI p_0 (IntKind.i64.wrap (((p_0.length : Nat) : Int) - 1))) (fun v_36 =>
            some (decide (v_36.ID > 64))))
            (some true)))) : Option (Bool)) (fun (v_100 : Bool) => 
    ifB (v_100)
      (some false)
      (Option.bind (ifB (decide (((p_0.length : Nat) : Int) < 1))
          (none)
          (Option.bind (ixI p_0 0) (fun v_104 =>
          Option.bind (Option.bind (iter (σ := Int × (List KTx) × Int) (ρ := (Int × (List KTx))) (un3 fun (v_141 : Int) (v_142 : (List KTx)) (v_145 : Int) => 
                (ifB (decide (v_145 < ((p_0.length : Nat) : Int)))
                  (Option.bind (Option.bind (ixI p_0 v_145) (fun v_148 =>
                    Option.bind (G_copies_Valid_1 F v_148 (⟨v_141, v_142⟩ : KCopy)) (fun v_151 =>
                    ifB (decide (v_151 > 0))
                      (Option.bind (ixI p_0 v_145) (fun v_153 =>
                      some (v_153.ID, v_153.Log)))
                      (some (v_141, v_142)))) : Option ((Int × (List KTx)))) (un2 fun (v_157 : Int) (v_158 : (List KTx)) => 
                    some (.inl (v_157, v_158, IntKind.i64.wrap (v_145 + 1)))))
                  (some (.inr (v_141, v_142))) : Option ((Int × (List KTx) × Int) ⊕ (Int × (List KTx))))) F (v_104.ID, v_104.Log, 1)) (un2 fun (v_161 : Int) (v_162 : (List KTx)) => 
              some (v_161, v_162)) : Option ((Int × (List KTx)))) (un2 fun (v_166 : Int) (v_167 : (List KTx)) => 
            some (v_166, v_167)))) : Option ((Int × (List KTx)))) (un2 fun (v_170 : Int) (v_171 : (List KTx)) => 
        Option.bind (ifB (decide (((v_171.length : Nat) : Int) ≤ 2000))
            (Option.bind (Option.bind (Option.bind (Option.bind (iter (σ := Int) (ρ := Unit ⊕ Int) (fun (v_258 : Int) => 
                      (ifB (decide (v_258 < ((v_171.length : Nat) : Int)))
                        (Option.bind (ixI v_171 v_258) (fun v_261 =>
                        Option.bind (G_copies_wrong F v_261) (fun v_264 =>
                        ifB (v_264)
                          (some (.inr (.inr v_258)))
                          (some (.inl (IntKind.i64.wrap (v_258 + 1)))))))
                        (some (.inr (.inl ()))) : Option (Int ⊕ (Unit ⊕ Int)))) F 0) (Sum.elim (fun (_ : Unit) => 
                    some (.inl ())) (fun (v_266 : Int) => 
                    some (.inr v_266))) : Option (Unit ⊕ Int)) (Sum.elim (fun (_ : Unit) => 
                  some (-1)) (fun (v_268 : Int) => 
                  some v_268)) : Option (Int)) (fun (v_269 : Int) => 
                some (decide (v_269 ≥ 0))) : Option (Bool)) (fun (v_295 : Bool) => 
              ifB (v_295)
                (some false)
                (Option.bind (Option.bind (Option.bind (iter (σ := Int × Int) (ρ := Unit ⊕ Unit) (un2 fun (v_316 : Int) (v_317 : Int) => 
                        (ifB (decide (v_316 < ((v_171.length : Nat) : Int)))
                          (Option.bind (ixI v_171 v_316) (fun v_320 =>
                          Option.bind (G_copies_Valid_3 F v_320) (fun v_324 =>
                          ifB (decide (v_324 ≤ v_317))
                            (some (.inr (.inr ())))
                            (Option.bind (G_copies_Valid_3 F v_320) (fun v_326 =>
                            some (.inl (IntKind.i64.wrap (v_316 + 1), v_326)))))))
                          (some (.inr (.inl ()))) : Option ((Int × Int) ⊕ (Unit ⊕ Unit)))) F (0, 0)) (Sum.elim (fun (_ : Unit) => 
                      some (.inl ())) (fun (_ : Unit) => 
                      some (.inr ()))) : Option (Unit ⊕ Unit)) (Sum.elim (fun (_ : Unit) => 
                    some true) (fun (_ : Unit) => 
                    some false)) : Option (Bool)) (fun (v_328 : Bool) => 
                  ifB (v_328)
                    (Option.bind (Option.bind (Option.bind (Option.bind (iter (σ := Int) (ρ := Unit ⊕ Int) (fun (v_670 : Int) => 
                              (ifB (decide (v_670 < ((p_0.length : Nat) : Int)))
                                (Option.bind (ixI p_0 v_670) (fun v_673 =>
                                Option.bind (Option.bind (G_copies_size F v_673) (fun v_677 =>
                                  Option.bind (slI v_171 0 v_677) (fun v_678 =>
                                  Option.bind (ifB ((((v_673.Log.length : Nat) : Int) == ((v_678.length : Nat) : Int)))
                                      (Option.bind (Option.bind (iter (σ := Int) (ρ := Unit ⊕ Unit) (fun (v_703 : Int) => 
                                            (ifB (decide (v_703 < ((v_673.Log.length : Nat) : Int)))
                                              (Option.bind (ixI v_673.Log v_703) (fun v_706 =>
                                              Option.bind (ixI v_678 v_703) (fun v_710 =>
                                              Option.bind (G_copies_equal F v_706 v_710) (fun v_714 =>
                                              ifB (v_714)
                                                (some (.inl (IntKind.i64.wrap (v_703 + 1))))
                                                (some (.inr (.inr ())))))))
                                              (some (.inr (.inl ()))) : Option (Int ⊕ (Unit ⊕ Unit)))) F 0) (Sum.elim (fun (_ : Unit) => 
                                          some (.inl ())) (fun (_ : Unit) => 
                                          some (.inr ()))) : Option (Unit ⊕ Unit)) (Sum.elim (fun (_ : Unit) => 
                                        some true) (fun (_ : Unit) => 
                                        some false)))
                                      (some false) : Option (Bool)) (fun (v_717 : Bool) => 
                                    some (!v_717)))) : Option (Bool)) (fun (v_757 : Bool) => 
                                  ifB (v_757)
                                    (some (.inr (.inr v_670)))
                                    (some (.inl (IntKind.i64.wrap (v_670 + 1)))))))
                                (some (.inr (.inl ()))) : Option (Int ⊕ (Unit ⊕ Int)))) F 0) (Sum.elim (fun (_ : Unit) => 
                            some (.inl ())) (fun (v_841 : Int) => 
                            some (.inr v_841))) : Option (Unit ⊕ Int)) (Sum.elim (fun (_ : Unit) => 
                          some (-1)) (fun (v_843 : Int) => 
                          some v_843)) : Option (Int)) (fun (v_844 : Int) => 
                        some (decide (v_844 ≥ 0))) : Option (Bool)) (fun (v_1359 : Bool) => 
                      some (!v_1359)))
                    (some false)))))
            (some false) : Option (Bool)) (fun (v_2600 : Bool) => 
          some v_2600))))
set_option maxRecDepth 100000 in
set_option maxHeartbeats 16000000 in
theorem z_copies_Valid (F : Nat) (p_0_A : Option Addr) (p_0_c : Nat) (p_0 : List KCopyL) (r : Bool) (hG : G_copies_Valid F (p_0.map KCopyL.p) = some r) :
  Cf Tryz.prog 14 [.slice p_0_A p_0.length p_0_c] [RowC p_0_A p_0_c KCopyL.cells KCopyL.ok p_0] (B r) := by
 unfold G_copies_Valid at hG
 try (simp only [un2, un3, un4, un5, un6, un7, un8, Sum.elim_inl, Sum.elim_inr, List.length_map, KCopyL.n_Log] at hG; replace hG : _ = _ := hG)
 refine fi Tryz.func14 rfl rfl (mr KCopyL.mv m0) fun S0 w0 hT => ?_
 refine sq ?_; refine rg ?_; refine ra [] f0 [] ?_; refine tN ?_; refine sq ?_; obtain ⟨o_99, hG, hG_99⟩ := bind_some hG; refine jn (fun K E a w => ∃ (v_100 : Bool), Js S0 w0 50 ([(27, B v_100)] ++ K) (se E [0]) (v_100 = o_99) a w) ?_ ?_
 ·replace hG := ifB_cases hG; rcases hG with ⟨h_1, hG⟩ | ⟨h_1, hG⟩
  ·refine rg ?_; refine rn 4 [] f0 [(8, B (((p_0.length : Nat) : Int) == 0))] ?_
   try simp only [List.length_map, KCopyL.n_Log] at h_1
   refine sb 8 (bt h_1) ?_; refine ra [] f0 [(27, B true)] ?_; refine tN ?_; exact fun a w S hK hE => ⟨true, S, hK.wk, hE.sel [0], Option.some.inj hG⟩
  ·replace hG := ifB_cases hG; rcases hG with ⟨h_2, hG⟩ | ⟨h_2, hG⟩
   ·refine rg ?_; refine rn 4 [] f0 [(8, B (((p_0.length : Nat) : Int) == 0))] ?_
    try simp only [List.length_map, KCopyL.n_Log] at h_1
    refine sb 8 (bf h_1) ?_; refine rn 5 [] f0 [(13, B (decide (((p_0.length : Nat) : Int) > 7)))] ?_
    try simp only [List.length_map, KCopyL.n_Log] at h_2
    refine sb 13 (bt h_2) ?_; refine ra [] f0 [(27, B true)] ?_; refine tN ?_; exact fun a w S hK hE => ⟨true, S, hK.wk, hE.sel [0], Option.some.inj hG⟩
   ·replace hG := bind_some hG; obtain ⟨v_33o, hy_34, hG⟩ := hG; replace hG := ifB_cases hG; rcases hG with ⟨h_35, hG⟩ | ⟨h_35, hG⟩
    ·replace hG := bind_some hG; obtain ⟨v_36o, hy_36, hG⟩ := hG; refine rg ?_; refine rn 4 [] f0 [(8, B (((p_0.length : Nat) : Int) == 0))] ?_
     try simp only [List.length_map, KCopyL.n_Log] at h_1
     refine sb 8 (bf h_1) ?_; refine rn 5 [] f0 [(13, B (decide (((p_0.length : Nat) : Int) > 7)))] ?_
     try simp only [List.length_map, KCopyL.n_Log] at h_2
     refine sb 13 (bf h_2) ?_; refine rn 1 [] f0 [(14, .slice p_0_A p_0.length p_0_c)] ?_; refine l1 ?_; refine ci 15 (args := [.slice p_0_A p_0.length p_0_c, .func (.func 34) #[] #[]]) (fun E e w => ∃ (v_33 : Bool), Rs S0 w0 (B v_33) (se E [0]) (v_33 = v_33o) e w) Tryz.func33 rfl rfl ?_ ?_
     ·replace hG := hy_34
      try (simp only [un2, un3, un4, un5, un6, un7, un8, Sum.elim_inl, Sum.elim_inr, List.length_map, KCopyL.n_Log] at hG; replace hG : _ = _ := hG)
      refine sq ?_; refine rg ?_; refine ra [] f0 [] ?_; refine tN ?_; refine sq ?_; refine rg ?_; refine ra [] f0 [(5, I 0)] ?_; refine tN ?_; obtain ⟨o_68, hG, hG_68⟩ := bind_some hG; refine jn (fun K E a w => Js S0 w0 23 (dk [5] K) (se E [0]) (.inl () = o_68) a w) ?_ ?_
      ·refine sq ?_; refine rg ?_; refine ra [] f0 [(8, .slice p_0_A p_0.length p_0_c), (9, I ((p_0.length : Nat) : Int)), (10, I 0)] ?_; refine tN ?_; refine bk ?_; obtain ⟨e_59, hL, hG_59⟩ := bind_some hG; clear hG; obtain ⟨stp_59, hs_59, hL⟩ := iter_gen hL; refine lp (fun K E n_ a w => ∃ (v_57 : Int), ∃ (v_58 : Int), Js S0 w0 23 ([(5, I v_58), (10, I v_57)] ++ K) (se E [0]) (iter stp_59 n_ (v_57, v_58) = some e_59) a w) F ?_ ?_
       ·exact fun a w S hK hE => ⟨0, 0, S, hK.wk, hE.sel [0], hL⟩
       ·clear hL; rintro n_59 a w ⟨v_57, v_58, hJ⟩; refine hJ.go fun hL => ?_
        clear hJ; obtain ⟨m_59, o_59, rfl, hG, hO1_59, hO2_59⟩ := iter_step hL; clear hL; rw [hs_59] at hG
        try (simp only [un2, un3, un4, un5, un6, un7, un8, Sum.elim_inl, Sum.elim_inr, List.length_map, KCopyL.n_Log] at hG; replace hG : _ = _ := hG)
        refine sq ?_; refine rg ?_; refine ra [] f0 [(11, B (decide (v_57 < ((p_0.length : Nat) : Int))))] ?_; refine tN ?_; refine sq ?_; rcases ifB_cases hG with ⟨h_60, hG⟩ | ⟨h_60, hG⟩
        ·try simp only [List.length_map, KCopyL.n_Log] at h_60
         refine sb 11 (bt h_60) ?_; refine ct ?_; refine kS ?_; refine tN ?_; refine sq ?_; refine bk ?_; refine sq ?_; replace hG := bind_some hG; obtain ⟨v_61o, hy_61, hG⟩ := hG; refine rg ?_; refine fxn (p := KCopyL.p) inf22 (gd' (RowC p_0_A p_0_c KCopyL.cells KCopyL.ok p_0) 0) hy_61 fun v_61 b_62 o_63 he_61 hi_61 => ?_
         subst he_61
         try (simp only [un2, un3, un4, un5, un6, un7, un8, Sum.elim_inl, Sum.elim_inr, List.length_map, KCopyL.n_Log] at hG; replace hG : _ = _ := hG)
         refine rn 2 [(0, 0, 0, 0), (0, 2, 0, 0)] (fc (hi_61 .i64) f0) [(13, .agg #[I v_61.ID, .slice v_61.Log_A v_61.Log.length v_61.Log_c])] ?_; refine l1 ?_; refine nw 7 vp [I 0, .slice none 0 0] 40 fun g_64 => ?_
         refine l1 ?_; refine sr 0 g_64 [(0, I v_61.ID), (1, .slice v_61.Log_A v_61.Log.length v_61.Log_c)] ?_; refine nl ?_; refine tN ?_; refine sq ?_; refine sq ?_; replace hG := bind_some hG; obtain ⟨v_65, hy_65, hG⟩ := hG; refine rg ?_; refine rn 2 [(1, 2, 0, 0)] f0 [(14, .func (.func 34) #[] #[]), (15, .agg #[I v_61.ID, .slice v_61.Log_A v_61.Log.length v_61.Log_c])] ?_; refine l1 ?_; refine cl 16 (z_copies_id F v_61 _ hy_65) hT ⟨(gi 2).a, trivial⟩ ?_; refine ra [] f0 [(18, B (decide (v_65 ≤ v_58)))] ?_; refine tN ?_; rcases ifB_cases hG with ⟨h_66, hG⟩ | ⟨h_66, hG⟩
         ·refine sb 18 (bt h_66) ?_; refine ct ?_; refine sq ?_; refine rg ?_; refine ra [] f0 [(4, B false)] ?_; refine tN ?_; refine kR ?_; refine tR ?_; refine hR ?_; refine tR ?_; refine tR ?_; have he_ := hO2_59 _ (Option.some.inj hG).symm; subst he_; replace hG := hG_59
          try (simp only [un2, un3, un4, un5, un6, un7, un8, Sum.elim_inl, Sum.elim_inr, List.length_map, KCopyL.n_Log] at hG; replace hG : _ = _ := hG)
          refine hR ?_; refine tR ?_; obtain rfl := Option.some.inj hG; replace hG := hG_68
          try (simp only [un2, un3, un4, un5, un6, un7, un8, Sum.elim_inl, Sum.elim_inr, List.length_map, KCopyL.n_Log] at hG; replace hG : _ = _ := hG)
          refine ri [] (B false) ?_; exact fun a w S hK hE => ⟨false, rfl, ⟨S, hE.sel [3]⟩, Option.some.inj hG⟩
         ·refine sb 18 (bf h_66) ?_; refine cf ?_; refine kS ?_; refine tN ?_; replace hG := bind_some hG; obtain ⟨v_67, hy_67, hG⟩ := hG; refine rg ?_; refine rn 2 [(1, 2, 0, 0)] f0 [(19, .func (.func 34) #[] #[]), (20, .agg #[I v_61.ID, .slice v_61.Log_A v_61.Log.length v_61.Log_c])] ?_; refine l1 ?_; refine cl 21 (z_copies_id F v_61 _ hy_67) hT ⟨(gi 2).a, trivial⟩ ?_; refine ra [] f0 [(5, I v_67)] ?_; refine hN ?_; refine tN ?_; refine rg ?_; refine ra [] f0 [(10, I (IntKind.i64.wrap (v_57 + 1)))] ?_; refine tN ?_; exact fun a w S hK hE => ⟨m_59, ⟨IntKind.i64.wrap (v_57 + 1), v_67, S, hK.wk, hE.sel [3], hO1_59 _ (Option.some.inj hG).symm⟩, Nat.lt_succ_self _⟩
        ·try simp only [List.length_map, KCopyL.n_Log] at h_60
         refine sb 11 (bf h_60) ?_; refine cf ?_; refine kX ?_; refine tX ?_; refine tX ?_; have he_ := hO2_59 _ (Option.some.inj hG).symm; subst he_; replace hG := hG_59
         try (simp only [un2, un3, un4, un5, un6, un7, un8, Sum.elim_inl, Sum.elim_inr, List.length_map, KCopyL.n_Log] at hG; replace hG : _ = _ := hG)
         refine hH ?_; refine tN ?_; exact fun a w S hK hE => ⟨S, hK.wk, hE.sel [0], Option.some.inj hG⟩
      ·rintro a w hJ; refine hJ.go fun ho_ => ?_
       clear hJ; subst ho_; replace hG := hG_68
       try (simp only [un2, un3, un4, un5, un6, un7, un8, Sum.elim_inl, Sum.elim_inr, List.length_map, KCopyL.n_Log] at hG; replace hG : _ = _ := hG)
       refine sq ?_; refine rg ?_; refine ra [] f0 [(4, B true)] ?_; refine tN ?_; refine kR ?_; refine ri [] (B true) ?_; exact fun a w S hK hE => ⟨true, rfl, ⟨S, hE.sel [0]⟩, Option.some.inj hG⟩
     ·rintro e w ⟨v_33, hJ⟩; refine hJ.go fun ho_ => ?_
      clear hJ; subst ho_
      try (simp only [un2, un3, un4, un5, un6, un7, un8, Sum.elim_inl, Sum.elim_inr, List.length_map, KCopyL.n_Log] at hG; replace hG : _ = _ := hG)
      refine rn 3 [] f0 [(18, B (!v_33))] ?_; refine sb 18 (nt h_35) ?_; refine fxn (p := KCopyL.p) inf22 (gd' (RowC p_0_A p_0_c KCopyL.cells KCopyL.ok p_0) 0) hy_36 fun v_36 b_37 o_38 he_36 hi_36 => ?_
      subst he_36
      try (simp only [un2, un3, un4, un5, un6, un7, un8, Sum.elim_inl, Sum.elim_inr, List.length_map, KCopyL.n_Log] at hG; replace hG : _ = _ := hG)
      refine ra [(4, 0, 0, 0), (1, 1, 0, 0)] (fc (hi_36 .i64) f0) [(27, B (decide (v_36.ID > 64)))] ?_; refine tN ?_; exact fun a w S hK hE => ⟨decide (v_36.ID > 64), S, hK.wk, hE.sel [2], Option.some.inj hG⟩
    ·refine rg ?_; refine rn 4 [] f0 [(8, B (((p_0.length : Nat) : Int) == 0))] ?_
     try simp only [List.length_map, KCopyL.n_Log] at h_1
     refine sb 8 (bf h_1) ?_; refine rn 5 [] f0 [(13, B (decide (((p_0.length : Nat) : Int) > 7)))] ?_
     try simp only [List.length_map, KCopyL.n_Log] at h_2
     refine sb 13 (bf h_2) ?_; refine rn 1 [] f0 [(14, .slice p_0_A p_0.length p_0_c)] ?_; refine l1 ?_; refine ci 15 (args := [.slice p_0_A p_0.length p_0_c, .func (.func 34) #[] #[]]) (fun E e w => ∃ (v_33 : Bool), Rs S0 w0 (B v_33) (se E [0]) (v_33 = v_33o) e w) Tryz.func33 rfl rfl ?_ ?_
     ·replace hG := hy_34
      try (simp only [un2, un3, un4, un5, un6, un7, un8, Sum.elim_inl, Sum.elim_inr, List.length_map, KCopyL.n_Log] at hG; replace hG : _ = _ := hG)
      refine sq ?_; refine rg ?_; refine ra [] f0 [] ?_; refine tN ?_; refine sq ?_; refine rg ?_; refine ra [] f0 [(5, I 0)] ?_; refine tN ?_; obtain ⟨o_98, hG, hG_98⟩ := bind_some hG; refine jn (fun K E a w => Js S0 w0 23 (dk [5] K) (se E [0]) (.inl () = o_98) a w) ?_ ?_
      ·refine sq ?_; refine rg ?_; refine ra [] f0 [(8, .slice p_0_A p_0.length p_0_c), (9, I ((p_0.length : Nat) : Int)), (10, I 0)] ?_; refine tN ?_; refine bk ?_; obtain ⟨e_89, hL, hG_89⟩ := bind_some hG; clear hG; obtain ⟨stp_89, hs_89, hL⟩ := iter_gen hL; refine lp (fun K E n_ a w => ∃ (v_87 : Int), ∃ (v_88 : Int), Js S0 w0 23 ([(5, I v_88), (10, I v_87)] ++ K) (se E [0]) (iter stp_89 n_ (v_87, v_88) = some e_89) a w) F ?_ ?_
       ·exact fun a w S hK hE => ⟨0, 0, S, hK.wk, hE.sel [0], hL⟩
       ·clear hL; rintro n_89 a w ⟨v_87, v_88, hJ⟩; refine hJ.go fun hL => ?_
        clear hJ; obtain ⟨m_89, o_89, rfl, hG, hO1_89, hO2_89⟩ := iter_step hL; clear hL; rw [hs_89] at hG
        try (simp only [un2, un3, un4, un5, un6, un7, un8, Sum.elim_inl, Sum.elim_inr, List.length_map, KCopyL.n_Log] at hG; replace hG : _ = _ := hG)
        refine sq ?_; refine rg ?_; refine ra [] f0 [(11, B (decide (v_87 < ((p_0.length : Nat) : Int))))] ?_; refine tN ?_; refine sq ?_; rcases ifB_cases hG with ⟨h_90, hG⟩ | ⟨h_90, hG⟩
        ·try simp only [List.length_map, KCopyL.n_Log] at h_90
         refine sb 11 (bt h_90) ?_; refine ct ?_; refine kS ?_; refine tN ?_; refine sq ?_; refine bk ?_; refine sq ?_; replace hG := bind_some hG; obtain ⟨v_91o, hy_91, hG⟩ := hG; refine rg ?_; refine fxn (p := KCopyL.p) inf22 (gd' (RowC p_0_A p_0_c KCopyL.cells KCopyL.ok p_0) 0) hy_91 fun v_91 b_92 o_93 he_91 hi_91 => ?_
         subst he_91
         try (simp only [un2, un3, un4, un5, un6, un7, un8, Sum.elim_inl, Sum.elim_inr, List.length_map, KCopyL.n_Log] at hG; replace hG : _ = _ := hG)
         refine rn 2 [(0, 0, 0, 0), (0, 2, 0, 0)] (fc (hi_91 .i64) f0) [(13, .agg #[I v_91.ID, .slice v_91.Log_A v_91.Log.length v_91.Log_c])] ?_; refine l1 ?_; refine nw 7 vp [I 0, .slice none 0 0] 40 fun g_94 => ?_
         refine l1 ?_; refine sr 0 g_94 [(0, I v_91.ID), (1, .slice v_91.Log_A v_91.Log.length v_91.Log_c)] ?_; refine nl ?_; refine tN ?_; refine sq ?_; refine sq ?_; replace hG := bind_some hG; obtain ⟨v_95, hy_95, hG⟩ := hG; refine rg ?_; refine rn 2 [(1, 2, 0, 0)] f0 [(14, .func (.func 34) #[] #[]), (15, .agg #[I v_91.ID, .slice v_91.Log_A v_91.Log.length v_91.Log_c])] ?_; refine l1 ?_; refine cl 16 (z_copies_id F v_91 _ hy_95) hT ⟨(gi 2).a, trivial⟩ ?_; refine ra [] f0 [(18, B (decide (v_95 ≤ v_88)))] ?_; refine tN ?_; rcases ifB_cases hG with ⟨h_96, hG⟩ | ⟨h_96, hG⟩
         ·refine sb 18 (bt h_96) ?_; refine ct ?_; refine sq ?_; refine rg ?_; refine ra [] f0 [(4, B false)] ?_; refine tN ?_; refine kR ?_; refine tR ?_; refine hR ?_; refine tR ?_; refine tR ?_; have he_ := hO2_89 _ (Option.some.inj hG).symm; subst he_; replace hG := hG_89
          try (simp only [un2, un3, un4, un5, un6, un7, un8, Sum.elim_inl, Sum.elim_inr, List.length_map, KCopyL.n_Log] at hG; replace hG : _ = _ := hG)
          refine hR ?_; refine tR ?_; obtain rfl := Option.some.inj hG; replace hG := hG_98
          try (simp only [un2, un3, un4, un5, un6, un7, un8, Sum.elim_inl, Sum.elim_inr, List.length_map, KCopyL.n_Log] at hG; replace hG : _ = _ := hG)
          refine ri [] (B false) ?_; exact fun a w S hK hE => ⟨false, rfl, ⟨S, hE.sel [3]⟩, Option.some.inj hG⟩
         ·refine sb 18 (bf h_96) ?_; refine cf ?_; refine kS ?_; refine tN ?_; replace hG := bind_some hG; obtain ⟨v_97, hy_97, hG⟩ := hG; refine rg ?_; refine rn 2 [(1, 2, 0, 0)] f0 [(19, .func (.func 34) #[] #[]), (20, .agg #[I v_91.ID, .slice v_91.Log_A v_91.Log.length v_91.Log_c])] ?_; refine l1 ?_; refine cl 21 (z_copies_id F v_91 _ hy_97) hT ⟨(gi 2).a, trivial⟩ ?_; refine ra [] f0 [(5, I v_97)] ?_; refine hN ?_; refine tN ?_; refine rg ?_; refine ra [] f0 [(10, I (IntKind.i64.wrap (v_87 + 1)))] ?_; refine tN ?_; exact fun a w S hK hE => ⟨m_89, ⟨IntKind.i64.wrap (v_87 + 1), v_97, S, hK.wk, hE.sel [3], hO1_89 _ (Option.some.inj hG).symm⟩, Nat.lt_succ_self _⟩
        ·try simp only [List.length_map, KCopyL.n_Log] at h_90
         refine sb 11 (bf h_90) ?_; refine cf ?_; refine kX ?_; refine tX ?_; refine tX ?_; have he_ := hO2_89 _ (Option.some.inj hG).symm; subst he_; replace hG := hG_89
         try (simp only [un2, un3, un4, un5, un6, un7, un8, Sum.elim_inl, Sum.elim_inr, List.length_map, KCopyL.n_Log] at hG; replace hG : _ = _ := hG)
         refine hH ?_; refine tN ?_; exact fun a w S hK hE => ⟨S, hK.wk, hE.sel [0], Option.some.inj hG⟩
      ·rintro a w hJ; refine hJ.go fun ho_ => ?_
       clear hJ; subst ho_; replace hG := hG_98
       try (simp only [un2, un3, un4, un5, un6, un7, un8, Sum.elim_inl, Sum.elim_inr, List.length_map, KCopyL.n_Log] at hG; replace hG : _ = _ := hG)
       refine sq ?_; refine rg ?_; refine ra [] f0 [(4, B true)] ?_; refine tN ?_; refine kR ?_; refine ri [] (B true) ?_; exact fun a w S hK hE => ⟨true, rfl, ⟨S, hE.sel [0]⟩, Option.some.inj hG⟩
     ·rintro e w ⟨v_33, hJ⟩; refine hJ.go fun ho_ => ?_
      clear hJ; subst ho_
      try (simp only [un2, un3, un4, un5, un6, un7, un8, Sum.elim_inl, Sum.elim_inr, List.length_map, KCopyL.n_Log] at hG; replace hG : _ = _ := hG)
      refine rn 3 [] f0 [(18, B (!v_33))] ?_; refine sb 18 (nf h_35) ?_; refine ra [] f0 [(27, B true)] ?_; refine tN ?_; exact fun a w S hK hE => ⟨true, S, hK.wk, hE.sel [0], Option.some.inj hG⟩
 ·rintro a w ⟨v_100, hJ⟩; refine hJ.go fun ho_ => ?_
  clear hJ; subst ho_; replace hG := hG_99
  try (simp only [un2, un3, un4, un5, un6, un7, un8, Sum.elim_inl, Sum.elim_inr, List.length_map, KCopyL.n_Log] at hG; replace hG : _ = _ := hG)
  rcases ifB_cases hG with ⟨h_101, hG⟩ | ⟨h_101, hG⟩
  ·refine sb 27 (bt h_101) ?_; refine ct ?_; refine sq ?_; refine rg ?_; refine ra [] f0 [(2, B false)] ?_; refine tN ?_; refine kR ?_; refine tR ?_; obtain rfl := Option.some.inj hG; exact rt []
  ·refine sb 27 (bf h_101) ?_; refine cf ?_; refine kS ?_; refine tN ?_; refine sq ?_; replace hG := bind_some hG; obtain ⟨⟨v_170o, v_171o⟩, hy_174, hG⟩ := hG; refine rg ?_; refine rn 1 [] f0 [(28, .slice p_0_A p_0.length p_0_c)] ?_; refine l1 ?_; refine ci 29 (args := [.slice p_0_A p_0.length p_0_c, .func (.func 36) #[] #[]]) (fun E e w => ∃ (v_170 : Int), ∃ (v_171 : List KTxL), ∃ (v_172_A : Option Addr), ∃ (v_173_c : Nat), Rs S0 w0 (.agg #[I v_170, .slice v_172_A v_171.length v_173_c]) ([.dat (RowC v_172_A v_173_c KTxL.cells KTxL.ok v_171)] ++ se E [0]) ((v_170, (v_171.map KTxL.p)) = (v_170o, v_171o)) e w) Tryz.func35 rfl rfl ?_ ?_
   ·replace hG := hy_174
    try (simp only [un2, un3, un4, un5, un6, un7, un8, Sum.elim_inl, Sum.elim_inr, List.length_map, KCopyL.n_Log] at hG; replace hG : _ = _ := hG)
    refine sq ?_; refine rg ?_; refine l1 ?_; refine nw 4 vp [I 0, .slice none 0 0] 40 fun g_176 => ?_
    refine nl ?_; refine tN ?_; refine sq ?_; refine sq ?_; refine rg ?_; refine ra [] f0 [(9, B (decide (((p_0.length : Nat) : Int) < 1)))] ?_; refine tN ?_; rcases ifB_cases hG with ⟨h_177, hG⟩ | ⟨h_177, hG⟩
    ·try simp only [List.length_map, KCopyL.n_Log] at h_177
     refine sb 9 (bt h_177) ?_; refine ct ?_; cases hG
    ·try simp only [List.length_map, KCopyL.n_Log] at h_177
     refine sb 9 (bf h_177) ?_; refine cf ?_; refine kS ?_; refine tN ?_; refine sq ?_; replace hG := bind_some hG; obtain ⟨v_178o, hy_178, hG⟩ := hG; refine rg ?_; refine fxn (p := KCopyL.p) inf22 (gd' (RowC p_0_A p_0_c KCopyL.cells KCopyL.ok p_0) 1) hy_178 fun v_178 b_179 o_180 he_178 hi_178 => ?_
     subst he_178
     try (simp only [un2, un3, un4, un5, un6, un7, un8, Sum.elim_inl, Sum.elim_inr, List.length_map, KCopyL.n_Log] at hG; replace hG : _ = _ := hG)
     refine rn 3 [(1, 0, 0, 0), (0, 2, 0, 0)] (fc (hi_178 .i64) f0) [(13, .agg #[I v_178.ID, .slice v_178.Log_A v_178.Log.length v_178.Log_c])] ?_; refine l1 ?_; refine nw 5 vp [I 0, .slice none 0 0] 40 fun g_181 => ?_
     refine l1 ?_; refine sr 0 g_181 [(0, I v_178.ID), (1, .slice v_178.Log_A v_178.Log.length v_178.Log_c)] ?_; refine nl ?_; refine tN ?_; obtain ⟨o_239, hG, hG_239⟩ := bind_some hG; refine jn (fun K E a w => ∃ (v_240 : Int), ∃ (v_241 : List KTxL), ∃ (v_242_A : Option Addr), ∃ (v_243_c : Nat), Js S0 w0 33 (K) ([.blk g_181 40 [I v_240, .slice v_242_A v_241.length v_243_c], .dat (RowC v_242_A v_243_c KTxL.cells KTxL.ok v_241)] ++ se E [3, 4]) ((v_240, (v_241.map KTxL.p)) = o_239) a w) ?_ ?_
     ·refine sq ?_; refine rg ?_; refine ra [] f0 [(6, I 1)] ?_; refine tN ?_; refine bk ?_; obtain ⟨e_220, hL, hG_220⟩ := bind_some hG; clear hG; obtain ⟨stp_220, hs_220, hL⟩ := iter_gen hL; refine lp (fun K E n_ a w => ∃ (v_215 : Int), ∃ (v_216 : List KTxL), ∃ (v_217_A : Option Addr), ∃ (v_218_c : Nat), ∃ (v_219 : Int), Js S0 w0 33 ([(6, I v_219)] ++ K) ([.blk g_181 40 [I v_215, .slice v_217_A v_216.length v_218_c], .dat (RowC v_217_A v_218_c KTxL.cells KTxL.ok v_216)] ++ se E [3, 4]) (iter stp_220 n_ (v_215, (v_216.map KTxL.p), v_219) = some e_220) a w) F ?_ ?_
      ·refine fm (RowC v_178.Log_A v_178.Log_c KTxL.cells KTxL.ok v_178.Log) (gm (KCopyL.ok v_178) 2 fun _ _ h => h.f_Log) ?_; exact fun a w S hK hE => ⟨v_178.ID, v_178.Log, v_178.Log_A, v_178.Log_c, 1, S, hK.wk, hE.sel [1, 0, 4, 5], hL⟩
      ·clear hL; rintro n_220 a w ⟨v_215, v_216, v_217_A, v_218_c, v_219, hJ⟩; refine hJ.go fun hL => ?_
       clear hJ; obtain ⟨m_220, o_220, rfl, hG, hO1_220, hO2_220⟩ := iter_step hL; clear hL; rw [hs_220] at hG
       try (simp only [un2, un3, un4, un5, un6, un7, un8, Sum.elim_inl, Sum.elim_inr, List.length_map, KCopyL.n_Log] at hG; replace hG : _ = _ := hG)
       refine sq ?_; refine sq ?_; refine rg ?_; refine ra [] f0 [(17, B (decide (v_219 < ((p_0.length : Nat) : Int))))] ?_; refine tN ?_; rcases ifB_cases hG with ⟨h_221, hG⟩ | ⟨h_221, hG⟩
       ·try simp only [List.length_map, KCopyL.n_Log] at h_221
        refine sb 17 (bt h_221) ?_; refine ct ?_; refine kS ?_; refine tN ?_; obtain ⟨o_230, hG, hG_230⟩ := bind_some hG; refine jn (fun K E a w => ∃ (v_231 : Int), ∃ (v_232 : List KTxL), ∃ (v_233_A : Option Addr), ∃ (v_234_c : Nat), Js S0 w0 33 (K) ([.blk g_181 40 [I v_231, .slice v_233_A v_232.length v_234_c], .dat (RowC v_233_A v_234_c KTxL.cells KTxL.ok v_232)] ++ se E [2, 3]) ((v_231, (v_232.map KTxL.p)) = o_230) a w) ?_ ?_
        ·refine bk ?_; refine sq ?_; replace hG := bind_some hG; obtain ⟨v_222o, hy_222, hG⟩ := hG; replace hG := bind_some hG; obtain ⟨v_225, hy_225, hG⟩ := hG; refine qb ?_; refine fxn (p := KCopyL.p) inf22 (gd' (RowC p_0_A p_0_c KCopyL.cells KCopyL.ok p_0) 3) hy_222 fun v_222 b_223 o_224 he_222 hi_222 => ?_
         subst he_222
         try (simp only [un2, un3, un4, un5, un6, un7, un8, Sum.elim_inl, Sum.elim_inr, List.length_map, KCopyL.n_Log] at hG; replace hG : _ = _ := hG)
         refine qn 6 [(3, 0, 0, 0), (0, 2, 0, 0), (0, 2, 2, 0)] (fc (hi_222 .i64) f0) [(20, .func (.func 36) #[] #[]), (24, .agg #[I v_222.ID, .slice v_222.Log_A v_222.Log.length v_222.Log_c]), (25, .agg #[I v_215, .slice v_217_A v_216.length v_218_c])] ?_; refine qc 26 (z_copies_Valid_1 F v_222 (⟨v_215, v_217_A, v_218_c, v_216⟩ : KCopyL) _ hy_225) hT ⟨(gi 1).a, (((gd' (RowC v_217_A v_218_c KTxL.cells KTxL.ok v_216) 3)).m fun _ _ h => ⟨h⟩).a, trivial⟩ ?_; refine qa [] f0 [(27, B (decide (v_225 > 0)))] ?_; refine tN ?_; rcases ifB_cases hG with ⟨h_226, hG⟩ | ⟨h_226, hG⟩
         ·refine sb 27 (bt h_226) ?_; refine ct ?_; replace hG := bind_some hG; obtain ⟨v_227o, hy_227, hG⟩ := hG; refine rg ?_; refine fxn (p := KCopyL.p) inf22 (gd' (RowC p_0_A p_0_c KCopyL.cells KCopyL.ok p_0) 5) hy_227 fun v_227 b_228 o_229 he_227 hi_227 => ?_
          subst he_227
          try (simp only [un2, un3, un4, un5, un6, un7, un8, Sum.elim_inl, Sum.elim_inr, List.length_map, KCopyL.n_Log] at hG; replace hG : _ = _ := hG)
          refine rn 4 [(2, 0, 0, 0), (0, 2, 0, 0)] (fc (hi_227 .i64) f0) [(31, .agg #[I v_227.ID, .slice v_227.Log_A v_227.Log.length v_227.Log_c])] ?_; refine l1 ?_; refine sr 4 g_181 [(0, I v_227.ID), (1, .slice v_227.Log_A v_227.Log.length v_227.Log_c)] ?_; refine nl ?_; refine hN ?_; refine tN ?_; refine fm (RowC v_227.Log_A v_227.Log_c KTxL.cells KTxL.ok v_227.Log) (gm (KCopyL.ok v_227) 1 fun _ _ h => h.f_Log) ?_; exact fun a w S hK hE => ⟨v_227.ID, v_227.Log, v_227.Log_A, v_227.Log_c, S, hK.wk, hE.sel [5, 0, 7, 8], Option.some.inj hG⟩
         ·refine sb 27 (bf h_226) ?_; refine cf ?_; refine kS ?_; refine hN ?_; refine tN ?_; exact fun a w S hK hE => ⟨v_215, v_216, v_217_A, v_218_c, S, hK.wk, hE.sel [2, 3, 4, 5], Option.some.inj hG⟩
        ·rintro a w ⟨v_231, v_232, v_233_A, v_234_c, hJ⟩; refine hJ.go fun ho_ => ?_
         clear hJ; subst ho_; replace hG := hG_230
         try (simp only [un2, un3, un4, un5, un6, un7, un8, Sum.elim_inl, Sum.elim_inr, List.length_map, KCopyL.n_Log] at hG; replace hG : _ = _ := hG)
         refine rg ?_; refine ra [] f0 [(6, I (IntKind.i64.wrap (v_219 + 1)))] ?_; refine tN ?_; exact fun a w S hK hE => ⟨m_220, ⟨v_231, v_232, v_233_A, v_234_c, IntKind.i64.wrap (v_219 + 1), S, hK.wk, hE.sel [0, 1, 2, 3], hO1_220 _ (Option.some.inj hG).symm⟩, Nat.lt_succ_self _⟩
       ·try simp only [List.length_map, KCopyL.n_Log] at h_221
        refine sb 17 (bf h_221) ?_; refine cf ?_; refine kX ?_; refine tX ?_; refine tX ?_; have he_ := hO2_220 _ (Option.some.inj hG).symm; subst he_; replace hG := hG_220
        try (simp only [un2, un3, un4, un5, un6, un7, un8, Sum.elim_inl, Sum.elim_inr, List.length_map, KCopyL.n_Log] at hG; replace hG : _ = _ := hG)
        refine hH ?_; refine tN ?_; exact fun a w S hK hE => ⟨v_215, v_216, v_217_A, v_218_c, S, hK.wk, hE.sel [0, 1, 2, 3], Option.some.inj hG⟩
     ·rintro a w ⟨v_240, v_241, v_242_A, v_243_c, hJ⟩; refine hJ.go fun ho_ => ?_
      clear hJ; subst ho_; replace hG := hG_239
      try (simp only [un2, un3, un4, un5, un6, un7, un8, Sum.elim_inl, Sum.elim_inr, List.length_map, KCopyL.n_Log] at hG; replace hG : _ = _ := hG)
      refine sq ?_; refine rg ?_; refine rn 1 [(0, 2, 0, 0)] f0 [(32, .agg #[I v_240, .slice v_242_A v_241.length v_243_c])] ?_; refine l1 ?_; refine sr 2 g_176 [(0, I v_240), (1, .slice v_242_A v_241.length v_243_c)] ?_; refine nl ?_; refine tN ?_; refine kR ?_; refine ri [(2, 0, 2)] (.agg #[I v_240, .slice v_242_A v_241.length v_243_c]) ?_; exact fun a w S hK hE => ⟨v_240, v_241, v_242_A, v_243_c, rfl, ⟨S, hE.sel [1, 3]⟩, Option.some.inj hG⟩
   ·rintro e w ⟨v_170, v_171, v_172_A, v_173_c, hJ⟩; refine hJ.go fun ho_ => ?_
    clear hJ; simp only [Prod.mk.injEq] at ho_; obtain ⟨rfl, rfl⟩ := ho_
    try (simp only [un2, un3, un4, un5, un6, un7, un8, Sum.elim_inl, Sum.elim_inr, List.length_map, KCopyL.n_Log] at hG; replace hG : _ = _ := hG)
    refine rn 1 [] f0 [(30, .slice v_172_A v_171.length v_173_c)] ?_; refine l1 ?_; refine nw 3 vp [.slice none 0 0] 38 fun g_175 => ?_
    refine l1 ?_; refine sr 0 g_175 [(0, .slice v_172_A v_171.length v_173_c)] ?_; refine nl ?_; refine tN ?_; refine sq ?_; refine rg ?_; refine ra [] f0 [(4, .func (.func 38) #[] #[Pt g_175 0])] ?_; refine tN ?_; obtain ⟨o_2599, hG, hG_2599⟩ := bind_some hG; refine jn (fun K E a w => ∃ (v_2600 : Bool), Js S0 w0 50 ([(2, B v_2600)] ++ K) (se E []) (v_2600 = o_2599) a w) ?_ ?_
    ·replace hG := ifB_cases hG; rcases hG with ⟨h_244, hG⟩ | ⟨h_244, hG⟩
     ·replace hG := bind_some hG; obtain ⟨v_295o, hy_296, hG⟩ := hG; replace hG := ifB_cases hG; rcases hG with ⟨h_297, hG⟩ | ⟨h_297, hG⟩
      ·refine rg ?_; refine rn 4 [(0, 1, 0, 0)] f0 [(35, B (decide (((v_171.length : Nat) : Int) ≤ 2000)))] ?_
       try simp only [List.length_map, KCopyL.n_Log] at h_244
       refine sb 35 (bt h_244) ?_; refine rn 1 [(0, 1, 0, 0)] f0 [(36, .slice v_172_A v_171.length v_173_c)] ?_; refine l1 ?_; refine ci 37 (args := [.slice v_172_A v_171.length v_173_c, .func (.func 42) #[] #[]]) (fun E e w => ∃ (v_295 : Bool), Rs S0 w0 (B v_295) (se E [0, 1, 2]) (v_295 = v_295o) e w) Tryz.func41 rfl rfl ?_ ?_
       ·replace hG := hy_296
        try (simp only [un2, un3, un4, un5, un6, un7, un8, Sum.elim_inl, Sum.elim_inr, List.length_map, KCopyL.n_Log] at hG; replace hG : _ = _ := hG)
        refine sq ?_; refine rg ?_; refine ra [] f0 [] ?_; refine tN ?_; refine sq ?_; replace hG := bind_some hG; obtain ⟨v_1385o, hy_1386, hG⟩ := hG; refine rg ?_; refine rn 2 [] f0 [(5, .slice v_172_A v_171.length v_173_c), (6, .func (.func 42) #[] #[])] ?_; refine l1 ?_; refine ci 7 (args := [.slice v_172_A v_171.length v_173_c, .func (.func 42) #[] #[]]) (fun E e w => ∃ (v_1385 : Int), Rs S0 w0 (I v_1385) (se E [0, 1, 2]) (v_1385 = v_1385o) e w) Tryz.func67 rfl rfl ?_ ?_
        ·replace hG := hy_1386
         try (simp only [un2, un3, un4, un5, un6, un7, un8, Sum.elim_inl, Sum.elim_inr, List.length_map, KCopyL.n_Log] at hG; replace hG : _ = _ := hG)
         refine sq ?_; refine rg ?_; refine ra [] f0 [] ?_; refine tN ?_; obtain ⟨o_1409, hG, hG_1409⟩ := bind_some hG; refine jn (fun K E a w => Js S0 w0 19 (K) (se E [0, 1, 2]) (.inl () = o_1409) a w) ?_ ?_
         ·refine sq ?_; refine rg ?_; refine ra [] f0 [(7, I ((v_171.length : Nat) : Int)), (8, I 0)] ?_; refine tN ?_; refine bk ?_; obtain ⟨e_1401, hL, hG_1401⟩ := bind_some hG; clear hG; obtain ⟨stp_1401, hs_1401, hL⟩ := iter_gen hL; refine lp (fun K E n_ a w => ∃ (v_1400 : Int), Js S0 w0 19 ([(8, I v_1400)] ++ K) (se E [0, 1, 2]) (iter stp_1401 n_ v_1400 = some e_1401) a w) F ?_ ?_
          ·exact fun a w S hK hE => ⟨0, S, hK.wk, hE.sel [0, 1, 2], hL⟩
          ·clear hL; rintro n_1401 a w ⟨v_1400, hJ⟩; refine hJ.go fun hL => ?_
           clear hJ; obtain ⟨m_1401, o_1401, rfl, hG, hO1_1401, hO2_1401⟩ := iter_step hL; clear hL; rw [hs_1401] at hG
           try (simp only [un2, un3, un4, un5, un6, un7, un8, Sum.elim_inl, Sum.elim_inr, List.length_map, KCopyL.n_Log] at hG; replace hG : _ = _ := hG)
           refine sq ?_; refine rg ?_; refine ra [] f0 [(9, B (decide (v_1400 < ((v_171.length : Nat) : Int))))] ?_; refine tN ?_; refine sq ?_; rcases ifB_cases hG with ⟨h_1402, hG⟩ | ⟨h_1402, hG⟩
           ·try simp only [List.length_map, KCopyL.n_Log] at h_1402
            refine sb 9 (bt h_1402) ?_; refine ct ?_; refine kS ?_; refine tN ?_; refine sq ?_; refine bk ?_; refine sq ?_; refine rg ?_; refine ra [] f0 [(5, I v_1400)] ?_; refine tN ?_; refine sq ?_; replace hG := bind_some hG; obtain ⟨v_1403o, hy_1403, hG⟩ := hG; replace hG := bind_some hG; obtain ⟨v_1406, hy_1406, hG⟩ := hG; refine rg ?_; refine fxn (p := KTxL.p) inf38 (gd' (RowC v_172_A v_173_c KTxL.cells KTxL.ok v_171) 1) hy_1403 fun v_1403 b_1404 o_1405 he_1403 hi_1403 => ?_
            subst he_1403
            try (simp only [un2, un3, un4, un5, un6, un7, un8, Sum.elim_inl, Sum.elim_inr, List.length_map, KCopyL.n_Log] at hG; replace hG : _ = _ := hG)
            refine rn 5 [(3, 0, 0, 0), (0, 4, 0, 0)] (fc (hi_1403 .i64) f0) [(11, .func (.func 42) #[] #[]), (15, .agg #[I v_1403.ID, I v_1403.Ts, .slice v_1403.Reads_A v_1403.Reads.length v_1403.Reads_c, .slice v_1403.Writes_A v_1403.Writes.length v_1403.Writes_c])] ?_; refine l1 ?_; refine cl 16 (z_copies_wrong F v_1403 _ hy_1406) hT ⟨(gi 1).a, trivial⟩ ?_; refine nl ?_; refine tN ?_; rcases ifB_cases hG with ⟨h_1407, hG⟩ | ⟨h_1407, hG⟩
            ·refine sb 16 (bt h_1407) ?_; refine ct ?_; refine sq ?_; refine rg ?_; refine ra [] f0 [(4, I v_1400)] ?_; refine tN ?_; refine kR ?_; refine hR ?_; refine tR ?_; refine tR ?_; have he_ := hO2_1401 _ (Option.some.inj hG).symm; subst he_; replace hG := hG_1401
             try (simp only [un2, un3, un4, un5, un6, un7, un8, Sum.elim_inl, Sum.elim_inr, List.length_map, KCopyL.n_Log] at hG; replace hG : _ = _ := hG)
             refine hR ?_; refine tR ?_; obtain rfl := Option.some.inj hG; replace hG := hG_1409
             try (simp only [un2, un3, un4, un5, un6, un7, un8, Sum.elim_inl, Sum.elim_inr, List.length_map, KCopyL.n_Log] at hG; replace hG : _ = _ := hG)
             refine ri [] (I v_1400) ?_; exact fun a w S hK hE => ⟨v_1400, rfl, ⟨S, hE.sel [2, 3, 4]⟩, Option.some.inj hG⟩
            ·refine sb 16 (bf h_1407) ?_; refine cf ?_; refine kS ?_; refine hN ?_; refine tN ?_; refine rg ?_; refine ra [] f0 [(8, I (IntKind.i64.wrap (v_1400 + 1)))] ?_; refine tN ?_; exact fun a w S hK hE => ⟨m_1401, ⟨IntKind.i64.wrap (v_1400 + 1), S, hK.wk, hE.sel [2, 3, 4], hO1_1401 _ (Option.some.inj hG).symm⟩, Nat.lt_succ_self _⟩
           ·try simp only [List.length_map, KCopyL.n_Log] at h_1402
            refine sb 9 (bf h_1402) ?_; refine cf ?_; refine kX ?_; refine tX ?_; refine tX ?_; have he_ := hO2_1401 _ (Option.some.inj hG).symm; subst he_; replace hG := hG_1401
            try (simp only [un2, un3, un4, un5, un6, un7, un8, Sum.elim_inl, Sum.elim_inr, List.length_map, KCopyL.n_Log] at hG; replace hG : _ = _ := hG)
            refine hH ?_; refine tN ?_; exact fun a w S hK hE => ⟨S, hK.wk, hE.sel [0, 1, 2], Option.some.inj hG⟩
         ·rintro a w hJ; refine hJ.go fun ho_ => ?_
          clear hJ; subst ho_; replace hG := hG_1409
          try (simp only [un2, un3, un4, un5, un6, un7, un8, Sum.elim_inl, Sum.elim_inr, List.length_map, KCopyL.n_Log] at hG; replace hG : _ = _ := hG)
          refine sq ?_; refine rg ?_; refine ra [] f0 [(4, I (-1))] ?_; refine tN ?_; refine kR ?_; refine ri [] (I (-1)) ?_; exact fun a w S hK hE => ⟨(-1), rfl, ⟨S, hE.sel [0, 1, 2]⟩, Option.some.inj hG⟩
        ·rintro e w ⟨v_1385, hJ⟩; refine hJ.go fun ho_ => ?_
         clear hJ; subst ho_
         try (simp only [un2, un3, un4, un5, un6, un7, un8, Sum.elim_inl, Sum.elim_inr, List.length_map, KCopyL.n_Log] at hG; replace hG : _ = _ := hG)
         refine ra [] f0 [(4, B (decide (v_1385 ≥ 0)))] ?_; refine tN ?_; refine kR ?_; refine ri [] (B (decide (v_1385 ≥ 0))) ?_; exact fun a w S hK hE => ⟨decide (v_1385 ≥ 0), rfl, ⟨S, hE.sel [0, 1, 2]⟩, Option.some.inj hG⟩
       ·rintro e w ⟨v_295, hJ⟩; refine hJ.go fun ho_ => ?_
        clear hJ; subst ho_
        try (simp only [un2, un3, un4, un5, un6, un7, un8, Sum.elim_inl, Sum.elim_inr, List.length_map, KCopyL.n_Log] at hG; replace hG : _ = _ := hG)
        refine rn 3 [] f0 [(40, B (!v_295))] ?_; refine sb 40 (nt h_297) ?_; refine ra [] f0 [(2, B false)] ?_; refine tN ?_; exact fun a w S hK hE => ⟨false, S, hK.wk, hE.sel [], Option.some.inj hG⟩
      ·replace hG := bind_some hG; obtain ⟨v_328o, hy_329, hG⟩ := hG; replace hG := ifB_cases hG; rcases hG with ⟨h_330, hG⟩ | ⟨h_330, hG⟩
       ·replace hG := bind_some hG; obtain ⟨v_1359o, hy_1360, hG⟩ := hG; refine rg ?_; refine rn 4 [(0, 1, 0, 0)] f0 [(35, B (decide (((v_171.length : Nat) : Int) ≤ 2000)))] ?_
        try simp only [List.length_map, KCopyL.n_Log] at h_244
        refine sb 35 (bt h_244) ?_; refine rn 1 [(0, 1, 0, 0)] f0 [(36, .slice v_172_A v_171.length v_173_c)] ?_; refine l1 ?_; refine ci 37 (args := [.slice v_172_A v_171.length v_173_c, .func (.func 42) #[] #[]]) (fun E e w => ∃ (v_295 : Bool), Rs S0 w0 (B v_295) (se E [0, 1, 2]) (v_295 = v_295o) e w) Tryz.func41 rfl rfl ?_ ?_
        ·replace hG := hy_296
         try (simp only [un2, un3, un4, un5, un6, un7, un8, Sum.elim_inl, Sum.elim_inr, List.length_map, KCopyL.n_Log] at hG; replace hG : _ = _ := hG)
         refine sq ?_; refine rg ?_; refine ra [] f0 [] ?_; refine tN ?_; refine sq ?_; replace hG := bind_some hG; obtain ⟨v_1435o, hy_1436, hG⟩ := hG; refine rg ?_; refine rn 2 [] f0 [(5, .slice v_172_A v_171.length v_173_c), (6, .func (.func 42) #[] #[])] ?_; refine l1 ?_; refine ci 7 (args := [.slice v_172_A v_171.length v_173_c, .func (.func 42) #[] #[]]) (fun E e w => ∃ (v_1435 : Int), Rs S0 w0 (I v_1435) (se E [0, 1, 2]) (v_1435 = v_1435o) e w) Tryz.func67 rfl rfl ?_ ?_
         ·replace hG := hy_1436
          try (simp only [un2, un3, un4, un5, un6, un7, un8, Sum.elim_inl, Sum.elim_inr, List.length_map, KCopyL.n_Log] at hG; replace hG : _ = _ := hG)
          refine sq ?_; refine rg ?_; refine ra [] f0 [] ?_; refine tN ?_; obtain ⟨o_1459, hG, hG_1459⟩ := bind_some hG; refine jn (fun K E a w => Js S0 w0 19 (K) (se E [0, 1, 2]) (.inl () = o_1459) a w) ?_ ?_
          ·refine sq ?_; refine rg ?_; refine ra [] f0 [(7, I ((v_171.length : Nat) : Int)), (8, I 0)] ?_; refine tN ?_; refine bk ?_; obtain ⟨e_1451, hL, hG_1451⟩ := bind_some hG; clear hG; obtain ⟨stp_1451, hs_1451, hL⟩ := iter_gen hL; refine lp (fun K E n_ a w => ∃ (v_1450 : Int), Js S0 w0 19 ([(8, I v_1450)] ++ K) (se E [0, 1, 2]) (iter stp_1451 n_ v_1450 = some e_1451) a w) F ?_ ?_
           ·exact fun a w S hK hE => ⟨0, S, hK.wk, hE.sel [0, 1, 2], hL⟩
           ·clear hL; rintro n_1451 a w ⟨v_1450, hJ⟩; refine hJ.go fun hL => ?_
            clear hJ; obtain ⟨m_1451, o_1451, rfl, hG, hO1_1451, hO2_1451⟩ := iter_step hL; clear hL; rw [hs_1451] at hG
            try (simp only [un2, un3, un4, un5, un6, un7, un8, Sum.elim_inl, Sum.elim_inr, List.length_map, KCopyL.n_Log] at hG; replace hG : _ = _ := hG)
            refine sq ?_; refine rg ?_; refine ra [] f0 [(9, B (decide (v_1450 < ((v_171.length : Nat) : Int))))] ?_; refine tN ?_; refine sq ?_; rcases ifB_cases hG with ⟨h_1452, hG⟩ | ⟨h_1452, hG⟩
            ·try simp only [List.length_map, KCopyL.n_Log] at h_1452
             refine sb 9 (bt h_1452) ?_; refine ct ?_; refine kS ?_; refine tN ?_; refine sq ?_; refine bk ?_; refine sq ?_; refine rg ?_; refine ra [] f0 [(5, I v_1450)] ?_; refine tN ?_; refine sq ?_; replace hG := bind_some hG; obtain ⟨v_1453o, hy_1453, hG⟩ := hG; replace hG := bind_some hG; obtain ⟨v_1456, hy_1456, hG⟩ := hG; refine rg ?_; refine fxn (p := KTxL.p) inf38 (gd' (RowC v_172_A v_173_c KTxL.cells KTxL.ok v_171) 1) hy_1453 fun v_1453 b_1454 o_1455 he_1453 hi_1453 => ?_
             subst he_1453
             try (simp only [un2, un3, un4, un5, un6, un7, un8, Sum.elim_inl, Sum.elim_inr, List.length_map, KCopyL.n_Log] at hG; replace hG : _ = _ := hG)
             refine rn 5 [(3, 0, 0, 0), (0, 4, 0, 0)] (fc (hi_1453 .i64) f0) [(11, .func (.func 42) #[] #[]), (15, .agg #[I v_1453.ID, I v_1453.Ts, .slice v_1453.Reads_A v_1453.Reads.length v_1453.Reads_c, .slice v_1453.Writes_A v_1453.Writes.length v_1453.Writes_c])] ?_; refine l1 ?_; refine cl 16 (z_copies_wrong F v_1453 _ hy_1456) hT ⟨(gi 1).a, trivial⟩ ?_; refine nl ?_; refine tN ?_; rcases ifB_cases hG with ⟨h_1457, hG⟩ | ⟨h_1457, hG⟩
             ·refine sb 16 (bt h_1457) ?_; refine ct ?_; refine sq ?_; refine rg ?_; refine ra [] f0 [(4, I v_1450)] ?_; refine tN ?_; refine kR ?_; refine hR ?_; refine tR ?_; refine tR ?_; have he_ := hO2_1451 _ (Option.some.inj hG).symm; subst he_; replace hG := hG_1451
              try (simp only [un2, un3, un4, un5, un6, un7, un8, Sum.elim_inl, Sum.elim_inr, List.length_map, KCopyL.n_Log] at hG; replace hG : _ = _ := hG)
              refine hR ?_; refine tR ?_; obtain rfl := Option.some.inj hG; replace hG := hG_1459
              try (simp only [un2, un3, un4, un5, un6, un7, un8, Sum.elim_inl, Sum.elim_inr, List.length_map, KCopyL.n_Log] at hG; replace hG : _ = _ := hG)
              refine ri [] (I v_1450) ?_; exact fun a w S hK hE => ⟨v_1450, rfl, ⟨S, hE.sel [2, 3, 4]⟩, Option.some.inj hG⟩
             ·refine sb 16 (bf h_1457) ?_; refine cf ?_; refine kS ?_; refine hN ?_; refine tN ?_; refine rg ?_; refine ra [] f0 [(8, I (IntKind.i64.wrap (v_1450 + 1)))] ?_; refine tN ?_; exact fun a w S hK hE => ⟨m_1451, ⟨IntKind.i64.wrap (v_1450 + 1), S, hK.wk, hE.sel [2, 3, 4], hO1_1451 _ (Option.some.inj hG).symm⟩, Nat.lt_succ_self _⟩
            ·try simp only [List.length_map, KCopyL.n_Log] at h_1452
             refine sb 9 (bf h_1452) ?_; refine cf ?_; refine kX ?_; refine tX ?_; refine tX ?_; have he_ := hO2_1451 _ (Option.some.inj hG).symm; subst he_; replace hG := hG_1451
             try (simp only [un2, un3, un4, un5, un6, un7, un8, Sum.elim_inl, Sum.elim_inr, List.length_map, KCopyL.n_Log] at hG; replace hG : _ = _ := hG)
             refine hH ?_; refine tN ?_; exact fun a w S hK hE => ⟨S, hK.wk, hE.sel [0, 1, 2], Option.some.inj hG⟩
          ·rintro a w hJ; refine hJ.go fun ho_ => ?_
           clear hJ; subst ho_; replace hG := hG_1459
           try (simp only [un2, un3, un4, un5, un6, un7, un8, Sum.elim_inl, Sum.elim_inr, List.length_map, KCopyL.n_Log] at hG; replace hG : _ = _ := hG)
           refine sq ?_; refine rg ?_; refine ra [] f0 [(4, I (-1))] ?_; refine tN ?_; refine kR ?_; refine ri [] (I (-1)) ?_; exact fun a w S hK hE => ⟨(-1), rfl, ⟨S, hE.sel [0, 1, 2]⟩, Option.some.inj hG⟩
         ·rintro e w ⟨v_1435, hJ⟩; refine hJ.go fun ho_ => ?_
          clear hJ; subst ho_
          try (simp only [un2, un3, un4, un5, un6, un7, un8, Sum.elim_inl, Sum.elim_inr, List.length_map, KCopyL.n_Log] at hG; replace hG : _ = _ := hG)
          refine ra [] f0 [(4, B (decide (v_1435 ≥ 0)))] ?_; refine tN ?_; refine kR ?_; refine ri [] (B (decide (v_1435 ≥ 0))) ?_; exact fun a w S hK hE => ⟨decide (v_1435 ≥ 0), rfl, ⟨S, hE.sel [0, 1, 2]⟩, Option.some.inj hG⟩
        ·rintro e w ⟨v_295, hJ⟩; refine hJ.go fun ho_ => ?_
         clear hJ; subst ho_
         try (simp only [un2, un3, un4, un5, un6, un7, un8, Sum.elim_inl, Sum.elim_inr, List.length_map, KCopyL.n_Log] at hG; replace hG : _ = _ := hG)
         refine rn 3 [] f0 [(40, B (!v_295))] ?_; refine sb 40 (nf h_297) ?_; refine rn 1 [(0, 1, 0, 0)] f0 [(41, .slice v_172_A v_171.length v_173_c)] ?_; refine l1 ?_; refine ci 42 (args := [.slice v_172_A v_171.length v_173_c, .func (.func 44) #[] #[]]) (fun E e w => ∃ (v_328 : Bool), Rs S0 w0 (B v_328) (se E [0, 1, 2]) (v_328 = v_328o) e w) Tryz.func43 rfl rfl ?_ ?_
         ·replace hG := hy_329
          try (simp only [un2, un3, un4, un5, un6, un7, un8, Sum.elim_inl, Sum.elim_inr, List.length_map, KCopyL.n_Log] at hG; replace hG : _ = _ := hG)
          refine sq ?_; refine rg ?_; refine ra [] f0 [] ?_; refine tN ?_; refine sq ?_; refine rg ?_; refine ra [] f0 [(5, I 0)] ?_; refine tN ?_; obtain ⟨o_1490, hG, hG_1490⟩ := bind_some hG; refine jn (fun K E a w => Js S0 w0 23 (dk [5] K) (se E [0, 1, 2]) (.inl () = o_1490) a w) ?_ ?_
          ·refine sq ?_; refine rg ?_; refine ra [] f0 [(8, .slice v_172_A v_171.length v_173_c), (9, I ((v_171.length : Nat) : Int)), (10, I 0)] ?_; refine tN ?_; refine bk ?_; obtain ⟨e_1481, hL, hG_1481⟩ := bind_some hG; clear hG; obtain ⟨stp_1481, hs_1481, hL⟩ := iter_gen hL; refine lp (fun K E n_ a w => ∃ (v_1479 : Int), ∃ (v_1480 : Int), Js S0 w0 23 ([(5, I v_1480), (10, I v_1479)] ++ K) (se E [0, 1, 2]) (iter stp_1481 n_ (v_1479, v_1480) = some e_1481) a w) F ?_ ?_
           ·exact fun a w S hK hE => ⟨0, 0, S, hK.wk, hE.sel [0, 1, 2], hL⟩
           ·clear hL; rintro n_1481 a w ⟨v_1479, v_1480, hJ⟩; refine hJ.go fun hL => ?_
            clear hJ; obtain ⟨m_1481, o_1481, rfl, hG, hO1_1481, hO2_1481⟩ := iter_step hL; clear hL; rw [hs_1481] at hG
            try (simp only [un2, un3, un4, un5, un6, un7, un8, Sum.elim_inl, Sum.elim_inr, List.length_map, KCopyL.n_Log] at hG; replace hG : _ = _ := hG)
            refine sq ?_; refine rg ?_; refine ra [] f0 [(11, B (decide (v_1479 < ((v_171.length : Nat) : Int))))] ?_; refine tN ?_; refine sq ?_; rcases ifB_cases hG with ⟨h_1482, hG⟩ | ⟨h_1482, hG⟩
            ·try simp only [List.length_map, KCopyL.n_Log] at h_1482
             refine sb 11 (bt h_1482) ?_; refine ct ?_; refine kS ?_; refine tN ?_; refine sq ?_; refine bk ?_; refine sq ?_; replace hG := bind_some hG; obtain ⟨v_1483o, hy_1483, hG⟩ := hG; refine rg ?_; refine fxn (p := KTxL.p) inf38 (gd' (RowC v_172_A v_173_c KTxL.cells KTxL.ok v_171) 1) hy_1483 fun v_1483 b_1484 o_1485 he_1483 hi_1483 => ?_
             subst he_1483
             try (simp only [un2, un3, un4, un5, un6, un7, un8, Sum.elim_inl, Sum.elim_inr, List.length_map, KCopyL.n_Log] at hG; replace hG : _ = _ := hG)
             refine rn 2 [(0, 0, 0, 0), (0, 4, 0, 0)] (fc (hi_1483 .i64) f0) [(13, .agg #[I v_1483.ID, I v_1483.Ts, .slice v_1483.Reads_A v_1483.Reads.length v_1483.Reads_c, .slice v_1483.Writes_A v_1483.Writes.length v_1483.Writes_c])] ?_; refine l1 ?_; refine nw 7 vp [I 0, I 0, .slice none 0 0, .slice none 0 0] 47 fun g_1486 => ?_
             refine l1 ?_; refine sr 0 g_1486 [(0, I v_1483.ID), (1, I v_1483.Ts), (2, .slice v_1483.Reads_A v_1483.Reads.length v_1483.Reads_c), (3, .slice v_1483.Writes_A v_1483.Writes.length v_1483.Writes_c)] ?_; refine nl ?_; refine tN ?_; refine sq ?_; refine sq ?_; replace hG := bind_some hG; obtain ⟨v_1487, hy_1487, hG⟩ := hG; refine rg ?_; refine rn 2 [(1, 4, 0, 0)] f0 [(14, .func (.func 44) #[] #[]), (15, .agg #[I v_1483.ID, I v_1483.Ts, .slice v_1483.Reads_A v_1483.Reads.length v_1483.Reads_c, .slice v_1483.Writes_A v_1483.Writes.length v_1483.Writes_c])] ?_; refine l1 ?_; refine cl 16 (z_copies_Valid_3 F v_1483 _ hy_1487) hT ⟨(gi 2).a, trivial⟩ ?_; refine ra [] f0 [(18, B (decide (v_1487 ≤ v_1480)))] ?_; refine tN ?_; rcases ifB_cases hG with ⟨h_1488, hG⟩ | ⟨h_1488, hG⟩
             ·refine sb 18 (bt h_1488) ?_; refine ct ?_; refine sq ?_; refine rg ?_; refine ra [] f0 [(4, B false)] ?_; refine tN ?_; refine kR ?_; refine tR ?_; refine hR ?_; refine tR ?_; refine tR ?_; have he_ := hO2_1481 _ (Option.some.inj hG).symm; subst he_; replace hG := hG_1481
              try (simp only [un2, un3, un4, un5, un6, un7, un8, Sum.elim_inl, Sum.elim_inr, List.length_map, KCopyL.n_Log] at hG; replace hG : _ = _ := hG)
              refine hR ?_; refine tR ?_; obtain rfl := Option.some.inj hG; replace hG := hG_1490
              try (simp only [un2, un3, un4, un5, un6, un7, un8, Sum.elim_inl, Sum.elim_inr, List.length_map, KCopyL.n_Log] at hG; replace hG : _ = _ := hG)
              refine ri [] (B false) ?_; exact fun a w S hK hE => ⟨false, rfl, ⟨S, hE.sel [3, 4, 5]⟩, Option.some.inj hG⟩
             ·refine sb 18 (bf h_1488) ?_; refine cf ?_; refine kS ?_; refine tN ?_; replace hG := bind_some hG; obtain ⟨v_1489, hy_1489, hG⟩ := hG; refine rg ?_; refine rn 2 [(1, 4, 0, 0)] f0 [(19, .func (.func 44) #[] #[]), (20, .agg #[I v_1483.ID, I v_1483.Ts, .slice v_1483.Reads_A v_1483.Reads.length v_1483.Reads_c, .slice v_1483.Writes_A v_1483.Writes.length v_1483.Writes_c])] ?_; refine l1 ?_; refine cl 21 (z_copies_Valid_3 F v_1483 _ hy_1489) hT ⟨(gi 2).a, trivial⟩ ?_; refine ra [] f0 [(5, I v_1489)] ?_; refine hN ?_; refine tN ?_; refine rg ?_; refine ra [] f0 [(10, I (IntKind.i64.wrap (v_1479 + 1)))] ?_; refine tN ?_; exact fun a w S hK hE => ⟨m_1481, ⟨IntKind.i64.wrap (v_1479 + 1), v_1489, S, hK.wk, hE.sel [3, 4, 5], hO1_1481 _ (Option.some.inj hG).symm⟩, Nat.lt_succ_self _⟩
            ·try simp only [List.length_map, KCopyL.n_Log] at h_1482
             refine sb 11 (bf h_1482) ?_; refine cf ?_; refine kX ?_; refine tX ?_; refine tX ?_; have he_ := hO2_1481 _ (Option.some.inj hG).symm; subst he_; replace hG := hG_1481
             try (simp only [un2, un3, un4, un5, un6, un7, un8, Sum.elim_inl, Sum.elim_inr, List.length_map, KCopyL.n_Log] at hG; replace hG : _ = _ := hG)
             refine hH ?_; refine tN ?_; exact fun a w S hK hE => ⟨S, hK.wk, hE.sel [0, 1, 2], Option.some.inj hG⟩
          ·rintro a w hJ; refine hJ.go fun ho_ => ?_
           clear hJ; subst ho_; replace hG := hG_1490
           try (simp only [un2, un3, un4, un5, un6, un7, un8, Sum.elim_inl, Sum.elim_inr, List.length_map, KCopyL.n_Log] at hG; replace hG : _ = _ := hG)
           refine sq ?_; refine rg ?_; refine ra [] f0 [(4, B true)] ?_; refine tN ?_; refine kR ?_; refine ri [] (B true) ?_; exact fun a w S hK hE => ⟨true, rfl, ⟨S, hE.sel [0, 1, 2]⟩, Option.some.inj hG⟩
         ·rintro e w ⟨v_328, hJ⟩; refine hJ.go fun ho_ => ?_
          clear hJ; subst ho_
          try (simp only [un2, un3, un4, un5, un6, un7, un8, Sum.elim_inl, Sum.elim_inr, List.length_map, KCopyL.n_Log] at hG; replace hG : _ = _ := hG)
          refine rn 2 [] f0 [(44, B v_328)] ?_; refine sb 44 (bt h_330) ?_; refine rn 2 [] f0 [(45, .slice p_0_A p_0.length p_0_c), (46, .func (.func 38) #[] #[Pt g_175 0])] ?_; refine l1 ?_; refine ci 47 (args := [.slice p_0_A p_0.length p_0_c, .func (.func 38) #[] #[Pt g_175 0]]) (fun E e w => ∃ (v_1359 : Bool), Rs S0 w0 (B v_1359) (se E [0, 1, 2]) (v_1359 = v_1359o) e w) Tryz.func45 rfl rfl ?_ ?_
          ·replace hG := hy_1360
           try (simp only [un2, un3, un4, un5, un6, un7, un8, Sum.elim_inl, Sum.elim_inr, List.length_map, KCopyL.n_Log] at hG; replace hG : _ = _ := hG)
           refine sq ?_; refine rg ?_; refine ra [] f0 [] ?_; refine tN ?_; refine sq ?_; replace hG := bind_some hG; obtain ⟨v_2004o, hy_2005, hG⟩ := hG; refine rg ?_; refine rn 2 [] f0 [(5, .slice p_0_A p_0.length p_0_c), (6, .func (.func 38) #[] #[Pt g_175 0])] ?_; refine l1 ?_; refine ci 7 (args := [.slice p_0_A p_0.length p_0_c, .func (.func 38) #[] #[Pt g_175 0]]) (fun E e w => ∃ (v_2004 : Int), Rs S0 w0 (I v_2004) (se E [0, 1, 2]) (v_2004 = v_2004o) e w) Tryz.func62 rfl rfl ?_ ?_
           ·replace hG := hy_2005
            try (simp only [un2, un3, un4, un5, un6, un7, un8, Sum.elim_inl, Sum.elim_inr, List.length_map, KCopyL.n_Log] at hG; replace hG : _ = _ := hG)
            refine sq ?_; refine rg ?_; refine ra [] f0 [] ?_; refine tN ?_; obtain ⟨o_2517, hG, hG_2517⟩ := bind_some hG; refine jn (fun K E a w => Js S0 w0 19 (K) (se E [0, 1, 2]) (.inl () = o_2517) a w) ?_ ?_
            ·refine sq ?_; refine rg ?_; refine ra [] f0 [(7, I ((p_0.length : Nat) : Int)), (8, I 0)] ?_; refine tN ?_; refine bk ?_; obtain ⟨e_2346, hL, hG_2346⟩ := bind_some hG; clear hG; obtain ⟨stp_2346, hs_2346, hL⟩ := iter_gen hL; refine lp (fun K E n_ a w => ∃ (v_2345 : Int), Js S0 w0 19 ([(8, I v_2345)] ++ K) (se E [0, 1, 2]) (iter stp_2346 n_ v_2345 = some e_2346) a w) F ?_ ?_
             ·exact fun a w S hK hE => ⟨0, S, hK.wk, hE.sel [0, 1, 2], hL⟩
             ·clear hL; rintro n_2346 a w ⟨v_2345, hJ⟩; refine hJ.go fun hL => ?_
              clear hJ; obtain ⟨m_2346, o_2346, rfl, hG, hO1_2346, hO2_2346⟩ := iter_step hL; clear hL; rw [hs_2346] at hG
              try (simp only [un2, un3, un4, un5, un6, un7, un8, Sum.elim_inl, Sum.elim_inr, List.length_map, KCopyL.n_Log] at hG; replace hG : _ = _ := hG)
              refine sq ?_; refine rg ?_; refine ra [] f0 [(9, B (decide (v_2345 < ((p_0.length : Nat) : Int))))] ?_; refine tN ?_; refine sq ?_; rcases ifB_cases hG with ⟨h_2347, hG⟩ | ⟨h_2347, hG⟩
              ·try simp only [List.length_map, KCopyL.n_Log] at h_2347
               refine sb 9 (bt h_2347) ?_; refine ct ?_; refine kS ?_; refine tN ?_; refine sq ?_; refine bk ?_; refine sq ?_; refine rg ?_; refine ra [] f0 [(5, I v_2345)] ?_; refine tN ?_; refine sq ?_; replace hG := bind_some hG; obtain ⟨v_2348o, hy_2348, hG⟩ := hG; replace hG := bind_some hG; obtain ⟨v_2432o, hy_2433, hG⟩ := hG; refine rg ?_; refine fxn (p := KCopyL.p) inf22 (gd' (RowC p_0_A p_0_c KCopyL.cells KCopyL.ok p_0) 2) hy_2348 fun v_2348 b_2349 o_2350 he_2348 hi_2348 => ?_
               subst he_2348
               try (simp only [un2, un3, un4, un5, un6, un7, un8, Sum.elim_inl, Sum.elim_inr, List.length_map, KCopyL.n_Log] at hG; replace hG : _ = _ := hG)
               refine rn 5 [(3, 0, 0, 0), (0, 2, 0, 0)] (fc (hi_2348 .i64) f0) [(11, .func (.func 38) #[] #[Pt g_175 0]), (15, .agg #[I v_2348.ID, .slice v_2348.Log_A v_2348.Log.length v_2348.Log_c])] ?_; refine l1 ?_; refine ci 16 (args := [.agg #[I v_2348.ID, .slice v_2348.Log_A v_2348.Log.length v_2348.Log_c], Pt g_175 0]) (fun E e w => ∃ (v_2432 : Bool), Rs S0 w0 (B v_2432) ([.dat (RowC v_2348.Log_A v_2348.Log_c KTxL.cells KTxL.ok v_2348.Log)] ++ se E [0, 2, 3, 4]) (v_2432 = v_2432o) e w) Tryz.func38 rfl rfl ?_ ?_
               ·replace hG := hy_2433
                try (simp only [un2, un3, un4, un5, un6, un7, un8, Sum.elim_inl, Sum.elim_inr, List.length_map, KCopyL.n_Log] at hG; replace hG : _ = _ := hG)
                refine sq ?_; refine rg ?_; refine l1 ?_; refine nw 2 vp [I v_2348.ID, .slice v_2348.Log_A v_2348.Log.length v_2348.Log_c] 40 fun g_2434 => ?_
                refine ra [] f0 [] ?_; refine tN ?_; refine sq ?_; replace hG := bind_some hG; obtain ⟨v_2435, hy_2435, hG⟩ := hG; replace hG := bind_some hG; obtain ⟨v_2436o, hy_2436, hG⟩ := hG; replace hG := bind_some hG; obtain ⟨v_2475o, hy_2476, hG⟩ := hG; refine fpn (p := KTxL.p) false true inf38 (gd' (RowC v_172_A v_173_c KTxL.cells KTxL.ok v_171) 4) hy_2436 fun v_2436 v_2436_A v_2436_c he_2436 hp_2436 => ?_
                subst he_2436
                try (simp only [un2, un3, un4, un5, un6, un7, un8, Sum.elim_inl, Sum.elim_inr, List.length_map, KCopyL.n_Log] at hG; replace hG : _ = _ := hG)
                refine hb [0, 1, 2, 4, 5, 6] ?_; refine ht [0, 1, 2, 4, 5, 6] [0, 1, 2, 3] [(1, 1, 1, 1), (0, 1, 3, 0), (0, 2, 1, 0)] f0 [(5, .slice v_2348.Log_A v_2348.Log.length v_2348.Log_c), (6, .slice v_172_A v_171.length v_173_c), (7, .agg #[I v_2348.ID, .slice v_2348.Log_A v_2348.Log.length v_2348.Log_c])] ?_; refine ho [4] ⟨?_, trivial⟩; refine h1 ?_; refine cl 8 (z_copies_size F v_2348 _ hy_2435) hT ⟨(gi 3).a, trivial⟩ ?_; refine hk [0, 1, 2, 4, 5, 6] ?_; refine ht [0, 1, 2, 4, 5, 6] [5] [(0, 0, 0, 0)] (fc (hp_2436 .i64 .i64) f0) [(9, .slice v_2436_A v_2436.length v_2436_c)] ?_; refine ho [6] ⟨?_, trivial⟩; refine h1 ?_; refine ci 10 (args := [.slice v_2348.Log_A v_2348.Log.length v_2348.Log_c, .slice v_2436_A v_2436.length v_2436_c, .func (.func 40) #[] #[]]) (fun E e w => ∃ (v_2475 : Bool), Rs S0 w0 (B v_2475) ([.dat (RowC v_2348.Log_A v_2348.Log_c KTxL.cells KTxL.ok v_2348.Log)] ++ se E [0, 1, 2, 4, 5, 6]) (v_2475 = v_2475o) e w) Tryz.func39 rfl rfl ?_ ?_
                ·replace hG := hy_2476
                 try (simp only [un2, un3, un4, un5, un6, un7, un8, Sum.elim_inl, Sum.elim_inr, List.length_map, KCopyL.n_Log] at hG; replace hG : _ = _ := hG)
                 refine sq ?_; refine rg ?_; refine ra [] f0 [] ?_; refine tN ?_; refine sq ?_; refine sq ?_; refine rg ?_; refine ra [] f0 [(14, B (!(((v_2348.Log.length : Nat) : Int) == ((v_2436.length : Nat) : Int))))] ?_; refine tN ?_; rcases ifB_cases hG with ⟨h_2477, hG⟩ | ⟨h_2477, hG⟩
                 ·try simp only [List.length_map, KCopyL.n_Log] at h_2477
                  refine sb 14 (nt h_2477) ?_; refine cf ?_; refine kS ?_; refine tN ?_; obtain ⟨o_2514, hG, hG_2514⟩ := bind_some hG; refine jn (fun K E a w => Js S0 w0 32 (K) ([.dat (RowC v_2348.Log_A v_2348.Log_c KTxL.cells KTxL.ok v_2348.Log)] ++ se E [0, 1, 2, 4, 5, 6]) (.inl () = o_2514) a w) ?_ ?_
                  ·refine sq ?_; refine rg ?_; refine ra [] f0 [(15, .slice v_2348.Log_A v_2348.Log.length v_2348.Log_c), (16, I ((v_2348.Log.length : Nat) : Int)), (17, I 0)] ?_; refine tN ?_; refine bk ?_; obtain ⟨e_2502, hL, hG_2502⟩ := bind_some hG; clear hG; obtain ⟨stp_2502, hs_2502, hL⟩ := iter_gen hL; refine lp (fun K E n_ a w => ∃ (v_2501 : Int), Js S0 w0 32 ([(17, I v_2501)] ++ K) ([.dat (RowC v_2348.Log_A v_2348.Log_c KTxL.cells KTxL.ok v_2348.Log)] ++ se E [0, 1, 2, 4, 5, 6]) (iter stp_2502 n_ v_2501 = some e_2502) a w) F ?_ ?_
                   ·refine fm (RowC v_2348.Log_A v_2348.Log_c KTxL.cells KTxL.ok v_2348.Log) (gm (KCopyL.ok v_2348) 3 fun _ _ h => h.f_Log) ?_; exact fun a w S hK hE => ⟨0, S, hK.wk, hE.sel [0, 1, 2, 3, 5, 6, 7], hL⟩
                   ·clear hL; rintro n_2502 a w ⟨v_2501, hJ⟩; refine hJ.go fun hL => ?_
                    clear hJ; obtain ⟨m_2502, o_2502, rfl, hG, hO1_2502, hO2_2502⟩ := iter_step hL; clear hL; rw [hs_2502] at hG
                    try (simp only [un2, un3, un4, un5, un6, un7, un8, Sum.elim_inl, Sum.elim_inr, List.length_map, KCopyL.n_Log] at hG; replace hG : _ = _ := hG)
                    refine sq ?_; refine rg ?_; refine ra [] f0 [(18, B (decide (v_2501 < ((v_2348.Log.length : Nat) : Int))))] ?_; refine tN ?_; refine sq ?_; rcases ifB_cases hG with ⟨h_2503, hG⟩ | ⟨h_2503, hG⟩
                    ·try simp only [List.length_map, KCopyL.n_Log] at h_2503
                     refine sb 18 (bt h_2503) ?_; refine ct ?_; refine kS ?_; refine tN ?_; refine sq ?_; refine bk ?_; refine sq ?_; replace hG := bind_some hG; obtain ⟨v_2504o, hy_2504, hG⟩ := hG; refine rg ?_; refine fxn (p := KTxL.p) inf38 (gd' (RowC v_2348.Log_A v_2348.Log_c KTxL.cells KTxL.ok v_2348.Log) 0) hy_2504 fun v_2504 b_2505 o_2506 he_2504 hi_2504 => ?_
                     subst he_2504
                     try (simp only [un2, un3, un4, un5, un6, un7, un8, Sum.elim_inl, Sum.elim_inr, List.length_map, KCopyL.n_Log] at hG; replace hG : _ = _ := hG)
                     refine rn 3 [(1, 0, 0, 0), (0, 4, 0, 0)] (fc (hi_2504 .i64) f0) [(19, I v_2501), (21, .agg #[I v_2504.ID, I v_2504.Ts, .slice v_2504.Reads_A v_2504.Reads.length v_2504.Reads_c, .slice v_2504.Writes_A v_2504.Writes.length v_2504.Writes_c])] ?_; refine l1 ?_; refine nw 8 vp [I 0, I 0, .slice none 0 0, .slice none 0 0] 47 fun g_2507 => ?_
                     refine rn 1 [] f0 [(7, I v_2501)] ?_; refine l1 ?_; refine sr 0 g_2507 [(0, I v_2504.ID), (1, I v_2504.Ts), (2, .slice v_2504.Reads_A v_2504.Reads.length v_2504.Reads_c), (3, .slice v_2504.Writes_A v_2504.Writes.length v_2504.Writes_c)] ?_; refine nl ?_; refine tN ?_; refine sq ?_; replace hG := bind_some hG; obtain ⟨v_2508o, hy_2508, hG⟩ := hG; refine rg ?_; refine fxn (p := KTxL.p) inf38 (gd' (RowC v_2436_A v_2436_c KTxL.cells KTxL.ok v_2436) 4) hy_2508 fun v_2508 b_2509 o_2510 he_2508 hi_2508 => ?_
                     subst he_2508
                     try (simp only [un2, un3, un4, un5, un6, un7, un8, Sum.elim_inl, Sum.elim_inr, List.length_map, KCopyL.n_Log] at hG; replace hG : _ = _ := hG)
                     refine rn 4 [(2, 0, 0, 0), (0, 4, 0, 0)] (fc (hi_2508 .i64) f0) [(25, .agg #[I v_2508.ID, I v_2508.Ts, .slice v_2508.Reads_A v_2508.Reads.length v_2508.Reads_c, .slice v_2508.Writes_A v_2508.Writes.length v_2508.Writes_c])] ?_; refine l1 ?_; refine nw 9 vp [I 0, I 0, .slice none 0 0, .slice none 0 0] 47 fun g_2511 => ?_
                     refine l1 ?_; refine sr 0 g_2511 [(0, I v_2508.ID), (1, I v_2508.Ts), (2, .slice v_2508.Reads_A v_2508.Reads.length v_2508.Reads_c), (3, .slice v_2508.Writes_A v_2508.Writes.length v_2508.Writes_c)] ?_; refine nl ?_; refine tN ?_; refine sq ?_; replace hG := bind_some hG; obtain ⟨v_2512, hy_2512, hG⟩ := hG; refine rg ?_; refine rn 3 [(1, 4, 3, 0), (0, 4, 0, 0)] f0 [(26, .func (.func 40) #[] #[]), (27, .agg #[I v_2504.ID, I v_2504.Ts, .slice v_2504.Reads_A v_2504.Reads.length v_2504.Reads_c, .slice v_2504.Writes_A v_2504.Writes.length v_2504.Writes_c]), (28, .agg #[I v_2508.ID, I v_2508.Ts, .slice v_2508.Reads_A v_2508.Reads.length v_2508.Reads_c, .slice v_2508.Writes_A v_2508.Writes.length v_2508.Writes_c])] ?_; refine l1 ?_; refine cl 29 (z_copies_equal F v_2504 v_2508 _ hy_2512) hT ⟨(gi 5).a, (gi 2).a, trivial⟩ ?_; refine ra [] f0 [(30, B (!v_2512))] ?_; refine tN ?_; rcases ifB_cases hG with ⟨h_2513, hG⟩ | ⟨h_2513, hG⟩
                     ·refine sb 30 (nt h_2513) ?_; refine cf ?_; refine kS ?_; refine hN ?_; refine tN ?_; refine rg ?_; refine ra [] f0 [(17, I (IntKind.i64.wrap (v_2501 + 1)))] ?_; refine tN ?_; exact fun a w S hK hE => ⟨m_2502, ⟨IntKind.i64.wrap (v_2501 + 1), S, hK.wk, hE.sel [6, 7, 8, 9, 10, 11, 12], hO1_2502 _ (Option.some.inj hG).symm⟩, Nat.lt_succ_self _⟩
                     ·refine sb 30 (nf h_2513) ?_; refine ct ?_; refine sq ?_; refine rg ?_; refine ra [] f0 [(6, B false)] ?_; refine tN ?_; refine kR ?_; refine hR ?_; refine tR ?_; refine tR ?_; have he_ := hO2_2502 _ (Option.some.inj hG).symm; subst he_; replace hG := hG_2502
                      try (simp only [un2, un3, un4, un5, un6, un7, un8, Sum.elim_inl, Sum.elim_inr, List.length_map, KCopyL.n_Log] at hG; replace hG : _ = _ := hG)
                      refine hR ?_; refine tR ?_; obtain rfl := Option.some.inj hG; replace hG := hG_2514
                      try (simp only [un2, un3, un4, un5, un6, un7, un8, Sum.elim_inl, Sum.elim_inr, List.length_map, KCopyL.n_Log] at hG; replace hG : _ = _ := hG)
                      refine ri [] (B false) ?_; exact fun a w S hK hE => ⟨false, rfl, ⟨S, hE.sel [6, 7, 8, 9, 10, 11, 12]⟩, Option.some.inj hG⟩
                    ·try simp only [List.length_map, KCopyL.n_Log] at h_2503
                     refine sb 18 (bf h_2503) ?_; refine cf ?_; refine kX ?_; refine tX ?_; refine tX ?_; have he_ := hO2_2502 _ (Option.some.inj hG).symm; subst he_; replace hG := hG_2502
                     try (simp only [un2, un3, un4, un5, un6, un7, un8, Sum.elim_inl, Sum.elim_inr, List.length_map, KCopyL.n_Log] at hG; replace hG : _ = _ := hG)
                     refine hH ?_; refine tN ?_; exact fun a w S hK hE => ⟨S, hK.wk, hE.sel [0, 1, 2, 3, 4, 5, 6], Option.some.inj hG⟩
                  ·rintro a w hJ; refine hJ.go fun ho_ => ?_
                   clear hJ; subst ho_; replace hG := hG_2514
                   try (simp only [un2, un3, un4, un5, un6, un7, un8, Sum.elim_inl, Sum.elim_inr, List.length_map, KCopyL.n_Log] at hG; replace hG : _ = _ := hG)
                   refine sq ?_; refine rg ?_; refine ra [] f0 [(6, B true)] ?_; refine tN ?_; refine kR ?_; refine ri [] (B true) ?_; exact fun a w S hK hE => ⟨true, rfl, ⟨S, hE.sel [0, 1, 2, 3, 4, 5, 6]⟩, Option.some.inj hG⟩
                 ·try simp only [List.length_map, KCopyL.n_Log] at h_2477
                  refine sb 14 (nf h_2477) ?_; refine ct ?_; refine sq ?_; refine rg ?_; refine ra [] f0 [(6, B false)] ?_; refine tN ?_; refine kR ?_; refine tR ?_; refine ri [] (B false) ?_; refine fm (RowC v_2348.Log_A v_2348.Log_c KTxL.cells KTxL.ok v_2348.Log) (gm (KCopyL.ok v_2348) 3 fun _ _ h => h.f_Log) ?_; exact fun a w S hK hE => ⟨false, rfl, ⟨S, hE.sel [0, 1, 2, 3, 5, 6, 7]⟩, Option.some.inj hG⟩
                ·rintro e w ⟨v_2475, hJ⟩; refine hJ.go fun ho_ => ?_
                 clear hJ; subst ho_
                 try (simp only [un2, un3, un4, un5, un6, un7, un8, Sum.elim_inl, Sum.elim_inr, List.length_map, KCopyL.n_Log] at hG; replace hG : _ = _ := hG)
                 refine hk [1, 2, 3, 4, 5, 6] ?_; refine ht [1, 2, 3, 4, 5, 6] [7, 8] [] f0 [(3, B (!v_2475))] ?_; refine he ?_; refine tN ?_; refine kR ?_; refine ri [] (B (!v_2475)) ?_; exact fun a w S hK hE => ⟨!v_2475, rfl, ⟨S, hE.sel [0, 3, 4, 5, 6]⟩, Option.some.inj hG⟩
               ·rintro e w ⟨v_2432, hJ⟩; refine hJ.go fun ho_ => ?_
                clear hJ; subst ho_
                try (simp only [un2, un3, un4, un5, un6, un7, un8, Sum.elim_inl, Sum.elim_inr, List.length_map, KCopyL.n_Log] at hG; replace hG : _ = _ := hG)
                refine nl ?_; refine tN ?_; rcases ifB_cases hG with ⟨h_2515, hG⟩ | ⟨h_2515, hG⟩
                ·refine sb 16 (bt h_2515) ?_; refine ct ?_; refine sq ?_; refine rg ?_; refine ra [] f0 [(4, I v_2345)] ?_; refine tN ?_; refine kR ?_; refine hR ?_; refine tR ?_; refine tR ?_; have he_ := hO2_2346 _ (Option.some.inj hG).symm; subst he_; replace hG := hG_2346
                 try (simp only [un2, un3, un4, un5, un6, un7, un8, Sum.elim_inl, Sum.elim_inr, List.length_map, KCopyL.n_Log] at hG; replace hG : _ = _ := hG)
                 refine hR ?_; refine tR ?_; obtain rfl := Option.some.inj hG; replace hG := hG_2517
                 try (simp only [un2, un3, un4, un5, un6, un7, un8, Sum.elim_inl, Sum.elim_inr, List.length_map, KCopyL.n_Log] at hG; replace hG : _ = _ := hG)
                 refine ri [] (I v_2345) ?_; exact fun a w S hK hE => ⟨v_2345, rfl, ⟨S, hE.sel [2, 3, 4]⟩, Option.some.inj hG⟩
                ·refine sb 16 (bf h_2515) ?_; refine cf ?_; refine kS ?_; refine hN ?_; refine tN ?_; refine rg ?_; refine ra [] f0 [(8, I (IntKind.i64.wrap (v_2345 + 1)))] ?_; refine tN ?_; exact fun a w S hK hE => ⟨m_2346, ⟨IntKind.i64.wrap (v_2345 + 1), S, hK.wk, hE.sel [2, 3, 4], hO1_2346 _ (Option.some.inj hG).symm⟩, Nat.lt_succ_self _⟩
              ·try simp only [List.length_map, KCopyL.n_Log] at h_2347
               refine sb 9 (bf h_2347) ?_; refine cf ?_; refine kX ?_; refine tX ?_; refine tX ?_; have he_ := hO2_2346 _ (Option.some.inj hG).symm; subst he_; replace hG := hG_2346
               try (simp only [un2, un3, un4, un5, un6, un7, un8, Sum.elim_inl, Sum.elim_inr, List.length_map, KCopyL.n_Log] at hG; replace hG : _ = _ := hG)
               refine hH ?_; refine tN ?_; exact fun a w S hK hE => ⟨S, hK.wk, hE.sel [0, 1, 2], Option.some.inj hG⟩
            ·rintro a w hJ; refine hJ.go fun ho_ => ?_
             clear hJ; subst ho_; replace hG := hG_2517
             try (simp only [un2, un3, un4, un5, un6, un7, un8, Sum.elim_inl, Sum.elim_inr, List.length_map, KCopyL.n_Log] at hG; replace hG : _ = _ := hG)
             refine sq ?_; refine rg ?_; refine ra [] f0 [(4, I (-1))] ?_; refine tN ?_; refine kR ?_; refine ri [] (I (-1)) ?_; exact fun a w S hK hE => ⟨(-1), rfl, ⟨S, hE.sel [0, 1, 2]⟩, Option.some.inj hG⟩
           ·rintro e w ⟨v_2004, hJ⟩; refine hJ.go fun ho_ => ?_
            clear hJ; subst ho_
            try (simp only [un2, un3, un4, un5, un6, un7, un8, Sum.elim_inl, Sum.elim_inr, List.length_map, KCopyL.n_Log] at hG; replace hG : _ = _ := hG)
            refine ra [] f0 [(4, B (decide (v_2004 ≥ 0)))] ?_; refine tN ?_; refine kR ?_; refine ri [] (B (decide (v_2004 ≥ 0))) ?_; exact fun a w S hK hE => ⟨decide (v_2004 ≥ 0), rfl, ⟨S, hE.sel [0, 1, 2]⟩, Option.some.inj hG⟩
          ·rintro e w ⟨v_1359, hJ⟩; refine hJ.go fun ho_ => ?_
           clear hJ; subst ho_
           try (simp only [un2, un3, un4, un5, un6, un7, un8, Sum.elim_inl, Sum.elim_inr, List.length_map, KCopyL.n_Log] at hG; replace hG : _ = _ := hG)
           refine ra [] f0 [(2, B (!v_1359))] ?_; refine tN ?_; exact fun a w S hK hE => ⟨!v_1359, S, hK.wk, hE.sel [], Option.some.inj hG⟩
       ·refine rg ?_; refine rn 4 [(0, 1, 0, 0)] f0 [(35, B (decide (((v_171.length : Nat) : Int) ≤ 2000)))] ?_
        try simp only [List.length_map, KCopyL.n_Log] at h_244
        refine sb 35 (bt h_244) ?_; refine rn 1 [(0, 1, 0, 0)] f0 [(36, .slice v_172_A v_171.length v_173_c)] ?_; refine l1 ?_; refine ci 37 (args := [.slice v_172_A v_171.length v_173_c, .func (.func 42) #[] #[]]) (fun E e w => ∃ (v_295 : Bool), Rs S0 w0 (B v_295) (se E [0, 1, 2]) (v_295 = v_295o) e w) Tryz.func41 rfl rfl ?_ ?_
        ·replace hG := hy_296
         try (simp only [un2, un3, un4, un5, un6, un7, un8, Sum.elim_inl, Sum.elim_inr, List.length_map, KCopyL.n_Log] at hG; replace hG : _ = _ := hG)
         refine sq ?_; refine rg ?_; refine ra [] f0 [] ?_; refine tN ?_; refine sq ?_; replace hG := bind_some hG; obtain ⟨v_2543o, hy_2544, hG⟩ := hG; refine rg ?_; refine rn 2 [] f0 [(5, .slice v_172_A v_171.length v_173_c), (6, .func (.func 42) #[] #[])] ?_; refine l1 ?_; refine ci 7 (args := [.slice v_172_A v_171.length v_173_c, .func (.func 42) #[] #[]]) (fun E e w => ∃ (v_2543 : Int), Rs S0 w0 (I v_2543) (se E [0, 1, 2]) (v_2543 = v_2543o) e w) Tryz.func67 rfl rfl ?_ ?_
         ·replace hG := hy_2544
          try (simp only [un2, un3, un4, un5, un6, un7, un8, Sum.elim_inl, Sum.elim_inr, List.length_map, KCopyL.n_Log] at hG; replace hG : _ = _ := hG)
          refine sq ?_; refine rg ?_; refine ra [] f0 [] ?_; refine tN ?_; obtain ⟨o_2567, hG, hG_2567⟩ := bind_some hG; refine jn (fun K E a w => Js S0 w0 19 (K) (se E [0, 1, 2]) (.inl () = o_2567) a w) ?_ ?_
          ·refine sq ?_; refine rg ?_; refine ra [] f0 [(7, I ((v_171.length : Nat) : Int)), (8, I 0)] ?_; refine tN ?_; refine bk ?_; obtain ⟨e_2559, hL, hG_2559⟩ := bind_some hG; clear hG; obtain ⟨stp_2559, hs_2559, hL⟩ := iter_gen hL; refine lp (fun K E n_ a w => ∃ (v_2558 : Int), Js S0 w0 19 ([(8, I v_2558)] ++ K) (se E [0, 1, 2]) (iter stp_2559 n_ v_2558 = some e_2559) a w) F ?_ ?_
           ·exact fun a w S hK hE => ⟨0, S, hK.wk, hE.sel [0, 1, 2], hL⟩
           ·clear hL; rintro n_2559 a w ⟨v_2558, hJ⟩; refine hJ.go fun hL => ?_
            clear hJ; obtain ⟨m_2559, o_2559, rfl, hG, hO1_2559, hO2_2559⟩ := iter_step hL; clear hL; rw [hs_2559] at hG
            try (simp only [un2, un3, un4, un5, un6, un7, un8, Sum.elim_inl, Sum.elim_inr, List.length_map, KCopyL.n_Log] at hG; replace hG : _ = _ := hG)
            refine sq ?_; refine rg ?_; refine ra [] f0 [(9, B (decide (v_2558 < ((v_171.length : Nat) : Int))))] ?_; refine tN ?_; refine sq ?_; rcases ifB_cases hG with ⟨h_2560, hG⟩ | ⟨h_2560, hG⟩
            ·try simp only [List.length_map, KCopyL.n_Log] at h_2560
             refine sb 9 (bt h_2560) ?_; refine ct ?_; refine kS ?_; refine tN ?_; refine sq ?_; refine bk ?_; refine sq ?_; refine rg ?_; refine ra [] f0 [(5, I v_2558)] ?_; refine tN ?_; refine sq ?_; replace hG := bind_some hG; obtain ⟨v_2561o, hy_2561, hG⟩ := hG; replace hG := bind_some hG; obtain ⟨v_2564, hy_2564, hG⟩ := hG; refine rg ?_; refine fxn (p := KTxL.p) inf38 (gd' (RowC v_172_A v_173_c KTxL.cells KTxL.ok v_171) 1) hy_2561 fun v_2561 b_2562 o_2563 he_2561 hi_2561 => ?_
             subst he_2561
             try (simp only [un2, un3, un4, un5, un6, un7, un8, Sum.elim_inl, Sum.elim_inr, List.length_map, KCopyL.n_Log] at hG; replace hG : _ = _ := hG)
             refine rn 5 [(3, 0, 0, 0), (0, 4, 0, 0)] (fc (hi_2561 .i64) f0) [(11, .func (.func 42) #[] #[]), (15, .agg #[I v_2561.ID, I v_2561.Ts, .slice v_2561.Reads_A v_2561.Reads.length v_2561.Reads_c, .slice v_2561.Writes_A v_2561.Writes.length v_2561.Writes_c])] ?_; refine l1 ?_; refine cl 16 (z_copies_wrong F v_2561 _ hy_2564) hT ⟨(gi 1).a, trivial⟩ ?_; refine nl ?_; refine tN ?_; rcases ifB_cases hG with ⟨h_2565, hG⟩ | ⟨h_2565, hG⟩
             ·refine sb 16 (bt h_2565) ?_; refine ct ?_; refine sq ?_; refine rg ?_; refine ra [] f0 [(4, I v_2558)] ?_; refine tN ?_; refine kR ?_; refine hR ?_; refine tR ?_; refine tR ?_; have he_ := hO2_2559 _ (Option.some.inj hG).symm; subst he_; replace hG := hG_2559
              try (simp only [un2, un3, un4, un5, un6, un7, un8, Sum.elim_inl, Sum.elim_inr, List.length_map, KCopyL.n_Log] at hG; replace hG : _ = _ := hG)
              refine hR ?_; refine tR ?_; obtain rfl := Option.some.inj hG; replace hG := hG_2567
              try (simp only [un2, un3, un4, un5, un6, un7, un8, Sum.elim_inl, Sum.elim_inr, List.length_map, KCopyL.n_Log] at hG; replace hG : _ = _ := hG)
              refine ri [] (I v_2558) ?_; exact fun a w S hK hE => ⟨v_2558, rfl, ⟨S, hE.sel [2, 3, 4]⟩, Option.some.inj hG⟩
             ·refine sb 16 (bf h_2565) ?_; refine cf ?_; refine kS ?_; refine hN ?_; refine tN ?_; refine rg ?_; refine ra [] f0 [(8, I (IntKind.i64.wrap (v_2558 + 1)))] ?_; refine tN ?_; exact fun a w S hK hE => ⟨m_2559, ⟨IntKind.i64.wrap (v_2558 + 1), S, hK.wk, hE.sel [2, 3, 4], hO1_2559 _ (Option.some.inj hG).symm⟩, Nat.lt_succ_self _⟩
            ·try simp only [List.length_map, KCopyL.n_Log] at h_2560
             refine sb 9 (bf h_2560) ?_; refine cf ?_; refine kX ?_; refine tX ?_; refine tX ?_; have he_ := hO2_2559 _ (Option.some.inj hG).symm; subst he_; replace hG := hG_2559
             try (simp only [un2, un3, un4, un5, un6, un7, un8, Sum.elim_inl, Sum.elim_inr, List.length_map, KCopyL.n_Log] at hG; replace hG : _ = _ := hG)
             refine hH ?_; refine tN ?_; exact fun a w S hK hE => ⟨S, hK.wk, hE.sel [0, 1, 2], Option.some.inj hG⟩
          ·rintro a w hJ; refine hJ.go fun ho_ => ?_
           clear hJ; subst ho_; replace hG := hG_2567
           try (simp only [un2, un3, un4, un5, un6, un7, un8, Sum.elim_inl, Sum.elim_inr, List.length_map, KCopyL.n_Log] at hG; replace hG : _ = _ := hG)
           refine sq ?_; refine rg ?_; refine ra [] f0 [(4, I (-1))] ?_; refine tN ?_; refine kR ?_; refine ri [] (I (-1)) ?_; exact fun a w S hK hE => ⟨(-1), rfl, ⟨S, hE.sel [0, 1, 2]⟩, Option.some.inj hG⟩
         ·rintro e w ⟨v_2543, hJ⟩; refine hJ.go fun ho_ => ?_
          clear hJ; subst ho_
          try (simp only [un2, un3, un4, un5, un6, un7, un8, Sum.elim_inl, Sum.elim_inr, List.length_map, KCopyL.n_Log] at hG; replace hG : _ = _ := hG)
          refine ra [] f0 [(4, B (decide (v_2543 ≥ 0)))] ?_; refine tN ?_; refine kR ?_; refine ri [] (B (decide (v_2543 ≥ 0))) ?_; exact fun a w S hK hE => ⟨decide (v_2543 ≥ 0), rfl, ⟨S, hE.sel [0, 1, 2]⟩, Option.some.inj hG⟩
        ·rintro e w ⟨v_295, hJ⟩; refine hJ.go fun ho_ => ?_
         clear hJ; subst ho_
         try (simp only [un2, un3, un4, un5, un6, un7, un8, Sum.elim_inl, Sum.elim_inr, List.length_map, KCopyL.n_Log] at hG; replace hG : _ = _ := hG)
         refine rn 3 [] f0 [(40, B (!v_295))] ?_; refine sb 40 (nf h_297) ?_; refine rn 1 [(0, 1, 0, 0)] f0 [(41, .slice v_172_A v_171.length v_173_c)] ?_; refine l1 ?_; refine ci 42 (args := [.slice v_172_A v_171.length v_173_c, .func (.func 44) #[] #[]]) (fun E e w => ∃ (v_328 : Bool), Rs S0 w0 (B v_328) (se E [0, 1, 2]) (v_328 = v_328o) e w) Tryz.func43 rfl rfl ?_ ?_
         ·replace hG := hy_329
          try (simp only [un2, un3, un4, un5, un6, un7, un8, Sum.elim_inl, Sum.elim_inr, List.length_map, KCopyL.n_Log] at hG; replace hG : _ = _ := hG)
          refine sq ?_; refine rg ?_; refine ra [] f0 [] ?_; refine tN ?_; refine sq ?_; refine rg ?_; refine ra [] f0 [(5, I 0)] ?_; refine tN ?_; obtain ⟨o_2598, hG, hG_2598⟩ := bind_some hG; refine jn (fun K E a w => Js S0 w0 23 (dk [5] K) (se E [0, 1, 2]) (.inl () = o_2598) a w) ?_ ?_
          ·refine sq ?_; refine rg ?_; refine ra [] f0 [(8, .slice v_172_A v_171.length v_173_c), (9, I ((v_171.length : Nat) : Int)), (10, I 0)] ?_; refine tN ?_; refine bk ?_; obtain ⟨e_2589, hL, hG_2589⟩ := bind_some hG; clear hG; obtain ⟨stp_2589, hs_2589, hL⟩ := iter_gen hL; refine lp (fun K E n_ a w => ∃ (v_2587 : Int), ∃ (v_2588 : Int), Js S0 w0 23 ([(5, I v_2588), (10, I v_2587)] ++ K) (se E [0, 1, 2]) (iter stp_2589 n_ (v_2587, v_2588) = some e_2589) a w) F ?_ ?_
           ·exact fun a w S hK hE => ⟨0, 0, S, hK.wk, hE.sel [0, 1, 2], hL⟩
           ·clear hL; rintro n_2589 a w ⟨v_2587, v_2588, hJ⟩; refine hJ.go fun hL => ?_
            clear hJ; obtain ⟨m_2589, o_2589, rfl, hG, hO1_2589, hO2_2589⟩ := iter_step hL; clear hL; rw [hs_2589] at hG
            try (simp only [un2, un3, un4, un5, un6, un7, un8, Sum.elim_inl, Sum.elim_inr, List.length_map, KCopyL.n_Log] at hG; replace hG : _ = _ := hG)
            refine sq ?_; refine rg ?_; refine ra [] f0 [(11, B (decide (v_2587 < ((v_171.length : Nat) : Int))))] ?_; refine tN ?_; refine sq ?_; rcases ifB_cases hG with ⟨h_2590, hG⟩ | ⟨h_2590, hG⟩
            ·try simp only [List.length_map, KCopyL.n_Log] at h_2590
             refine sb 11 (bt h_2590) ?_; refine ct ?_; refine kS ?_; refine tN ?_; refine sq ?_; refine bk ?_; refine sq ?_; replace hG := bind_some hG; obtain ⟨v_2591o, hy_2591, hG⟩ := hG; refine rg ?_; refine fxn (p := KTxL.p) inf38 (gd' (RowC v_172_A v_173_c KTxL.cells KTxL.ok v_171) 1) hy_2591 fun v_2591 b_2592 o_2593 he_2591 hi_2591 => ?_
             subst he_2591
             try (simp only [un2, un3, un4, un5, un6, un7, un8, Sum.elim_inl, Sum.elim_inr, List.length_map, KCopyL.n_Log] at hG; replace hG : _ = _ := hG)
             refine rn 2 [(0, 0, 0, 0), (0, 4, 0, 0)] (fc (hi_2591 .i64) f0) [(13, .agg #[I v_2591.ID, I v_2591.Ts, .slice v_2591.Reads_A v_2591.Reads.length v_2591.Reads_c, .slice v_2591.Writes_A v_2591.Writes.length v_2591.Writes_c])] ?_; refine l1 ?_; refine nw 7 vp [I 0, I 0, .slice none 0 0, .slice none 0 0] 47 fun g_2594 => ?_
             refine l1 ?_; refine sr 0 g_2594 [(0, I v_2591.ID), (1, I v_2591.Ts), (2, .slice v_2591.Reads_A v_2591.Reads.length v_2591.Reads_c), (3, .slice v_2591.Writes_A v_2591.Writes.length v_2591.Writes_c)] ?_; refine nl ?_; refine tN ?_; refine sq ?_; refine sq ?_; replace hG := bind_some hG; obtain ⟨v_2595, hy_2595, hG⟩ := hG; refine rg ?_; refine rn 2 [(1, 4, 0, 0)] f0 [(14, .func (.func 44) #[] #[]), (15, .agg #[I v_2591.ID, I v_2591.Ts, .slice v_2591.Reads_A v_2591.Reads.length v_2591.Reads_c, .slice v_2591.Writes_A v_2591.Writes.length v_2591.Writes_c])] ?_; refine l1 ?_; refine cl 16 (z_copies_Valid_3 F v_2591 _ hy_2595) hT ⟨(gi 2).a, trivial⟩ ?_; refine ra [] f0 [(18, B (decide (v_2595 ≤ v_2588)))] ?_; refine tN ?_; rcases ifB_cases hG with ⟨h_2596, hG⟩ | ⟨h_2596, hG⟩
             ·refine sb 18 (bt h_2596) ?_; refine ct ?_; refine sq ?_; refine rg ?_; refine ra [] f0 [(4, B false)] ?_; refine tN ?_; refine kR ?_; refine tR ?_; refine hR ?_; refine tR ?_; refine tR ?_; have he_ := hO2_2589 _ (Option.some.inj hG).symm; subst he_; replace hG := hG_2589
              try (simp only [un2, un3, un4, un5, un6, un7, un8, Sum.elim_inl, Sum.elim_inr, List.length_map, KCopyL.n_Log] at hG; replace hG : _ = _ := hG)
              refine hR ?_; refine tR ?_; obtain rfl := Option.some.inj hG; replace hG := hG_2598
              try (simp only [un2, un3, un4, un5, un6, un7, un8, Sum.elim_inl, Sum.elim_inr, List.length_map, KCopyL.n_Log] at hG; replace hG : _ = _ := hG)
              refine ri [] (B false) ?_; exact fun a w S hK hE => ⟨false, rfl, ⟨S, hE.sel [3, 4, 5]⟩, Option.some.inj hG⟩
             ·refine sb 18 (bf h_2596) ?_; refine cf ?_; refine kS ?_; refine tN ?_; replace hG := bind_some hG; obtain ⟨v_2597, hy_2597, hG⟩ := hG; refine rg ?_; refine rn 2 [(1, 4, 0, 0)] f0 [(19, .func (.func 44) #[] #[]), (20, .agg #[I v_2591.ID, I v_2591.Ts, .slice v_2591.Reads_A v_2591.Reads.length v_2591.Reads_c, .slice v_2591.Writes_A v_2591.Writes.length v_2591.Writes_c])] ?_; refine l1 ?_; refine cl 21 (z_copies_Valid_3 F v_2591 _ hy_2597) hT ⟨(gi 2).a, trivial⟩ ?_; refine ra [] f0 [(5, I v_2597)] ?_; refine hN ?_; refine tN ?_; refine rg ?_; refine ra [] f0 [(10, I (IntKind.i64.wrap (v_2587 + 1)))] ?_; refine tN ?_; exact fun a w S hK hE => ⟨m_2589, ⟨IntKind.i64.wrap (v_2587 + 1), v_2597, S, hK.wk, hE.sel [3, 4, 5], hO1_2589 _ (Option.some.inj hG).symm⟩, Nat.lt_succ_self _⟩
            ·try simp only [List.length_map, KCopyL.n_Log] at h_2590
             refine sb 11 (bf h_2590) ?_; refine cf ?_; refine kX ?_; refine tX ?_; refine tX ?_; have he_ := hO2_2589 _ (Option.some.inj hG).symm; subst he_; replace hG := hG_2589
             try (simp only [un2, un3, un4, un5, un6, un7, un8, Sum.elim_inl, Sum.elim_inr, List.length_map, KCopyL.n_Log] at hG; replace hG : _ = _ := hG)
             refine hH ?_; refine tN ?_; exact fun a w S hK hE => ⟨S, hK.wk, hE.sel [0, 1, 2], Option.some.inj hG⟩
          ·rintro a w hJ; refine hJ.go fun ho_ => ?_
           clear hJ; subst ho_; replace hG := hG_2598
           try (simp only [un2, un3, un4, un5, un6, un7, un8, Sum.elim_inl, Sum.elim_inr, List.length_map, KCopyL.n_Log] at hG; replace hG : _ = _ := hG)
           refine sq ?_; refine rg ?_; refine ra [] f0 [(4, B true)] ?_; refine tN ?_; refine kR ?_; refine ri [] (B true) ?_; exact fun a w S hK hE => ⟨true, rfl, ⟨S, hE.sel [0, 1, 2]⟩, Option.some.inj hG⟩
         ·rintro e w ⟨v_328, hJ⟩; refine hJ.go fun ho_ => ?_
          clear hJ; subst ho_
          try (simp only [un2, un3, un4, un5, un6, un7, un8, Sum.elim_inl, Sum.elim_inr, List.length_map, KCopyL.n_Log] at hG; replace hG : _ = _ := hG)
          refine rn 2 [] f0 [(44, B v_328)] ?_; refine sb 44 (bf h_330) ?_; refine ra [] f0 [(2, B false)] ?_; refine tN ?_; exact fun a w S hK hE => ⟨false, S, hK.wk, hE.sel [], Option.some.inj hG⟩
     ·refine rg ?_; refine rn 4 [(0, 1, 0, 0)] f0 [(35, B (decide (((v_171.length : Nat) : Int) ≤ 2000)))] ?_
      try simp only [List.length_map, KCopyL.n_Log] at h_244
      refine sb 35 (bf h_244) ?_; refine ra [] f0 [(2, B false)] ?_; refine tN ?_; exact fun a w S hK hE => ⟨false, S, hK.wk, hE.sel [], Option.some.inj hG⟩
    ·rintro a w ⟨v_2600, hJ⟩; refine hJ.go fun ho_ => ?_
     clear hJ; subst ho_; replace hG := hG_2599
     try (simp only [un2, un3, un4, un5, un6, un7, un8, Sum.elim_inl, Sum.elim_inr, List.length_map, KCopyL.n_Log] at hG; replace hG : _ = _ := hG)
     refine kR ?_; obtain rfl := Option.some.inj hG; exact rt []
end Go.Proofs.YtkchfmhgboiimaaGreat
namespace Go.Proofs.YtkchfmhgboiimaaGreat
open Go.RowKit Go.Maps
def G_regulatorref38_Tx (F : Nat) (p_0 : KTx) : Option (Bool) :=
  Option.bind (G_regulatorref38_reads F p_0.Reads) (fun v_2 =>
  Option.bind (G_regulatorref38_writes F p_0.Writes) (fun v_3 =>
  Option.bind (ifB (decide (p_0.ID ≥ 1))
      (ifB (decide (p_0.ID ≤ 1000000))
        (ifB (decide (p_0.Ts ≥ 1))
          (ifB (decide (p_0.Ts ≤ 3000000000000000))
            (ifB (v_2)
              (some v_3)
              (some false))
            (some false))
          (some false))
        (some false))
      (some false) : Option (Bool)) (fun (v_10 : Bool) => 
    some v_10)))
set_option maxRecDepth 100000 in
set_option maxHeartbeats 16000000 in
theorem z_regulatorref38_Tx (F : Nat) (p_0 : KTxL) (r : Bool) (hG : G_regulatorref38_Tx F p_0.p = some r) :
  Cf Tryz.prog 76 [.agg #[I p_0.ID, I p_0.Ts, .slice p_0.Reads_A p_0.Reads.length p_0.Reads_c, .slice p_0.Writes_A p_0.Writes.length p_0.Writes_c]] [KTxL.ok p_0] (B r) := by
 unfold G_regulatorref38_Tx at hG
 try (simp only [un2, un3, un4, un5, un6, un7, un8, Sum.elim_inl, Sum.elim_inr, List.length_map, KCopyL.n_Log] at hG; replace hG : _ = _ := hG)
 refine fi Tryz.func76 rfl rfl (mc KTxL.mv m0) fun S0 w0 hT => ?_
 refine sq ?_; refine rg ?_; refine l1 ?_; refine nw 1 vp [I p_0.ID, I p_0.Ts, .slice p_0.Reads_A p_0.Reads.length p_0.Reads_c, .slice p_0.Writes_A p_0.Writes.length p_0.Writes_c] 47 fun g_1 => ?_
 refine ra [] f0 [] ?_; refine tN ?_; refine sq ?_; replace hG := bind_some hG; obtain ⟨v_2, hy_2, hG⟩ := hG; refine rg ?_; refine rn 2 [(1, 1, 0, 2)] f0 [(6, .slice p_0.Reads_A p_0.Reads.length p_0.Reads_c)] ?_; refine l1 ?_; refine cl 7 (z_regulatorref38_reads F p_0.Reads_A p_0.Reads_c p_0.Reads _ hy_2) hT ⟨(gm (KTxL.ok p_0) 1 fun _ _ h => h.f_Reads).a, trivial⟩ ?_; refine ra [] f0 [(3, B v_2)] ?_; refine tN ?_; refine sq ?_; replace hG := bind_some hG; obtain ⟨v_3, hy_3, hG⟩ := hG; refine rg ?_; refine rn 2 [(1, 1, 0, 3)] f0 [(9, .slice p_0.Writes_A p_0.Writes.length p_0.Writes_c)] ?_; refine l1 ?_; refine cl 10 (z_regulatorref38_writes F p_0.Writes_A p_0.Writes_c p_0.Writes _ hy_3) hT ⟨(gm (KTxL.ok p_0) 1 fun _ _ h => h.f_Writes).a, trivial⟩ ?_; refine ra [] f0 [(4, B v_3)] ?_; refine tN ?_; obtain ⟨o_9, hG, hG_9⟩ := bind_some hG; refine jn (fun K E a w => ∃ (v_10 : Bool), Js S0 w0 35 ([(2, B v_10)] ++ K) (se E []) (v_10 = o_9) a w) ?_ ?_
 ·replace hG := ifB_cases hG; rcases hG with ⟨h_4, hG⟩ | ⟨h_4, hG⟩
  ·replace hG := ifB_cases hG; rcases hG with ⟨h_5, hG⟩ | ⟨h_5, hG⟩
   ·replace hG := ifB_cases hG; rcases hG with ⟨h_6, hG⟩ | ⟨h_6, hG⟩
    ·replace hG := ifB_cases hG; rcases hG with ⟨h_7, hG⟩ | ⟨h_7, hG⟩
     ·replace hG := ifB_cases hG; rcases hG with ⟨h_8, hG⟩ | ⟨h_8, hG⟩
      ·refine rg ?_; refine rn 4 [(1, 1, 0, 0)] f0 [(14, B (decide (p_0.ID ≥ 1)))] ?_; refine sb 14 (bt h_4) ?_; refine rn 5 [(1, 1, 0, 0)] f0 [(19, B (decide (p_0.ID ≤ 1000000)))] ?_; refine sb 19 (bt h_5) ?_; refine rn 5 [(1, 1, 0, 1)] f0 [(24, B (decide (p_0.Ts ≥ 1)))] ?_; refine sb 24 (bt h_6) ?_; refine rn 5 [(1, 1, 0, 1)] f0 [(29, B (decide (p_0.Ts ≤ 3000000000000000)))] ?_; refine sb 29 (bt h_7) ?_; refine rn 3 [] f0 [(32, B v_2)] ?_; refine sb 32 (bt h_8) ?_; refine ra [] f0 [(2, B v_3)] ?_; refine tN ?_; exact fun a w S hK hE => ⟨v_3, S, hK.wk, hE.sel [], Option.some.inj hG⟩
      ·refine rg ?_; refine rn 4 [(1, 1, 0, 0)] f0 [(14, B (decide (p_0.ID ≥ 1)))] ?_; refine sb 14 (bt h_4) ?_; refine rn 5 [(1, 1, 0, 0)] f0 [(19, B (decide (p_0.ID ≤ 1000000)))] ?_; refine sb 19 (bt h_5) ?_; refine rn 5 [(1, 1, 0, 1)] f0 [(24, B (decide (p_0.Ts ≥ 1)))] ?_; refine sb 24 (bt h_6) ?_; refine rn 5 [(1, 1, 0, 1)] f0 [(29, B (decide (p_0.Ts ≤ 3000000000000000)))] ?_; refine sb 29 (bt h_7) ?_; refine rn 3 [] f0 [(32, B v_2)] ?_; refine sb 32 (bf h_8) ?_; refine ra [] f0 [(2, B false)] ?_; refine tN ?_; exact fun a w S hK hE => ⟨false, S, hK.wk, hE.sel [], Option.some.inj hG⟩
     ·refine rg ?_; refine rn 4 [(1, 1, 0, 0)] f0 [(14, B (decide (p_0.ID ≥ 1)))] ?_; refine sb 14 (bt h_4) ?_; refine rn 5 [(1, 1, 0, 0)] f0 [(19, B (decide (p_0.ID ≤ 1000000)))] ?_; refine sb 19 (bt h_5) ?_; refine rn 5 [(1, 1, 0, 1)] f0 [(24, B (decide (p_0.Ts ≥ 1)))] ?_; refine sb 24 (bt h_6) ?_; refine rn 5 [(1, 1, 0, 1)] f0 [(29, B (decide (p_0.Ts ≤ 3000000000000000)))] ?_; refine sb 29 (bf h_7) ?_; refine ra [] f0 [(2, B false)] ?_; refine tN ?_; exact fun a w S hK hE => ⟨false, S, hK.wk, hE.sel [], Option.some.inj hG⟩
    ·refine rg ?_; refine rn 4 [(1, 1, 0, 0)] f0 [(14, B (decide (p_0.ID ≥ 1)))] ?_; refine sb 14 (bt h_4) ?_; refine rn 5 [(1, 1, 0, 0)] f0 [(19, B (decide (p_0.ID ≤ 1000000)))] ?_; refine sb 19 (bt h_5) ?_; refine rn 5 [(1, 1, 0, 1)] f0 [(24, B (decide (p_0.Ts ≥ 1)))] ?_; refine sb 24 (bf h_6) ?_; refine ra [] f0 [(2, B false)] ?_; refine tN ?_; exact fun a w S hK hE => ⟨false, S, hK.wk, hE.sel [], Option.some.inj hG⟩
   ·refine rg ?_; refine rn 4 [(1, 1, 0, 0)] f0 [(14, B (decide (p_0.ID ≥ 1)))] ?_; refine sb 14 (bt h_4) ?_; refine rn 5 [(1, 1, 0, 0)] f0 [(19, B (decide (p_0.ID ≤ 1000000)))] ?_; refine sb 19 (bf h_5) ?_; refine ra [] f0 [(2, B false)] ?_; refine tN ?_; exact fun a w S hK hE => ⟨false, S, hK.wk, hE.sel [], Option.some.inj hG⟩
  ·refine rg ?_; refine rn 4 [(1, 1, 0, 0)] f0 [(14, B (decide (p_0.ID ≥ 1)))] ?_; refine sb 14 (bf h_4) ?_; refine ra [] f0 [(2, B false)] ?_; refine tN ?_; exact fun a w S hK hE => ⟨false, S, hK.wk, hE.sel [], Option.some.inj hG⟩
 ·rintro a w ⟨v_10, hJ⟩; refine hJ.go fun ho_ => ?_
  clear hJ; subst ho_; replace hG := hG_9
  try (simp only [un2, un3, un4, un5, un6, un7, un8, Sum.elim_inl, Sum.elim_inr, List.length_map, KCopyL.n_Log] at hG; replace hG : _ = _ := hG)
  refine kR ?_; obtain rfl := Option.some.inj hG; exact rt []
end Go.Proofs.YtkchfmhgboiimaaGreat
namespace Go.Proofs.YtkchfmhgboiimaaGreat
open Go.RowKit Go.Maps
def G_copies_Elect (F : Nat) (p_0 : List KCopy) (p_1 : List Int) : Option (Int × Int) :=
  Option.bind (G_copies_Valid F p_0) (fun v_2 =>
  ifB (v_2)
    (Option.bind (some () : Option (Unit)) (fun (_ : Unit) => 
      Option.bind (srtA p_1) (fun v_7 =>
      Option.bind (Option.bind (apG 8 ([] : List Int) v_7) (fun v_9 =>
        ifB (((((Lib.compact v_7).length : Nat) : Int) == ((p_1.length : Nat) : Int)))
          (Option.bind (Option.bind (Option.bind (Option.bind (iter (σ := Int) (ρ := Unit ⊕ Int) (fun (v_31 : Int) => 
                    (ifB (decide (v_31 < ((v_7.length : Nat) : Int)))
                      (Option.bind (ixI v_7 v_31) (fun v_34 =>
                      Option.bind (Option.bind (G_copies_find F p_0 v_34) (fun v_37 =>
                        some (decide (v_37 < 0))) : Option (Bool)) (fun (v_38 : Bool) => 
                        ifB (v_38)
                          (some (.inr (.inr v_31)))
                          (some (.inl (IntKind.i64.wrap (v_31 + 1)))))))
                      (some (.inr (.inl ()))) : Option (Int ⊕ (Unit ⊕ Int)))) F 0) (Sum.elim (fun (_ : Unit) => 
                  some (.inl ())) (fun (v_42 : Int) => 
                  some (.inr v_42))) : Option (Unit ⊕ Int)) (Sum.elim (fun (_ : Unit) => 
                some (-1)) (fun (v_44 : Int) => 
                some v_44)) : Option (Int)) (fun (v_45 : Int) => 
              some (decide (v_45 ≥ 0))) : Option (Bool)) (fun (v_80 : Bool) => 
            some v_80))
          (some true)) : Option (Bool)) (fun (v_151 : Bool) => 
        ifB (v_151)
          (some (0, 1))
          (ifB (decide ((IntKind.i64.wrap (2 * ((p_1.length : Nat) : Int))) ≤ ((p_0.length : Nat) : Int)))
            (some (0, 20))
            (Option.bind (ixI v_7 0) (fun v_154 =>
            Option.bind (Option.bind (iter (σ := Int × Int) (ρ := Int) (un2 fun (v_193 : Int) (v_194 : Int) => 
                  (ifB (decide (v_193 < ((v_7.length : Nat) : Int)))
                    (Option.bind (Option.bind (ixI v_7 v_193) (fun v_197 =>
                      Option.bind (G_copies_find F p_0 v_197) (fun v_200 =>
                      Option.bind (ixI p_0 v_200) (fun v_201 =>
                      Option.bind (G_copies_size F v_201) (fun v_204 =>
                      Option.bind (G_copies_find F p_0 v_194) (fun v_205 =>
                      Option.bind (ixI p_0 v_205) (fun v_206 =>
                      Option.bind (G_copies_size F v_206) (fun v_209 =>
                      ifB (decide (v_204 > v_209))
                        (some v_197)
                        (some v_194)))))))) : Option (Int)) (fun (v_212 : Int) => 
                      some (.inl (IntKind.i64.wrap (v_193 + 1), v_212))))
                    (some (.inr v_194)) : Option ((Int × Int) ⊕ Int))) F (0, v_154)) (fun (v_213 : Int) => 
                some v_213) : Option (Int)) (fun (v_215 : Int) => 
              some (v_215, 0)))))))))
    (some (0, 1)))
set_option maxRecDepth 100000 in
set_option maxHeartbeats 16000000 in
theorem z_copies_Elect (F : Nat) (p_0_A : Option Addr) (p_0_c : Nat) (p_0 : List KCopyL) (p_1_A : Option Addr) (p_1_c : Nat) (p_1 : List Int) (r : Int × Int) (hG : G_copies_Elect F (p_0.map KCopyL.p) p_1 = some r) :
  Cf Tryz.prog 19 [.slice p_0_A p_0.length p_0_c, .slice p_1_A p_1.length p_1_c] [RowC p_0_A p_0_c KCopyL.cells KCopyL.ok p_0, RowC p_1_A p_1_c c_i64 tr p_1] (.tuple #[I r.1, I r.2]) := by
 unfold G_copies_Elect at hG
 try (simp only [un2, un3, un4, un5, un6, un7, un8, Sum.elim_inl, Sum.elim_inr, List.length_map, KCopyL.n_Log] at hG; replace hG : _ = _ := hG)
 refine fi Tryz.func19 rfl rfl (mr KCopyL.mv (mr tr_mv m0)) fun S0 w0 hT => ?_
 refine sq ?_; refine rg ?_; refine l1 ?_; refine nw 2 vp [.slice p_0_A p_0.length p_0_c] 22 fun g_1 => ?_
 refine ra [] f0 [] ?_; refine tN ?_; refine sq ?_; refine sq ?_; replace hG := bind_some hG; obtain ⟨v_2, hy_2, hG⟩ := hG; refine rg ?_; refine rn 1 [(0, 1, 0, 0)] f0 [(11, .slice p_0_A p_0.length p_0_c)] ?_; refine l1 ?_; refine cl 12 (z_copies_Valid F p_0_A p_0_c p_0 _ hy_2) hT ⟨ga 1, trivial⟩ ?_; refine ra [] f0 [(13, B (!v_2))] ?_; refine tN ?_; rcases ifB_cases hG with ⟨h_3, hG⟩ | ⟨h_3, hG⟩
 ·refine sb 13 (nt h_3) ?_; refine cf ?_; refine kS ?_; refine tN ?_; refine sq ?_; replace hG := bind_some hG; obtain ⟨⟨⟩, hy_6, hG⟩ := hG; replace hG := bind_some hG; obtain ⟨v_7, hy_7, hG⟩ := hG; refine rg ?_; refine rn 1 [] f0 [(14, .slice p_1_A p_1.length p_1_c)] ?_; refine l1 ?_; refine ci 15 (args := [.slice p_1_A p_1.length p_1_c]) (fun E e w => ∃ (g_5 : Nat), Rs S0 w0 (.func (.func 80) #[] #[Pt g_5 0]) ([.blk g_5 23 [.slice p_1_A p_1.length p_1_c]] ++ se E [0, 1, 2]) (() = ()) e w) Tryz.func50 rfl rfl ?_ ?_
  ·replace hG := hy_6
   try (simp only [un2, un3, un4, un5, un6, un7, un8, Sum.elim_inl, Sum.elim_inr, List.length_map, KCopyL.n_Log] at hG; replace hG : _ = _ := hG)
   refine sq ?_; refine rg ?_; refine l1 ?_; refine nw 1 vp [.slice p_1_A p_1.length p_1_c] 23 fun g_8 => ?_
   refine ra [] f0 [] ?_; refine tN ?_; refine sq ?_; refine rg ?_; refine ra [] f0 [(2, .func (.func 80) #[] #[Pt g_8 0])] ?_; refine tN ?_; refine kR ?_; refine ri [] (.func (.func 80) #[] #[Pt g_8 0]) ?_; exact fun a w S hK hE => ⟨g_8, rfl, ⟨S, hE.sel [0, 1, 2, 3]⟩, Option.some.inj hG⟩
  ·rintro e w ⟨g_5, hJ⟩; refine hJ.go fun ho_ => ?_
   clear hJ; refine l1 ?_; refine srd (t := 23) 16 0 g_5 p_1_A p_1_c p_1 (gd' (RowC p_1_A p_1_c c_i64 tr p_1) 3).a hy_7 fun v_7_A v_7_c => ?_
   refine so (A := v_7_A) (c := v_7_c) 0 c_i64 tr v_7 tr_mv et ?_; refine ra [] f0 [(6, .slice v_7_A v_7.length v_7_c)] ?_; refine tN ?_; refine sq ?_; refine rg ?_; refine ra [] f0 [(7, .func (.func 51) #[] #[Pt g_1 0])] ?_; refine tN ?_; refine sq ?_; obtain ⟨o_150, hG, hG_150⟩ := bind_some hG; refine jn (fun K E a w => ∃ (v_151 : Bool), Js S0 w0 63 ([(29, B v_151)] ++ K) (se E [0, 2, 3, 4]) (v_151 = o_150) a w) ?_ ?_
   ·replace hG := bind_some hG; obtain ⟨v_9, hy_9, hG⟩ := hG; replace hG := ifB_cases hG; rcases hG with ⟨h_11, hG⟩ | ⟨h_11, hG⟩
    ·replace hG := bind_some hG; obtain ⟨v_80o, hy_81, hG⟩ := hG; refine rg ?_; refine rn 1 [] f0 [(18, .slice v_7_A v_7.length v_7_c)] ?_; refine l1 ?_; refine cln_KSint 19 v_7_A v_7_c v_7 (gd' (RowC v_7_A v_7_c c_i64 tr v_7) 0).a (by simpa using (apG_some hy_9).1) fun v_9_A v_9_c => ?_
     refine l1 ?_; refine cpt (e := 3) 0 20 v_9_A v_9_c v_7.length v_7 rfl Tryz.slices_Compact_int Tryz.slices_Compact_int_empty (Lib.compact_length_le _) fun v_10 _ => ?_
     refine rn 5 [] f0 [(25, B (!((((Lib.compact v_7).length : Nat) : Int) == ((p_1.length : Nat) : Int))))] ?_
     try simp only [List.length_map, KCopyL.n_Log] at h_11
     refine sb 25 (nt h_11) ?_; refine rn 2 [] f0 [(26, .slice v_7_A v_7.length v_7_c), (27, .func (.func 51) #[] #[Pt g_1 0])] ?_; refine l1 ?_; refine ci 28 (args := [.slice v_7_A v_7.length v_7_c, .func (.func 51) #[] #[Pt g_1 0]]) (fun E e w => ∃ (v_80 : Bool), Rs S0 w0 (B v_80) (se E [0, 1, 2, 3, 4, 5]) (v_80 = v_80o) e w) Tryz.func54 rfl rfl ?_ ?_
     ·replace hG := hy_81
      try (simp only [un2, un3, un4, un5, un6, un7, un8, Sum.elim_inl, Sum.elim_inr, List.length_map, KCopyL.n_Log] at hG; replace hG : _ = _ := hG)
      refine sq ?_; refine rg ?_; refine ra [] f0 [] ?_; refine tN ?_; refine sq ?_; replace hG := bind_some hG; obtain ⟨v_115o, hy_116, hG⟩ := hG; refine rg ?_; refine rn 2 [] f0 [(5, .slice v_7_A v_7.length v_7_c), (6, .func (.func 51) #[] #[Pt g_1 0])] ?_; refine l1 ?_; refine ci 7 (args := [.slice v_7_A v_7.length v_7_c, .func (.func 51) #[] #[Pt g_1 0]]) (fun E e w => ∃ (v_115 : Int), Rs S0 w0 (I v_115) (se E [0, 1, 2, 3, 4, 5]) (v_115 = v_115o) e w) Tryz.func81 rfl rfl ?_ ?_
      ·replace hG := hy_116
       try (simp only [un2, un3, un4, un5, un6, un7, un8, Sum.elim_inl, Sum.elim_inr, List.length_map, KCopyL.n_Log] at hG; replace hG : _ = _ := hG)
       refine sq ?_; refine rg ?_; refine ra [] f0 [] ?_; refine tN ?_; obtain ⟨o_148, hG, hG_148⟩ := bind_some hG; refine jn (fun K E a w => Js S0 w0 19 (K) (se E [0, 1, 2, 3, 4, 5]) (.inl () = o_148) a w) ?_ ?_
       ·refine sq ?_; refine rg ?_; refine ra [] f0 [(7, I ((v_7.length : Nat) : Int)), (8, I 0)] ?_; refine tN ?_; refine bk ?_; obtain ⟨e_137, hL, hG_137⟩ := bind_some hG; clear hG; obtain ⟨stp_137, hs_137, hL⟩ := iter_gen hL; refine lp (fun K E n_ a w => ∃ (v_136 : Int), Js S0 w0 19 ([(8, I v_136)] ++ K) (se E [0, 1, 2, 3, 4, 5]) (iter stp_137 n_ v_136 = some e_137) a w) F ?_ ?_
        ·exact fun a w S hK hE => ⟨0, S, hK.wk, hE.sel [0, 1, 2, 3, 4, 5], hL⟩
        ·clear hL; rintro n_137 a w ⟨v_136, hJ⟩; refine hJ.go fun hL => ?_
         clear hJ; obtain ⟨m_137, o_137, rfl, hG, hO1_137, hO2_137⟩ := iter_step hL; clear hL; rw [hs_137] at hG
         try (simp only [un2, un3, un4, un5, un6, un7, un8, Sum.elim_inl, Sum.elim_inr, List.length_map, KCopyL.n_Log] at hG; replace hG : _ = _ := hG)
         refine sq ?_; refine rg ?_; refine ra [] f0 [(9, B (decide (v_136 < ((v_7.length : Nat) : Int))))] ?_; refine tN ?_; refine sq ?_; rcases ifB_cases hG with ⟨h_138, hG⟩ | ⟨h_138, hG⟩
         ·try simp only [List.length_map, KCopyL.n_Log] at h_138
          refine sb 9 (bt h_138) ?_; refine ct ?_; refine kS ?_; refine tN ?_; refine sq ?_; refine bk ?_; refine sq ?_; refine rg ?_; refine ra [] f0 [(5, I v_136)] ?_; refine tN ?_; refine sq ?_; replace hG := bind_some hG; obtain ⟨v_139, hy_139, hG⟩ := hG; replace hG := bind_some hG; obtain ⟨v_143o, hy_144, hG⟩ := hG; refine rg ?_; refine fx inf23 (gd' (RowC v_7_A v_7_c c_i64 tr v_7) 1) hy_139 fun b_140 o_141 hi_139 => ?_
          refine rn 5 [(3, 0, 0, 0), (0, 1, 0, 0)] (fc (hi_139 .i64) f0) [(11, .func (.func 51) #[] #[Pt g_1 0]), (15, I v_139)] ?_; refine l1 ?_; refine ci 16 (args := [I v_139, Pt g_1 0]) (fun E e w => ∃ (v_143 : Bool), Rs S0 w0 (B v_143) (se E [0, 1, 2, 3, 4, 5, 6]) (v_143 = v_143o) e w) Tryz.func51 rfl rfl ?_ ?_
          ·replace hG := hy_144
           try (simp only [un2, un3, un4, un5, un6, un7, un8, Sum.elim_inl, Sum.elim_inr, List.length_map, KCopyL.n_Log] at hG; replace hG : _ = _ := hG)
           refine sq ?_; refine rg ?_; refine ra [] f0 [] ?_; refine tN ?_; refine sq ?_; replace hG := bind_some hG; obtain ⟨v_145, hy_145, hG⟩ := hG; refine rg ?_; refine rn 2 [(0, 1, 4, 0)] f0 [(4, .slice p_0_A p_0.length p_0_c), (5, I v_139)] ?_; refine l1 ?_; refine cl 6 (z_copies_find F p_0_A p_0_c p_0 v_139 _ hy_145) hT ⟨ga 5, trivial⟩ ?_; refine ra [] f0 [(3, B (decide (v_145 < 0)))] ?_; refine tN ?_; refine kR ?_; refine ri [] (B (decide (v_145 < 0))) ?_; exact fun a w S hK hE => ⟨decide (v_145 < 0), rfl, ⟨S, hE.sel [0, 1, 2, 3, 4, 5, 6]⟩, Option.some.inj hG⟩
          ·rintro e w ⟨v_143, hJ⟩; refine hJ.go fun ho_ => ?_
           clear hJ; subst ho_
           try (simp only [un2, un3, un4, un5, un6, un7, un8, Sum.elim_inl, Sum.elim_inr, List.length_map, KCopyL.n_Log] at hG; replace hG : _ = _ := hG)
           refine nl ?_; refine tN ?_; rcases ifB_cases hG with ⟨h_146, hG⟩ | ⟨h_146, hG⟩
           ·refine sb 16 (bt h_146) ?_; refine ct ?_; refine sq ?_; refine rg ?_; refine ra [] f0 [(4, I v_136)] ?_; refine tN ?_; refine kR ?_; refine hR ?_; refine tR ?_; refine tR ?_; have he_ := hO2_137 _ (Option.some.inj hG).symm; subst he_; replace hG := hG_137
            try (simp only [un2, un3, un4, un5, un6, un7, un8, Sum.elim_inl, Sum.elim_inr, List.length_map, KCopyL.n_Log] at hG; replace hG : _ = _ := hG)
            refine hR ?_; refine tR ?_; obtain rfl := Option.some.inj hG; replace hG := hG_148
            try (simp only [un2, un3, un4, un5, un6, un7, un8, Sum.elim_inl, Sum.elim_inr, List.length_map, KCopyL.n_Log] at hG; replace hG : _ = _ := hG)
            refine ri [] (I v_136) ?_; exact fun a w S hK hE => ⟨v_136, rfl, ⟨S, hE.sel [1, 2, 3, 4, 5, 6]⟩, Option.some.inj hG⟩
           ·refine sb 16 (bf h_146) ?_; refine cf ?_; refine kS ?_; refine hN ?_; refine tN ?_; refine rg ?_; refine ra [] f0 [(8, I (IntKind.i64.wrap (v_136 + 1)))] ?_; refine tN ?_; exact fun a w S hK hE => ⟨m_137, ⟨IntKind.i64.wrap (v_136 + 1), S, hK.wk, hE.sel [1, 2, 3, 4, 5, 6], hO1_137 _ (Option.some.inj hG).symm⟩, Nat.lt_succ_self _⟩
         ·try simp only [List.length_map, KCopyL.n_Log] at h_138
          refine sb 9 (bf h_138) ?_; refine cf ?_; refine kX ?_; refine tX ?_; refine tX ?_; have he_ := hO2_137 _ (Option.some.inj hG).symm; subst he_; replace hG := hG_137
          try (simp only [un2, un3, un4, un5, un6, un7, un8, Sum.elim_inl, Sum.elim_inr, List.length_map, KCopyL.n_Log] at hG; replace hG : _ = _ := hG)
          refine hH ?_; refine tN ?_; exact fun a w S hK hE => ⟨S, hK.wk, hE.sel [0, 1, 2, 3, 4, 5], Option.some.inj hG⟩
       ·rintro a w hJ; refine hJ.go fun ho_ => ?_
        clear hJ; subst ho_; replace hG := hG_148
        try (simp only [un2, un3, un4, un5, un6, un7, un8, Sum.elim_inl, Sum.elim_inr, List.length_map, KCopyL.n_Log] at hG; replace hG : _ = _ := hG)
        refine sq ?_; refine rg ?_; refine ra [] f0 [(4, I (-1))] ?_; refine tN ?_; refine kR ?_; refine ri [] (I (-1)) ?_; exact fun a w S hK hE => ⟨(-1), rfl, ⟨S, hE.sel [0, 1, 2, 3, 4, 5]⟩, Option.some.inj hG⟩
      ·rintro e w ⟨v_115, hJ⟩; refine hJ.go fun ho_ => ?_
       clear hJ; subst ho_
       try (simp only [un2, un3, un4, un5, un6, un7, un8, Sum.elim_inl, Sum.elim_inr, List.length_map, KCopyL.n_Log] at hG; replace hG : _ = _ := hG)
       refine ra [] f0 [(4, B (decide (v_115 ≥ 0)))] ?_; refine tN ?_; refine kR ?_; refine ri [] (B (decide (v_115 ≥ 0))) ?_; exact fun a w S hK hE => ⟨decide (v_115 ≥ 0), rfl, ⟨S, hE.sel [0, 1, 2, 3, 4, 5]⟩, Option.some.inj hG⟩
     ·rintro e w ⟨v_80, hJ⟩; refine hJ.go fun ho_ => ?_
      clear hJ; subst ho_
      try (simp only [un2, un3, un4, un5, un6, un7, un8, Sum.elim_inl, Sum.elim_inr, List.length_map, KCopyL.n_Log] at hG; replace hG : _ = _ := hG)
      refine ra [] f0 [(29, B v_80)] ?_; refine tN ?_; exact fun a w S hK hE => ⟨v_80, S, hK.wk, hE.sel [1, 3, 4, 5], Option.some.inj hG⟩
    ·refine rg ?_; refine rn 1 [] f0 [(18, .slice v_7_A v_7.length v_7_c)] ?_; refine l1 ?_; refine cln_KSint 19 v_7_A v_7_c v_7 (gd' (RowC v_7_A v_7_c c_i64 tr v_7) 0).a (by simpa using (apG_some hy_9).1) fun v_9_A v_9_c => ?_
     refine l1 ?_; refine cpt (e := 3) 0 20 v_9_A v_9_c v_7.length v_7 rfl Tryz.slices_Compact_int Tryz.slices_Compact_int_empty (Lib.compact_length_le _) fun v_10 _ => ?_
     refine rn 5 [] f0 [(25, B (!((((Lib.compact v_7).length : Nat) : Int) == ((p_1.length : Nat) : Int))))] ?_
     try simp only [List.length_map, KCopyL.n_Log] at h_11
     refine sb 25 (nf h_11) ?_; refine ra [] f0 [(29, B true)] ?_; refine tN ?_; exact fun a w S hK hE => ⟨true, S, hK.wk, hE.sel [1, 3, 4, 5], Option.some.inj hG⟩
   ·rintro a w ⟨v_151, hJ⟩; refine hJ.go fun ho_ => ?_
    clear hJ; subst ho_; replace hG := hG_150
    try (simp only [un2, un3, un4, un5, un6, un7, un8, Sum.elim_inl, Sum.elim_inr, List.length_map, KCopyL.n_Log] at hG; replace hG : _ = _ := hG)
    rcases ifB_cases hG with ⟨h_152, hG⟩ | ⟨h_152, hG⟩
    ·refine sb 29 (bt h_152) ?_; refine ct ?_; refine sq ?_; refine rg ?_; refine ra [] f0 [(4, I 0), (5, I 1)] ?_; refine tN ?_; refine kR ?_; refine tR ?_; obtain rfl := Option.some.inj hG; exact rt []
    ·refine sb 29 (bf h_152) ?_; refine cf ?_; refine kS ?_; refine tN ?_; refine sq ?_; refine sq ?_; refine rg ?_; refine ra [(3, 1, 1, 0)] f0 [(35, B (decide ((IntKind.i64.wrap (2 * ((p_1.length : Nat) : Int))) ≤ ((p_0.length : Nat) : Int))))] ?_; refine tN ?_; rcases ifB_cases hG with ⟨h_153, hG⟩ | ⟨h_153, hG⟩
     ·try simp only [List.length_map, KCopyL.n_Log] at h_153
      refine sb 35 (bt h_153) ?_; refine ct ?_; refine sq ?_; refine rg ?_; refine ra [] f0 [(4, I 0), (5, I 20)] ?_; refine tN ?_; refine kR ?_; refine tR ?_; obtain rfl := Option.some.inj hG; exact rt []
     ·try simp only [List.length_map, KCopyL.n_Log] at h_153
      refine sb 35 (bf h_153) ?_; refine cf ?_; refine kS ?_; refine tN ?_; refine sq ?_; replace hG := bind_some hG; obtain ⟨v_154, hy_154, hG⟩ := hG; refine rg ?_; refine fx inf23 (gd' (RowC v_7_A v_7_c c_i64 tr v_7) 0) hy_154 fun b_155 o_156 hi_154 => ?_
      refine ra [(1, 0, 0, 0), (0, 1, 0, 0)] (fc (hi_154 .i64) f0) [(8, I v_154)] ?_; refine tN ?_; obtain ⟨o_214, hG, hG_214⟩ := bind_some hG; refine jn (fun K E a w => ∃ (v_215 : Int), Js S0 w0 63 ([(8, I v_215)] ++ K) (se E []) (v_215 = o_214) a w) ?_ ?_
      ·refine sq ?_; refine rg ?_; refine ra [] f0 [(39, .slice v_7_A v_7.length v_7_c), (40, I ((v_7.length : Nat) : Int)), (41, I 0)] ?_; refine tN ?_; refine bk ?_; obtain ⟨e_195, hL, hG_195⟩ := bind_some hG; clear hG; obtain ⟨stp_195, hs_195, hL⟩ := iter_gen hL; refine lp (fun K E n_ a w => ∃ (v_193 : Int), ∃ (v_194 : Int), Js S0 w0 63 ([(8, I v_194), (41, I v_193)] ++ K) (se E [1, 2, 3]) (iter stp_195 n_ (v_193, v_194) = some e_195) a w) F ?_ ?_
       ·exact fun a w S hK hE => ⟨0, v_154, S, hK.wk, hE.sel [1, 2, 3], hL⟩
       ·clear hL; rintro n_195 a w ⟨v_193, v_194, hJ⟩; refine hJ.go fun hL => ?_
        clear hJ; obtain ⟨m_195, o_195, rfl, hG, hO1_195, hO2_195⟩ := iter_step hL; clear hL; rw [hs_195] at hG
        try (simp only [un2, un3, un4, un5, un6, un7, un8, Sum.elim_inl, Sum.elim_inr, List.length_map, KCopyL.n_Log] at hG; replace hG : _ = _ := hG)
        refine sq ?_; refine rg ?_; refine ra [] f0 [(42, B (decide (v_193 < ((v_7.length : Nat) : Int))))] ?_; refine tN ?_; refine sq ?_; rcases ifB_cases hG with ⟨h_196, hG⟩ | ⟨h_196, hG⟩
        ·try simp only [List.length_map, KCopyL.n_Log] at h_196
         refine sb 42 (bt h_196) ?_; refine ct ?_; refine kS ?_; refine tN ?_; obtain ⟨o_211, hG, hG_211⟩ := bind_some hG; refine jn (fun K E a w => ∃ (v_212 : Int), Js S0 w0 63 ([(8, I v_212)] ++ K) (se E [0, 1, 2]) (v_212 = o_211) a w) ?_ ?_
         ·refine bk ?_; refine sq ?_; replace hG := bind_some hG; obtain ⟨v_197, hy_197, hG⟩ := hG; refine rg ?_; refine fx inf23 (gd' (RowC v_7_A v_7_c c_i64 tr v_7) 0) hy_197 fun b_198 o_199 hi_197 => ?_
          refine ra [(0, 0, 0, 0), (0, 1, 0, 0)] (fc (hi_197 .i64) f0) [(10, I v_197)] ?_; refine tN ?_; refine sq ?_; replace hG := bind_some hG; obtain ⟨v_200, hy_200, hG⟩ := hG; replace hG := bind_some hG; obtain ⟨v_201o, hy_201, hG⟩ := hG; replace hG := bind_some hG; obtain ⟨v_204, hy_204, hG⟩ := hG; replace hG := bind_some hG; obtain ⟨v_205, hy_205, hG⟩ := hG; replace hG := bind_some hG; obtain ⟨v_206o, hy_206, hG⟩ := hG; replace hG := bind_some hG; obtain ⟨v_209, hy_209, hG⟩ := hG; refine qb ?_; refine qn 3 [(0, 1, 2, 0), (0, 1, 2, 0)] f0 [(45, .slice p_0_A p_0.length p_0_c), (46, .slice p_0_A p_0.length p_0_c), (47, I v_197)] ?_; refine qc 48 (z_copies_find F p_0_A p_0_c p_0 v_197 _ hy_200) hT ⟨ga 3, trivial⟩ ?_; refine fxn (p := KCopyL.p) inf22 (gd' (RowC p_0_A p_0_c KCopyL.cells KCopyL.ok p_0) 3) hy_201 fun v_201 b_202 o_203 he_201 hi_201 => ?_
          subst he_201
          try (simp only [un2, un3, un4, un5, un6, un7, un8, Sum.elim_inl, Sum.elim_inr, List.length_map, KCopyL.n_Log] at hG; replace hG : _ = _ := hG)
          refine qn 2 [(0, 0, 0, 0), (0, 2, 0, 0)] (fc (hi_201 .i64) f0) [(50, .agg #[I v_201.ID, .slice v_201.Log_A v_201.Log.length v_201.Log_c])] ?_; refine qc 51 (z_copies_size F v_201 _ hy_204) hT ⟨(gi 1).a, trivial⟩ ?_; refine qn 3 [(0, 1, 4, 0), (0, 1, 4, 0)] f0 [(52, .slice p_0_A p_0.length p_0_c), (53, .slice p_0_A p_0.length p_0_c), (54, I v_194)] ?_; refine qc 55 (z_copies_find F p_0_A p_0_c p_0 v_194 _ hy_205) hT ⟨ga 5, trivial⟩ ?_; refine fxn (p := KCopyL.p) inf22 (gd' (RowC p_0_A p_0_c KCopyL.cells KCopyL.ok p_0) 5) hy_206 fun v_206 b_207 o_208 he_206 hi_206 => ?_
          subst he_206
          try (simp only [un2, un3, un4, un5, un6, un7, un8, Sum.elim_inl, Sum.elim_inr, List.length_map, KCopyL.n_Log] at hG; replace hG : _ = _ := hG)
          refine qn 2 [(0, 0, 0, 0), (0, 2, 0, 0)] (fc (hi_206 .i64) f0) [(57, .agg #[I v_206.ID, .slice v_206.Log_A v_206.Log.length v_206.Log_c])] ?_; refine qc 58 (z_copies_size F v_206 _ hy_209) hT ⟨(gi 1).a, trivial⟩ ?_; refine qa [] f0 [(59, B (decide (v_204 > v_209)))] ?_; refine tN ?_; rcases ifB_cases hG with ⟨h_210, hG⟩ | ⟨h_210, hG⟩
          ·refine sb 59 (bt h_210) ?_; refine ct ?_; refine rg ?_; refine ra [] f0 [(8, I v_197)] ?_; refine hN ?_; refine tN ?_; exact fun a w S hK hE => ⟨v_197, S, hK.wk, hE.sel [5, 6, 7], Option.some.inj hG⟩
          ·refine sb 59 (bf h_210) ?_; refine cf ?_; refine kS ?_; refine hN ?_; refine tN ?_; exact fun a w S hK hE => ⟨v_194, S, hK.wk, hE.sel [5, 6, 7], Option.some.inj hG⟩
         ·rintro a w ⟨v_212, hJ⟩; refine hJ.go fun ho_ => ?_
          clear hJ; subst ho_; replace hG := hG_211
          try (simp only [un2, un3, un4, un5, un6, un7, un8, Sum.elim_inl, Sum.elim_inr, List.length_map, KCopyL.n_Log] at hG; replace hG : _ = _ := hG)
          refine rg ?_; refine ra [] f0 [(41, I (IntKind.i64.wrap (v_193 + 1)))] ?_; refine tN ?_; exact fun a w S hK hE => ⟨m_195, ⟨IntKind.i64.wrap (v_193 + 1), v_212, S, hK.wk, hE.sel [0, 1, 2], hO1_195 _ (Option.some.inj hG).symm⟩, Nat.lt_succ_self _⟩
        ·try simp only [List.length_map, KCopyL.n_Log] at h_196
         refine sb 42 (bf h_196) ?_; refine cf ?_; refine kX ?_; refine tX ?_; refine tX ?_; have he_ := hO2_195 _ (Option.some.inj hG).symm; subst he_; replace hG := hG_195
         try (simp only [un2, un3, un4, un5, un6, un7, un8, Sum.elim_inl, Sum.elim_inr, List.length_map, KCopyL.n_Log] at hG; replace hG : _ = _ := hG)
         refine hH ?_; refine tN ?_; exact fun a w S hK hE => ⟨v_194, S, hK.wk, hE.sel [], Option.some.inj hG⟩
      ·rintro a w ⟨v_215, hJ⟩; refine hJ.go fun ho_ => ?_
       clear hJ; subst ho_; replace hG := hG_214
       try (simp only [un2, un3, un4, un5, un6, un7, un8, Sum.elim_inl, Sum.elim_inr, List.length_map, KCopyL.n_Log] at hG; replace hG : _ = _ := hG)
       refine sq ?_; refine rg ?_; refine ra [] f0 [(4, I v_215), (5, I 0)] ?_; refine tN ?_; refine kR ?_; obtain rfl := Option.some.inj hG; exact rt []
 ·refine sb 13 (nf h_3) ?_; refine ct ?_; refine sq ?_; refine rg ?_; refine ra [] f0 [(4, I 0), (5, I 1)] ?_; refine tN ?_; refine kR ?_; refine tR ?_; obtain rfl := Option.some.inj hG; exact rt []
def G_copies_Safe (F : Nat) (p_0 : List KCopy) : Option (Int × Int) :=
  Option.bind (G_copies_Valid F p_0) (fun v_1 =>
  ifB (v_1)
    (Option.bind (Option.bind (iter (σ := Int × (List Int)) (ρ := (List Int)) (un2 fun (v_23 : Int) (v_24 : (List Int)) => 
          (ifB (decide (v_23 < ((p_0.length : Nat) : Int)))
            (Option.bind (ixI p_0 v_23) (fun v_29 =>
            Option.bind (G_copies_size F v_29) (fun v_33 =>
            Option.bind (apG 8 v_24 ([v_33] : List Int)) (fun v_35 =>
            some (.inl (IntKind.i64.wrap (v_23 + 1), v_35))))))
            (some (.inr v_24)) : Option ((Int × (List Int)) ⊕ (List Int)))) F (0, ([] : List Int))) (fun (v_36 : (List Int)) => 
        some v_36) : Option ((List Int))) (fun (v_40 : (List Int)) => 
      Option.bind (srtG v_40) (fun v_43 =>
      Option.bind (ixI v_43 (IntKind.i64.wrap ((IntKind.i64.wrap (((v_43.length : Nat) : Int) - (IntKind.i64.wrap (Int.tdiv ((v_43.length : Nat) : Int) 2)))) - 1))) (fun v_44 =>
      some (v_44, 0)))))
    (some (0, 1)))
set_option maxRecDepth 100000 in
set_option maxHeartbeats 16000000 in
theorem z_copies_Safe (F : Nat) (p_0_A : Option Addr) (p_0_c : Nat) (p_0 : List KCopyL) (r : Int × Int) (hG : G_copies_Safe F (p_0.map KCopyL.p) = some r) :
  Cf Tryz.prog 17 [.slice p_0_A p_0.length p_0_c] [RowC p_0_A p_0_c KCopyL.cells KCopyL.ok p_0] (.tuple #[I r.1, I r.2]) := by
 unfold G_copies_Safe at hG
 try (simp only [un2, un3, un4, un5, un6, un7, un8, Sum.elim_inl, Sum.elim_inr, List.length_map, KCopyL.n_Log] at hG; replace hG : _ = _ := hG)
 refine fi Tryz.func17 rfl rfl (mr KCopyL.mv m0) fun S0 w0 hT => ?_
 refine sq ?_; refine rg ?_; refine ra [] f0 [] ?_; refine tN ?_; refine sq ?_; refine sq ?_; replace hG := bind_some hG; obtain ⟨v_1, hy_1, hG⟩ := hG; refine rg ?_; refine rn 1 [] f0 [(7, .slice p_0_A p_0.length p_0_c)] ?_; refine l1 ?_; refine cl 8 (z_copies_Valid F p_0_A p_0_c p_0 _ hy_1) hT ⟨ga 0, trivial⟩ ?_; refine ra [] f0 [(9, B (!v_1))] ?_; refine tN ?_; rcases ifB_cases hG with ⟨h_2, hG⟩ | ⟨h_2, hG⟩
 ·refine sb 9 (nt h_2) ?_; refine cf ?_; refine kS ?_; refine tN ?_; refine sq ?_; refine rg ?_; refine ra [] f0 [(4, .slice none 0 0)] ?_; refine tN ?_; obtain ⟨o_39, hG, hG_39⟩ := bind_some hG; refine jn (fun K E a w => ∃ (v_40 : List Int), ∃ (v_41_A : Option Addr), ∃ (v_42_c : Nat), Js S0 w0 34 ([(4, .slice v_41_A v_40.length v_42_c)] ++ K) ([.own 3 1 (.slice v_41_A v_40.length v_42_c) v_40.length (v_40.flatMap c_i64)]) (v_40 = o_39) a w) ?_ ?_
  ·refine sq ?_; refine rg ?_; refine ra [] f0 [(10, .slice p_0_A p_0.length p_0_c), (11, I ((p_0.length : Nat) : Int)), (12, I 0)] ?_; refine tN ?_; refine bk ?_; obtain ⟨e_27, hL, hG_27⟩ := bind_some hG; clear hG; obtain ⟨stp_27, hs_27, hL⟩ := iter_gen hL; refine lp (fun K E n_ a w => ∃ (v_23 : Int), ∃ (v_24 : List Int), ∃ (v_25_A : Option Addr), ∃ (v_26_c : Nat), Js S0 w0 34 ([(4, .slice v_25_A v_24.length v_26_c), (12, I v_23)] ++ K) ([.own 3 1 (.slice v_25_A v_24.length v_26_c) v_24.length (v_24.flatMap c_i64)] ++ se E [0]) (iter stp_27 n_ (v_23, v_24) = some e_27) a w) F ?_ ?_
   ·refine on 3 1 ?_; exact fun a w S hK hE => ⟨0, ([] : List Int), none, 0, S, hK.wk, hE.sel [0, 1], hL⟩
   ·clear hL; rintro n_27 a w ⟨v_23, v_24, v_25_A, v_26_c, hJ⟩; refine hJ.go fun hL => ?_
    clear hJ; obtain ⟨m_27, o_27, rfl, hG, hO1_27, hO2_27⟩ := iter_step hL; clear hL; rw [hs_27] at hG
    try (simp only [un2, un3, un4, un5, un6, un7, un8, Sum.elim_inl, Sum.elim_inr, List.length_map, KCopyL.n_Log] at hG; replace hG : _ = _ := hG)
    refine sq ?_; refine rg ?_; refine ra [] f0 [(13, B (decide (v_23 < ((p_0.length : Nat) : Int))))] ?_; refine tN ?_; refine sq ?_; rcases ifB_cases hG with ⟨h_28, hG⟩ | ⟨h_28, hG⟩
    ·try simp only [List.length_map, KCopyL.n_Log] at h_28
     refine sb 13 (bt h_28) ?_; refine ct ?_; refine kS ?_; refine tN ?_; refine sq ?_; refine bk ?_; refine sq ?_; replace hG := bind_some hG; obtain ⟨v_29o, hy_29, hG⟩ := hG; refine rg ?_; refine fxn (p := KCopyL.p) inf22 (gd' (RowC p_0_A p_0_c KCopyL.cells KCopyL.ok p_0) 1) hy_29 fun v_29 b_30 o_31 he_29 hi_29 => ?_
     subst he_29
     try (simp only [un2, un3, un4, un5, un6, un7, un8, Sum.elim_inl, Sum.elim_inr, List.length_map, KCopyL.n_Log] at hG; replace hG : _ = _ := hG)
     refine rn 2 [(0, 0, 0, 0), (0, 2, 0, 0)] (fc (hi_29 .i64) f0) [(15, .agg #[I v_29.ID, .slice v_29.Log_A v_29.Log.length v_29.Log_c])] ?_; refine l1 ?_; refine nw 6 vp [I 0, .slice none 0 0] 40 fun g_32 => ?_
     refine l1 ?_; refine sr 0 g_32 [(0, I v_29.ID), (1, .slice v_29.Log_A v_29.Log.length v_29.Log_c)] ?_; refine nl ?_; refine tN ?_; replace hG := bind_some hG; obtain ⟨v_33, hy_33, hG⟩ := hG; replace hG := bind_some hG; obtain ⟨v_35, hy_35, hG⟩ := hG; refine rg ?_; refine rn 2 [(1, 2, 0, 0)] f0 [(16, .slice v_25_A v_24.length v_26_c), (17, .agg #[I v_29.ID, .slice v_29.Log_A v_29.Log.length v_29.Log_c])] ?_; refine l1 ?_; refine cl 18 (z_copies_size F v_29 _ hy_33) hT ⟨(gi 2).a, trivial⟩ ?_; refine l1 ?_; refine nw 19 (vs 1) [I v_33] 3 fun g_34 => ?_
     refine l1 ?_; refine ap 4 20 v_25_A v_26_c v_24 ([v_33] : List Int) inf23 (bA (f := c_i64) (ok := tr) (l := ([v_33] : List Int)) g_34 0 et.a) hy_35 one_i64 fun v_35_A v_35_c _ => ?_
     refine ra [] f0 [(4, .slice v_35_A v_35.length v_35_c)] ?_; refine hN ?_; refine tN ?_; refine rg ?_; refine ra [] f0 [(12, I (IntKind.i64.wrap (v_23 + 1)))] ?_; refine tN ?_; exact fun a w S hK hE => ⟨m_27, ⟨IntKind.i64.wrap (v_23 + 1), v_35, v_35_A, v_35_c, S, hK.wk, hE.sel [4, 5], hO1_27 _ (Option.some.inj hG).symm⟩, Nat.lt_succ_self _⟩
    ·try simp only [List.length_map, KCopyL.n_Log] at h_28
     refine sb 13 (bf h_28) ?_; refine cf ?_; refine kX ?_; refine tX ?_; refine tX ?_; have he_ := hO2_27 _ (Option.some.inj hG).symm; subst he_; replace hG := hG_27
     try (simp only [un2, un3, un4, un5, un6, un7, un8, Sum.elim_inl, Sum.elim_inr, List.length_map, KCopyL.n_Log] at hG; replace hG : _ = _ := hG)
     refine hH ?_; refine tN ?_; exact fun a w S hK hE => ⟨v_24, v_25_A, v_26_c, S, hK.wk, hE.sel [0], Option.some.inj hG⟩
  ·rintro a w ⟨v_40, v_41_A, v_42_c, hJ⟩; refine hJ.go fun ho_ => ?_
   clear hJ; subst ho_; replace hG := hG_39
   try (simp only [un2, un3, un4, un5, un6, un7, un8, Sum.elim_inl, Sum.elim_inr, List.length_map, KCopyL.n_Log] at hG; replace hG : _ = _ := hG)
   refine sq ?_; replace hG := bind_some hG; obtain ⟨v_43, hy_43, hG⟩ := hG; refine rg ?_; refine rn 1 [] f0 [(22, .slice v_41_A v_40.length v_42_c)] ?_; refine l1 ?_; refine srt (e := 3) 0 23 v_41_A v_42_c v_40.length v_40 rfl hy_43 Tryz.slices_Sort_int Tryz.slices_Sort_int_none ?_; have hk_43 : v_40.length = v_43.length := (srtG_len hy_43).symm; refine nl ?_; refine ek 0 3 1 v_41_A v_40.length v_42_c (v_43.flatMap c_i64) v_43.length hk_43 ?_; refine sb 4 (v := .slice v_41_A v_40.length v_42_c) (v' := .slice v_41_A v_43.length v_42_c) (by rw [hk_43]) ?_; refine sb 22 (v := .slice v_41_A v_40.length v_42_c) (v' := .slice v_41_A v_43.length v_42_c) (by rw [hk_43]) ?_; refine tN ?_; refine sq ?_; replace hG := bind_some hG; obtain ⟨v_44, hy_44, hG⟩ := hG; refine rg ?_; refine rn 8 [(5, 0, 0, 0)] (fc (fun W => run_quo (T := 3) (k := .i64) (p := ((v_43.length : Nat) : Int)) (q := 2) (by decide) W) f0) [(24, .slice v_41_A v_43.length v_42_c), (31, I (IntKind.i64.wrap ((IntKind.i64.wrap (((v_43.length : Nat) : Int) - (IntKind.i64.wrap (Int.tdiv ((v_43.length : Nat) : Int) 2)))) - 1)))] ?_; refine so (A := v_41_A) (c := v_42_c) 0 c_i64 tr v_43 tr_mv et ?_; refine fx inf23 (gd' (RowC v_41_A v_42_c c_i64 tr v_43) 0) hy_44 fun b_45 o_46 hi_44 => ?_
   refine ra [(0, 0, 0, 0), (0, 1, 0, 0)] (fc (hi_44 .i64) f0) [(2, I v_44), (3, I 0)] ?_; refine tN ?_; refine kR ?_; obtain rfl := Option.some.inj hG; exact rt []
 ·refine sb 9 (nf h_2) ?_; refine ct ?_; refine sq ?_; refine rg ?_; refine ra [] f0 [(2, I 0), (3, I 1)] ?_; refine tN ?_; refine kR ?_; refine tR ?_; obtain rfl := Option.some.inj hG; exact rt []
def G_copies_Ship (F : Nat) (p_0 : List KCopy) (p_1 : Int) (p_2 : Int) (p_3 : Int) : Option ((List KCopy) × Int) :=
  Option.bind (Option.bind (G_copies_Valid F p_0) (fun v_1 =>
    ifB (v_1)
      (some (p_1, p_2, decide (p_3 < 0), p_3))
      (some (p_1, p_2, true, p_3))) : Option ((Int × Int × Bool × Int))) (un4 fun (v_4 : Int) (v_5 : Int) (v_6 : Bool) (v_7 : Int) => 
    ifB (v_6)
      (some (([] : List KCopy), 1))
      (Option.bind (G_copies_find F p_0 v_4) (fun v_9 =>
      Option.bind (G_copies_find F p_0 v_5) (fun v_10 =>
      Option.bind (ifB (decide (v_9 < 0))
          (some true)
          (some (decide (v_10 < 0))) : Option (Bool)) (fun (v_13 : Bool) => 
        ifB (v_13)
          (some (([] : List KCopy), 4))
          (Option.bind (apG 32 ([] : List KCopy) p_0) (fun v_15 =>
          Option.bind (Option.bind (ixI p_0 v_10) (fun v_16 =>
            Option.bind (G_copies_size F v_16) (fun v_19 =>
            Option.bind (ixI p_0 v_9) (fun v_20 =>
            Option.bind (G_copies_size F v_20) (fun v_23 =>
            ifB (decide (v_23 > v_19))
              (Option.bind (ixI p_0 v_9) (fun v_25 =>
              Option.bind (G_copies_size F v_25) (fun v_28 =>
              Option.bind (ixI p_0 v_9) (fun v_29 =>
              Option.bind (slI v_29.Log 0 (IntKind.i64.wrap (v_19 + (min v_7 (IntKind.i64.wrap (v_28 - v_19)))))) (fun v_32 =>
              Option.bind (apG 64 ([] : List KTx) v_32) (fun v_33 =>
              Option.bind (ixI p_0 v_10) (fun v_34 =>
              Option.bind (stI p_0 v_10 (⟨v_34.ID, v_32⟩ : KCopy)) (fun v_36 =>
              some v_36))))))))
              (some p_0))))) : Option ((List KCopy))) (fun (v_38 : (List KCopy)) => 
            some (v_38, 0)))))))))
set_option maxRecDepth 100000 in
set_option maxHeartbeats 16000000 in
theorem z_copies_Ship (F : Nat) (p_0_A : Option Addr) (p_0_c : Nat) (p_0 : List KCopyL) (p_1 : Int) (p_2 : Int) (p_3 : Int) (r : (List KCopy) × Int) (hG : G_copies_Ship F (p_0.map KCopyL.p) p_1 p_2 p_3 = some r) :
  Cn Tryz.prog 12 [.slice p_0_A p_0.length p_0_c, I p_1, I p_2, I p_3] [RowC p_0_A p_0_c KCopyL.cells KCopyL.ok p_0] (fun q : KSapi_CopyL => r.1 = (q.l.map KCopyL.p)) (fun q => .tuple #[.slice q.A q.l.length q.c, I r.2]) (fun q => [RowC q.A q.c KCopyL.cells KCopyL.ok q.l]) := by
 unfold G_copies_Ship at hG
 try (simp only [un2, un3, un4, un5, un6, un7, un8, Sum.elim_inl, Sum.elim_inr, List.length_map, KCopyL.n_Log] at hG; replace hG : _ = _ := hG)
 refine fin Tryz.func12 rfl rfl (mr KCopyL.mv m0) fun S0 w0 hT => ?_
 refine sq ?_; refine rg ?_; refine ra [] f0 [] ?_; refine tN ?_; refine sq ?_; obtain ⟨o_3, hG, hG_3⟩ := bind_some hG; refine jn (fun K E a w => ∃ (v_4 : Int), ∃ (v_5 : Int), ∃ (v_6 : Bool), ∃ (v_7 : Int), Js S0 w0 72 ([(1, I v_4), (2, I v_5), (3, I v_7), (21, B v_6)] ++ K) (se E [0]) ((v_4, v_5, v_6, v_7) = o_3) a w) ?_ ?_
 ·replace hG := bind_some hG; obtain ⟨v_1, hy_1, hG⟩ := hG; replace hG := ifB_cases hG; rcases hG with ⟨h_2, hG⟩ | ⟨h_2, hG⟩
  ·refine rg ?_; refine rn 1 [] f0 [(15, .slice p_0_A p_0.length p_0_c)] ?_; refine l1 ?_; refine cl 16 (z_copies_Valid F p_0_A p_0_c p_0 _ hy_1) hT ⟨ga 0, trivial⟩ ?_; refine rn 2 [] f0 [(18, B (!v_1))] ?_; refine sb 18 (nt h_2) ?_; refine ra [] f0 [(21, B (decide (p_3 < 0)))] ?_; refine tN ?_; exact fun a w S hK hE => ⟨p_1, p_2, decide (p_3 < 0), p_3, S, hK.wk, hE.sel [0], Option.some.inj hG⟩
  ·refine rg ?_; refine rn 1 [] f0 [(15, .slice p_0_A p_0.length p_0_c)] ?_; refine l1 ?_; refine cl 16 (z_copies_Valid F p_0_A p_0_c p_0 _ hy_1) hT ⟨ga 0, trivial⟩ ?_; refine rn 2 [] f0 [(18, B (!v_1))] ?_; refine sb 18 (nf h_2) ?_; refine ra [] f0 [(21, B true)] ?_; refine tN ?_; exact fun a w S hK hE => ⟨p_1, p_2, true, p_3, S, hK.wk, hE.sel [0], Option.some.inj hG⟩
 ·rintro a w ⟨v_4, v_5, v_6, v_7, hJ⟩; refine hJ.go fun ho_ => ?_
  clear hJ; subst ho_; replace hG := hG_3
  try (simp only [un2, un3, un4, un5, un6, un7, un8, Sum.elim_inl, Sum.elim_inr, List.length_map, KCopyL.n_Log] at hG; replace hG : _ = _ := hG)
  rcases ifB_cases hG with ⟨h_8, hG⟩ | ⟨h_8, hG⟩
  ·refine sb 21 (bt h_8) ?_; refine ct ?_; refine sq ?_; refine rg ?_; refine ra [] f0 [(8, .slice none 0 0), (9, I 1)] ?_; refine tN ?_; refine kR ?_; refine tR ?_; obtain rfl := Option.some.inj hG; exact rtn [] ⟨none, 0, ([] : List KCopyL)⟩ rfl ⟨gn, trivial⟩
  ·refine sb 21 (bf h_8) ?_; refine cf ?_; refine kS ?_; refine tN ?_; refine sq ?_; replace hG := bind_some hG; obtain ⟨v_9, hy_9, hG⟩ := hG; replace hG := bind_some hG; obtain ⟨v_10, hy_10, hG⟩ := hG; refine rg ?_; refine rn 2 [] f0 [(22, .slice p_0_A p_0.length p_0_c), (23, I v_4)] ?_; refine l1 ?_; refine cl 24 (z_copies_find F p_0_A p_0_c p_0 v_4 _ hy_9) hT ⟨ga 0, trivial⟩ ?_; refine rn 2 [] f0 [(25, .slice p_0_A p_0.length p_0_c), (26, I v_5)] ?_; refine l1 ?_; refine cl 27 (z_copies_find F p_0_A p_0_c p_0 v_5 _ hy_10) hT ⟨ga 0, trivial⟩ ?_; refine ra [] f0 [(10, I v_9), (11, I v_10)] ?_; refine tN ?_; refine sq ?_; obtain ⟨o_12, hG, hG_12⟩ := bind_some hG; refine jn (fun K E a w => ∃ (v_13 : Bool), Js S0 w0 72 ([(33, B v_13)] ++ K) (se E [0]) (v_13 = o_12) a w) ?_ ?_
   ·replace hG := ifB_cases hG; rcases hG with ⟨h_11, hG⟩ | ⟨h_11, hG⟩
    ·refine rg ?_; refine rn 3 [] f0 [(30, B (decide (v_9 < 0)))] ?_; refine sb 30 (bt h_11) ?_; refine ra [] f0 [(33, B true)] ?_; refine tN ?_; exact fun a w S hK hE => ⟨true, S, hK.wk, hE.sel [0], Option.some.inj hG⟩
    ·refine rg ?_; refine rn 3 [] f0 [(30, B (decide (v_9 < 0)))] ?_; refine sb 30 (bf h_11) ?_; refine ra [] f0 [(33, B (decide (v_10 < 0)))] ?_; refine tN ?_; exact fun a w S hK hE => ⟨decide (v_10 < 0), S, hK.wk, hE.sel [0], Option.some.inj hG⟩
   ·rintro a w ⟨v_13, hJ⟩; refine hJ.go fun ho_ => ?_
    clear hJ; subst ho_; replace hG := hG_12
    try (simp only [un2, un3, un4, un5, un6, un7, un8, Sum.elim_inl, Sum.elim_inr, List.length_map, KCopyL.n_Log] at hG; replace hG : _ = _ := hG)
    rcases ifB_cases hG with ⟨h_14, hG⟩ | ⟨h_14, hG⟩
    ·refine sb 33 (bt h_14) ?_; refine ct ?_; refine sq ?_; refine rg ?_; refine ra [] f0 [(8, .slice none 0 0), (9, I 4)] ?_; refine tN ?_; refine kR ?_; refine tR ?_; obtain rfl := Option.some.inj hG; exact rtn [] ⟨none, 0, ([] : List KCopyL)⟩ rfl ⟨gn, trivial⟩
    ·refine sb 33 (bf h_14) ?_; refine cf ?_; refine kS ?_; refine tN ?_; refine sq ?_; replace hG := bind_some hG; obtain ⟨v_15, hy_15, hG⟩ := hG; refine rg ?_; refine rn 1 [] f0 [(34, .slice p_0_A p_0.length p_0_c)] ?_; refine l1 ?_; refine cln_KSapi_Copy 35 p_0_A p_0_c p_0 (Fa.tr ((gd' (RowC p_0_A p_0_c KCopyL.cells KCopyL.ok p_0) 0).a)) (by simpa using (apG_some hy_15).1) fun v_15_A v_15_c => ?_
     refine fm (Each KCopyL.ok p_0) (gm (RowC p_0_A p_0_c KCopyL.cells KCopyL.ok p_0) 1 fun _ _ h => h.e) ?_; refine ra [] f0 [(12, .slice v_15_A p_0.length v_15_c)] ?_; refine tN ?_; obtain ⟨o_37, hG, hG_37⟩ := bind_some hG; refine jn (fun K E a w => ∃ (v_38 : List KCopyL), ∃ (v_39_A : Option Addr), ∃ (v_40_c : Nat), Js S0 w0 72 ([(12, .slice v_39_A v_38.length v_40_c)] ++ dk [35] K) ([.own 40 2 (.slice v_39_A v_38.length v_40_c) v_38.length (v_38.flatMap KCopyL.cells), .dat (Each KCopyL.ok v_38)]) ((v_38.map KCopyL.p) = o_37) a w) ?_ ?_
     ·refine sq ?_; replace hG := bind_some hG; obtain ⟨v_16o, hy_16, hG⟩ := hG; replace hG := bind_some hG; obtain ⟨v_19, hy_19, hG⟩ := hG; refine rg ?_; refine fxn (p := KCopyL.p) inf22 (gd' (RowC p_0_A p_0_c KCopyL.cells KCopyL.ok p_0) 2) hy_16 fun v_16 b_17 o_18 he_16 hi_16 => ?_
      subst he_16
      try (simp only [un2, un3, un4, un5, un6, un7, un8, Sum.elim_inl, Sum.elim_inr, List.length_map, KCopyL.n_Log] at hG; replace hG : _ = _ := hG)
      refine rn 4 [(2, 0, 0, 0), (0, 2, 0, 0)] (fc (hi_16 .i64) f0) [(39, .agg #[I v_16.ID, .slice v_16.Log_A v_16.Log.length v_16.Log_c])] ?_; refine l1 ?_; refine cl 40 (z_copies_size F v_16 _ hy_19) hT ⟨(gi 1).a, trivial⟩ ?_; refine ra [] f0 [(13, I v_19)] ?_; refine tN ?_; refine sq ?_; replace hG := bind_some hG; obtain ⟨v_20o, hy_20, hG⟩ := hG; replace hG := bind_some hG; obtain ⟨v_23, hy_23, hG⟩ := hG; refine rg ?_; refine fxn (p := KCopyL.p) inf22 (gd' (RowC p_0_A p_0_c KCopyL.cells KCopyL.ok p_0) 4) hy_20 fun v_20 b_21 o_22 he_20 hi_20 => ?_
      subst he_20
      try (simp only [un2, un3, un4, un5, un6, un7, un8, Sum.elim_inl, Sum.elim_inr, List.length_map, KCopyL.n_Log] at hG; replace hG : _ = _ := hG)
      refine rn 4 [(2, 0, 0, 0), (0, 2, 0, 0)] (fc (hi_20 .i64) f0) [(44, .agg #[I v_20.ID, .slice v_20.Log_A v_20.Log.length v_20.Log_c])] ?_; refine l1 ?_; refine cl 45 (z_copies_size F v_20 _ hy_23) hT ⟨(gi 1).a, trivial⟩ ?_; refine ra [] f0 [(47, B (decide (v_23 > v_19)))] ?_; refine tN ?_; rcases ifB_cases hG with ⟨h_24, hG⟩ | ⟨h_24, hG⟩
      ·refine sb 47 (bt h_24) ?_; refine ct ?_; refine sq ?_; replace hG := bind_some hG; obtain ⟨v_25o, hy_25, hG⟩ := hG; replace hG := bind_some hG; obtain ⟨v_28, hy_28, hG⟩ := hG; refine rg ?_; refine fxn (p := KCopyL.p) inf22 (gd' (RowC p_0_A p_0_c KCopyL.cells KCopyL.ok p_0) 6) hy_25 fun v_25 b_26 o_27 he_25 hi_25 => ?_
       subst he_25
       try (simp only [un2, un3, un4, un5, un6, un7, un8, Sum.elim_inl, Sum.elim_inr, List.length_map, KCopyL.n_Log] at hG; replace hG : _ = _ := hG)
       refine rn 5 [(3, 0, 0, 0), (0, 2, 0, 0)] (fc (hi_25 .i64) f0) [(48, I v_7), (52, .agg #[I v_25.ID, .slice v_25.Log_A v_25.Log.length v_25.Log_c])] ?_; refine l1 ?_; refine cl 53 (z_copies_size F v_25 _ hy_28) hT ⟨(gi 1).a, trivial⟩ ?_; refine rn 3 [] f0 [(56, I (if (IntKind.i64.wrap (v_28 - v_19)) < v_7 then (IntKind.i64.wrap (v_28 - v_19)) else v_7))] ?_; refine sb 56 (v := I (if (IntKind.i64.wrap (v_28 - v_19)) < v_7 then (IntKind.i64.wrap (v_28 - v_19)) else v_7)) (v' := I (min v_7 (IntKind.i64.wrap (v_28 - v_19)))) (congrArg (Value.int .i64) (by omega)) ?_; refine ra [] f0 [(14, I (min v_7 (IntKind.i64.wrap (v_28 - v_19))))] ?_; refine tN ?_; replace hG := bind_some hG; obtain ⟨v_29o, hy_29, hG⟩ := hG; replace hG := bind_some hG; obtain ⟨v_32o, hy_32, hG⟩ := hG; replace hG := bind_some hG; obtain ⟨v_33, hy_33, hG⟩ := hG; replace hG := bind_some hG; obtain ⟨v_34o, hy_34, hG⟩ := hG; replace hG := bind_some hG; obtain ⟨v_36o, hy_36, hG⟩ := hG; refine rg ?_; refine fxn (p := KCopyL.p) inf22 (gd' (RowC p_0_A p_0_c KCopyL.cells KCopyL.ok p_0) 8) hy_29 fun v_29 b_30 o_31 he_29 hi_29 => ?_
       subst he_29
       try (simp only [un2, un3, un4, un5, un6, un7, un8, Sum.elim_inl, Sum.elim_inr, List.length_map, KCopyL.n_Log] at hG; replace hG : _ = _ := hG)
       refine fpn (p := KTxL.p) false true inf38 (gm (KCopyL.ok v_29) 1 fun _ _ h => h.f_Log) hy_32 fun v_32 v_32_A v_32_c he_32 hp_32 => ?_
       subst he_32
       try (simp only [un2, un3, un4, un5, un6, un7, un8, Sum.elim_inl, Sum.elim_inr, List.length_map, KCopyL.n_Log] at hG; replace hG : _ = _ := hG)
       refine rn 11 [(4, 0, 0, 0), (1, 1, 1, 1), (3, 0, 0, 0)] (fc (hi_29 .i64) (fc (hp_32 .i64 .i64) f0)) [(57, .slice v_15_A p_0.length v_15_c), (58, I v_10), (67, .slice v_32_A v_32.length v_32_c)] ?_; refine l1 ?_; refine cln_KSapi_Tx 68 v_32_A v_32_c v_32 (Fa.tr ((gd' (RowC v_32_A v_32_c KTxL.cells KTxL.ok v_32) 0).a)) (by simpa using (apG_some hy_33).1) fun v_33_A v_33_c => ?_
       refine fm (Each KTxL.ok v_32) (gm (RowC v_32_A v_32_c KTxL.cells KTxL.ok v_32) 1 fun _ _ h => h.e) ?_; refine fy (p := KCopyL.p) (ok := KCopyL.ok) (l := p_0) (gd' (Each KCopyL.ok p_0) 11) hy_34 fun v_34 he_34 hz_34 hu_34 => ?_
       subst he_34
       try (simp only [un2, un3, un4, un5, un6, un7, un8, Sum.elim_inl, Sum.elim_inr, List.length_map, KCopyL.n_Log] at hG; replace hG : _ = _ := hG)
       refine fo 13 v_15_A p_0.length v_15_c KCopyL.cells p_0 rfl inf22 hz_34 fun g_35 hA_34 hi_34 => ?_
       refine rn 2 [(0, 0, 0, 0)] (fc (hi_34 .i64) f0) [(70, Pt g_35 (v_10.toNat * 2 + 1))] ?_; refine so (A := v_33_A) (c := v_33_c) 2 KTxL.cells KTxL.ok v_32 KTxL.mv (gd' (Each KTxL.ok v_32) 1) ?_; refine l1 ?_; refine swp (p := KCopyL.p) (ok := KCopyL.ok) 13 40 2 g_35 p_0.length v_15_c KCopyL.cells p_0 v_34 (⟨v_34.ID, v_33_A, v_33_c, v_32⟩ : KCopyL) 1 [.slice v_33_A v_32.length v_33_c] rfl hA_34 hu_34 rfl hy_36 (gd' (Each KCopyL.ok p_0) 12) (((gd' (RowC v_33_A v_33_c KTxL.cells KTxL.ok v_32) 2)).m fun _ _ h => ⟨h⟩) fun v_36 he_36 hl_36 => ?_
       subst he_36
       try (simp only [un2, un3, un4, un5, un6, un7, un8, Sum.elim_inl, Sum.elim_inr, List.length_map, KCopyL.n_Log] at hG; replace hG : _ = _ := hG)
       have hk_36 : p_0.length = v_36.length := hl_36; refine nl ?_; refine ek 14 40 2 v_15_A p_0.length v_15_c (v_36.flatMap KCopyL.cells) v_36.length hk_36 ?_; refine sb 35 (v := .slice v_15_A p_0.length v_15_c) (v' := .slice v_15_A v_36.length v_15_c) (by rw [hk_36]) ?_; refine sb 12 (v := .slice v_15_A p_0.length v_15_c) (v' := .slice v_15_A v_36.length v_15_c) (by rw [hk_36]) ?_; refine sb 57 (v := .slice v_15_A p_0.length v_15_c) (v' := .slice v_15_A v_36.length v_15_c) (by rw [hk_36]) ?_; refine tN ?_; exact fun a w S hK hE => ⟨v_36, v_15_A, v_15_c, S, hK.wk, hE.sel [14, 0], Option.some.inj hG⟩
      ·refine sb 47 (bf h_24) ?_; refine cf ?_; refine kS ?_; refine tN ?_; exact fun a w S hK hE => ⟨p_0, v_15_A, v_15_c, S, hK.wk, hE.sel [5, 4], Option.some.inj hG⟩
     ·rintro a w ⟨v_38, v_39_A, v_40_c, hJ⟩; refine hJ.go fun ho_ => ?_
      clear hJ; subst ho_; replace hG := hG_37
      try (simp only [un2, un3, un4, un5, un6, un7, un8, Sum.elim_inl, Sum.elim_inr, List.length_map, KCopyL.n_Log] at hG; replace hG : _ = _ := hG)
      refine sq ?_; refine rg ?_; refine ra [] f0 [(8, .slice v_39_A v_38.length v_40_c), (9, I 0)] ?_; refine tN ?_; refine kR ?_; obtain rfl := Option.some.inj hG; refine so (A := v_39_A) (c := v_40_c) 0 KCopyL.cells KCopyL.ok v_38 KCopyL.mv (gd' (Each KCopyL.ok v_38) 1) ?_; exact rtn [] ⟨v_39_A, v_40_c, v_38⟩ rfl ⟨gi 0, trivial⟩
def G_regulatorref38_Log (F : Nat) (p_0 : List KTx) : Option (Bool) :=
  Option.bind (Option.bind (iter (σ := Int) (ρ := Unit ⊕ Unit) (fun (v_27 : Int) => 
        (ifB (decide (v_27 < ((p_0.length : Nat) : Int)))
          (Option.bind (ixI p_0 v_27) (fun v_30 =>
          Option.bind (G_regulatorref38_Tx F v_30) (fun v_33 =>
          Option.bind (ifB (v_33)
              (ifB (decide (v_27 > 0))
                (Option.bind (ixI p_0 v_27) (fun v_36 =>
                Option.bind (ixI p_0 (IntKind.i64.wrap (v_27 - 1))) (fun v_39 =>
                some (decide (v_36.Ts ≤ v_39.Ts)))))
                (some false))
              (some true) : Option (Bool)) (fun (v_43 : Bool) => 
            ifB (v_43)
              (some (.inr (.inr ())))
              (some (.inl (IntKind.i64.wrap (v_27 + 1))))))))
          (some (.inr (.inl ()))) : Option (Int ⊕ (Unit ⊕ Unit)))) F 0) (Sum.elim (fun (_ : Unit) => 
      some (.inl ())) (fun (_ : Unit) => 
      some (.inr ()))) : Option (Unit ⊕ Unit)) (Sum.elim (fun (_ : Unit) => 
    some (decide (((p_0.length : Nat) : Int) ≤ 2000))) (fun (_ : Unit) => 
    some false))
set_option maxRecDepth 100000 in
set_option maxHeartbeats 16000000 in
theorem z_regulatorref38_Log (F : Nat) (p_0_A : Option Addr) (p_0_c : Nat) (p_0 : List KTxL) (r : Bool) (hG : G_regulatorref38_Log F (p_0.map KTxL.p) = some r) :
  Cf Tryz.prog 46 [.slice p_0_A p_0.length p_0_c] [RowC p_0_A p_0_c KTxL.cells KTxL.ok p_0] (B r) := by
 unfold G_regulatorref38_Log at hG
 try (simp only [un2, un3, un4, un5, un6, un7, un8, Sum.elim_inl, Sum.elim_inr, List.length_map, KCopyL.n_Log] at hG; replace hG : _ = _ := hG)
 refine fi Tryz.func46 rfl rfl (mr KTxL.mv m0) fun S0 w0 hT => ?_
 refine sq ?_; refine rg ?_; refine ra [] f0 [] ?_; refine tN ?_; obtain ⟨o_45, hG, hG_45⟩ := bind_some hG; refine jn (fun K E a w => Js S0 w0 39 (K) (se E [0]) (.inl () = o_45) a w) ?_ ?_
 ·refine sq ?_; refine rg ?_; refine ra [] f0 [(3, I 0)] ?_; refine tN ?_; refine bk ?_; obtain ⟨e_28, hL, hG_28⟩ := bind_some hG; clear hG; obtain ⟨stp_28, hs_28, hL⟩ := iter_gen hL; refine lp (fun K E n_ a w => ∃ (v_27 : Int), Js S0 w0 39 ([(3, I v_27)] ++ K) (se E [0]) (iter stp_28 n_ v_27 = some e_28) a w) F ?_ ?_
  ·exact fun a w S hK hE => ⟨0, S, hK.wk, hE.sel [0], hL⟩
  ·clear hL; rintro n_28 a w ⟨v_27, hJ⟩; refine hJ.go fun hL => ?_
   clear hJ; obtain ⟨m_28, o_28, rfl, hG, hO1_28, hO2_28⟩ := iter_step hL; clear hL; rw [hs_28] at hG
   try (simp only [un2, un3, un4, un5, un6, un7, un8, Sum.elim_inl, Sum.elim_inr, List.length_map, KCopyL.n_Log] at hG; replace hG : _ = _ := hG)
   refine sq ?_; refine sq ?_; refine rg ?_; refine ra [] f0 [(8, B (decide (v_27 < ((p_0.length : Nat) : Int))))] ?_; refine tN ?_; rcases ifB_cases hG with ⟨h_29, hG⟩ | ⟨h_29, hG⟩
   ·try simp only [List.length_map, KCopyL.n_Log] at h_29
    refine sb 8 (bt h_29) ?_; refine ct ?_; refine kS ?_; refine tN ?_; refine sq ?_; refine bk ?_; refine sq ?_; replace hG := bind_some hG; obtain ⟨v_30o, hy_30, hG⟩ := hG; replace hG := bind_some hG; obtain ⟨v_33, hy_33, hG⟩ := hG; refine rg ?_; refine fxn (p := KTxL.p) inf38 (gd' (RowC p_0_A p_0_c KTxL.cells KTxL.ok p_0) 0) hy_30 fun v_30 b_31 o_32 he_30 hi_30 => ?_
    subst he_30
    try (simp only [un2, un3, un4, un5, un6, un7, un8, Sum.elim_inl, Sum.elim_inr, List.length_map, KCopyL.n_Log] at hG; replace hG : _ = _ := hG)
    refine rn 4 [(2, 0, 0, 0), (0, 4, 0, 0)] (fc (hi_30 .i64) f0) [(14, .agg #[I v_30.ID, I v_30.Ts, .slice v_30.Reads_A v_30.Reads.length v_30.Reads_c, .slice v_30.Writes_A v_30.Writes.length v_30.Writes_c])] ?_; refine l1 ?_; refine cl 15 (z_regulatorref38_Tx F v_30 _ hy_33) hT ⟨(gi 1).a, trivial⟩ ?_; refine ra [] f0 [(4, B v_33)] ?_; refine tN ?_; obtain ⟨o_42, hG, hG_42⟩ := bind_some hG; refine jn (fun K E a w => ∃ (v_43 : Bool), Js S0 w0 39 ([(35, B v_43)] ++ K) (se E [2]) (v_43 = o_42) a w) ?_ ?_
    ·replace hG := ifB_cases hG; rcases hG with ⟨h_34, hG⟩ | ⟨h_34, hG⟩
     ·replace hG := ifB_cases hG; rcases hG with ⟨h_35, hG⟩ | ⟨h_35, hG⟩
      ·replace hG := bind_some hG; obtain ⟨v_36o, hy_36, hG⟩ := hG; replace hG := bind_some hG; obtain ⟨v_39o, hy_39, hG⟩ := hG; refine qb ?_; refine qn 3 [] f0 [(18, B (!v_33))] ?_; refine sb 18 (nt h_34) ?_; refine qn 3 [] f0 [(21, B (decide (v_27 > 0)))] ?_; refine sb 21 (bt h_35) ?_; refine fxn (p := KTxL.p) inf38 (gd' (RowC p_0_A p_0_c KTxL.cells KTxL.ok p_0) 2) hy_36 fun v_36 b_37 o_38 he_36 hi_36 => ?_
       subst he_36
       try (simp only [un2, un3, un4, un5, un6, un7, un8, Sum.elim_inl, Sum.elim_inr, List.length_map, KCopyL.n_Log] at hG; replace hG : _ = _ := hG)
       refine fxn (p := KTxL.p) inf38 (gd' (RowC p_0_A p_0_c KTxL.cells KTxL.ok p_0) 4) hy_39 fun v_39 b_40 o_41 he_39 hi_39 => ?_
       subst he_39
       try (simp only [un2, un3, un4, un5, un6, un7, un8, Sum.elim_inl, Sum.elim_inr, List.length_map, KCopyL.n_Log] at hG; replace hG : _ = _ := hG)
       refine qa [(2, 0, 0, 0), (1, 1, 2, 1), (3, 0, 0, 0), (1, 1, 0, 1)] (fc (hi_36 .i64) (fc (hi_39 .i64) f0)) [(35, B (decide (v_36.Ts ≤ v_39.Ts)))] ?_; refine tN ?_; exact fun a w S hK hE => ⟨decide (v_36.Ts ≤ v_39.Ts), S, hK.wk, hE.sel [6], Option.some.inj hG⟩
      ·refine qb ?_; refine qn 3 [] f0 [(18, B (!v_33))] ?_; refine sb 18 (nt h_34) ?_; refine qn 3 [] f0 [(21, B (decide (v_27 > 0)))] ?_; refine sb 21 (bf h_35) ?_; refine qa [] f0 [(35, B false)] ?_; refine tN ?_; exact fun a w S hK hE => ⟨false, S, hK.wk, hE.sel [2], Option.some.inj hG⟩
     ·refine qb ?_; refine qn 3 [] f0 [(18, B (!v_33))] ?_; refine sb 18 (nf h_34) ?_; refine qa [] f0 [(35, B true)] ?_; refine tN ?_; exact fun a w S hK hE => ⟨true, S, hK.wk, hE.sel [2], Option.some.inj hG⟩
    ·rintro a w ⟨v_43, hJ⟩; refine hJ.go fun ho_ => ?_
     clear hJ; subst ho_; replace hG := hG_42
     try (simp only [un2, un3, un4, un5, un6, un7, un8, Sum.elim_inl, Sum.elim_inr, List.length_map, KCopyL.n_Log] at hG; replace hG : _ = _ := hG)
     rcases ifB_cases hG with ⟨h_44, hG⟩ | ⟨h_44, hG⟩
     ·refine sb 35 (bt h_44) ?_; refine ct ?_; refine sq ?_; refine rg ?_; refine ra [] f0 [(2, B false)] ?_; refine tN ?_; refine kR ?_; refine hR ?_; refine tR ?_; refine tR ?_; have he_ := hO2_28 _ (Option.some.inj hG).symm; subst he_; replace hG := hG_28
      try (simp only [un2, un3, un4, un5, un6, un7, un8, Sum.elim_inl, Sum.elim_inr, List.length_map, KCopyL.n_Log] at hG; replace hG : _ = _ := hG)
      refine hR ?_; refine tR ?_; obtain rfl := Option.some.inj hG; replace hG := hG_45
      try (simp only [un2, un3, un4, un5, un6, un7, un8, Sum.elim_inl, Sum.elim_inr, List.length_map, KCopyL.n_Log] at hG; replace hG : _ = _ := hG)
      obtain rfl := Option.some.inj hG; exact rt []
     ·refine sb 35 (bf h_44) ?_; refine cf ?_; refine kS ?_; refine hN ?_; refine tN ?_; refine rg ?_; refine ra [] f0 [(3, I (IntKind.i64.wrap (v_27 + 1)))] ?_; refine tN ?_; exact fun a w S hK hE => ⟨m_28, ⟨IntKind.i64.wrap (v_27 + 1), S, hK.wk, hE.sel [0], hO1_28 _ (Option.some.inj hG).symm⟩, Nat.lt_succ_self _⟩
   ·try simp only [List.length_map, KCopyL.n_Log] at h_29
    refine sb 8 (bf h_29) ?_; refine cf ?_; refine kX ?_; refine tX ?_; refine tX ?_; have he_ := hO2_28 _ (Option.some.inj hG).symm; subst he_; replace hG := hG_28
    try (simp only [un2, un3, un4, un5, un6, un7, un8, Sum.elim_inl, Sum.elim_inr, List.length_map, KCopyL.n_Log] at hG; replace hG : _ = _ := hG)
    refine hH ?_; refine tN ?_; exact fun a w S hK hE => ⟨S, hK.wk, hE.sel [0], Option.some.inj hG⟩
 ·rintro a w hJ; refine hJ.go fun ho_ => ?_
  clear hJ; subst ho_; replace hG := hG_45
  try (simp only [un2, un3, un4, un5, un6, un7, un8, Sum.elim_inl, Sum.elim_inr, List.length_map, KCopyL.n_Log] at hG; replace hG : _ = _ := hG)
  refine sq ?_; refine rg ?_; refine ra [] f0 [(2, B (decide (((p_0.length : Nat) : Int) ≤ 2000)))] ?_; refine tN ?_; refine kR ?_; obtain rfl := Option.some.inj hG; exact rt []
end Go.Proofs.YtkchfmhgboiimaaGreat
namespace Go.Proofs.YtkchfmhgboiimaaGreat
open Go.RowKit Go.Maps
def G_regulatorref38_Valid (F : Nat) (p_0 : List KCopy) : Option (Bool) :=
  Option.bind (ifB (decide (((p_0.length : Nat) : Int) < 1))
      (some true)
      (some (decide (((p_0.length : Nat) : Int) > 7))) : Option (Bool)) (fun (v_3 : Bool) => 
    ifB (v_3)
      (some false)
      (Option.bind (Option.bind (iter (σ := Int × Int) (ρ := Int ⊕ Unit) (un2 fun (v_99 : Int) (v_100 : Int) => 
            (ifB (decide (v_100 < ((p_0.length : Nat) : Int)))
              (Option.bind (Option.bind (ixI p_0 v_100) (fun v_103 =>
                Option.bind (G_regulatorref38_Log F v_103.Log) (fun v_106 =>
                Option.bind (ifB (v_106)
                    (Option.bind (ixI p_0 v_100) (fun v_108 =>
                    ifB (decide (v_108.ID < 1))
                      (some true)
                      (Option.bind (ixI p_0 v_100) (fun v_112 =>
                      ifB (decide (v_112.ID > 64))
                        (some true)
                        (ifB (decide (v_100 > 0))
                          (Option.bind (ixI p_0 v_100) (fun v_117 =>
                          Option.bind (ixI p_0 (IntKind.i64.wrap (v_100 - 1))) (fun v_120 =>
                          some (decide (v_117.ID ≤ v_120.ID)))))
                          (some false))))))
                    (some true) : Option (Bool)) (fun (v_124 : Bool) => 
                  ifB (v_124)
                    (some (.inr ()))
                    (Option.bind (ixI p_0 v_100) (fun v_126 =>
                    Option.bind (ixI p_0 v_99) (fun v_129 =>
                    ifB (decide (((v_126.Log.length : Nat) : Int) > ((v_129.Log.length : Nat) : Int)))
                      (some (.inl v_100))
                      (some (.inl v_99)))))))) : Option (Int ⊕ Unit)) (Sum.elim (fun (v_134 : Int) => 
                some (.inl (v_134, IntKind.i64.wrap (v_100 + 1)))) (fun (_ : Unit) => 
                some (.inr (.inr ())))))
              (some (.inr (.inl v_99))) : Option ((Int × Int) ⊕ (Int ⊕ Unit)))) F (0, 0)) (Sum.elim (fun (v_135 : Int) => 
          some (.inl v_135)) (fun (_ : Unit) => 
          some (.inr ()))) : Option (Int ⊕ Unit)) (Sum.elim (fun (v_137 : Int) => 
        Option.bind (Option.bind (iter (σ := Int) (ρ := Unit ⊕ Unit) (fun (v_165 : Int) => 
              (ifB (decide (v_165 < ((p_0.length : Nat) : Int)))
                (Option.bind (ixI p_0 v_165) (fun v_168 =>
                Option.bind (ixI p_0 v_165) (fun v_171 =>
                Option.bind (ixI p_0 v_137) (fun v_174 =>
                Option.bind (slI v_174.Log 0 ((v_168.Log.length : Nat) : Int)) (fun v_177 =>
                Option.bind (G_regulatorref38_SameLog F v_171.Log v_177) (fun v_178 =>
                ifB (v_178)
                  (some (.inl (IntKind.i64.wrap (v_165 + 1))))
                  (some (.inr (.inr ())))))))))
                (some (.inr (.inl ()))) : Option (Int ⊕ (Unit ⊕ Unit)))) F 0) (Sum.elim (fun (_ : Unit) => 
            some (.inl ())) (fun (_ : Unit) => 
            some (.inr ()))) : Option (Unit ⊕ Unit)) (Sum.elim (fun (_ : Unit) => 
          some true) (fun (_ : Unit) => 
          some false))) (fun (_ : Unit) => 
        some false))))
set_option maxRecDepth 100000 in
set_option maxHeartbeats 16000000 in
theorem z_regulatorref38_Valid (F : Nat) (p_0_A : Option Addr) (p_0_c : Nat) (p_0 : List KCopyL) (r : Bool) (hG : G_regulatorref38_Valid F (p_0.map KCopyL.p) = some r) :
  Cf Tryz.prog 15 [.slice p_0_A p_0.length p_0_c] [RowC p_0_A p_0_c KCopyL.cells KCopyL.ok p_0] (B r) := by
 unfold G_regulatorref38_Valid at hG
 try (simp only [un2, un3, un4, un5, un6, un7, un8, Sum.elim_inl, Sum.elim_inr, List.length_map, KCopyL.n_Log] at hG; replace hG : _ = _ := hG)
 refine fi Tryz.func15 rfl rfl (mr KCopyL.mv m0) fun S0 w0 hT => ?_
 refine sq ?_; refine rg ?_; refine ra [] f0 [] ?_; refine tN ?_; refine sq ?_; obtain ⟨o_2, hG, hG_2⟩ := bind_some hG; refine jn (fun K E a w => ∃ (v_3 : Bool), Js S0 w0 106 ([(16, B v_3)] ++ K) (se E [0]) (v_3 = o_2) a w) ?_ ?_
 ·replace hG := ifB_cases hG; rcases hG with ⟨h_1, hG⟩ | ⟨h_1, hG⟩
  ·refine rg ?_; refine rn 4 [] f0 [(12, B (decide (((p_0.length : Nat) : Int) < 1)))] ?_
   try simp only [List.length_map, KCopyL.n_Log] at h_1
   refine sb 12 (bt h_1) ?_; refine ra [] f0 [(16, B true)] ?_; refine tN ?_; exact fun a w S hK hE => ⟨true, S, hK.wk, hE.sel [0], Option.some.inj hG⟩
  ·refine rg ?_; refine rn 4 [] f0 [(12, B (decide (((p_0.length : Nat) : Int) < 1)))] ?_
   try simp only [List.length_map, KCopyL.n_Log] at h_1
   refine sb 12 (bf h_1) ?_; refine ra [] f0 [(16, B (decide (((p_0.length : Nat) : Int) > 7)))] ?_; refine tN ?_; exact fun a w S hK hE => ⟨decide (((p_0.length : Nat) : Int) > 7), S, hK.wk, hE.sel [0], Option.some.inj hG⟩
 ·rintro a w ⟨v_3, hJ⟩; refine hJ.go fun ho_ => ?_
  clear hJ; subst ho_; replace hG := hG_2
  try (simp only [un2, un3, un4, un5, un6, un7, un8, Sum.elim_inl, Sum.elim_inr, List.length_map, KCopyL.n_Log] at hG; replace hG : _ = _ := hG)
  rcases ifB_cases hG with ⟨h_4, hG⟩ | ⟨h_4, hG⟩
  ·refine sb 16 (bt h_4) ?_; refine ct ?_; refine sq ?_; refine rg ?_; refine ra [] f0 [(2, B false)] ?_; refine tN ?_; refine kR ?_; refine tR ?_; obtain rfl := Option.some.inj hG; exact rt []
  ·refine sb 16 (bf h_4) ?_; refine cf ?_; refine kS ?_; refine tN ?_; refine sq ?_; refine rg ?_; refine ra [] f0 [(3, I 0)] ?_; refine tN ?_; obtain ⟨o_136, hG, hG_136⟩ := bind_some hG; refine jn (fun K E a w => ∃ (v_137 : Int), Js S0 w0 106 ([(3, I v_137)] ++ K) (se E [0]) (.inl v_137 = o_136) a w) ?_ ?_
   ·refine sq ?_; refine rg ?_; refine ra [] f0 [(4, I 0)] ?_; refine tN ?_; refine bk ?_; obtain ⟨e_101, hL, hG_101⟩ := bind_some hG; clear hG; obtain ⟨stp_101, hs_101, hL⟩ := iter_gen hL; refine lp (fun K E n_ a w => ∃ (v_99 : Int), ∃ (v_100 : Int), Js S0 w0 106 ([(3, I v_99), (4, I v_100)] ++ K) (se E [0]) (iter stp_101 n_ (v_99, v_100) = some e_101) a w) F ?_ ?_
    ·exact fun a w S hK hE => ⟨0, 0, S, hK.wk, hE.sel [0], hL⟩
    ·clear hL; rintro n_101 a w ⟨v_99, v_100, hJ⟩; refine hJ.go fun hL => ?_
     clear hJ; obtain ⟨m_101, o_101, rfl, hG, hO1_101, hO2_101⟩ := iter_step hL; clear hL; rw [hs_101] at hG
     try (simp only [un2, un3, un4, un5, un6, un7, un8, Sum.elim_inl, Sum.elim_inr, List.length_map, KCopyL.n_Log] at hG; replace hG : _ = _ := hG)
     refine sq ?_; refine sq ?_; refine rg ?_; refine ra [] f0 [(20, B (decide (v_100 < ((p_0.length : Nat) : Int))))] ?_; refine tN ?_; rcases ifB_cases hG with ⟨h_102, hG⟩ | ⟨h_102, hG⟩
     ·try simp only [List.length_map, KCopyL.n_Log] at h_102
      refine sb 20 (bt h_102) ?_; refine ct ?_; refine kS ?_; refine tN ?_; obtain ⟨o_133, hG, hG_133⟩ := bind_some hG; refine jn (fun K E a w => ∃ (v_134 : Int), Js S0 w0 106 ([(3, I v_134)] ++ K) (se E [0]) (.inl v_134 = o_133) a w) ?_ ?_
      ·refine bk ?_; refine sq ?_; replace hG := bind_some hG; obtain ⟨v_103o, hy_103, hG⟩ := hG; replace hG := bind_some hG; obtain ⟨v_106, hy_106, hG⟩ := hG; refine rg ?_; refine fxn (p := KCopyL.p) inf22 (gd' (RowC p_0_A p_0_c KCopyL.cells KCopyL.ok p_0) 0) hy_103 fun v_103 b_104 o_105 he_103 hi_103 => ?_
       subst he_103
       try (simp only [un2, un3, un4, un5, un6, un7, un8, Sum.elim_inl, Sum.elim_inr, List.length_map, KCopyL.n_Log] at hG; replace hG : _ = _ := hG)
       refine rn 5 [(2, 0, 0, 0), (1, 1, 0, 1)] (fc (hi_103 .i64) f0) [(27, .slice v_103.Log_A v_103.Log.length v_103.Log_c)] ?_; refine l1 ?_; refine cl 28 (z_regulatorref38_Log F v_103.Log_A v_103.Log_c v_103.Log _ hy_106) hT ⟨(gm (KCopyL.ok v_103) 1 fun _ _ h => h.f_Log).a, trivial⟩ ?_; refine ra [] f0 [(5, B v_106)] ?_; refine tN ?_; refine sq ?_; obtain ⟨o_123, hG, hG_123⟩ := bind_some hG; refine jn (fun K E a w => ∃ (v_124 : Bool), Js S0 w0 106 ([(64, B v_124)] ++ K) (se E [2]) (v_124 = o_123) a w) ?_ ?_
       ·replace hG := ifB_cases hG; rcases hG with ⟨h_107, hG⟩ | ⟨h_107, hG⟩
        ·replace hG := bind_some hG; obtain ⟨v_108o, hy_108, hG⟩ := hG; replace hG := ifB_cases hG; rcases hG with ⟨h_111, hG⟩ | ⟨h_111, hG⟩
         ·refine qb ?_; refine qn 3 [] f0 [(31, B (!v_106))] ?_; refine sb 31 (nt h_107) ?_; refine fxn (p := KCopyL.p) inf22 (gd' (RowC p_0_A p_0_c KCopyL.cells KCopyL.ok p_0) 2) hy_108 fun v_108 b_109 o_110 he_108 hi_108 => ?_
          subst he_108
          try (simp only [un2, un3, un4, un5, un6, un7, un8, Sum.elim_inl, Sum.elim_inr, List.length_map, KCopyL.n_Log] at hG; replace hG : _ = _ := hG)
          refine qn 8 [(2, 0, 0, 0), (1, 1, 0, 0)] (fc (hi_108 .i64) f0) [(39, B (decide (v_108.ID < 1)))] ?_; refine sb 39 (bt h_111) ?_; refine qa [] f0 [(64, B true)] ?_; refine tN ?_; exact fun a w S hK hE => ⟨true, S, hK.wk, hE.sel [4], Option.some.inj hG⟩
         ·replace hG := bind_some hG; obtain ⟨v_112o, hy_112, hG⟩ := hG; replace hG := ifB_cases hG; rcases hG with ⟨h_115, hG⟩ | ⟨h_115, hG⟩
          ·refine qb ?_; refine qn 3 [] f0 [(31, B (!v_106))] ?_; refine sb 31 (nt h_107) ?_; refine fxn (p := KCopyL.p) inf22 (gd' (RowC p_0_A p_0_c KCopyL.cells KCopyL.ok p_0) 2) hy_108 fun v_108 b_109 o_110 he_108 hi_108 => ?_
           subst he_108
           try (simp only [un2, un3, un4, un5, un6, un7, un8, Sum.elim_inl, Sum.elim_inr, List.length_map, KCopyL.n_Log] at hG; replace hG : _ = _ := hG)
           refine qn 8 [(2, 0, 0, 0), (1, 1, 0, 0)] (fc (hi_108 .i64) f0) [(39, B (decide (v_108.ID < 1)))] ?_; refine sb 39 (bf h_111) ?_; refine fxn (p := KCopyL.p) inf22 (gd' (RowC p_0_A p_0_c KCopyL.cells KCopyL.ok p_0) 4) hy_112 fun v_112 b_113 o_114 he_112 hi_112 => ?_
           subst he_112
           try (simp only [un2, un3, un4, un5, un6, un7, un8, Sum.elim_inl, Sum.elim_inr, List.length_map, KCopyL.n_Log] at hG; replace hG : _ = _ := hG)
           refine qn 8 [(2, 0, 0, 0), (1, 1, 0, 0)] (fc (hi_112 .i64) f0) [(47, B (decide (v_112.ID > 64)))] ?_; refine sb 47 (bt h_115) ?_; refine qa [] f0 [(64, B true)] ?_; refine tN ?_; exact fun a w S hK hE => ⟨true, S, hK.wk, hE.sel [6], Option.some.inj hG⟩
          ·replace hG := ifB_cases hG; rcases hG with ⟨h_116, hG⟩ | ⟨h_116, hG⟩
           ·replace hG := bind_some hG; obtain ⟨v_117o, hy_117, hG⟩ := hG; replace hG := bind_some hG; obtain ⟨v_120o, hy_120, hG⟩ := hG; refine qb ?_; refine qn 3 [] f0 [(31, B (!v_106))] ?_; refine sb 31 (nt h_107) ?_; refine fxn (p := KCopyL.p) inf22 (gd' (RowC p_0_A p_0_c KCopyL.cells KCopyL.ok p_0) 2) hy_108 fun v_108 b_109 o_110 he_108 hi_108 => ?_
            subst he_108
            try (simp only [un2, un3, un4, un5, un6, un7, un8, Sum.elim_inl, Sum.elim_inr, List.length_map, KCopyL.n_Log] at hG; replace hG : _ = _ := hG)
            refine qn 8 [(2, 0, 0, 0), (1, 1, 0, 0)] (fc (hi_108 .i64) f0) [(39, B (decide (v_108.ID < 1)))] ?_; refine sb 39 (bf h_111) ?_; refine fxn (p := KCopyL.p) inf22 (gd' (RowC p_0_A p_0_c KCopyL.cells KCopyL.ok p_0) 4) hy_112 fun v_112 b_113 o_114 he_112 hi_112 => ?_
            subst he_112
            try (simp only [un2, un3, un4, un5, un6, un7, un8, Sum.elim_inl, Sum.elim_inr, List.length_map, KCopyL.n_Log] at hG; replace hG : _ = _ := hG)
            refine qn 8 [(2, 0, 0, 0), (1, 1, 0, 0)] (fc (hi_112 .i64) f0) [(47, B (decide (v_112.ID > 64)))] ?_; refine sb 47 (bf h_115) ?_; refine qn 3 [] f0 [(50, B (decide (v_100 > 0)))] ?_; refine sb 50 (bt h_116) ?_; refine fxn (p := KCopyL.p) inf22 (gd' (RowC p_0_A p_0_c KCopyL.cells KCopyL.ok p_0) 6) hy_117 fun v_117 b_118 o_119 he_117 hi_117 => ?_
            subst he_117
            try (simp only [un2, un3, un4, un5, un6, un7, un8, Sum.elim_inl, Sum.elim_inr, List.length_map, KCopyL.n_Log] at hG; replace hG : _ = _ := hG)
            refine fxn (p := KCopyL.p) inf22 (gd' (RowC p_0_A p_0_c KCopyL.cells KCopyL.ok p_0) 8) hy_120 fun v_120 b_121 o_122 he_120 hi_120 => ?_
            subst he_120
            try (simp only [un2, un3, un4, un5, un6, un7, un8, Sum.elim_inl, Sum.elim_inr, List.length_map, KCopyL.n_Log] at hG; replace hG : _ = _ := hG)
            refine qa [(2, 0, 0, 0), (1, 1, 2, 0), (3, 0, 0, 0), (1, 1, 0, 0)] (fc (hi_117 .i64) (fc (hi_120 .i64) f0)) [(64, B (decide (v_117.ID ≤ v_120.ID)))] ?_; refine tN ?_; exact fun a w S hK hE => ⟨decide (v_117.ID ≤ v_120.ID), S, hK.wk, hE.sel [10], Option.some.inj hG⟩
           ·refine qb ?_; refine qn 3 [] f0 [(31, B (!v_106))] ?_; refine sb 31 (nt h_107) ?_; refine fxn (p := KCopyL.p) inf22 (gd' (RowC p_0_A p_0_c KCopyL.cells KCopyL.ok p_0) 2) hy_108 fun v_108 b_109 o_110 he_108 hi_108 => ?_
            subst he_108
            try (simp only [un2, un3, un4, un5, un6, un7, un8, Sum.elim_inl, Sum.elim_inr, List.length_map, KCopyL.n_Log] at hG; replace hG : _ = _ := hG)
            refine qn 8 [(2, 0, 0, 0), (1, 1, 0, 0)] (fc (hi_108 .i64) f0) [(39, B (decide (v_108.ID < 1)))] ?_; refine sb 39 (bf h_111) ?_; refine fxn (p := KCopyL.p) inf22 (gd' (RowC p_0_A p_0_c KCopyL.cells KCopyL.ok p_0) 4) hy_112 fun v_112 b_113 o_114 he_112 hi_112 => ?_
            subst he_112
            try (simp only [un2, un3, un4, un5, un6, un7, un8, Sum.elim_inl, Sum.elim_inr, List.length_map, KCopyL.n_Log] at hG; replace hG : _ = _ := hG)
            refine qn 8 [(2, 0, 0, 0), (1, 1, 0, 0)] (fc (hi_112 .i64) f0) [(47, B (decide (v_112.ID > 64)))] ?_; refine sb 47 (bf h_115) ?_; refine qn 3 [] f0 [(50, B (decide (v_100 > 0)))] ?_; refine sb 50 (bf h_116) ?_; refine qa [] f0 [(64, B false)] ?_; refine tN ?_; exact fun a w S hK hE => ⟨false, S, hK.wk, hE.sel [6], Option.some.inj hG⟩
        ·refine qb ?_; refine qn 3 [] f0 [(31, B (!v_106))] ?_; refine sb 31 (nf h_107) ?_; refine qa [] f0 [(64, B true)] ?_; refine tN ?_; exact fun a w S hK hE => ⟨true, S, hK.wk, hE.sel [2], Option.some.inj hG⟩
       ·rintro a w ⟨v_124, hJ⟩; refine hJ.go fun ho_ => ?_
        clear hJ; subst ho_; replace hG := hG_123
        try (simp only [un2, un3, un4, un5, un6, un7, un8, Sum.elim_inl, Sum.elim_inr, List.length_map, KCopyL.n_Log] at hG; replace hG : _ = _ := hG)
        rcases ifB_cases hG with ⟨h_125, hG⟩ | ⟨h_125, hG⟩
        ·refine sb 64 (bt h_125) ?_; refine ct ?_; refine sq ?_; refine rg ?_; refine ra [] f0 [(2, B false)] ?_; refine tN ?_; refine kR ?_; refine tR ?_; refine hR ?_; refine tR ?_; obtain rfl := Option.some.inj hG; replace hG := hG_133
         try (simp only [un2, un3, un4, un5, un6, un7, un8, Sum.elim_inl, Sum.elim_inr, List.length_map, KCopyL.n_Log] at hG; replace hG : _ = _ := hG)
         refine tR ?_; have he_ := hO2_101 _ (Option.some.inj hG).symm; subst he_; replace hG := hG_101
         try (simp only [un2, un3, un4, un5, un6, un7, un8, Sum.elim_inl, Sum.elim_inr, List.length_map, KCopyL.n_Log] at hG; replace hG : _ = _ := hG)
         refine hR ?_; refine tR ?_; obtain rfl := Option.some.inj hG; replace hG := hG_136
         try (simp only [un2, un3, un4, un5, un6, un7, un8, Sum.elim_inl, Sum.elim_inr, List.length_map, KCopyL.n_Log] at hG; replace hG : _ = _ := hG)
         obtain rfl := Option.some.inj hG; exact rt []
        ·refine sb 64 (bf h_125) ?_; refine cf ?_; refine kS ?_; refine tN ?_; refine sq ?_; replace hG := bind_some hG; obtain ⟨v_126o, hy_126, hG⟩ := hG; replace hG := bind_some hG; obtain ⟨v_129o, hy_129, hG⟩ := hG; refine qb ?_; refine fxn (p := KCopyL.p) inf22 (gd' (RowC p_0_A p_0_c KCopyL.cells KCopyL.ok p_0) 0) hy_126 fun v_126 b_127 o_128 he_126 hi_126 => ?_
         subst he_126
         try (simp only [un2, un3, un4, un5, un6, un7, un8, Sum.elim_inl, Sum.elim_inr, List.length_map, KCopyL.n_Log] at hG; replace hG : _ = _ := hG)
         refine fxn (p := KCopyL.p) inf22 (gd' (RowC p_0_A p_0_c KCopyL.cells KCopyL.ok p_0) 2) hy_129 fun v_129 b_130 o_131 he_129 hi_129 => ?_
         subst he_129
         try (simp only [un2, un3, un4, un5, un6, un7, un8, Sum.elim_inl, Sum.elim_inr, List.length_map, KCopyL.n_Log] at hG; replace hG : _ = _ := hG)
         refine qa [(2, 0, 0, 0), (1, 1, 2, 1), (3, 0, 0, 0), (1, 1, 0, 1)] (fc (hi_126 .i64) (fc (hi_129 .i64) f0)) [(77, B (decide (((v_126.Log.length : Nat) : Int) > ((v_129.Log.length : Nat) : Int))))] ?_; refine tN ?_; rcases ifB_cases hG with ⟨h_132, hG⟩ | ⟨h_132, hG⟩
         ·try simp only [List.length_map, KCopyL.n_Log] at h_132
          refine sb 77 (bt h_132) ?_; refine ct ?_; refine rg ?_; refine ra [] f0 [(3, I v_100)] ?_; refine hN ?_; refine tN ?_; exact fun a w S hK hE => ⟨v_100, S, hK.wk, hE.sel [4], Option.some.inj hG⟩
         ·try simp only [List.length_map, KCopyL.n_Log] at h_132
          refine sb 77 (bf h_132) ?_; refine cf ?_; refine kS ?_; refine hN ?_; refine tN ?_; exact fun a w S hK hE => ⟨v_99, S, hK.wk, hE.sel [4], Option.some.inj hG⟩
      ·rintro a w ⟨v_134, hJ⟩; refine hJ.go fun ho_ => ?_
       clear hJ; subst ho_; replace hG := hG_133
       try (simp only [un2, un3, un4, un5, un6, un7, un8, Sum.elim_inl, Sum.elim_inr, List.length_map, KCopyL.n_Log] at hG; replace hG : _ = _ := hG)
       refine rg ?_; refine ra [] f0 [(4, I (IntKind.i64.wrap (v_100 + 1)))] ?_; refine tN ?_; exact fun a w S hK hE => ⟨m_101, ⟨v_134, IntKind.i64.wrap (v_100 + 1), S, hK.wk, hE.sel [0], hO1_101 _ (Option.some.inj hG).symm⟩, Nat.lt_succ_self _⟩
     ·try simp only [List.length_map, KCopyL.n_Log] at h_102
      refine sb 20 (bf h_102) ?_; refine cf ?_; refine kX ?_; refine tX ?_; refine tX ?_; have he_ := hO2_101 _ (Option.some.inj hG).symm; subst he_; replace hG := hG_101
      try (simp only [un2, un3, un4, un5, un6, un7, un8, Sum.elim_inl, Sum.elim_inr, List.length_map, KCopyL.n_Log] at hG; replace hG : _ = _ := hG)
      refine hH ?_; refine tN ?_; exact fun a w S hK hE => ⟨v_99, S, hK.wk, hE.sel [0], Option.some.inj hG⟩
   ·rintro a w ⟨v_137, hJ⟩; refine hJ.go fun ho_ => ?_
    clear hJ; subst ho_; replace hG := hG_136
    try (simp only [un2, un3, un4, un5, un6, un7, un8, Sum.elim_inl, Sum.elim_inr, List.length_map, KCopyL.n_Log] at hG; replace hG : _ = _ := hG)
    obtain ⟨o_180, hG, hG_180⟩ := bind_some hG; refine jn (fun K E a w => Js S0 w0 106 (K) (se E []) (.inl () = o_180) a w) ?_ ?_
    ·refine sq ?_; refine rg ?_; refine ra [] f0 [(6, I 0)] ?_; refine tN ?_; refine bk ?_; obtain ⟨e_166, hL, hG_166⟩ := bind_some hG; clear hG; obtain ⟨stp_166, hs_166, hL⟩ := iter_gen hL; refine lp (fun K E n_ a w => ∃ (v_165 : Int), Js S0 w0 106 ([(6, I v_165)] ++ K) (se E [0]) (iter stp_166 n_ v_165 = some e_166) a w) F ?_ ?_
     ·exact fun a w S hK hE => ⟨0, S, hK.wk, hE.sel [0], hL⟩
     ·clear hL; rintro n_166 a w ⟨v_165, hJ⟩; refine hJ.go fun hL => ?_
      clear hJ; obtain ⟨m_166, o_166, rfl, hG, hO1_166, hO2_166⟩ := iter_step hL; clear hL; rw [hs_166] at hG
      try (simp only [un2, un3, un4, un5, un6, un7, un8, Sum.elim_inl, Sum.elim_inr, List.length_map, KCopyL.n_Log] at hG; replace hG : _ = _ := hG)
      refine sq ?_; refine sq ?_; refine rg ?_; refine ra [] f0 [(82, B (decide (v_165 < ((p_0.length : Nat) : Int))))] ?_; refine tN ?_; rcases ifB_cases hG with ⟨h_167, hG⟩ | ⟨h_167, hG⟩
      ·try simp only [List.length_map, KCopyL.n_Log] at h_167
       refine sb 82 (bt h_167) ?_; refine ct ?_; refine kS ?_; refine tN ?_; refine sq ?_; refine bk ?_; refine sq ?_; replace hG := bind_some hG; obtain ⟨v_168o, hy_168, hG⟩ := hG; refine rg ?_; refine fxn (p := KCopyL.p) inf22 (gd' (RowC p_0_A p_0_c KCopyL.cells KCopyL.ok p_0) 0) hy_168 fun v_168 b_169 o_170 he_168 hi_168 => ?_
       subst he_168
       try (simp only [un2, un3, un4, un5, un6, un7, un8, Sum.elim_inl, Sum.elim_inr, List.length_map, KCopyL.n_Log] at hG; replace hG : _ = _ := hG)
       refine ra [(2, 0, 0, 0), (1, 1, 0, 1)] (fc (hi_168 .i64) f0) [(7, I ((v_168.Log.length : Nat) : Int))] ?_; refine tN ?_; refine sq ?_; replace hG := bind_some hG; obtain ⟨v_171o, hy_171, hG⟩ := hG; replace hG := bind_some hG; obtain ⟨v_174o, hy_174, hG⟩ := hG; replace hG := bind_some hG; obtain ⟨v_177o, hy_177, hG⟩ := hG; replace hG := bind_some hG; obtain ⟨v_178, hy_178, hG⟩ := hG; refine qb ?_; refine fxn (p := KCopyL.p) inf22 (gd' (RowC p_0_A p_0_c KCopyL.cells KCopyL.ok p_0) 2) hy_171 fun v_171 b_172 o_173 he_171 hi_171 => ?_
       subst he_171
       try (simp only [un2, un3, un4, un5, un6, un7, un8, Sum.elim_inl, Sum.elim_inr, List.length_map, KCopyL.n_Log] at hG; replace hG : _ = _ := hG)
       refine fxn (p := KCopyL.p) inf22 (gd' (RowC p_0_A p_0_c KCopyL.cells KCopyL.ok p_0) 4) hy_174 fun v_174 b_175 o_176 he_174 hi_174 => ?_
       subst he_174
       try (simp only [un2, un3, un4, un5, un6, un7, un8, Sum.elim_inl, Sum.elim_inr, List.length_map, KCopyL.n_Log] at hG; replace hG : _ = _ := hG)
       refine fpn (p := KTxL.p) false true inf38 (gm (KCopyL.ok v_174) 1 fun _ _ h => h.f_Log) hy_177 fun v_177 v_177_A v_177_c he_177 hp_177 => ?_
       subst he_177
       try (simp only [un2, un3, un4, un5, un6, un7, un8, Sum.elim_inl, Sum.elim_inr, List.length_map, KCopyL.n_Log] at hG; replace hG : _ = _ := hG)
       refine qn 12 [(2, 0, 0, 0), (1, 1, 3, 1), (2, 0, 0, 0), (1, 1, 1, 1), (1, 0, 0, 0)] (fc (hi_171 .i64) (fc (hi_174 .i64) (fc (hp_177 .i64 .i64) f0))) [(95, .slice v_171.Log_A v_171.Log.length v_171.Log_c), (102, .slice v_177_A v_177.length v_177_c)] ?_; refine qc 103 (z_regulatorref38_SameLog F v_171.Log_A v_171.Log_c v_171.Log v_177_A v_177_c v_177 _ hy_178) hT ⟨(gm (KCopyL.ok v_171) 4 fun _ _ h => h.f_Log).a, ga 0, trivial⟩ ?_; refine qa [] f0 [(8, B v_178)] ?_; refine tN ?_; refine sq ?_; refine rg ?_; refine ra [] f0 [(105, B (!v_178))] ?_; refine tN ?_; rcases ifB_cases hG with ⟨h_179, hG⟩ | ⟨h_179, hG⟩
       ·refine sb 105 (nt h_179) ?_; refine cf ?_; refine kS ?_; refine hN ?_; refine tN ?_; refine rg ?_; refine ra [] f0 [(6, I (IntKind.i64.wrap (v_165 + 1)))] ?_; refine tN ?_; exact fun a w S hK hE => ⟨m_166, ⟨IntKind.i64.wrap (v_165 + 1), S, hK.wk, hE.sel [7], hO1_166 _ (Option.some.inj hG).symm⟩, Nat.lt_succ_self _⟩
       ·refine sb 105 (nf h_179) ?_; refine ct ?_; refine sq ?_; refine rg ?_; refine ra [] f0 [(2, B false)] ?_; refine tN ?_; refine kR ?_; refine hR ?_; refine tR ?_; refine tR ?_; have he_ := hO2_166 _ (Option.some.inj hG).symm; subst he_; replace hG := hG_166
        try (simp only [un2, un3, un4, un5, un6, un7, un8, Sum.elim_inl, Sum.elim_inr, List.length_map, KCopyL.n_Log] at hG; replace hG : _ = _ := hG)
        refine hR ?_; refine tR ?_; obtain rfl := Option.some.inj hG; replace hG := hG_180
        try (simp only [un2, un3, un4, un5, un6, un7, un8, Sum.elim_inl, Sum.elim_inr, List.length_map, KCopyL.n_Log] at hG; replace hG : _ = _ := hG)
        obtain rfl := Option.some.inj hG; exact rt []
      ·try simp only [List.length_map, KCopyL.n_Log] at h_167
       refine sb 82 (bf h_167) ?_; refine cf ?_; refine kX ?_; refine tX ?_; refine tX ?_; have he_ := hO2_166 _ (Option.some.inj hG).symm; subst he_; replace hG := hG_166
       try (simp only [un2, un3, un4, un5, un6, un7, un8, Sum.elim_inl, Sum.elim_inr, List.length_map, KCopyL.n_Log] at hG; replace hG : _ = _ := hG)
       refine hH ?_; refine tN ?_; exact fun a w S hK hE => ⟨S, hK.wk, hE.sel [], Option.some.inj hG⟩
    ·rintro a w hJ; refine hJ.go fun ho_ => ?_
     clear hJ; subst ho_; replace hG := hG_180
     try (simp only [un2, un3, un4, un5, un6, un7, un8, Sum.elim_inl, Sum.elim_inr, List.length_map, KCopyL.n_Log] at hG; replace hG : _ = _ := hG)
     refine sq ?_; refine rg ?_; refine ra [] f0 [(2, B true)] ?_; refine tN ?_; refine kR ?_; obtain rfl := Option.some.inj hG; exact rt []
end Go.Proofs.YtkchfmhgboiimaaGreat
namespace Go.Proofs.YtkchfmhgboiimaaGreat
open Go.RowKit Go.Shelf
attribute [local go_sem] Oper.semAt_some
structure KpB (X : Nat) (A B : World) : Prop where
 size : A.heap.size ≤ B.heap.size
 keep : ∀ k o, A.heap[k]? = some o → o.isCells = true → k ≠ X → B.heap[k]? = some o
theorem KpB.refl (X : Nat) (A : World) : KpB X A A := ⟨Nat.le_refl _, fun _ _ h _ _ => h⟩
theorem KpB.trans {X : Nat} {A B C : World} (h : KpB X A B) (k : KpB X B C) : KpB X A C := ⟨Nat.le_trans h.size k.size, fun i o hi hc hx => k.keep i o (h.keep i o hi hc hx) hc hx⟩
theorem KpB.cell {X : Nat} {A B : World} (h : KpB X A B) {b o : Nat} {v : Value} (hc : A.cell? ⟨b, o, none⟩ = some v) (hb : b ≠ X) : B.cell? ⟨b, o, none⟩ = some v := by
 obtain ⟨ob, h1, h2⟩ := cells_of_cell hc; have h3 := h.keep b ob h1 h2 hb; rw [← hc]; exact World.cell?_of_block (w := A) (h3.trans h1.symm)
theorem KpB.put {X : Nat} (W : World) (l : Nat) (o o' : Obj) (h : W.heap[l]? = some o) (hc : o.isCells = false) : KpB X W (W.putObj l o') :=
 ⟨by simp, fun k p hk hp _ => by
  have : k ≠ l := fun e => by subst e; rw [h] at hk; cases hk; rw [hc] at hp; cases hp
  rw [World.putObj_heap_other this]; exact hk⟩
theorem KpB.alloc {X : Nat} {A B : World} (h : KpB X A B) (o : Obj) : KpB X A (B.alloc o) :=
 h.trans ⟨by simp, fun k p hk _ _ => (Below.heap_alloc B o k (Array.getElem?_eq_some_iff.1 hk).1).trans hk⟩
theorem KpB.set {X : Nat} {A B : World} (h : KpB X A B) {g : Nat} (hg : A.heap.size ≤ g) (o : Nat) (v : Value) : KpB X A (B.setCell ⟨g, o, none⟩ v) :=
 ⟨by simpa using h.size, fun k p hk hp hx => by
  have : k ≠ g := fun e => by subst e; have := (Array.getElem?_eq_some_iff.1 hk).1; omega
  rw [Below.heap_setCell B ⟨g, o, none⟩ v k this]; exact h.keep k p hk hp hx⟩
def LogAt (X : Nat) (W : World) (A : Option Addr) (l : List KTxL) : Prop := ∀ i (hi : i < l.length),
 (∃ b o, A = some ⟨b, o, none⟩ ∧ b ≠ X ∧ W.cell? ⟨b, o + i * 4, none⟩ = some (I l[i].ID) ∧ W.cell? ⟨b, o + i * 4 + 1, none⟩ = some (I l[i].Ts) ∧ W.cell? ⟨b, o + i * 4 + 2, none⟩ = some (.slice l[i].Reads_A l[i].Reads.length l[i].Reads_c) ∧ W.cell? ⟨b, o + i * 4 + 3, none⟩ = some (.slice l[i].Writes_A l[i].Writes.length l[i].Writes_c)) ∧
 ∀ j (hj : j < l[i].Writes.length), ∃ b o, l[i].Writes_A = some ⟨b, o, none⟩ ∧ b ≠ X ∧ W.cell? ⟨b, o + j * 3, none⟩ = some (I l[i].Writes[j].Key) ∧ W.cell? ⟨b, o + j * 3 + 1, none⟩ = some (I l[i].Writes[j].Value) ∧ W.cell? ⟨b, o + j * 3 + 2, none⟩ = some (B l[i].Writes[j].Gone)
theorem LogAt.kp {X : Nat} {V W : World} {A : Option Addr} {l : List KTxL} (h : LogAt X V A l) (k : KpB X V W) : LogAt X W A l := fun i hi => by
 obtain ⟨⟨b, o, hA, hb, h0, h1, h2, h3⟩, hw⟩ := h i hi; refine ⟨⟨b, o, hA, hb, k.cell h0 hb, k.cell h1 hb, k.cell h2 hb, k.cell h3 hb⟩, fun j hj => ?_⟩; obtain ⟨b, o, hA, hb, h0, h1, h2⟩ := hw j hj; exact ⟨b, o, hA, hb, k.cell h0 hb, k.cell h1 hb, k.cell h2 hb⟩
def vW (t : KTxL) (w : KWrite) : Ver := ⟨w.Key, t.Ts, w.Value, w.Gone⟩
def vk (l : List KTxL) : List Ver := l.flatMap fun t => t.Writes.map (vW t)
theorem vk_vs (l : List KTxL) : vk l = vsOf (l.map KTxL.p) := by
 unfold vk vsOf; rw [List.flatMap_map]; rfl
theorem vk_succ {l : List KTxL} {i : Nat} (hi : i < l.length) : vk (l.take (i + 1)) = vk (l.take i) ++ l[i].Writes.map (vW l[i]) := by
 unfold vk; rw [List.take_succ_eq_append_getElem hi, List.flatMap_append]; simp
theorem map_succ {α β : Type} (f : α → β) {l : List α} {j : Nat} (hj : j < l.length) : (l.take (j + 1)).map f = (l.take j).map f ++ [f l[j]] := by
 rw [List.take_succ_eq_append_getElem hj, List.map_append]; rfl
theorem vk_pre (l : List KTxL) (i j : Nat) (hi : i < l.length) (hj : j ≤ l[i].Writes.length) : vk (l.take i) ++ (l[i].Writes.take j).map (vW l[i]) <+: vk l := by
 have h1 : vk l = vk (l.take (i + 1)) ++ vk (l.drop (i + 1)) := by unfold vk; rw [← List.flatMap_append, List.take_append_drop]
 rw [h1, vk_succ hi]; refine ⟨(l[i].Writes.drop j).map (vW l[i]) ++ vk (l.drop (i + 1)), ?_⟩; rw [List.append_assoc, List.append_assoc, ← List.append_assoc ((l[i].Writes.take j).map _), ← List.map_append, List.take_append_drop]
theorem pre_lt {a b : List Ver} {x : Ver} (h : a ++ [x] <+: b) : a.length < b.length := by have := h.length_le; simp at this; omega
set_option maxRecDepth 100000 in
set_option maxHeartbeats 4000000 in
theorem versions1_in (F : Fence) (n : Nat) (h7 : F.fn 82) (hro : F.round = none) (hn : 1 ≤ n) (l Bs X : Nat) (A : Option Addr) (c : Nat) (zs : List KTxL) (hmax : zs.length ≤ 9223372036854775806) (hmax2 : ∀ t ∈ zs, t.Writes.length ≤ 9223372036854775806) (hBs : Bs ≠ X) (J Jx : List Ver → World → Prop)
  (W : World) (hJ : AbidesFrom W.heap.size J)
  (hY : ∀ pre x W, J pre W → pre.length < (vk zs).length → YieldAt F (n - 1) Tryz.prog l #[Ver.val x] W fun e W' =>
   (e = .returned (.bool true) ∧ J (pre ++ [x]) W' ∧ KpB X W W') ∨ (e = .returned (.bool false) ∧ Jx (pre ++ [x]) W'))
  (hXs : X < W.heap.size) (hBsc : W.cell? ⟨Bs, 0, none⟩ = some (.slice A zs.length c)) (hL : LogAt X W A zs) (h0 : J [] W) :
  CallsIn F n Tryz.prog 82 #[.func (.yield l) #[] #[], .pointer (some ⟨Bs, 0, none⟩)] W fun e W' => (∃ v, e = .returned v) ∧
   ((∃ ys, ys = vk zs ∧ J ys W') ∨ (∃ pre, pre <+: vk zs ∧ Jx pre W')) := by
 refine callsIn_of_wp Tryz.func82 rfl h7 ?_ hro; simp only [Tryz.ntmps82, List.size_toArray, List.length_cons, List.length_nil, Nat.reduceAdd, Nat.reduceSub, Array.replicate_succ, Array.replicate_zero, List.push_toArray, List.append_toArray, List.nil_append, List.cons_append]
 gi_wp2
 gi_loopw [9] (fun i wr => ∃ k : Nat, k ≤ zs.length ∧ i = .int .i64 k ∧ J (vk (zs.take k)) wr ∧ KpB X W wr) (fun i _ => zs.length - (intOf i).toNat)
 case atStart => exact ⟨0, Nat.zero_le _, rfl, by simpa [vk] using h0, KpB.refl _ _⟩
 case round =>
  obtain ⟨k, hk, rfl, hJs, hnx⟩ := hrel; obtain ⟨V0, hV0⟩ : ∃ V0, V0 = wr := ⟨wr, rfl⟩; subst hV0
  by_cases hlt : k < zs.length
  ·obtain ⟨⟨b, o, rfl, hb, c0, c1, c2, c3⟩, hw⟩ := (hL.kp hnx) k hlt
   gi_wp2
   have hm2 := hmax2 zs[k] (List.getElem_mem hlt); have hX2 : V0.heap.size ≠ X := by have := hnx.size; omega
   have hJ1 := hJ _ V0 _ none hJs (World.grownBy_alloc V0 (.cells #[.int .i64 zs[k].ID, .int .i64 zs[k].Ts, .slice zs[k].Reads_A zs[k].Reads.length zs[k].Reads_c, .slice zs[k].Writes_A zs[k].Writes.length zs[k].Writes_c] 47) none) (fun r e => by cases e); have hk1 : KpB X W (V0.alloc (.cells #[.int .i64 zs[k].ID, .int .i64 zs[k].Ts, .slice zs[k].Reads_A zs[k].Reads.length zs[k].Reads_c, .slice zs[k].Writes_A zs[k].Writes.length zs[k].Writes_c] 47)) := hnx.alloc _; have hc1 := (Blk.new V0 47 #[.int .i64 zs[k].ID, .int .i64 zs[k].Ts, .slice zs[k].Reads_A zs[k].Reads.length zs[k].Reads_c, .slice zs[k].Writes_A zs[k].Writes.length zs[k].Writes_c]).cell 1
   gi_loopw [16] (fun i w2 => ∃ j : Nat, j ≤ zs[k].Writes.length ∧ i = .int .i64 j ∧ J (vk (zs.take k) ++ (zs[k].Writes.take j).map (vW zs[k])) w2 ∧ KpB X W w2 ∧ w2.cell? ⟨V0.heap.size, 1, none⟩ = some (.int .i64 zs[k].Ts))
    (fun i _ => zs[k].Writes.length - (intOf i).toNat)
   case atStart => exact ⟨0, Nat.zero_le _, rfl, by simpa using hJ1, hk1, hc1⟩
   case round =>
    obtain ⟨j, hj, rfl, hJs2, hk2, hcb⟩ := hrel
    by_cases hlt2 : j < zs[k].Writes.length
    ·obtain ⟨b2, o2, hA2, hb2, d0, d1, d2⟩ := ((hL.kp hk2) k hlt).2 j hlt2; have hJ2 := hJ _ wr _ none hJs2 (World.grownBy_alloc wr (.cells #[.int .i64 zs[k].Writes[j].Key, .int .i64 zs[k].Writes[j].Value, .bool zs[k].Writes[j].Gone] 52) none) (fun r e => by cases e); obtain ⟨fn, tmps, assign, body, hy, hR⟩ := hY _ (vW zs[k] zs[k].Writes[j]) _ hJ2 (pre_lt (b := vk zs) (by rw [List.append_assoc, ← map_succ (vW zs[k]) hlt2]; exact vk_pre zs k (j + 1) hlt hlt2))
     dsimp only [Ver.val, vW] at hy
     have hlt4 : V0.heap.size < wr.heap.size := by obtain ⟨ob, h1, _⟩ := cells_of_cell hcb; exact (Array.getElem?_eq_some_iff.1 h1).1
     have hcb' := ((KpB.refl X wr).alloc (.cells #[.int .i64 zs[k].Writes[j].Key, .int .i64 zs[k].Writes[j].Value, .bool zs[k].Writes[j].Gone] 52)).cell hcb hX2; rw [hA2]
     gi_wp2
     refine hR.mono ?_; rintro e W3 (⟨rfl, hJ3, hk3⟩ | ⟨rfl, hJx3⟩)
     ·have hk4 : KpB X wr W3 := ((KpB.refl X wr).alloc _).trans hk3; have hcb3 := hk4.cell hcb hX2
      gi_wp2
      go_roundw
      case rel => exact ⟨j + 1, hlt2, by simp, by rw [map_succ (vW zs[k]) hlt2, ← List.append_assoc]; exact hJ3, hk2.trans hk4, hcb3⟩
      case measure => simp [intOf]; omega
     ·gi_wp2
      refine bodyPost_ret (results_none rfl _ _ _) rfl ?_; exact ⟨⟨_, rfl⟩, .inr ⟨_, by rw [List.append_assoc, ← map_succ (vW zs[k]) hlt2]; exact vk_pre zs k (j + 1) hlt hlt2, hJx3⟩⟩
    ·obtain rfl : j = zs[k].Writes.length := by omega
     gi_wp2
     refine ⟨⟨k + 1, hlt, by simp, ?_, hk2⟩, by simp [intOf]; omega⟩; rw [vk_succ hlt]
     simpa using hJs2
  ·obtain rfl : k = zs.length := by omega
   gi_wp2
   go_end0
   exact ⟨⟨_, rfl⟩, .inl ⟨_, rfl, by simpa using hJs⟩⟩
theorem KpB.below {X : Nat} {A B : World} (h : Below A.heap.size A B) : KpB X A B := ⟨h.size, fun k _ hk _ _ => (h.block k (Array.getElem?_eq_some_iff.1 hk).1).trans hk⟩
theorem versions_stops (F : Fence) (n : Nat) (h7 : F.fn 82) (hro : F.round = none) (hn : 1 ≤ n) (Bs X : Nat) (A : Option Addr) (c : Nat) (zs : List KTxL) (hmax : zs.length ≤ 9223372036854775806) (hmax2 : ∀ t ∈ zs, t.Writes.length ≤ 9223372036854775806) (hBs : Bs ≠ X) (w : World)
  (hXs : X < w.heap.size) (hBsc : w.cell? ⟨Bs, 0, none⟩ = some (.slice A zs.length c)) (hL : LogAt X w A zs) :
  SeqStopsK F n Tryz.prog 82 #[.pointer (some ⟨Bs, 0, none⟩)] (fun x : Ver => #[x.val]) (KpB X) (fun ys => ys = vk zs) (fun pre => pre <+: vk zs) (vk zs).length w := fun l J Jx W hW hJ _ hY h0 =>
 versions1_in F n h7 hro hn l Bs X A c zs hmax hmax2 hBs J Jx W hJ hY (Nat.lt_of_lt_of_le hXs hW.size) ((KpB.below hW).cell hBsc hBs) (hL.kp (KpB.below hW)) h0
set_option maxRecDepth 100000 in
set_option maxHeartbeats 1000000 in
theorem versions_in (F : Fence) (n : Nat) (h5 : F.fn 56) (hro : F.round = none) (a : Option Addr) (len cap : Nat) (w : World) :
  CallsIn F n Tryz.prog 56 #[.slice a len cap] w fun e w' => e = .returned (.func (.func 82) #[] #[.pointer (some ⟨w.heap.size, 0, none⟩)]) ∧ w' = w.alloc (.cells #[.slice a len cap] 81) := by
 refine callsIn_of_wp Tryz.func56 rfl h5 ?_ hro; simp only [Tryz.ntmps56, List.size_toArray, List.length_cons, List.length_nil, Nat.reduceAdd, Nat.reduceSub, Array.replicate_succ, Array.replicate_zero, List.push_toArray, List.append_toArray, List.nil_append, List.cons_append]
 gi_wp2
 go_ret
 exact ⟨rfl, rfl⟩
end Go.Proofs.YtkchfmhgboiimaaGreat
