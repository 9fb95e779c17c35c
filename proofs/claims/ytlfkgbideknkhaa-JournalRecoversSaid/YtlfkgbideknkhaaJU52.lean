/-
  Texts joined: Z0, Z1, Z2, Cp37, Z3, Z4, Ci37, Df37.
-/
import Derived.Test.YtlfkgbideknkhaaProg
import Derived.RangeFuncBox
import Derived.RangeFuncLeaves
import Derived.RangeFuncNested
import Derived.Shelf.Abstract
import Derived.WalkKit
import Derived.OwnWalkIn
import Derived.TacticsInMore
import Derived.LoopNIn
import Derived.LoopIn
import Derived.Maps.AppendAt
import Derived.Laws.Bits64
import Derived.Defers
import Derived.Recover
import Derived.Tactics
import Derived.Tactics2
import Derived.Test.YtlfkgbideknkhaaJU51
set_option linter.unusedSimpArgs false
set_option linter.unusedVariables false
namespace Go.Proofs.Ytlfkgbideknkhaa
open Go.RowKit Go.Maps
def G_codec_sum (F : Nat) (p_0 : List Int) : Option (K8_uint8) :=
  Option.bind (Option.bind (G_digest_Sum F p_0) (fun v_3 =>
    Option.bind (iter (σ := Int × Int × Int × Int × Int × Int × Int × Int × Int × Int) (ρ := (Int × Int × Int × Int × Int × Int × Int × Int)) (un10 fun (v_53 : Int) (v_54 : Int) (v_55 : Int) (v_56 : Int) (v_57 : Int) (v_58 : Int) (v_59 : Int) (v_60 : Int) (v_61 : Int) (v_62 : Int) => 
        (ifB (decide (v_61 ≥ 0))
          (Option.bind (ifB ((v_61 == 0))
              (some (IntKind.u8.wrap v_62, v_54, v_55, v_56, v_57, v_58, v_59, v_60))
              (ifB ((v_61 == 1))
                (some (v_53, IntKind.u8.wrap v_62, v_55, v_56, v_57, v_58, v_59, v_60))
                (ifB ((v_61 == 2))
                  (some (v_53, v_54, IntKind.u8.wrap v_62, v_56, v_57, v_58, v_59, v_60))
                  (ifB ((v_61 == 3))
                    (some (v_53, v_54, v_55, IntKind.u8.wrap v_62, v_57, v_58, v_59, v_60))
                    (ifB ((v_61 == 4))
                      (some (v_53, v_54, v_55, v_56, IntKind.u8.wrap v_62, v_58, v_59, v_60))
                      (ifB ((v_61 == 5))
                        (some (v_53, v_54, v_55, v_56, v_57, IntKind.u8.wrap v_62, v_59, v_60))
                        (ifB ((v_61 == 6))
                          (some (v_53, v_54, v_55, v_56, v_57, v_58, IntKind.u8.wrap v_62, v_60))
                          (ifB ((v_61 == 7))
                            (some (v_53, v_54, v_55, v_56, v_57, v_58, v_59, IntKind.u8.wrap v_62))
                            (none)))))))) : Option ((Int × Int × Int × Int × Int × Int × Int × Int))) (un8 fun (v_74 : Int) (v_75 : Int) (v_76 : Int) (v_77 : Int) (v_78 : Int) (v_79 : Int) (v_80 : Int) (v_81 : Int) => 
            some (.inl (v_74, v_75, v_76, v_77, v_78, v_79, v_80, v_81, IntKind.i64.wrap (v_61 - 1), Int.fdiv v_62 (2 ^ 8)))))
          (some (.inr (v_53, v_54, v_55, v_56, v_57, v_58, v_59, v_60))) : Option ((Int × Int × Int × Int × Int × Int × Int × Int × Int × Int) ⊕ (Int × Int × Int × Int × Int × Int × Int × Int)))) F (0, 0, 0, 0, 0, 0, 0, 0, 7, v_3)) (un8 fun (v_82 : Int) (v_83 : Int) (v_84 : Int) (v_85 : Int) (v_86 : Int) (v_87 : Int) (v_88 : Int) (v_89 : Int) => 
      some (v_82, v_83, v_84, v_85, v_86, v_87, v_88, v_89))) : Option ((Int × Int × Int × Int × Int × Int × Int × Int))) (un8 fun (v_91 : Int) (v_92 : Int) (v_93 : Int) (v_94 : Int) (v_95 : Int) (v_96 : Int) (v_97 : Int) (v_98 : Int) => 
    some (⟨v_91, v_92, v_93, v_94, v_95, v_96, v_97, v_98⟩ : K8_uint8))
set_option maxRecDepth 100000 in
set_option maxHeartbeats 16000000 in
theorem z_codec_sum (F : Nat) (p_0_A : Option Addr) (p_0_c : Nat) (p_0 : List Int) (r : K8_uint8) (hG : G_codec_sum F p_0 = some r) :
  Cf Try.prog 60 [.slice p_0_A p_0.length p_0_c] [RowC p_0_A p_0_c c_u8 tr p_0] (.agg #[Y r.f0, Y r.f1, Y r.f2, Y r.f3, Y r.f4, Y r.f5, Y r.f6, Y r.f7]) := by
 unfold G_codec_sum at hG
 try simp only [List.length_map, KLeaderL.n_Open] at hG
 refine fi Try.func60 rfl rfl (mr tr_mv m0) fun S0 w0 hT => sq (rg (l1 (nw 2 vp [Y 0, Y 0, Y 0, Y 0, Y 0, Y 0, Y 0, Y 0] 107 fun g_1 => nl (tN (sq (rg (l1 (nw 3 vp [Y 0, Y 0, Y 0, Y 0, Y 0, Y 0, Y 0, Y 0] 107 fun g_2 => nl (tN ?_)))))))))
 obtain ⟨o_90, hG, hG_90⟩ := bs hG; refine jn (fun K E a w => ∃ v_91 v_92 v_93 v_94 v_95 v_96 v_97 v_98 : Int, Js S0 w0 19 (K) ([.blk g_2 107 [Y v_91, Y v_92, Y v_93, Y v_94, Y v_95, Y v_96, Y v_97, Y v_98]] ++ se E [1]) ((v_91, v_92, v_93, v_94, v_95, v_96, v_97, v_98) = o_90) a w) ?_ ?_
 ·refine sq ?_; obtain ⟨v_3, hy_3, hG⟩ := bs hG; refine rg (rn 1 [] f0 [(6, .slice p_0_A p_0.length p_0_c)] (l1 (cl 7 (z_digest_Sum F p_0_A p_0_c p_0 _ hy_3) hT ⟨ga 2, trivial⟩ (ra [] f0 [(4, I 7), (5, U v_3)] (tN (bk ?_)))))); obtain ⟨e_63, hL, hG_63⟩ := bs hG; clear hG; obtain ⟨stp_63, hs_63, hL⟩ := iter_gen hL; refine lp (fun K E n_ a w => ∃ v_53 v_54 v_55 v_56 v_57 v_58 v_59 v_60 v_61 v_62 : Int, Js S0 w0 19 ([(4, I v_61), (5, U v_62)] ++ K) ([.blk g_2 107 [Y v_53, Y v_54, Y v_55, Y v_56, Y v_57, Y v_58, Y v_59, Y v_60]] ++ se E [1]) (iter stp_63 n_ (v_53, v_54, v_55, v_56, v_57, v_58, v_59, v_60, v_61, v_62) = some e_63) a w) F ?_ ?_
  ·exact fun _ _ S k e => ⟨0, 0, 0, 0, 0, 0, 0, 0, 7, v_3, S, k.wk, e.sel [0, 1], hL⟩
  ·clear hL; rintro n_63 a w ⟨v_53, v_54, v_55, v_56, v_57, v_58, v_59, v_60, v_61, v_62, hJ⟩; refine hJ.go fun hL => ?_
   clear hJ; obtain ⟨m_63, o_63, rfl, hG, hO1_63, hO2_63⟩ := iter_step hL; clear hL; rw [hs_63] at hG; refine sq (sq (rg (ra [] f0 [(9, B (decide (v_61 ≥ 0)))] (tN ?_)))); rcases ic hG with ⟨h_64, hG⟩ | ⟨h_64, hG⟩
   ·refine sb 9 (bt h_64) (ct (kS (tN ?_))); obtain ⟨o_73, hG, hG_73⟩ := bs hG; refine jn (fun K E a w => ∃ v_74 v_75 v_76 v_77 v_78 v_79 v_80 v_81 : Int, Js S0 w0 19 (K) ([.blk g_2 107 [Y v_74, Y v_75, Y v_76, Y v_77, Y v_78, Y v_79, Y v_80, Y v_81]] ++ se E [1]) ((v_74, v_75, v_76, v_77, v_78, v_79, v_80, v_81) = o_73) a w) ?_ ?_
    ·refine bk ?_; rcases ic hG with ⟨h_65, hG⟩ | ⟨h_65, hG⟩
     ·exact rg (rn 3 [] f0 [(14, I v_61), (16, Y (IntKind.u8.wrap v_62))] (sb 14 (v := I v_61) (v' := I 0) (iz h_65) (rn 1 [] f0 [(17, Pt g_2 0)] (l1 (sr 0 g_2 [(0, Y (IntKind.u8.wrap v_62))] (nl (hN (tN (fun _ _ S k e => ⟨IntKind.u8.wrap v_62, v_54, v_55, v_56, v_57, v_58, v_59, v_60, S, k.wk, e.sel [0, 1], oi hG⟩)))))))))
     ·rcases ic hG with ⟨h_66, hG⟩ | ⟨h_66, hG⟩
      ·exact rg (rn 3 [] f0 [(14, I v_61), (16, Y (IntKind.u8.wrap v_62))] (sb 14 (v := I v_61) (v' := I 1) (iz h_66) (rn 1 [] f0 [(17, Pt g_2 1)] (l1 (sr 0 g_2 [(1, Y (IntKind.u8.wrap v_62))] (nl (hN (tN (fun _ _ S k e => ⟨v_53, IntKind.u8.wrap v_62, v_55, v_56, v_57, v_58, v_59, v_60, S, k.wk, e.sel [0, 1], oi hG⟩)))))))))
      ·rcases ic hG with ⟨h_67, hG⟩ | ⟨h_67, hG⟩
       ·exact rg (rn 3 [] f0 [(14, I v_61), (16, Y (IntKind.u8.wrap v_62))] (sb 14 (v := I v_61) (v' := I 2) (iz h_67) (rn 1 [] f0 [(17, Pt g_2 2)] (l1 (sr 0 g_2 [(2, Y (IntKind.u8.wrap v_62))] (nl (hN (tN (fun _ _ S k e => ⟨v_53, v_54, IntKind.u8.wrap v_62, v_56, v_57, v_58, v_59, v_60, S, k.wk, e.sel [0, 1], oi hG⟩)))))))))
       ·rcases ic hG with ⟨h_68, hG⟩ | ⟨h_68, hG⟩
        ·exact rg (rn 3 [] f0 [(14, I v_61), (16, Y (IntKind.u8.wrap v_62))] (sb 14 (v := I v_61) (v' := I 3) (iz h_68) (rn 1 [] f0 [(17, Pt g_2 3)] (l1 (sr 0 g_2 [(3, Y (IntKind.u8.wrap v_62))] (nl (hN (tN (fun _ _ S k e => ⟨v_53, v_54, v_55, IntKind.u8.wrap v_62, v_57, v_58, v_59, v_60, S, k.wk, e.sel [0, 1], oi hG⟩)))))))))
        ·rcases ic hG with ⟨h_69, hG⟩ | ⟨h_69, hG⟩
         ·exact rg (rn 3 [] f0 [(14, I v_61), (16, Y (IntKind.u8.wrap v_62))] (sb 14 (v := I v_61) (v' := I 4) (iz h_69) (rn 1 [] f0 [(17, Pt g_2 4)] (l1 (sr 0 g_2 [(4, Y (IntKind.u8.wrap v_62))] (nl (hN (tN (fun _ _ S k e => ⟨v_53, v_54, v_55, v_56, IntKind.u8.wrap v_62, v_58, v_59, v_60, S, k.wk, e.sel [0, 1], oi hG⟩)))))))))
         ·rcases ic hG with ⟨h_70, hG⟩ | ⟨h_70, hG⟩
          ·exact rg (rn 3 [] f0 [(14, I v_61), (16, Y (IntKind.u8.wrap v_62))] (sb 14 (v := I v_61) (v' := I 5) (iz h_70) (rn 1 [] f0 [(17, Pt g_2 5)] (l1 (sr 0 g_2 [(5, Y (IntKind.u8.wrap v_62))] (nl (hN (tN (fun _ _ S k e => ⟨v_53, v_54, v_55, v_56, v_57, IntKind.u8.wrap v_62, v_59, v_60, S, k.wk, e.sel [0, 1], oi hG⟩)))))))))
          ·rcases ic hG with ⟨h_71, hG⟩ | ⟨h_71, hG⟩
           ·exact rg (rn 3 [] f0 [(14, I v_61), (16, Y (IntKind.u8.wrap v_62))] (sb 14 (v := I v_61) (v' := I 6) (iz h_71) (rn 1 [] f0 [(17, Pt g_2 6)] (l1 (sr 0 g_2 [(6, Y (IntKind.u8.wrap v_62))] (nl (hN (tN (fun _ _ S k e => ⟨v_53, v_54, v_55, v_56, v_57, v_58, IntKind.u8.wrap v_62, v_60, S, k.wk, e.sel [0, 1], oi hG⟩)))))))))
           ·rcases ic hG with ⟨h_72, hG⟩ | ⟨h_72, hG⟩
            ·exact rg (rn 3 [] f0 [(14, I v_61), (16, Y (IntKind.u8.wrap v_62))] (sb 14 (v := I v_61) (v' := I 7) (iz h_72) (rn 1 [] f0 [(17, Pt g_2 7)] (l1 (sr 0 g_2 [(7, Y (IntKind.u8.wrap v_62))] (nl (hN (tN (fun _ _ S k e => ⟨v_53, v_54, v_55, v_56, v_57, v_58, v_59, IntKind.u8.wrap v_62, S, k.wk, e.sel [0, 1], oi hG⟩)))))))))
            ·cases hG
    ·rintro a w ⟨v_74, v_75, v_76, v_77, v_78, v_79, v_80, v_81, hJ⟩; refine hJ.go fun ho_ => ?_
     clear hJ; subst ho_; replace hG := hG_73; exact rg (ra [] f0 [(4, I (IntKind.i64.wrap (v_61 - 1))), (5, U (Int.fdiv v_62 (2 ^ 8)))] (tN (fun a w S hK hE => ⟨m_63, ⟨v_74, v_75, v_76, v_77, v_78, v_79, v_80, v_81, IntKind.i64.wrap (v_61 - 1), Int.fdiv v_62 (2 ^ 8), S, hK.wk, hE.sel [0, 1], hO1_63 _ (oi hG).symm⟩, Nat.lt_succ_self _⟩)))
   ·refine sb 9 (bf h_64) (cf (kX (tX (tX ?_)))); have he_ := hO2_63 _ (oi hG).symm; subst he_; replace hG := hG_63; exact hH (tN (fun _ _ S k e => ⟨v_53, v_54, v_55, v_56, v_57, v_58, v_59, v_60, S, k.wk, e.sel [0, 1], oi hG⟩))
 ·rintro a w ⟨v_91, v_92, v_93, v_94, v_95, v_96, v_97, v_98, hJ⟩; refine hJ.go fun ho_ => ?_
  clear hJ; subst ho_; replace hG := hG_90; refine sq (rg (rn 1 [(0, 8, 0, 0)] f0 [(18, .agg #[Y v_91, Y v_92, Y v_93, Y v_94, Y v_95, Y v_96, Y v_97, Y v_98])] (l1 (sr 1 g_1 (ns 0 [Y v_91, Y v_92, Y v_93, Y v_94, Y v_95, Y v_96, Y v_97, Y v_98]) (nl (tN (kR ?_))))))); obtain rfl := oi hG; exact rt [(1, 0, 8)]
def G_journal_ints (F : Nat) (p_0 : KTx) : Option ((List Int)) :=
  Option.bind (Option.bind (iter (σ := Int × (List Int)) (ρ := (List Int)) (un2 fun (v_21 : Int) (v_22 : (List Int)) => 
        (ifB (decide (v_21 < ((p_0.Reads.length : Nat) : Int)))
          (Option.bind (ixI p_0.Reads v_21) (fun v_27 =>
          Option.bind (apG 8 v_22 ([v_27.Key, v_27.Ts] : List Int)) (fun v_32 =>
          some (.inl (IntKind.i64.wrap (v_21 + 1), v_32)))))
          (some (.inr v_22)) : Option ((Int × (List Int)) ⊕ (List Int)))) F (0, ([p_0.ID, p_0.Ts, ((p_0.Reads.length : Nat) : Int)] : List Int))) (fun (v_33 : (List Int)) => 
      some v_33) : Option ((List Int))) (fun (v_37 : (List Int)) => 
    Option.bind (apG 8 v_37 ([((p_0.Writes.length : Nat) : Int)] : List Int)) (fun v_41 =>
    Option.bind (Option.bind (iter (σ := (List Int) × Int) (ρ := (List Int)) (un2 fun (v_66 : (List Int)) (v_69 : Int) => 
          (ifB (decide (v_69 < ((p_0.Writes.length : Nat) : Int)))
            (Option.bind (ixI p_0.Writes v_69) (fun v_72 =>
            Option.bind (ifB (v_72.Gone)
                (some 1)
                (some 0) : Option (Int)) (fun (v_78 : Int) => 
              Option.bind (apG 8 v_66 ([v_72.Key, v_72.Value, v_78] : List Int)) (fun v_80 =>
              some (.inl (v_80, IntKind.i64.wrap (v_69 + 1)))))))
            (some (.inr v_66)) : Option (((List Int) × Int) ⊕ (List Int)))) F (v_41, 0)) (fun (v_81 : (List Int)) => 
        some v_81) : Option ((List Int))) (fun (v_85 : (List Int)) => 
      some v_85)))
set_option maxRecDepth 100000 in
set_option maxHeartbeats 16000000 in
theorem z_journal_ints (F : Nat) (p_0 : KTxL) (r : (List Int)) (hG : G_journal_ints F p_0.p = some r) :
  Cg Try.prog 29 [.agg #[I p_0.ID, I p_0.Ts, .slice p_0.Reads_A p_0.Reads.length p_0.Reads_c, .slice p_0.Writes_A p_0.Writes.length p_0.Writes_c]] [KTxL.ok p_0] (fun q : KSintL => r = q.l) (fun q => .slice q.A q.l.length q.c) (fun q => [RowC q.A q.c c_i64 tr q.l]) := by
 unfold G_journal_ints at hG
 try simp only [List.length_map, KLeaderL.n_Open] at hG
 refine fing Try.func29 rfl rfl (mc KTxL.mv m0) fun S0 w0 hT => sq (rg (l1 (nw 1 vp [I p_0.ID, I p_0.Ts, .slice p_0.Reads_A p_0.Reads.length p_0.Reads_c, .slice p_0.Writes_A p_0.Writes.length p_0.Writes_c] 26 fun g_1 => ra [] f0 [] (tN (sq (rg (rn 7 [(1, 1, 0, 0), (1, 1, 0, 1), (1, 1, 0, 2)] f0 [(10, I p_0.ID), (12, I p_0.Ts), (15, I ((p_0.Reads.length : Nat) : Int))] (l1 (nw 16 (vs 3) [I p_0.ID, I p_0.Ts, I ((p_0.Reads.length : Nat) : Int)] 3 fun g_2 => ra [] f0 [(3, Sb g_2 3 3)] (tN ?_))))))))))
 obtain ⟨o_36, hG, hG_36⟩ := bs hG; refine jn (fun K E a w => ∃ (v_37 : List Int) (v_38_A : Option Addr) (v_39_c : Nat), Js S0 w0 57 ([(3, .slice v_38_A v_37.length v_39_c)] ++ K) ([.dat (RowC p_0.Reads_A p_0.Reads_c KSeen.cells tr p_0.Reads), .dat (RowC p_0.Writes_A p_0.Writes_c KWrite.cells tr p_0.Writes), .own 3 1 (.slice v_38_A v_37.length v_39_c) v_37.length (v_37.flatMap c_i64)] ++ se E [1]) (v_37 = o_36) a w) ?_ ?_
 ·refine sq (rg (ra [(1, 1, 1, 2)] f0 (ns 18 [.slice p_0.Reads_A p_0.Reads.length p_0.Reads_c, I ((p_0.Reads.length : Nat) : Int), I 0]) (tN (bk ?_)))); obtain ⟨e_25, hL, hG_25⟩ := bs hG; clear hG; obtain ⟨stp_25, hs_25, hL⟩ := iter_gen hL; refine lp (fun K E n_ a w => ∃ (v_21 : Int) (v_22 : List Int) (v_23_A : Option Addr) (v_24_c : Nat), Js S0 w0 57 ([(3, .slice v_23_A v_22.length v_24_c), (20, I v_21)] ++ K) ([.dat (RowC p_0.Reads_A p_0.Reads_c KSeen.cells tr p_0.Reads), .dat (RowC p_0.Writes_A p_0.Writes_c KWrite.cells tr p_0.Writes), .own 3 1 (.slice v_23_A v_22.length v_24_c) v_22.length (v_22.flatMap c_i64)] ++ se E [1]) (iter stp_25 n_ (v_21, v_22) = some e_25) a w) F ?_ ?_
  ·exact fg (KTxL.ok p_0) 2 (fun _ _ h => h.f_Reads) (fg (KTxL.ok p_0) 3 (fun _ _ h => h.f_Writes) (bo 2 1 3 g_2 3 [I p_0.ID, I p_0.Ts, I ((p_0.Reads.length : Nat) : Int)] (fun _ _ S k e => ⟨0, ([p_0.ID, p_0.Ts, ((p_0.Reads.length : Nat) : Int)] : List Int), (some ⟨g_2, 0, none⟩), 3, S, k.wk, e.sel [1, 0, 2, 3], hL⟩)))
  ·clear hL; rintro n_25 a w ⟨v_21, v_22, v_23_A, v_24_c, hJ⟩; refine hJ.go fun hL => ?_
   clear hJ; obtain ⟨m_25, o_25, rfl, hG, hO1_25, hO2_25⟩ := iter_step hL; clear hL; rw [hs_25] at hG; refine sq (rg (ra [] f0 [(21, B (decide (v_21 < ((p_0.Reads.length : Nat) : Int))))] (tN (sq ?_)))); rcases ic hG with ⟨h_26, hG⟩ | ⟨h_26, hG⟩
   ·try simp only [List.length_map, KLeaderL.n_Open] at h_26
    refine sb 21 (bt h_26) (ct (kS (tN (sq (bk (sq ?_)))))); obtain ⟨v_27, hy_27, hG⟩ := bs hG; refine rg (fx inf23 (gd' (RowC p_0.Reads_A p_0.Reads_c KSeen.cells tr p_0.Reads) 0) hy_27 fun b_28 o_29 hi_27 => rn 2 [(0, 0, 0, 0), (0, 2, 0, 0)] (fc (hi_27 .i64) f0) [(23, .agg #[I v_27.Key, I v_27.Ts])] (l1 (nw 5 vp [I 0, I 0] 95 fun g_30 => l1 (sr 0 g_30 [(0, I v_27.Key), (1, I v_27.Ts)] (nl (tN ?_)))))); obtain ⟨v_32, hy_32, hG⟩ := bs hG; exact rg (rn 5 [(2, 1, 0, 0), (1, 1, 0, 1)] f0 [(24, .slice v_23_A v_22.length v_24_c), (26, I v_27.Key), (28, I v_27.Ts)] (l1 (nw 29 (vs 2) [I v_27.Key, I v_27.Ts] 3 fun g_31 => l1 (ap 5 30 v_23_A v_24_c v_22 ([v_27.Key, v_27.Ts] : List Int) inf45 (bA (f := c_i64) (ok := tr) (l := ([v_27.Key, v_27.Ts] : List Int)) g_31 0 et.a) hy_32 one_i64 fun v_32_A v_32_c _ => ra [] f0 [(3, .slice v_32_A v_32.length v_32_c)] (hN (tN (rg (ra [] f0 [(20, I (IntKind.i64.wrap (v_21 + 1)))] (tN (fun a w S hK hE => ⟨m_25, ⟨IntKind.i64.wrap (v_21 + 1), v_32, v_32_A, v_32_c, S, hK.wk, hE.sel [3, 4, 5, 6], hO1_25 _ (oi hG).symm⟩, Nat.lt_succ_self _⟩))))))))))
   ·try simp only [List.length_map, KLeaderL.n_Open] at h_26
    refine sb 21 (bf h_26) (cf (kX (tX (tX ?_)))); have he_ := hO2_25 _ (oi hG).symm; subst he_; replace hG := hG_25; exact hH (tN (fun _ _ S k e => ⟨v_22, v_23_A, v_24_c, S, k.wk, e.sel [0, 1, 2, 3], oi hG⟩))
 ·rintro a w ⟨v_37, v_38_A, v_39_c, hJ⟩; refine hJ.go fun ho_ => ?_
  clear hJ; subst ho_; replace hG := hG_36; refine sq ?_; obtain ⟨v_41, hy_41, hG⟩ := bs hG; refine rg (rn 4 [(2, 1, 3, 3)] f0 [(32, .slice v_38_A v_37.length v_39_c), (35, I ((p_0.Writes.length : Nat) : Int))] (l1 (nw 36 (vs 1) [I ((p_0.Writes.length : Nat) : Int)] 3 fun g_40 => l1 (ap 3 37 v_38_A v_39_c v_37 ([((p_0.Writes.length : Nat) : Int)] : List Int) inf45 (bA (f := c_i64) (ok := tr) (l := ([((p_0.Writes.length : Nat) : Int)] : List Int)) g_40 0 et.a) hy_41 one_i64 fun v_41_A v_41_c _ => ra [] f0 [(3, .slice v_41_A v_41.length v_41_c)] (tN ?_))))); obtain ⟨o_84, hG, hG_84⟩ := bs hG; refine jn (fun K E a w => ∃ (v_85 : List Int) (v_86_A : Option Addr) (v_87_c : Nat), Js S0 w0 57 ([(3, .slice v_86_A v_85.length v_87_c)] ++ K) ([.own 3 1 (.slice v_86_A v_85.length v_87_c) v_85.length (v_85.flatMap c_i64)]) (v_85 = o_84) a w) ?_ ?_
  ·refine sq (rg (ra [(1, 1, 4, 3)] f0 (ns 39 [.slice p_0.Writes_A p_0.Writes.length p_0.Writes_c, I ((p_0.Writes.length : Nat) : Int), I 0]) (tN (bk ?_)))); obtain ⟨e_70, hL, hG_70⟩ := bs hG; clear hG; obtain ⟨stp_70, hs_70, hL⟩ := iter_gen hL; refine lp (fun K E n_ a w => ∃ (v_66 : List Int) (v_67_A : Option Addr) (v_68_c : Nat) (v_69 : Int), Js S0 w0 57 ([(3, .slice v_67_A v_66.length v_68_c), (41, I v_69)] ++ K) ([.own 3 1 (.slice v_67_A v_66.length v_68_c) v_66.length (v_66.flatMap c_i64)] ++ se E [2]) (iter stp_70 n_ (v_66, v_69) = some e_70) a w) F ?_ ?_
   ·exact fun _ _ S k e => ⟨v_41, v_41_A, v_41_c, 0, S, k.wk, e.sel [3, 2], hL⟩
   ·clear hL; rintro n_70 a w ⟨v_66, v_67_A, v_68_c, v_69, hJ⟩; refine hJ.go fun hL => ?_
    clear hJ; obtain ⟨m_70, o_70, rfl, hG, hO1_70, hO2_70⟩ := iter_step hL; clear hL; rw [hs_70] at hG; refine sq (rg (ra [] f0 [(42, B (decide (v_69 < ((p_0.Writes.length : Nat) : Int))))] (tN (sq ?_)))); rcases ic hG with ⟨h_71, hG⟩ | ⟨h_71, hG⟩
    ·try simp only [List.length_map, KLeaderL.n_Open] at h_71
     refine sb 42 (bt h_71) (ct (kS (tN (sq (bk (sq ?_)))))); obtain ⟨v_72, hy_72, hG⟩ := bs hG; refine rg (fx inf24 (gd' (RowC p_0.Writes_A p_0.Writes_c KWrite.cells tr p_0.Writes) 1) hy_72 fun b_73 o_74 hi_72 => rn 2 [(0, 0, 0, 0), (0, 3, 0, 0)] (fc (hi_72 .i64) f0) [(44, .agg #[I v_72.Key, I v_72.Value, B v_72.Gone])] (l1 (nw 7 vp [I 0, I 0, B false] 66 fun g_75 => l1 (sr 0 g_75 (ns 0 [I v_72.Key, I v_72.Value, B v_72.Gone]) (nl (tN (sq (rg (ra [] f0 [(8, I 0)] (tN ?_)))))))))); obtain ⟨o_77, hG, hG_77⟩ := bs hG; refine jn (fun K E a w => ∃ v_78 : Int, Js S0 w0 57 ([(8, I v_78)] ++ K) (se E [0, 2, 3]) (v_78 = o_77) a w) ?_ ?_
     ·refine sq (rg (ra [(1, 1, 0, 2)] f0 [(46, B v_72.Gone)] (tN ?_))); rcases ic hG with ⟨h_76, hG⟩ | ⟨h_76, hG⟩
      ·exact sb 46 (bt h_76) (ct (rg (ra [] f0 [(8, I 1)] (tN (fun _ _ S k e => ⟨1, S, k.wk, e.sel [0, 2, 3], oi hG⟩)))))
      ·exact sb 46 (bf h_76) (cf (kS (tN (fun _ _ S k e => ⟨0, S, k.wk, e.sel [0, 2, 3], oi hG⟩))))
     ·rintro a w ⟨v_78, hJ⟩; refine hJ.go fun ho_ => ?_
      clear hJ; subst ho_; replace hG := hG_77; obtain ⟨v_80, hy_80, hG⟩ := bs hG; exact rg (rn 6 [(2, 1, 0, 0), (1, 1, 0, 1)] f0 [(47, .slice v_67_A v_66.length v_68_c), (49, I v_72.Key), (51, I v_72.Value), (52, I v_78)] (l1 (nw 53 (vs 3) [I v_72.Key, I v_72.Value, I v_78] 3 fun g_79 => l1 (ap 2 54 v_67_A v_68_c v_66 ([v_72.Key, v_72.Value, v_78] : List Int) inf45 (bA (f := c_i64) (ok := tr) (l := ([v_72.Key, v_72.Value, v_78] : List Int)) g_79 0 et.a) hy_80 one_i64 fun v_80_A v_80_c _ => ra [] f0 [(3, .slice v_80_A v_80.length v_80_c)] (hN (tN (rg (ra [] f0 [(41, I (IntKind.i64.wrap (v_69 + 1)))] (tN (fun a w S hK hE => ⟨m_70, ⟨v_80, v_80_A, v_80_c, IntKind.i64.wrap (v_69 + 1), S, hK.wk, hE.sel [2, 3], hO1_70 _ (oi hG).symm⟩, Nat.lt_succ_self _⟩))))))))))
    ·try simp only [List.length_map, KLeaderL.n_Open] at h_71
     refine sb 42 (bf h_71) (cf (kX (tX (tX ?_)))); have he_ := hO2_70 _ (oi hG).symm; subst he_; replace hG := hG_70; exact hH (tN (fun _ _ S k e => ⟨v_66, v_67_A, v_68_c, S, k.wk, e.sel [0], oi hG⟩))
  ·rintro a w ⟨v_85, v_86_A, v_87_c, hJ⟩; refine hJ.go fun ho_ => ?_
   clear hJ; subst ho_; replace hG := hG_84; refine sq (rg (ra [] f0 [(2, .slice v_86_A v_85.length v_87_c)] (tN (kR ?_)))); obtain rfl := oi hG; exact rtg [] ⟨v_86_A, v_87_c, v_85⟩ rfl ⟨frO 0, trivial⟩
def G_commit_between (F : Nat) (p_0 : Int) (p_1 : Int) (p_2 : Int) : Option (Bool) :=
  Option.bind (ifB (decide (p_1 ≤ p_0))
      (some (decide (p_0 ≤ p_2)))
      (some false) : Option (Bool)) (fun (v_3 : Bool) => 
    some v_3)
set_option maxRecDepth 100000 in
set_option maxHeartbeats 16000000 in
theorem z_commit_between (F : Nat) (p_0 : Int) (p_1 : Int) (p_2 : Int) (r : Bool) (hG : G_commit_between F p_0 p_1 p_2 = some r) :
  Cf Try.prog 41 [I p_0, I p_1, I p_2] [] (B r) := by
 unfold G_commit_between at hG; refine fi Try.func41 rfl rfl m0 fun S0 w0 hT => sq (rg (ra [] f0 [] (tN ?_)))
 obtain ⟨o_2, hG, hG_2⟩ := bs hG; refine jn (fun K E a w => ∃ v_3 : Bool, Js S0 w0 15 ([(6, B v_3)] ++ K) (se E []) (v_3 = o_2) a w) ?_ ?_
 ·rcases ic hG with ⟨h_1, hG⟩ | ⟨h_1, hG⟩
  ·exact rg (rn 4 [] f0 [(10, B (decide (p_1 ≤ p_0)))] (sb 10 (bt h_1) (ra [] f0 [(6, B (decide (p_0 ≤ p_2)))] (tN (fun _ _ S k e => ⟨decide (p_0 ≤ p_2), S, k.wk, e.sel [], oi hG⟩)))))
  ·exact rg (rn 4 [] f0 [(10, B (decide (p_1 ≤ p_0)))] (sb 10 (bf h_1) (ra [] f0 [(6, B false)] (tN (fun _ _ S k e => ⟨false, S, k.wk, e.sel [], oi hG⟩)))))
 ·rintro a w ⟨v_3, hJ⟩; refine hJ.go fun ho_ => ?_
  clear hJ; subst ho_; replace hG := hG_2; refine kR ?_; obtain rfl := oi hG; exact rt []
def G_commit_size (F : Nat) (p_0 : KLeader) : Option (Int) :=
  Option.bind (Option.bind (iter (σ := Int × Int) (ρ := Int) (un2 fun (v_14 : Int) (v_15 : Int) => 
        (ifB (decide (v_14 < ((p_0.Open.length : Nat) : Int)))
          (Option.bind (ixI p_0.Open v_14) (fun v_18 =>
          some (.inl (IntKind.i64.wrap (v_14 + 1), IntKind.i64.wrap (v_15 + ((v_18.Writes.length : Nat) : Int))))))
          (some (.inr v_15)) : Option ((Int × Int) ⊕ Int))) F (0, ((p_0.Store.length : Nat) : Int))) (fun (v_22 : Int) => 
      some v_22) : Option (Int)) (fun (v_24 : Int) => 
    some v_24)
set_option maxRecDepth 100000 in
set_option maxHeartbeats 16000000 in
theorem z_commit_size (F : Nat) (p_0 : KLeaderL) (r : Int) (hG : G_commit_size F p_0.p = some r) :
  Cf Try.prog 42 [.agg #[I p_0.Last, .slice p_0.Store_A p_0.Store.length p_0.Store_c, .slice p_0.Open_A p_0.Open.length p_0.Open_c]] [KLeaderL.ok p_0] (I r) := by
 unfold G_commit_size at hG
 try simp only [List.length_map, KLeaderL.n_Open] at hG
 refine fi Try.func42 rfl rfl (mc KLeaderL.mv m0) fun S0 w0 hT => sq (rg (l1 (nw 1 vp [I p_0.Last, .slice p_0.Store_A p_0.Store.length p_0.Store_c, .slice p_0.Open_A p_0.Open.length p_0.Open_c] 40 fun g_1 => ra [] f0 [] (tN (sq (rg (ra [(1, 1, 0, 1)] f0 [(3, I ((p_0.Store.length : Nat) : Int))] (tN ?_))))))))
 obtain ⟨o_23, hG, hG_23⟩ := bs hG; refine jn (fun K E a w => ∃ v_24 : Int, Js S0 w0 23 ([(3, I v_24)] ++ K) (se E []) (v_24 = o_23) a w) ?_ ?_
 ·refine sq (rg (ra [(1, 1, 0, 2)] f0 (ns 10 [.slice p_0.Open_A p_0.Open.length p_0.Open_c, I ((p_0.Open.length : Nat) : Int), I 0]) (tN (bk ?_)))); obtain ⟨e_16, hL, hG_16⟩ := bs hG; clear hG; obtain ⟨stp_16, hs_16, hL⟩ := iter_gen hL; refine lp (fun K E n_ a w => ∃ v_14 v_15 : Int, Js S0 w0 23 ([(3, I v_15), (12, I v_14)] ++ K) ([.dat (RowC p_0.Open_A p_0.Open_c KTxL.cells KTxL.ok p_0.Open)]) (iter stp_16 n_ (v_14, v_15) = some e_16) a w) F ?_ ?_
  ·exact fg (KLeaderL.ok p_0) 1 (fun _ _ h => h.f_Open) (fun _ _ S k e => ⟨0, ((p_0.Store.length : Nat) : Int), S, k.wk, e.sel [0], hL⟩)
  ·clear hL; rintro n_16 a w ⟨v_14, v_15, hJ⟩; refine hJ.go fun hL => ?_
   clear hJ; obtain ⟨m_16, o_16, rfl, hG, hO1_16, hO2_16⟩ := iter_step hL; clear hL; rw [hs_16] at hG; refine sq (rg (ra [] f0 [(13, B (decide (v_14 < ((p_0.Open.length : Nat) : Int))))] (tN (sq ?_)))); rcases ic hG with ⟨h_17, hG⟩ | ⟨h_17, hG⟩
   ·try simp only [List.length_map, KLeaderL.n_Open] at h_17
    refine sb 13 (bt h_17) (ct (kS (tN (sq (bk (sq ?_)))))); obtain ⟨v_18o, hy_18, hG⟩ := bs hG; refine rg (fxn (p := KTxL.p) inf30 (gd' (RowC p_0.Open_A p_0.Open_c KTxL.cells KTxL.ok p_0.Open) 0) hy_18 fun v_18 b_19 o_20 he_18 hi_18 => ?_); subst he_18
    try simp only [List.length_map, KLeaderL.n_Open] at hG
    exact rn 2 [(0, 0, 0, 0), (0, 4, 0, 0)] (fc (hi_18 .i64) f0) [(15, .agg #[I v_18.ID, I v_18.Ts, .slice v_18.Reads_A v_18.Reads.length v_18.Reads_c, .slice v_18.Writes_A v_18.Writes.length v_18.Writes_c])] (l1 (nw 5 vp (KTxL.cells KTxL.z) 26 fun g_21 => l1 (sr 0 g_21 (ns 0 [I v_18.ID, I v_18.Ts, .slice v_18.Reads_A v_18.Reads.length v_18.Reads_c, .slice v_18.Writes_A v_18.Writes.length v_18.Writes_c]) (nl (tN (rg (ra [(2, 1, 0, 3)] f0 [(3, I (IntKind.i64.wrap (v_15 + ((v_18.Writes.length : Nat) : Int))))] (hN (tN (rg (ra [] f0 [(12, I (IntKind.i64.wrap (v_14 + 1)))] (tN (fun a w S hK hE => ⟨m_16, ⟨IntKind.i64.wrap (v_14 + 1), IntKind.i64.wrap (v_15 + ((v_18.Writes.length : Nat) : Int)), S, hK.wk, hE.sel [3], hO1_16 _ (oi hG).symm⟩, Nat.lt_succ_self _⟩)))))))))))))
   ·try simp only [List.length_map, KLeaderL.n_Open] at h_17
    refine sb 13 (bf h_17) (cf (kX (tX (tX ?_)))); have he_ := hO2_16 _ (oi hG).symm; subst he_; replace hG := hG_16; exact hH (tN (fun _ _ S k e => ⟨v_15, S, k.wk, e.sel [], oi hG⟩))
 ·rintro a w ⟨v_24, hJ⟩; refine hJ.go fun ho_ => ?_
  clear hJ; subst ho_; replace hG := hG_23; refine sq (rg (ra [] f0 [(2, I v_24)] (tN (kR ?_)))); obtain rfl := oi hG; exact rt []
def G_cmp_isNaN_int (F : Nat) (p_0 : Int) : Option (Bool) :=
 some (!(p_0 == p_0))
set_option maxRecDepth 100000 in
set_option maxHeartbeats 16000000 in
theorem z_cmp_isNaN_int (F : Nat) (p_0 : Int) (r : Bool) (hG : G_cmp_isNaN_int F p_0 = some r) :
  Cf Try.prog 110 [I p_0] [] (B r) := by
 unfold G_cmp_isNaN_int at hG; refine fi Try.func110 rfl rfl m0 fun S0 w0 hT => sq (rg (ra [] f0 [] (tN (sq (rg (ra [] f0 [(2, B (!(p_0 == p_0)))] (tN (kR ?_))))))))
 obtain rfl := oi hG; exact rt []
def G_cmp_Or_int (F : Nat) (p_0 : List Int) : Option (Int) :=
  Option.bind (Option.bind (iter (σ := Int) (ρ := Unit ⊕ Int) (fun (v_12 : Int) => 
        (ifB (decide (v_12 < ((p_0.length : Nat) : Int)))
          (Option.bind (ixI p_0 v_12) (fun v_15 =>
          ifB ((v_15 == 0))
            (some (.inl (IntKind.i64.wrap (v_12 + 1))))
            (some (.inr (.inr v_15)))))
          (some (.inr (.inl ()))) : Option (Int ⊕ (Unit ⊕ Int)))) F 0) (Sum.elim (fun (_ : Unit) => 
      some (.inl ())) (fun (v_19 : Int) => 
      some (.inr v_19))) : Option (Unit ⊕ Int)) (Sum.elim (fun (_ : Unit) => 
    some 0) (fun (v_21 : Int) => 
    some v_21))
set_option maxRecDepth 100000 in
set_option maxHeartbeats 16000000 in
theorem z_cmp_Or_int (F : Nat) (p_0_A : Option Addr) (p_0_c : Nat) (p_0 : List Int) (r : Int) (hG : G_cmp_Or_int F p_0 = some r) :
  Cf Try.prog 99 [.slice p_0_A p_0.length p_0_c] [RowC p_0_A p_0_c c_i64 tr p_0] (I r) := by
 unfold G_cmp_Or_int at hG
 try simp only [List.length_map, KLeaderL.n_Open] at hG
 refine fi Try.func99 rfl rfl (mr tr_mv m0) fun S0 w0 hT => sq (rg (ra [] f0 [] (tN (sq (rg (ra [] f0 [(3, I 0)] (tN ?_)))))))
 obtain ⟨o_20, hG, hG_20⟩ := bs hG; refine jn (fun K E a w => Js S0 w0 18 (K) (se E []) (.inl () = o_20) a w) ?_ ?_
 ·refine sq (rg (ra [] f0 (ns 6 [.slice p_0_A p_0.length p_0_c, I ((p_0.length : Nat) : Int), I 0]) (tN (bk ?_)))); obtain ⟨e_13, hL, hG_13⟩ := bs hG; clear hG; obtain ⟨stp_13, hs_13, hL⟩ := iter_gen hL; refine lp (fun K E n_ a w => ∃ v_12 : Int, Js S0 w0 18 ([(8, I v_12)] ++ K) (se E [0]) (iter stp_13 n_ v_12 = some e_13) a w) F ?_ ?_
  ·exact fun _ _ S k e => ⟨0, S, k.wk, e.sel [0], hL⟩
  ·clear hL; rintro n_13 a w ⟨v_12, hJ⟩; refine hJ.go fun hL => ?_
   clear hJ; obtain ⟨m_13, o_13, rfl, hG, hO1_13, hO2_13⟩ := iter_step hL; clear hL; rw [hs_13] at hG; refine sq (rg (ra [] f0 [(9, B (decide (v_12 < ((p_0.length : Nat) : Int))))] (tN (sq ?_)))); rcases ic hG with ⟨h_14, hG⟩ | ⟨h_14, hG⟩
   ·try simp only [List.length_map, KLeaderL.n_Open] at h_14
    refine sb 9 (bt h_14) (ct (kS (tN (sq (bk (sq ?_)))))); obtain ⟨v_15, hy_15, hG⟩ := bs hG; refine rg (fx inf45 (gd' (RowC p_0_A p_0_c c_i64 tr p_0) 0) hy_15 fun b_16 o_17 hi_15 => ra [(0, 0, 0, 0), (0, 1, 0, 0)] (fc (hi_15 .i64) f0) [(5, I v_15)] (tN (sq (rg (ra [] f0 [(14, B (!(v_15 == 0)))] (tN ?_)))))); rcases ic hG with ⟨h_18, hG⟩ | ⟨h_18, hG⟩
    ·exact sb 14 (nt h_18) (cf (kS (hN (tN (rg (ra [] f0 [(8, I (IntKind.i64.wrap (v_12 + 1)))] (tN (fun a w S hK hE => ⟨m_13, ⟨IntKind.i64.wrap (v_12 + 1), S, hK.wk, hE.sel [1], hO1_13 _ (oi hG).symm⟩, Nat.lt_succ_self _⟩))))))))
    ·refine sb 14 (nf h_18) (ct (sq (rg (ra [] f0 [(2, I v_15)] (tN (kR (hR (tR (tR ?_))))))))); have he_ := hO2_13 _ (oi hG).symm; subst he_; replace hG := hG_13; refine hR (tR ?_); obtain rfl := oi hG; replace hG := hG_20; obtain rfl := oi hG; exact rt []
   ·try simp only [List.length_map, KLeaderL.n_Open] at h_14
    refine sb 9 (bf h_14) (cf (kX (tX (tX ?_)))); have he_ := hO2_13 _ (oi hG).symm; subst he_; replace hG := hG_13; exact hH (tN (fun _ _ S k e => ⟨S, k.wk, e.sel [], oi hG⟩))
 ·rintro a w hJ; refine hJ.go fun ho_ => ?_
  clear hJ; subst ho_; replace hG := el hG_20; refine sq (rg (ra [] f0 [(2, I 0)] (tN (kR ?_)))); obtain rfl := oi hG; exact rt []
def G_versions_within (F : Nat) (p_0 : Int) (p_1 : Int) (p_2 : Int) : Option (Bool) :=
  Option.bind (ifB (decide (p_1 ≤ p_0))
      (some (decide (p_0 ≤ p_2)))
      (some false) : Option (Bool)) (fun (v_3 : Bool) => 
    some v_3)
set_option maxRecDepth 100000 in
set_option maxHeartbeats 16000000 in
theorem z_versions_within (F : Nat) (p_0 : Int) (p_1 : Int) (p_2 : Int) (r : Bool) (hG : G_versions_within F p_0 p_1 p_2 = some r) :
  Cf Try.prog 79 [I p_0, I p_1, I p_2] [] (B r) := by
 unfold G_versions_within at hG; refine fi Try.func79 rfl rfl m0 fun S0 w0 hT => sq (rg (ra [] f0 [] (tN ?_)))
 obtain ⟨o_2, hG, hG_2⟩ := bs hG; refine jn (fun K E a w => ∃ v_3 : Bool, Js S0 w0 15 ([(6, B v_3)] ++ K) (se E []) (v_3 = o_2) a w) ?_ ?_
 ·rcases ic hG with ⟨h_1, hG⟩ | ⟨h_1, hG⟩
  ·exact rg (rn 4 [] f0 [(10, B (decide (p_1 ≤ p_0)))] (sb 10 (bt h_1) (ra [] f0 [(6, B (decide (p_0 ≤ p_2)))] (tN (fun _ _ S k e => ⟨decide (p_0 ≤ p_2), S, k.wk, e.sel [], oi hG⟩)))))
  ·exact rg (rn 4 [] f0 [(10, B (decide (p_1 ≤ p_0)))] (sb 10 (bf h_1) (ra [] f0 [(6, B false)] (tN (fun _ _ S k e => ⟨false, S, k.wk, e.sel [], oi hG⟩)))))
 ·rintro a w ⟨v_3, hJ⟩; refine hJ.go fun ho_ => ?_
  clear hJ; subst ho_; replace hG := hG_2; refine kR ?_; obtain rfl := oi hG; exact rt []
def G_slices_Concat_byte_byte (F : Nat) (p_0 : List (List Int)) : Option ((List Int)) :=
  Option.bind (Option.bind (iter (σ := Int × Int) (ρ := Int) (un2 fun (v_13 : Int) (v_14 : Int) => 
        (ifB (decide (v_13 < ((p_0.length : Nat) : Int)))
          (Option.bind (ixI p_0 v_13) (fun v_17 =>
          ifB (decide ((IntKind.i64.wrap (v_14 + ((v_17.length : Nat) : Int))) < 0))
            (none)
            (some (.inl (IntKind.i64.wrap (v_13 + 1), IntKind.i64.wrap (v_14 + ((v_17.length : Nat) : Int)))))))
          (some (.inr v_14)) : Option ((Int × Int) ⊕ Int))) F (0, 0)) (fun (v_21 : Int) => 
      some v_21) : Option (Int)) (fun (v_23 : Int) => 
    Option.bind (whenG (decide (0 ≤ v_23 ∧ v_23 ≤ 140737488355328)) ()) (fun v_24 =>
    Option.bind (Option.bind (iter (σ := Int × (List Int)) (ρ := (List Int)) (un2 fun (v_39 : Int) (v_40 : (List Int)) => 
          (ifB (decide (v_39 < ((p_0.length : Nat) : Int)))
            (Option.bind (ixI p_0 v_39) (fun v_45 =>
            Option.bind (apG 1 v_40 v_45) (fun v_48 =>
            some (.inl (IntKind.i64.wrap (v_39 + 1), v_48)))))
            (some (.inr v_40)) : Option ((Int × (List Int)) ⊕ (List Int)))) F (0, ([] : List Int))) (fun (v_49 : (List Int)) => 
        some v_49) : Option ((List Int))) (fun (v_53 : (List Int)) => 
      some v_53)))
set_option maxRecDepth 100000 in
set_option maxHeartbeats 16000000 in
theorem z_slices_Concat_byte_byte (F : Nat) (p_0_A : Option Addr) (p_0_c : Nat) (p_0 : List KSuint8L) (r : (List Int)) (hG : G_slices_Concat_byte_byte F (p_0.map KSuint8L.p) = some r) :
  Cg Try.prog 30 [.slice p_0_A p_0.length p_0_c] [RowC p_0_A p_0_c KSuint8L.cells KSuint8L.ok p_0] (fun q : KSuint8L => r = q.l) (fun q => .slice q.A q.l.length q.c) (fun q => [RowC q.A q.c c_u8 tr q.l]) := by
 unfold G_slices_Concat_byte_byte at hG
 try simp only [List.length_map, KLeaderL.n_Open] at hG
 refine fing Try.func30 rfl rfl (mr KSuint8L.mv m0) fun S0 w0 hT => sq (rg (ra [] f0 [] (tN (sq (rg (ra [] f0 [(3, I 0)] (tN ?_)))))))
 obtain ⟨o_22, hG, hG_22⟩ := bs hG; refine jn (fun K E a w => ∃ v_23 : Int, Js S0 w0 36 ([(3, I v_23)] ++ K) (se E [0]) (v_23 = o_22) a w) ?_ ?_
 ·refine sq (rg (ra [] f0 (ns 9 [.slice p_0_A p_0.length p_0_c, I ((p_0.length : Nat) : Int), I 0]) (tN (bk ?_)))); obtain ⟨e_15, hL, hG_15⟩ := bs hG; clear hG; obtain ⟨stp_15, hs_15, hL⟩ := iter_gen hL; refine lp (fun K E n_ a w => ∃ v_13 v_14 : Int, Js S0 w0 36 ([(3, I v_14), (11, I v_13)] ++ K) (se E [0]) (iter stp_15 n_ (v_13, v_14) = some e_15) a w) F ?_ ?_
  ·exact fun _ _ S k e => ⟨0, 0, S, k.wk, e.sel [0], hL⟩
  ·clear hL; rintro n_15 a w ⟨v_13, v_14, hJ⟩; refine hJ.go fun hL => ?_
   clear hJ; obtain ⟨m_15, o_15, rfl, hG, hO1_15, hO2_15⟩ := iter_step hL; clear hL; rw [hs_15] at hG; refine sq (rg (ra [] f0 [(12, B (decide (v_13 < ((p_0.length : Nat) : Int))))] (tN (sq ?_)))); rcases ic hG with ⟨h_16, hG⟩ | ⟨h_16, hG⟩
   ·try simp only [List.length_map, KLeaderL.n_Open] at h_16
    refine sb 12 (bt h_16) (ct (kS (tN (sq (bk (sq ?_)))))); obtain ⟨v_17o, hy_17, hG⟩ := bs hG; refine rg (fxn (p := KSuint8L.p) inf109 (gd' (RowC p_0_A p_0_c KSuint8L.cells KSuint8L.ok p_0) 0) hy_17 fun v_17 b_18 o_19 he_17 hi_17 => ?_); subst he_17
    try simp only [List.length_map, KLeaderL.n_Open] at hG
    refine ra [(0, 0, 0, 0), (0, 1, 0, 0)] (fc (hi_17 .i64) f0) [(5, .slice v_17.A v_17.l.length v_17.c)] (tN (sq (rg (ra [] f0 [(3, I (IntKind.i64.wrap (v_14 + ((v_17.l.length : Nat) : Int))))] (tN (sq (rg (ra [] f0 [(20, B (decide ((IntKind.i64.wrap (v_14 + ((v_17.l.length : Nat) : Int))) < 0)))] (tN ?_))))))))); rcases ic hG with ⟨h_20, hG⟩ | ⟨h_20, hG⟩
    ·try simp only [List.length_map, KLeaderL.n_Open] at h_20
     refine sb 20 (bt h_20) (ct ?_); cases hG
    ·try simp only [List.length_map, KLeaderL.n_Open] at h_20
     exact sb 20 (bf h_20) (cf (kS (hN (tN (rg (ra [] f0 [(11, I (IntKind.i64.wrap (v_13 + 1)))] (tN (fun a w S hK hE => ⟨m_15, ⟨IntKind.i64.wrap (v_13 + 1), IntKind.i64.wrap (v_14 + ((v_17.l.length : Nat) : Int)), S, hK.wk, hE.sel [2], hO1_15 _ (oi hG).symm⟩, Nat.lt_succ_self _⟩))))))))
   ·try simp only [List.length_map, KLeaderL.n_Open] at h_16
    refine sb 12 (bf h_16) (cf (kX (tX (tX ?_)))); have he_ := hO2_15 _ (oi hG).symm; subst he_; replace hG := hG_15; exact hH (tN (fun _ _ S k e => ⟨v_14, S, k.wk, e.sel [0], oi hG⟩))
 ·rintro a w ⟨v_23, hJ⟩; refine hJ.go fun ho_ => ?_
  clear hJ; subst ho_; replace hG := hG_22; refine sq ?_; obtain ⟨v_24, hy_24, hG⟩ := bs hG; refine rg (rn 1 [] f0 [(23, I v_23)] (l1 (gw37 24 v_23 (of_decide_eq_true (whenG_some hy_24).1) fun v_24_A v_24_c => ra [] f0 [(6, .slice v_24_A 0 v_24_c)] (tN ?_)))); obtain ⟨o_52, hG, hG_52⟩ := bs hG; refine jn (fun K E a w => ∃ (v_53 : List Int) (v_54_A : Option Addr) (v_55_c : Nat), Js S0 w0 36 ([(6, .slice v_54_A v_53.length v_55_c)] ++ K) ([.own 5 1 (.slice v_54_A v_53.length v_55_c) v_53.length (v_53.flatMap c_u8)]) (v_53 = o_52) a w) ?_ ?_
  ·refine sq (rg (ra [] f0 (ns 25 [.slice p_0_A p_0.length p_0_c, I ((p_0.length : Nat) : Int), I 0]) (tN (bk ?_)))); obtain ⟨e_43, hL, hG_43⟩ := bs hG; clear hG; obtain ⟨stp_43, hs_43, hL⟩ := iter_gen hL; refine lp (fun K E n_ a w => ∃ (v_39 : Int) (v_40 : List Int) (v_41_A : Option Addr) (v_42_c : Nat), Js S0 w0 36 ([(6, .slice v_41_A v_40.length v_42_c), (27, I v_39)] ++ K) ([.own 5 1 (.slice v_41_A v_40.length v_42_c) v_40.length (v_40.flatMap c_u8)] ++ se E [1]) (iter stp_43 n_ (v_39, v_40) = some e_43) a w) F ?_ ?_
   ·exact fun _ _ S k e => ⟨0, ([] : List Int), v_24_A, v_24_c, S, k.wk, e.sel [0, 1], hL⟩
   ·clear hL; rintro n_43 a w ⟨v_39, v_40, v_41_A, v_42_c, hJ⟩; refine hJ.go fun hL => ?_
    clear hJ; obtain ⟨m_43, o_43, rfl, hG, hO1_43, hO2_43⟩ := iter_step hL; clear hL; rw [hs_43] at hG; refine sq (rg (ra [] f0 [(28, B (decide (v_39 < ((p_0.length : Nat) : Int))))] (tN (sq ?_)))); rcases ic hG with ⟨h_44, hG⟩ | ⟨h_44, hG⟩
    ·try simp only [List.length_map, KLeaderL.n_Open] at h_44
     refine sb 28 (bt h_44) (ct (kS (tN (sq (bk (sq ?_)))))); obtain ⟨v_45o, hy_45, hG⟩ := bs hG; refine rg (fxn (p := KSuint8L.p) inf109 (gd' (RowC p_0_A p_0_c KSuint8L.cells KSuint8L.ok p_0) 1) hy_45 fun v_45 b_46 o_47 he_45 hi_45 => ?_); subst he_45
     try simp only [List.length_map, KLeaderL.n_Open] at hG
     refine ra [(0, 0, 0, 0), (0, 1, 0, 0)] (fc (hi_45 .i64) f0) [(8, .slice v_45.A v_45.l.length v_45.c)] (tN ?_); obtain ⟨v_48, hy_48, hG⟩ := bs hG; exact rg (rn 2 [] f0 [(31, .slice v_41_A v_40.length v_42_c), (32, .slice v_45.A v_45.l.length v_45.c)] (l1 (ap 2 33 v_41_A v_42_c v_40 v_45.l inf22 ((gm (KSuint8L.ok v_45) 1 fun _ _ h => h.f_l).a) hy_48 one_u8 fun v_48_A v_48_c _ => ra [] f0 [(6, .slice v_48_A v_48.length v_48_c)] (hN (tN (rg (ra [] f0 [(27, I (IntKind.i64.wrap (v_39 + 1)))] (tN (fun a w S hK hE => ⟨m_43, ⟨IntKind.i64.wrap (v_39 + 1), v_48, v_48_A, v_48_c, S, hK.wk, hE.sel [2, 3], hO1_43 _ (oi hG).symm⟩, Nat.lt_succ_self _⟩)))))))))
    ·try simp only [List.length_map, KLeaderL.n_Open] at h_44
     refine sb 28 (bf h_44) (cf (kX (tX (tX ?_)))); have he_ := hO2_43 _ (oi hG).symm; subst he_; replace hG := hG_43; exact hH (tN (fun _ _ S k e => ⟨v_40, v_41_A, v_42_c, S, k.wk, e.sel [0], oi hG⟩))
  ·rintro a w ⟨v_53, v_54_A, v_55_c, hJ⟩; refine hJ.go fun ho_ => ?_
   clear hJ; subst ho_; replace hG := hG_52; refine sq (rg (ra [] f0 [(2, .slice v_54_A v_53.length v_55_c)] (tN (kR ?_)))); obtain rfl := oi hG; exact rtg [] ⟨v_54_A, v_55_c, v_53⟩ rfl ⟨frO 0, trivial⟩
def G_regulatorref34_SameTx (F : Nat) (p_0 : KTx) (p_1 : KTx) : Option (Bool) :=
  Option.bind (ifB ((p_0.ID == p_1.ID))
      (ifB ((p_0.Ts == p_1.Ts))
        (ifB ((((p_0.Reads.length : Nat) : Int) == ((p_1.Reads.length : Nat) : Int)))
          (some (!(((p_0.Writes.length : Nat) : Int) == ((p_1.Writes.length : Nat) : Int))))
          (some true))
        (some true))
      (some true) : Option (Bool)) (fun (v_7 : Bool) => 
    ifB (v_7)
      (some false)
      (Option.bind (Option.bind (iter (σ := Int) (ρ := Unit ⊕ Unit) (fun (v_26 : Int) => 
            (ifB (decide (v_26 < ((p_0.Reads.length : Nat) : Int)))
              (Option.bind (ixI p_0.Reads v_26) (fun v_29 =>
              Option.bind (ixI p_1.Reads v_26) (fun v_32 =>
              ifB (decide (v_29 = v_32))
                (some (.inl (IntKind.i64.wrap (v_26 + 1))))
                (some (.inr (.inr ()))))))
              (some (.inr (.inl ()))) : Option (Int ⊕ (Unit ⊕ Unit)))) F 0) (Sum.elim (fun (_ : Unit) => 
          some (.inl ())) (fun (_ : Unit) => 
          some (.inr ()))) : Option (Unit ⊕ Unit)) (Sum.elim (fun (_ : Unit) => 
        Option.bind (Option.bind (iter (σ := Int) (ρ := Unit ⊕ Unit) (fun (v_54 : Int) => 
              (ifB (decide (v_54 < ((p_0.Writes.length : Nat) : Int)))
                (Option.bind (ixI p_0.Writes v_54) (fun v_57 =>
                Option.bind (ixI p_1.Writes v_54) (fun v_60 =>
                ifB (decide (v_57 = v_60))
                  (some (.inl (IntKind.i64.wrap (v_54 + 1))))
                  (some (.inr (.inr ()))))))
                (some (.inr (.inl ()))) : Option (Int ⊕ (Unit ⊕ Unit)))) F 0) (Sum.elim (fun (_ : Unit) => 
            some (.inl ())) (fun (_ : Unit) => 
            some (.inr ()))) : Option (Unit ⊕ Unit)) (Sum.elim (fun (_ : Unit) => 
          some true) (fun (_ : Unit) => 
          some false))) (fun (_ : Unit) => 
        some false))))
set_option maxRecDepth 100000 in
set_option maxHeartbeats 16000000 in
theorem z_regulatorref34_SameTx (F : Nat) (p_0 : KTxL) (p_1 : KTxL) (r : Bool) (hG : G_regulatorref34_SameTx F p_0.p p_1.p = some r) :
  Cf Try.prog 36 [.agg #[I p_0.ID, I p_0.Ts, .slice p_0.Reads_A p_0.Reads.length p_0.Reads_c, .slice p_0.Writes_A p_0.Writes.length p_0.Writes_c], .agg #[I p_1.ID, I p_1.Ts, .slice p_1.Reads_A p_1.Reads.length p_1.Reads_c, .slice p_1.Writes_A p_1.Writes.length p_1.Writes_c]] [KTxL.ok p_0, KTxL.ok p_1] (B r) := by
 unfold G_regulatorref34_SameTx at hG
 try simp only [List.length_map, KLeaderL.n_Open] at hG
 refine fi Try.func36 rfl rfl (mc KTxL.mv (mc KTxL.mv m0)) fun S0 w0 hT => sq (rg (l1 (nw 2 vp [I p_0.ID, I p_0.Ts, .slice p_0.Reads_A p_0.Reads.length p_0.Reads_c, .slice p_0.Writes_A p_0.Writes.length p_0.Writes_c] 26 fun g_1 => l1 (nw 3 vp [I p_1.ID, I p_1.Ts, .slice p_1.Reads_A p_1.Reads.length p_1.Reads_c, .slice p_1.Writes_A p_1.Writes.length p_1.Writes_c] 26 fun g_2 => ra [] f0 [] (tN (sq ?_))))))
 obtain ⟨o_6, hG, hG_6⟩ := bs hG; refine jn (fun K E a w => ∃ v_7 : Bool, Js S0 w0 73 ([(36, B v_7)] ++ K) ([.dat (RowC p_0.Reads_A p_0.Reads_c KSeen.cells tr p_0.Reads), .dat (RowC p_0.Writes_A p_0.Writes_c KWrite.cells tr p_0.Writes), .dat (RowC p_1.Reads_A p_1.Reads_c KSeen.cells tr p_1.Reads), .dat (RowC p_1.Writes_A p_1.Writes_c KWrite.cells tr p_1.Writes)] ++ se E [0, 1]) (v_7 = o_6) a w) ?_ ?_
 ·rcases ic hG with ⟨h_3, hG⟩ | ⟨h_3, hG⟩
  ·rcases ic hG with ⟨h_4, hG⟩ | ⟨h_4, hG⟩
   ·rcases ic hG with ⟨h_5, hG⟩ | ⟨h_5, hG⟩
    ·refine rg (rn 6 [(1, 1, 1, 0), (1, 1, 0, 0)] f0 [(12, B (!(p_0.ID == p_1.ID)))] (sb 12 (nt h_3) (rn 7 [(1, 1, 1, 1), (1, 1, 0, 1)] f0 [(19, B (!(p_0.Ts == p_1.Ts)))] (sb 19 (nt h_4) (rn 9 [(1, 1, 1, 2), (2, 1, 0, 2)] f0 [(28, B (!(((p_0.Reads.length : Nat) : Int) == ((p_1.Reads.length : Nat) : Int))))] ?_)))))
     try simp only [List.length_map, KLeaderL.n_Open] at h_5
     exact sb 28 (nt h_5) (ra [(1, 1, 1, 3), (2, 1, 0, 3)] f0 [(36, B (!(((p_0.Writes.length : Nat) : Int) == ((p_1.Writes.length : Nat) : Int))))] (tN (fg (KTxL.ok p_0) 2 (fun _ _ h => h.f_Reads) (fg (KTxL.ok p_0) 3 (fun _ _ h => h.f_Writes) (fg (KTxL.ok p_1) 5 (fun _ _ h => h.f_Reads) (fg (KTxL.ok p_1) 6 (fun _ _ h => h.f_Writes) (fun _ _ S k e => ⟨!(((p_0.Writes.length : Nat) : Int) == ((p_1.Writes.length : Nat) : Int)), S, k.wk, e.sel [3, 2, 1, 0, 4, 5], oi hG⟩)))))))
    ·refine rg (rn 6 [(1, 1, 1, 0), (1, 1, 0, 0)] f0 [(12, B (!(p_0.ID == p_1.ID)))] (sb 12 (nt h_3) (rn 7 [(1, 1, 1, 1), (1, 1, 0, 1)] f0 [(19, B (!(p_0.Ts == p_1.Ts)))] (sb 19 (nt h_4) (rn 9 [(1, 1, 1, 2), (2, 1, 0, 2)] f0 [(28, B (!(((p_0.Reads.length : Nat) : Int) == ((p_1.Reads.length : Nat) : Int))))] ?_)))))
     try simp only [List.length_map, KLeaderL.n_Open] at h_5
     exact sb 28 (nf h_5) (ra [] f0 [(36, B true)] (tN (fg (KTxL.ok p_0) 2 (fun _ _ h => h.f_Reads) (fg (KTxL.ok p_0) 3 (fun _ _ h => h.f_Writes) (fg (KTxL.ok p_1) 5 (fun _ _ h => h.f_Reads) (fg (KTxL.ok p_1) 6 (fun _ _ h => h.f_Writes) (fun _ _ S k e => ⟨true, S, k.wk, e.sel [3, 2, 1, 0, 4, 5], oi hG⟩)))))))
   ·exact rg (rn 6 [(1, 1, 1, 0), (1, 1, 0, 0)] f0 [(12, B (!(p_0.ID == p_1.ID)))] (sb 12 (nt h_3) (rn 7 [(1, 1, 1, 1), (1, 1, 0, 1)] f0 [(19, B (!(p_0.Ts == p_1.Ts)))] (sb 19 (nf h_4) (ra [] f0 [(36, B true)] (tN (fg (KTxL.ok p_0) 2 (fun _ _ h => h.f_Reads) (fg (KTxL.ok p_0) 3 (fun _ _ h => h.f_Writes) (fg (KTxL.ok p_1) 5 (fun _ _ h => h.f_Reads) (fg (KTxL.ok p_1) 6 (fun _ _ h => h.f_Writes) (fun _ _ S k e => ⟨true, S, k.wk, e.sel [3, 2, 1, 0, 4, 5], oi hG⟩)))))))))))
  ·exact rg (rn 6 [(1, 1, 1, 0), (1, 1, 0, 0)] f0 [(12, B (!(p_0.ID == p_1.ID)))] (sb 12 (nf h_3) (ra [] f0 [(36, B true)] (tN (fg (KTxL.ok p_0) 2 (fun _ _ h => h.f_Reads) (fg (KTxL.ok p_0) 3 (fun _ _ h => h.f_Writes) (fg (KTxL.ok p_1) 5 (fun _ _ h => h.f_Reads) (fg (KTxL.ok p_1) 6 (fun _ _ h => h.f_Writes) (fun _ _ S k e => ⟨true, S, k.wk, e.sel [3, 2, 1, 0, 4, 5], oi hG⟩)))))))))
 ·rintro a w ⟨v_7, hJ⟩; refine hJ.go fun ho_ => ?_
  clear hJ; subst ho_; replace hG := hG_6; rcases ic hG with ⟨h_8, hG⟩ | ⟨h_8, hG⟩
  ·refine sb 36 (bt h_8) (ct (sq (rg (ra [] f0 [(4, B false)] (tN (kR (tR ?_))))))); obtain rfl := oi hG; exact rt []
  ·refine sb 36 (bf h_8) (cf (kS (tN ?_))); obtain ⟨o_36, hG, hG_36⟩ := bs hG; refine jn (fun K E a w => Js S0 w0 73 (K) (se E [0, 1, 2, 3, 4, 5]) (.inl () = o_36) a w) ?_ ?_
   ·refine sq (rg (ra [] f0 [(5, I 0)] (tN (bk ?_)))); obtain ⟨e_27, hL, hG_27⟩ := bs hG; clear hG; obtain ⟨stp_27, hs_27, hL⟩ := iter_gen hL; refine lp (fun K E n_ a w => ∃ v_26 : Int, Js S0 w0 73 ([(5, I v_26)] ++ K) (se E [0, 1, 2, 3, 4, 5]) (iter stp_27 n_ v_26 = some e_27) a w) F ?_ ?_
    ·exact fun _ _ S k e => ⟨0, S, k.wk, e.sel [0, 1, 2, 3, 4, 5], hL⟩
    ·clear hL; rintro n_27 a w ⟨v_26, hJ⟩; refine hJ.go fun hL => ?_
     clear hJ; obtain ⟨m_27, o_27, rfl, hG, hO1_27, hO2_27⟩ := iter_step hL; clear hL; rw [hs_27] at hG; refine sq (sq (rg (ra [(2, 1, 5, 2)] f0 [(41, B (decide (v_26 < ((p_0.Reads.length : Nat) : Int))))] (tN ?_)))); rcases ic hG with ⟨h_28, hG⟩ | ⟨h_28, hG⟩
     ·try simp only [List.length_map, KLeaderL.n_Open] at h_28
      refine sb 41 (bt h_28) (ct (kS (tN (sq (bk (sq ?_)))))); obtain ⟨v_29, hy_29, hG⟩ := bs hG; obtain ⟨v_32, hy_32, hG⟩ := bs hG; refine qb (fx inf23 (gd' (RowC p_0.Reads_A p_0.Reads_c KSeen.cells tr p_0.Reads) 0) hy_29 fun b_30 o_31 hi_29 => fx inf23 (gd' (RowC p_1.Reads_A p_1.Reads_c KSeen.cells tr p_1.Reads) 3) hy_32 fun b_33 o_34 hi_32 => qa [(1, 1, 7, 2), (1, 0, 0, 0), (0, 2, 1, 0), (1, 1, 6, 2), (1, 0, 0, 0), (0, 2, 0, 0), (0, 0, 0, 0)] (fc (hi_29 .i64) (fc (hi_32 .i64) (fc (neq_KSeen v_29 v_32) f0))) [(54, B (!(decide (v_29 = v_32))))] (tN ?_)); rcases ic hG with ⟨h_35, hG⟩ | ⟨h_35, hG⟩
      ·exact sb 54 (nt h_35) (cf (kS (hN (tN (rg (ra [] f0 [(5, I (IntKind.i64.wrap (v_26 + 1)))] (tN (fun a w S hK hE => ⟨m_27, ⟨IntKind.i64.wrap (v_26 + 1), S, hK.wk, hE.sel [2, 3, 4, 5, 6, 7], hO1_27 _ (oi hG).symm⟩, Nat.lt_succ_self _⟩))))))))
      ·refine sb 54 (nf h_35) (ct (sq (rg (ra [] f0 [(4, B false)] (tN (kR (hR (tR (tR ?_))))))))); have he_ := hO2_27 _ (oi hG).symm; subst he_; replace hG := hG_27; refine hR (tR ?_); obtain rfl := oi hG; replace hG := hG_36; obtain rfl := oi hG; exact rt []
     ·try simp only [List.length_map, KLeaderL.n_Open] at h_28
      refine sb 41 (bf h_28) (cf (kX (tX (tX ?_)))); have he_ := hO2_27 _ (oi hG).symm; subst he_; replace hG := hG_27; exact hH (tN (fun _ _ S k e => ⟨S, k.wk, e.sel [0, 1, 2, 3, 4, 5], oi hG⟩))
   ·rintro a w hJ; refine hJ.go fun ho_ => ?_
    clear hJ; subst ho_; replace hG := el hG_36; obtain ⟨o_64, hG, hG_64⟩ := bs hG; refine jn (fun K E a w => Js S0 w0 73 (K) (se E []) (.inl () = o_64) a w) ?_ ?_
    ·refine sq (rg (ra [] f0 [(6, I 0)] (tN (bk ?_)))); obtain ⟨e_55, hL, hG_55⟩ := bs hG; clear hG; obtain ⟨stp_55, hs_55, hL⟩ := iter_gen hL; refine lp (fun K E n_ a w => ∃ v_54 : Int, Js S0 w0 73 ([(6, I v_54)] ++ K) (se E [0, 1, 2, 3, 4, 5]) (iter stp_55 n_ v_54 = some e_55) a w) F ?_ ?_
     ·exact fun _ _ S k e => ⟨0, S, k.wk, e.sel [0, 1, 2, 3, 4, 5], hL⟩
     ·clear hL; rintro n_55 a w ⟨v_54, hJ⟩; refine hJ.go fun hL => ?_
      clear hJ; obtain ⟨m_55, o_55, rfl, hG, hO1_55, hO2_55⟩ := iter_step hL; clear hL; rw [hs_55] at hG; refine sq (sq (rg (ra [(2, 1, 5, 3)] f0 [(59, B (decide (v_54 < ((p_0.Writes.length : Nat) : Int))))] (tN ?_)))); rcases ic hG with ⟨h_56, hG⟩ | ⟨h_56, hG⟩
      ·try simp only [List.length_map, KLeaderL.n_Open] at h_56
       refine sb 59 (bt h_56) (ct (kS (tN (sq (bk (sq ?_)))))); obtain ⟨v_57, hy_57, hG⟩ := bs hG; obtain ⟨v_60, hy_60, hG⟩ := bs hG; refine qb (fx inf24 (gd' (RowC p_0.Writes_A p_0.Writes_c KWrite.cells tr p_0.Writes) 1) hy_57 fun b_58 o_59 hi_57 => fx inf24 (gd' (RowC p_1.Writes_A p_1.Writes_c KWrite.cells tr p_1.Writes) 4) hy_60 fun b_61 o_62 hi_60 => qa [(1, 1, 7, 3), (1, 0, 0, 0), (0, 3, 1, 0), (1, 1, 6, 3), (1, 0, 0, 0), (0, 3, 0, 0), (0, 0, 0, 0)] (fc (hi_57 .i64) (fc (hi_60 .i64) (fc (neq_KWrite v_57 v_60) f0))) [(72, B (!(decide (v_57 = v_60))))] (tN ?_)); rcases ic hG with ⟨h_63, hG⟩ | ⟨h_63, hG⟩
       ·exact sb 72 (nt h_63) (cf (kS (hN (tN (rg (ra [] f0 [(6, I (IntKind.i64.wrap (v_54 + 1)))] (tN (fun a w S hK hE => ⟨m_55, ⟨IntKind.i64.wrap (v_54 + 1), S, hK.wk, hE.sel [2, 3, 4, 5, 6, 7], hO1_55 _ (oi hG).symm⟩, Nat.lt_succ_self _⟩))))))))
       ·refine sb 72 (nf h_63) (ct (sq (rg (ra [] f0 [(4, B false)] (tN (kR (hR (tR (tR ?_))))))))); have he_ := hO2_55 _ (oi hG).symm; subst he_; replace hG := hG_55; refine hR (tR ?_); obtain rfl := oi hG; replace hG := hG_64; obtain rfl := oi hG; exact rt []
      ·try simp only [List.length_map, KLeaderL.n_Open] at h_56
       refine sb 59 (bf h_56) (cf (kX (tX (tX ?_)))); have he_ := hO2_55 _ (oi hG).symm; subst he_; replace hG := hG_55; exact hH (tN (fun _ _ S k e => ⟨S, k.wk, e.sel [], oi hG⟩))
    ·rintro a w hJ; refine hJ.go fun ho_ => ?_
     clear hJ; subst ho_; replace hG := el hG_64; refine sq (rg (ra [] f0 [(4, B true)] (tN (kR ?_)))); obtain rfl := oi hG; exact rt []
def G_regulatorref34_FewTxs (F : Nat) (p_0 : List KTx) : Option (Bool) :=
  Option.bind (Option.bind (iter (σ := Int) (ρ := Unit ⊕ Unit) (fun (v_24 : Int) => 
        (ifB (decide (v_24 < ((p_0.length : Nat) : Int)))
          (Option.bind (Option.bind (ixI p_0 v_24) (fun v_27 =>
            ifB (decide (((v_27.Reads.length : Nat) : Int) > 20))
              (some true)
              (Option.bind (ixI p_0 v_24) (fun v_31 =>
              some (decide (((v_31.Writes.length : Nat) : Int) > 20))))) : Option (Bool)) (fun (v_35 : Bool) => 
            ifB (v_35)
              (some (.inr (.inr ())))
              (some (.inl (IntKind.i64.wrap (v_24 + 1))))))
          (some (.inr (.inl ()))) : Option (Int ⊕ (Unit ⊕ Unit)))) F 0) (Sum.elim (fun (_ : Unit) => 
      some (.inl ())) (fun (_ : Unit) => 
      some (.inr ()))) : Option (Unit ⊕ Unit)) (Sum.elim (fun (_ : Unit) => 
    some (decide (((p_0.length : Nat) : Int) ≤ 30))) (fun (_ : Unit) => 
    some false))
set_option maxRecDepth 100000 in
set_option maxHeartbeats 16000000 in
theorem z_regulatorref34_FewTxs (F : Nat) (p_0_A : Option Addr) (p_0_c : Nat) (p_0 : List KTxL) (r : Bool) (hG : G_regulatorref34_FewTxs F (p_0.map KTxL.p) = some r) :
  Cf Try.prog 10 [.slice p_0_A p_0.length p_0_c] [RowC p_0_A p_0_c KTxL.cells KTxL.ok p_0] (B r) := by
 unfold G_regulatorref34_FewTxs at hG
 try simp only [List.length_map, KLeaderL.n_Open] at hG
 refine fi Try.func10 rfl rfl (mr KTxL.mv m0) fun S0 w0 hT => sq (rg (ra [] f0 [] (tN ?_)))
 obtain ⟨o_37, hG, hG_37⟩ := bs hG; refine jn (fun K E a w => Js S0 w0 29 (K) (se E [0]) (.inl () = o_37) a w) ?_ ?_
 ·refine sq (rg (ra [] f0 [(3, I 0)] (tN (bk ?_)))); obtain ⟨e_25, hL, hG_25⟩ := bs hG; clear hG; obtain ⟨stp_25, hs_25, hL⟩ := iter_gen hL; refine lp (fun K E n_ a w => ∃ v_24 : Int, Js S0 w0 29 ([(3, I v_24)] ++ K) (se E [0]) (iter stp_25 n_ v_24 = some e_25) a w) F ?_ ?_
  ·exact fun _ _ S k e => ⟨0, S, k.wk, e.sel [0], hL⟩
  ·clear hL; rintro n_25 a w ⟨v_24, hJ⟩; refine hJ.go fun hL => ?_
   clear hJ; obtain ⟨m_25, o_25, rfl, hG, hO1_25, hO2_25⟩ := iter_step hL; clear hL; rw [hs_25] at hG; refine sq (sq (rg (ra [] f0 [(7, B (decide (v_24 < ((p_0.length : Nat) : Int))))] (tN ?_)))); rcases ic hG with ⟨h_26, hG⟩ | ⟨h_26, hG⟩
   ·try simp only [List.length_map, KLeaderL.n_Open] at h_26
    refine sb 7 (bt h_26) (ct (kS (tN (sq (bk ?_))))); obtain ⟨o_34, hG, hG_34⟩ := bs hG; refine jn (fun K E a w => ∃ v_35 : Bool, Js S0 w0 29 ([(25, B v_35)] ++ K) (se E [0]) (v_35 = o_34) a w) ?_ ?_
    ·obtain ⟨v_27o, hy_27, hG⟩ := bs hG; replace hG := ic hG; rcases hG with ⟨h_30, hG⟩ | ⟨h_30, hG⟩
     ·refine rg (fxn (p := KTxL.p) inf30 (gd' (RowC p_0_A p_0_c KTxL.cells KTxL.ok p_0) 0) hy_27 fun v_27 b_28 o_29 he_27 hi_27 => ?_); subst he_27
      try simp only [List.length_map, KLeaderL.n_Open] at hG
      refine rn 8 [(2, 0, 0, 0), (1, 1, 0, 2)] (fc (hi_27 .i64) f0) [(17, B (decide (((v_27.Reads.length : Nat) : Int) > 20)))] ?_
      try simp only [List.length_map, KLeaderL.n_Open] at h_30
      exact sb 17 (bt h_30) (ra [] f0 [(25, B true)] (tN (fun _ _ S k e => ⟨true, S, k.wk, e.sel [2], oi hG⟩)))
     ·replace hG := bs hG; obtain ⟨v_31o, hy_31, hG⟩ := hG; refine rg (fxn (p := KTxL.p) inf30 (gd' (RowC p_0_A p_0_c KTxL.cells KTxL.ok p_0) 0) hy_27 fun v_27 b_28 o_29 he_27 hi_27 => ?_); subst he_27
      try simp only [List.length_map, KLeaderL.n_Open] at hG
      refine rn 8 [(2, 0, 0, 0), (1, 1, 0, 2)] (fc (hi_27 .i64) f0) [(17, B (decide (((v_27.Reads.length : Nat) : Int) > 20)))] ?_
      try simp only [List.length_map, KLeaderL.n_Open] at h_30
      refine sb 17 (bf h_30) (fxn (p := KTxL.p) inf30 (gd' (RowC p_0_A p_0_c KTxL.cells KTxL.ok p_0) 2) hy_31 fun v_31 b_32 o_33 he_31 hi_31 => ?_); subst he_31
      try simp only [List.length_map, KLeaderL.n_Open] at hG
      exact ra [(2, 0, 0, 0), (1, 1, 0, 3)] (fc (hi_31 .i64) f0) [(25, B (decide (((v_31.Writes.length : Nat) : Int) > 20)))] (tN (fun _ _ S k e => ⟨decide (((v_31.Writes.length : Nat) : Int) > 20), S, k.wk, e.sel [4], oi hG⟩))
    ·rintro a w ⟨v_35, hJ⟩; refine hJ.go fun ho_ => ?_
     clear hJ; subst ho_; replace hG := hG_34; rcases ic hG with ⟨h_36, hG⟩ | ⟨h_36, hG⟩
     ·refine sb 25 (bt h_36) (ct (sq (rg (ra [] f0 [(2, B false)] (tN (kR (hR (tR (tR ?_))))))))); have he_ := hO2_25 _ (oi hG).symm; subst he_; replace hG := hG_25; refine hR (tR ?_); obtain rfl := oi hG; replace hG := hG_37; obtain rfl := oi hG; exact rt []
     ·exact sb 25 (bf h_36) (cf (kS (hN (tN (rg (ra [] f0 [(3, I (IntKind.i64.wrap (v_24 + 1)))] (tN (fun a w S hK hE => ⟨m_25, ⟨IntKind.i64.wrap (v_24 + 1), S, hK.wk, hE.sel [0], hO1_25 _ (oi hG).symm⟩, Nat.lt_succ_self _⟩))))))))
   ·try simp only [List.length_map, KLeaderL.n_Open] at h_26
    refine sb 7 (bf h_26) (cf (kX (tX (tX ?_)))); have he_ := hO2_25 _ (oi hG).symm; subst he_; replace hG := hG_25; exact hH (tN (fun _ _ S k e => ⟨S, k.wk, e.sel [0], oi hG⟩))
 ·rintro a w hJ; refine hJ.go fun ho_ => ?_
  clear hJ; subst ho_; replace hG := el hG_37; refine sq (rg (ra [] f0 [(2, B (decide (((p_0.length : Nat) : Int) ≤ 30)))] (tN (kR ?_)))); obtain rfl := oi hG; exact rt []
end Go.Proofs.Ytlfkgbideknkhaa
namespace Go.Proofs.Ytlfkgbideknkhaa
open Go.RowKit Go.Maps
def G_regulatorref33_Same (F : Nat) (p_0 : List KVersion) (p_1 : List KVersion) : Option (Bool) :=
  ifB ((((p_0.length : Nat) : Int) == ((p_1.length : Nat) : Int)))
    (Option.bind (Option.bind (iter (σ := Int) (ρ := Unit ⊕ Unit) (fun (v_19 : Int) => 
          (ifB (decide (v_19 < ((p_0.length : Nat) : Int)))
            (Option.bind (ixI p_0 v_19) (fun v_22 =>
            Option.bind (ixI p_1 v_19) (fun v_25 =>
            ifB (decide (v_22 = v_25))
              (some (.inl (IntKind.i64.wrap (v_19 + 1))))
              (some (.inr (.inr ()))))))
            (some (.inr (.inl ()))) : Option (Int ⊕ (Unit ⊕ Unit)))) F 0) (Sum.elim (fun (_ : Unit) => 
        some (.inl ())) (fun (_ : Unit) => 
        some (.inr ()))) : Option (Unit ⊕ Unit)) (Sum.elim (fun (_ : Unit) => 
      some true) (fun (_ : Unit) => 
      some false)))
    (some false)
set_option maxRecDepth 100000 in
set_option maxHeartbeats 16000000 in
theorem z_regulatorref33_Same (F : Nat) (p_0_A : Option Addr) (p_0_c : Nat) (p_0 : List KVersion) (p_1_A : Option Addr) (p_1_c : Nat) (p_1 : List KVersion) (r : Bool) (hG : G_regulatorref33_Same F p_0 p_1 = some r) :
  Cf Try.prog 39 [.slice p_0_A p_0.length p_0_c, .slice p_1_A p_1.length p_1_c] [RowC p_0_A p_0_c KVersion.cells tr p_0, RowC p_1_A p_1_c KVersion.cells tr p_1] (B r) := by
 unfold G_regulatorref33_Same at hG
 try simp only [List.length_map, KLeaderL.n_Open] at hG
 refine fi Try.func39 rfl rfl (mr tr_mv (mr tr_mv m0)) fun S0 w0 hT => sq (rg (ra [] f0 [] (tN (sq (sq (rg (ra [] f0 [(10, B (!(((p_0.length : Nat) : Int) == ((p_1.length : Nat) : Int))))] (tN ?_))))))))
 rcases ic hG with ⟨h_1, hG⟩ | ⟨h_1, hG⟩
 ·try simp only [List.length_map, KLeaderL.n_Open] at h_1
  refine sb 10 (nt h_1) (cf (kS (tN ?_))); obtain ⟨o_29, hG, hG_29⟩ := bs hG; refine jn (fun K E a w => Js S0 w0 26 (K) (se E []) (.inl () = o_29) a w) ?_ ?_
  ·refine sq (rg (ra [] f0 [(5, I 0)] (tN (bk ?_)))); obtain ⟨e_20, hL, hG_20⟩ := bs hG; clear hG; obtain ⟨stp_20, hs_20, hL⟩ := iter_gen hL; refine lp (fun K E n_ a w => ∃ v_19 : Int, Js S0 w0 26 ([(5, I v_19)] ++ K) (se E [0, 1]) (iter stp_20 n_ v_19 = some e_20) a w) F ?_ ?_
   ·exact fun _ _ S k e => ⟨0, S, k.wk, e.sel [0, 1], hL⟩
   ·clear hL; rintro n_20 a w ⟨v_19, hJ⟩; refine hJ.go fun hL => ?_
    clear hJ; obtain ⟨m_20, o_20, rfl, hG, hO1_20, hO2_20⟩ := iter_step hL; clear hL; rw [hs_20] at hG; refine sq (sq (rg (ra [] f0 [(14, B (decide (v_19 < ((p_0.length : Nat) : Int))))] (tN ?_)))); rcases ic hG with ⟨h_21, hG⟩ | ⟨h_21, hG⟩
    ·try simp only [List.length_map, KLeaderL.n_Open] at h_21
     refine sb 14 (bt h_21) (ct (kS (tN (sq (bk (sq ?_)))))); obtain ⟨v_22, hy_22, hG⟩ := bs hG; obtain ⟨v_25, hy_25, hG⟩ := bs hG; refine qb (fx inf38 (gd' (RowC p_0_A p_0_c KVersion.cells tr p_0) 0) hy_22 fun b_23 o_24 hi_22 => fx inf38 (gd' (RowC p_1_A p_1_c KVersion.cells tr p_1) 2) hy_25 fun b_26 o_27 hi_25 => qa [(2, 0, 0, 0), (0, 4, 1, 0), (2, 0, 0, 0), (0, 4, 0, 0), (0, 0, 0, 0)] (fc (hi_22 .i64) (fc (hi_25 .i64) (fc (neq_KVersion v_22 v_25) f0))) [(25, B (!(decide (v_22 = v_25))))] (tN ?_)); rcases ic hG with ⟨h_28, hG⟩ | ⟨h_28, hG⟩
     ·exact sb 25 (nt h_28) (cf (kS (hN (tN (rg (ra [] f0 [(5, I (IntKind.i64.wrap (v_19 + 1)))] (tN (fun a w S hK hE => ⟨m_20, ⟨IntKind.i64.wrap (v_19 + 1), S, hK.wk, hE.sel [2, 3], hO1_20 _ (oi hG).symm⟩, Nat.lt_succ_self _⟩))))))))
     ·refine sb 25 (nf h_28) (ct (sq (rg (ra [] f0 [(4, B false)] (tN (kR (hR (tR (tR ?_))))))))); have he_ := hO2_20 _ (oi hG).symm; subst he_; replace hG := hG_20; refine hR (tR ?_); obtain rfl := oi hG; replace hG := hG_29; obtain rfl := oi hG; exact rt []
    ·try simp only [List.length_map, KLeaderL.n_Open] at h_21
     refine sb 14 (bf h_21) (cf (kX (tX (tX ?_)))); have he_ := hO2_20 _ (oi hG).symm; subst he_; replace hG := hG_20; exact hH (tN (fun _ _ S k e => ⟨S, k.wk, e.sel [], oi hG⟩))
  ·rintro a w hJ; refine hJ.go fun ho_ => ?_
   clear hJ; subst ho_; replace hG := el hG_29; refine sq (rg (ra [] f0 [(4, B true)] (tN (kR ?_)))); obtain rfl := oi hG; exact rt []
 ·try simp only [List.length_map, KLeaderL.n_Open] at h_1
  refine sb 10 (nf h_1) (ct (sq (rg (ra [] f0 [(4, B false)] (tN (kR (tR ?_))))))); obtain rfl := oi hG; exact rt []
def G_regulatorref33_Key (F : Nat) (p_0 : Int) : Option (Bool) :=
  Option.bind (ifB (decide (p_0 ≥ 1))
      (some (decide (p_0 ≤ 1000)))
      (some false) : Option (Bool)) (fun (v_3 : Bool) => 
    some v_3)
set_option maxRecDepth 100000 in
set_option maxHeartbeats 16000000 in
theorem z_regulatorref33_Key (F : Nat) (p_0 : Int) (r : Bool) (hG : G_regulatorref33_Key F p_0 = some r) :
  Cf Try.prog 78 [I p_0] [] (B r) := by
 unfold G_regulatorref33_Key at hG; refine fi Try.func78 rfl rfl m0 fun S0 w0 hT => sq (rg (ra [] f0 [] (tN ?_)))
 obtain ⟨o_2, hG, hG_2⟩ := bs hG; refine jn (fun K E a w => ∃ v_3 : Bool, Js S0 w0 9 ([(2, B v_3)] ++ K) (se E []) (v_3 = o_2) a w) ?_ ?_
 ·rcases ic hG with ⟨h_1, hG⟩ | ⟨h_1, hG⟩
  ·exact rg (rn 3 [] f0 [(5, B (decide (p_0 ≥ 1)))] (sb 5 (bt h_1) (ra [] f0 [(2, B (decide (p_0 ≤ 1000)))] (tN (fun _ _ S k e => ⟨decide (p_0 ≤ 1000), S, k.wk, e.sel [], oi hG⟩)))))
  ·exact rg (rn 3 [] f0 [(5, B (decide (p_0 ≥ 1)))] (sb 5 (bf h_1) (ra [] f0 [(2, B false)] (tN (fun _ _ S k e => ⟨false, S, k.wk, e.sel [], oi hG⟩)))))
 ·rintro a w ⟨v_3, hJ⟩; refine hJ.go fun ho_ => ?_
  clear hJ; subst ho_; replace hG := hG_2; refine kR ?_; obtain rfl := oi hG; exact rt []
def G_commit_work_versions (F : Nat) (p_0 : Kcommit_work) : Option ((List KVersion)) :=
  Option.bind (Option.bind (iter (σ := Int × (List KVersion)) (ρ := (List KVersion)) (un2 fun (v_20 : Int) (v_21 : (List KVersion)) => 
        (ifB (decide (v_20 < ((p_0.Tx.Writes.length : Nat) : Int)))
          (Option.bind (ixI p_0.Tx.Writes v_20) (fun v_26 =>
          Option.bind (apG 32 v_21 ([(⟨v_26.Key, p_0.Tx.Ts, v_26.Value, v_26.Gone⟩ : KVersion)] : List KVersion)) (fun v_31 =>
          some (.inl (IntKind.i64.wrap (v_20 + 1), v_31)))))
          (some (.inr v_21)) : Option ((Int × (List KVersion)) ⊕ (List KVersion)))) F (0, ([] : List KVersion))) (fun (v_32 : (List KVersion)) => 
      some v_32) : Option ((List KVersion))) (fun (v_36 : (List KVersion)) => 
    some v_36)
set_option maxRecDepth 100000 in
set_option maxHeartbeats 16000000 in
theorem z_commit_work_versions (F : Nat) (p_0 : Kcommit_workL) (r : (List KVersion)) (hG : G_commit_work_versions F p_0.p = some r) :
  Cn Try.prog 53 [.agg #[I p_0.Tx.ID, I p_0.Tx.Ts, .slice p_0.Tx.Reads_A p_0.Tx.Reads.length p_0.Tx.Reads_c, .slice p_0.Tx.Writes_A p_0.Tx.Writes.length p_0.Tx.Writes_c]] [Kcommit_workL.ok p_0] (fun q : KSapi_VersionL => r = q.l) (fun q => .slice q.A q.l.length q.c) (fun q => [RowC q.A q.c KVersion.cells tr q.l]) := by
 unfold G_commit_work_versions at hG
 try simp only [List.length_map, KLeaderL.n_Open] at hG
 refine fin Try.func53 rfl rfl (mc Kcommit_workL.mv m0) fun S0 w0 hT => sq (rg (l1 (nw 1 vp [I p_0.Tx.ID, I p_0.Tx.Ts, .slice p_0.Tx.Reads_A p_0.Tx.Reads.length p_0.Tx.Reads_c, .slice p_0.Tx.Writes_A p_0.Tx.Writes.length p_0.Tx.Writes_c] 88 fun g_1 => ra [] f0 [] (tN (sq (rg (ra [] f0 [(3, .slice none 0 0)] (tN ?_))))))))
 obtain ⟨o_35, hG, hG_35⟩ := bs hG; refine jn (fun K E a w => ∃ (v_36 : List KVersion) (v_37_A : Option Addr) (v_38_c : Nat), Js S0 w0 29 ([(3, .slice v_37_A v_36.length v_38_c)] ++ K) ([.own 61 4 (.slice v_37_A v_36.length v_38_c) v_36.length (v_36.flatMap KVersion.cells)]) (v_36 = o_35) a w) ?_ ?_
 ·refine sq (rg (ra [(2, 1, 0, 3)] f0 (ns 8 [.slice p_0.Tx.Writes_A p_0.Tx.Writes.length p_0.Tx.Writes_c, I ((p_0.Tx.Writes.length : Nat) : Int), I 0]) (tN (bk ?_)))); obtain ⟨e_24, hL, hG_24⟩ := bs hG; clear hG; obtain ⟨stp_24, hs_24, hL⟩ := iter_gen hL; refine lp (fun K E n_ a w => ∃ (v_20 : Int) (v_21 : List KVersion) (v_22_A : Option Addr) (v_23_c : Nat), Js S0 w0 29 ([(3, .slice v_22_A v_21.length v_23_c), (10, I v_20)] ++ K) ([.dat (RowC p_0.Tx.Reads_A p_0.Tx.Reads_c KSeen.cells tr p_0.Tx.Reads), .dat (RowC p_0.Tx.Writes_A p_0.Tx.Writes_c KWrite.cells tr p_0.Tx.Writes), .own 61 4 (.slice v_22_A v_21.length v_23_c) v_21.length (v_21.flatMap KVersion.cells)] ++ se E [0]) (iter stp_24 n_ (v_20, v_21) = some e_24) a w) F ?_ ?_
  ·exact fg (Kcommit_workL.ok p_0) 1 (fun _ _ h => h.b_Tx.f_Reads) (fg (Kcommit_workL.ok p_0) 2 (fun _ _ h => h.b_Tx.f_Writes) (on 61 4 (fun _ _ S k e => ⟨0, ([] : List KVersion), none, 0, S, k.wk, e.sel [2, 1, 0, 3], hL⟩)))
  ·clear hL; rintro n_24 a w ⟨v_20, v_21, v_22_A, v_23_c, hJ⟩; refine hJ.go fun hL => ?_
   clear hJ; obtain ⟨m_24, o_24, rfl, hG, hO1_24, hO2_24⟩ := iter_step hL; clear hL; rw [hs_24] at hG; refine sq (rg (ra [] f0 [(11, B (decide (v_20 < ((p_0.Tx.Writes.length : Nat) : Int))))] (tN (sq ?_)))); rcases ic hG with ⟨h_25, hG⟩ | ⟨h_25, hG⟩
   ·try simp only [List.length_map, KLeaderL.n_Open] at h_25
    refine sb 11 (bt h_25) (ct (kS (tN (sq (bk (sq ?_)))))); obtain ⟨v_26, hy_26, hG⟩ := bs hG; refine rg (fx inf24 (gd' (RowC p_0.Tx.Writes_A p_0.Tx.Writes_c KWrite.cells tr p_0.Tx.Writes) 1) hy_26 fun b_27 o_28 hi_26 => rn 2 [(0, 0, 0, 0), (0, 3, 0, 0)] (fc (hi_26 .i64) f0) [(13, .agg #[I v_26.Key, I v_26.Value, B v_26.Gone])] (l1 (nw 5 vp [I 0, I 0, B false] 66 fun g_29 => l1 (sr 0 g_29 (ns 0 [I v_26.Key, I v_26.Value, B v_26.Gone]) (nl (tN ?_)))))); obtain ⟨v_31, hy_31, hG⟩ := bs hG; exact rg (rn 11 [(2, 1, 0, 0), (2, 1, 5, 1), (1, 1, 0, 1), (1, 1, 0, 2)] f0 [(14, .slice v_22_A v_21.length v_23_c), (24, .agg #[I v_26.Key, I p_0.Tx.Ts, I v_26.Value, B v_26.Gone])] (l1 (nw 25 (vs 1) [I v_26.Key, I p_0.Tx.Ts, I v_26.Value, B v_26.Gone] 61 fun g_30 => l1 (ap 5 26 v_22_A v_23_c v_21 ([(⟨v_26.Key, p_0.Tx.Ts, v_26.Value, v_26.Gone⟩ : KVersion)] : List KVersion) inf38 (bA (f := KVersion.cells) (ok := tr) (l := ([(⟨v_26.Key, p_0.Tx.Ts, v_26.Value, v_26.Gone⟩ : KVersion)] : List KVersion)) g_30 0 et.a) hy_31 KVersion.one fun v_31_A v_31_c _ => ra [] f0 [(3, .slice v_31_A v_31.length v_31_c)] (hN (tN (rg (ra [] f0 [(10, I (IntKind.i64.wrap (v_20 + 1)))] (tN (fun a w S hK hE => ⟨m_24, ⟨IntKind.i64.wrap (v_20 + 1), v_31, v_31_A, v_31_c, S, hK.wk, hE.sel [3, 4, 5, 6], hO1_24 _ (oi hG).symm⟩, Nat.lt_succ_self _⟩))))))))))
   ·try simp only [List.length_map, KLeaderL.n_Open] at h_25
    refine sb 11 (bf h_25) (cf (kX (tX (tX ?_)))); have he_ := hO2_24 _ (oi hG).symm; subst he_; replace hG := hG_24; exact hH (tN (fun _ _ S k e => ⟨v_21, v_22_A, v_23_c, S, k.wk, e.sel [2], oi hG⟩))
 ·rintro a w ⟨v_36, v_37_A, v_38_c, hJ⟩; refine hJ.go fun ho_ => ?_
  clear hJ; subst ho_; replace hG := hG_35; refine sq (rg (ra [] f0 [(2, .slice v_37_A v_36.length v_38_c)] (tN (kR ?_)))); obtain rfl := oi hG; exact so (A := v_37_A) (c := v_38_c) 0 KVersion.cells tr v_36 tr_mv et (rtn [] ⟨v_37_A, v_38_c, v_36⟩ rfl ⟨gi 0, trivial⟩)
end Go.Proofs.Ytlfkgbideknkhaa
namespace Go.Proofs.Ytlfkgbideknkhaa
open Go.RowKit Go.Maps
def G_commit_copied (F : Nat) (p_0 : KTx) : Option (KTx) :=
 Option.bind (Option.bind (apG 16 ([] : List KSeen) p_0.Reads) (fun v_3 =>
  Option.bind (apG 24 ([] : List KWrite) p_0.Writes) (fun v_4 =>
  some ())) : Option (Unit)) (fun (_ : Unit) =>
  some p_0)
set_option maxRecDepth 100000 in
set_option maxHeartbeats 16000000 in
theorem z_commit_copied (F : Nat) (p_0 : KTxL) (r : KTx) (hG : G_commit_copied F p_0.p = some r) :
  Cn Try.prog 49 [.agg #[I p_0.ID, I p_0.Ts, .slice p_0.Reads_A p_0.Reads.length p_0.Reads_c, .slice p_0.Writes_A p_0.Writes.length p_0.Writes_c]] [KTxL.ok p_0] (fun q : KTxL => r = q.p) (fun q => .agg #[I q.ID, I q.Ts, .slice q.Reads_A q.Reads.length q.Reads_c, .slice q.Writes_A q.Writes.length q.Writes_c]) (fun q => [KTxL.ok q]) := by
 unfold G_commit_copied at hG
 try simp only [List.length_map, KLeaderL.n_Open] at hG
 refine fin Try.func49 rfl rfl (mc KTxL.mv m0) fun S0 w0 hT => sq (rg (l1 (nw 1 vp [I p_0.ID, I p_0.Ts, .slice p_0.Reads_A p_0.Reads.length p_0.Reads_c, .slice p_0.Writes_A p_0.Writes.length p_0.Writes_c] 26 fun g_1 => l1 (nw 2 vp (KTxL.cells KTxL.z) 26 fun g_2 => nl (tN ?_)))))
 obtain ⟨o_5, hG, hG_5⟩ := bs hG; refine jn (fun K E a w => ∃ (v_6_A : Option Addr) (v_7_c : Nat) (v_8_A : Option Addr) (v_9_c : Nat), Js S0 w0 12 (K) ([.blk g_1 26 [I p_0.ID, I p_0.Ts, .slice v_6_A p_0.Reads.length v_7_c, .slice v_8_A p_0.Writes.length v_9_c], .own 95 2 (.slice v_6_A p_0.Reads.length v_7_c) p_0.Reads.length (p_0.Reads.flatMap KSeen.cells), .own 66 3 (.slice v_8_A p_0.Writes.length v_9_c) p_0.Writes.length (p_0.Writes.flatMap KWrite.cells)] ++ se E [0]) (() = o_5) a w) ?_ ?_
 ·obtain ⟨v_3, hy_3, hG⟩ := bs hG; obtain ⟨v_4, hy_4, hG⟩ := bs hG; refine hb [0, 2] (ht [0, 2] [0, 3] [] f0 [(3, Pt g_1 2), (6, Pt g_1 3)] (ho [1, 4] ⟨?_, ?_, trivial⟩))
  ·refine h1 (po 4 (.slice p_0.Reads_A p_0.Reads.length p_0.Reads_c) [(0, 1, 1, 2)] f0 (hk [0, 2] (ho [2, 4] ⟨?_, ?_, trivial⟩)))
   ·exact h1 (cln_KSapi_Seen 5 p_0.Reads_A p_0.Reads_c p_0.Reads (gm (KTxL.ok p_0) 2 fun _ _ h => h.f_Reads).a (by first | simpa using (apG_some hy_3).1 | (have hh_ := (apG_some hy_3).1; rw [List.length_nil, Nat.zero_add] at hh_; exact hh_)) fun v_3_A v_3_c => hk [1, 3] (ho [4] ⟨h1 (po 7 (.slice p_0.Writes_A p_0.Writes.length p_0.Writes_c) [(0, 1, 2, 3)] f0 (hk [1, 3] (ht [1, 3] [6] [] f0 [(9, Pt g_1 2)] (ho [5] ⟨h1 (cln_KSapi_Write 8 p_0.Writes_A p_0.Writes_c p_0.Writes (gm (KTxL.ok p_0) 3 fun _ _ h => h.f_Writes).a (by first | simpa using (apG_some hy_4).1 | (have hh_ := (apG_some hy_4).1; rw [List.length_nil, Nat.zero_add] at hh_; exact hh_)) fun v_4_A v_4_c => hk [2, 4] (ho [7] ⟨h1 (sr 3 g_1 [(2, .slice v_3_A p_0.Reads.length v_3_c)] (hk [2, 4] (ht [2, 4] [8] [] f0 [(10, Pt g_1 3)] (ho [9] ⟨h1 (sr 3 g_1 [(3, .slice v_4_A p_0.Writes.length v_4_c)] (hk [2, 4] (he (tN (fun _ _ S k e => ⟨v_3_A, v_3_c, v_4_A, v_4_c, S, k.wk, e.sel [3, 1, 0, 2], oi hG⟩))))), trivial⟩)))), trivial⟩)), trivial⟩)))), trivial⟩))
   ·exact h1 (po 7 (.slice p_0.Writes_A p_0.Writes.length p_0.Writes_c) [(0, 1, 1, 3)] f0 (hk [0, 2] (ho [2] ⟨h1 (cln_KSapi_Seen 5 p_0.Reads_A p_0.Reads_c p_0.Reads (gm (KTxL.ok p_0) 2 fun _ _ h => h.f_Reads).a (by first | simpa using (apG_some hy_3).1 | (have hh_ := (apG_some hy_3).1; rw [List.length_nil, Nat.zero_add] at hh_; exact hh_)) fun v_3_A v_3_c => hk [1, 3] (ht [1, 3] [6] [] f0 [(9, Pt g_1 2)] (ho [5] ⟨h1 (cln_KSapi_Write 8 p_0.Writes_A p_0.Writes_c p_0.Writes (gm (KTxL.ok p_0) 3 fun _ _ h => h.f_Writes).a (by first | simpa using (apG_some hy_4).1 | (have hh_ := (apG_some hy_4).1; rw [List.length_nil, Nat.zero_add] at hh_; exact hh_)) fun v_4_A v_4_c => hk [2, 4] (ho [7] ⟨h1 (sr 3 g_1 [(2, .slice v_3_A p_0.Reads.length v_3_c)] (hk [2, 4] (ht [2, 4] [8] [] f0 [(10, Pt g_1 3)] (ho [9] ⟨h1 (sr 3 g_1 [(3, .slice v_4_A p_0.Writes.length v_4_c)] (hk [2, 4] (he (tN (fun _ _ S k e => ⟨v_3_A, v_3_c, v_4_A, v_4_c, S, k.wk, e.sel [3, 1, 0, 2], oi hG⟩))))), trivial⟩)))), trivial⟩)), trivial⟩))), trivial⟩)))
  ·exact h1 (po 7 (.slice p_0.Writes_A p_0.Writes.length p_0.Writes_c) [(0, 1, 1, 3)] f0 (hk [0, 2] (ho [1] ⟨h1 (po 4 (.slice p_0.Reads_A p_0.Reads.length p_0.Reads_c) [(0, 1, 1, 2)] f0 (hk [0, 2] (ho [2] ⟨h1 (cln_KSapi_Seen 5 p_0.Reads_A p_0.Reads_c p_0.Reads (gm (KTxL.ok p_0) 2 fun _ _ h => h.f_Reads).a (by first | simpa using (apG_some hy_3).1 | (have hh_ := (apG_some hy_3).1; rw [List.length_nil, Nat.zero_add] at hh_; exact hh_)) fun v_3_A v_3_c => hk [1, 3] (ht [1, 3] [6] [] f0 [(9, Pt g_1 2)] (ho [5] ⟨h1 (cln_KSapi_Write 8 p_0.Writes_A p_0.Writes_c p_0.Writes (gm (KTxL.ok p_0) 3 fun _ _ h => h.f_Writes).a (by first | simpa using (apG_some hy_4).1 | (have hh_ := (apG_some hy_4).1; rw [List.length_nil, Nat.zero_add] at hh_; exact hh_)) fun v_4_A v_4_c => hk [2, 4] (ho [7] ⟨h1 (sr 3 g_1 [(2, .slice v_3_A p_0.Reads.length v_3_c)] (hk [2, 4] (ht [2, 4] [8] [] f0 [(10, Pt g_1 3)] (ho [9] ⟨h1 (sr 3 g_1 [(3, .slice v_4_A p_0.Writes.length v_4_c)] (hk [2, 4] (he (tN (fun _ _ S k e => ⟨v_3_A, v_3_c, v_4_A, v_4_c, S, k.wk, e.sel [3, 1, 0, 2], oi hG⟩))))), trivial⟩)))), trivial⟩)), trivial⟩))), trivial⟩))), trivial⟩)))
 ·rintro a w ⟨v_6_A, v_7_c, v_8_A, v_9_c, hJ⟩; refine hJ.go fun ho_ => ?_
  clear hJ; subst ho_; replace hG := hG_5; refine sq (rg (rn 1 [(0, 4, 0, 0)] f0 [(11, .agg #[I p_0.ID, I p_0.Ts, .slice v_6_A p_0.Reads.length v_7_c, .slice v_8_A p_0.Writes.length v_9_c])] (l1 (sr 3 g_2 (ns 0 [I p_0.ID, I p_0.Ts, .slice v_6_A p_0.Reads.length v_7_c, .slice v_8_A p_0.Writes.length v_9_c]) (nl (tN (kR ?_))))))); obtain rfl := oi hG; exact so (A := v_6_A) (c := v_7_c) 1 KSeen.cells tr p_0.Reads tr_mv et (so (A := v_8_A) (c := v_9_c) 2 KWrite.cells tr p_0.Writes tr_mv et (rtn [(3, 0, 4)] (⟨p_0.ID, p_0.Ts, v_6_A, v_7_c, p_0.Reads, v_8_A, v_9_c, p_0.Writes⟩ : KTxL) rfl ⟨((Fd.two ((gd' (RowC v_6_A v_7_c KSeen.cells tr p_0.Reads) 1)) ((gd' (RowC v_8_A v_9_c KWrite.cells tr p_0.Writes) 2))).m fun _ _ h => ⟨h.1, h.2⟩), trivial⟩))
def G_commit_past (F : Nat) (p_0 : KLeader) (p_1 : Int) : Option (Int) :=
  Option.bind (Option.bind (Option.bind (iter (σ := Int × Int) (ρ := Int) (un2 fun (v_25 : Int) (v_26 : Int) => 
          (ifB (decide (v_25 < v_26))
            (Option.bind (Option.bind (ixI p_0.Open (IntKind.i64.wrap (Int.fdiv (IntKind.u64.wrap (IntKind.i64.wrap (v_25 + v_26))) (2 ^ 1)))) (fun v_29 =>
              some (decide (v_29.Ts ≥ p_1))) : Option (Bool)) (fun (v_32 : Bool) => 
              ifB (v_32)
                (some (.inl (v_25, IntKind.i64.wrap (Int.fdiv (IntKind.u64.wrap (IntKind.i64.wrap (v_25 + v_26))) (2 ^ 1)))))
                (some (.inl (IntKind.i64.wrap ((IntKind.i64.wrap (Int.fdiv (IntKind.u64.wrap (IntKind.i64.wrap (v_25 + v_26))) (2 ^ 1))) + 1), v_26)))))
            (some (.inr v_25)) : Option ((Int × Int) ⊕ Int))) F (0, ((p_0.Open.length : Nat) : Int))) (fun (v_38 : Int) => 
        some v_38) : Option (Int)) (fun (v_40 : Int) => 
      some v_40) : Option (Int)) (fun (v_41 : Int) => 
    some v_41)
set_option maxRecDepth 100000 in
set_option maxHeartbeats 16000000 in
theorem z_commit_past (F : Nat) (p_0 : KLeaderL) (p_1 : Int) (r : Int) (hG : G_commit_past F p_0.p p_1 = some r) :
  Cf Try.prog 52 [.agg #[I p_0.Last, .slice p_0.Store_A p_0.Store.length p_0.Store_c, .slice p_0.Open_A p_0.Open.length p_0.Open_c], I p_1] [KLeaderL.ok p_0] (I r) := by
 unfold G_commit_past at hG
 try simp only [List.length_map, KLeaderL.n_Open] at hG
 refine fi Try.func52 rfl rfl (mc KLeaderL.mv m0) fun S0 w0 hT => sq (rg (l1 (nw 2 vp [I p_0.Last, .slice p_0.Store_A p_0.Store.length p_0.Store_c, .slice p_0.Open_A p_0.Open.length p_0.Open_c] 40 fun g_1 => l1 (nw 3 vp [I p_1] 3 fun g_2 => ra [] f0 [] (tN (sq ?_))))))
 obtain ⟨v_41o, hy_42, hG⟩ := bs hG; refine rg (rn 4 [(1, 1, 1, 2)] f0 [(7, I ((p_0.Open.length : Nat) : Int)), (8, .func (.func 77) #[] #[Pt g_1 0, Pt g_2 0])] (l1 (ci 9 (args := [I ((p_0.Open.length : Nat) : Int), .func (.func 77) #[] #[Pt g_1 0, Pt g_2 0]]) (fun E e w => ∃ v_41 : Int, Rs S0 w0 (I v_41) ([.dat (RowC p_0.Store_A p_0.Store_c KVersion.cells tr p_0.Store), .dat (RowC p_0.Open_A p_0.Open_c KTxL.cells KTxL.ok p_0.Open)] ++ se E [0, 1]) (v_41 = v_41o) e w) Try.func76 rfl rfl ?_ ?_)))
 ·replace hG := hy_42
  try simp only [List.length_map, KLeaderL.n_Open] at hG
  refine sq (rg (ra [] f0 [] (tN (sq (rg (ra [] f0 [(5, I 0), (6, I ((p_0.Open.length : Nat) : Int))] (tN ?_))))))); replace hG := bs hG; obtain ⟨o_79, hG, hG_79⟩ := hG; refine jn (fun K E a w => ∃ v_80 : Int, Js S0 w0 26 ([(5, I v_80)] ++ dk [6] K) ([.dat (RowC p_0.Store_A p_0.Store_c KVersion.cells tr p_0.Store), .dat (RowC p_0.Open_A p_0.Open_c KTxL.cells KTxL.ok p_0.Open)] ++ se E [0, 1]) (v_80 = o_79) a w) ?_ ?_
  ·refine bk ?_; obtain ⟨e_67, hL, hG_67⟩ := bs hG; clear hG; obtain ⟨stp_67, hs_67, hL⟩ := iter_gen hL; refine lp (fun K E n_ a w => ∃ v_65 v_66 : Int, Js S0 w0 26 ([(5, I v_65), (6, I v_66)] ++ K) ([.dat (RowC p_0.Store_A p_0.Store_c KVersion.cells tr p_0.Store), .dat (RowC p_0.Open_A p_0.Open_c KTxL.cells KTxL.ok p_0.Open)] ++ se E [0, 1]) (iter stp_67 n_ (v_65, v_66) = some e_67) a w) F ?_ ?_
   ·exact fg (KLeaderL.ok p_0) 2 (fun _ _ h => h.f_Store) (fg (KLeaderL.ok p_0) 3 (fun _ _ h => h.f_Open) (fun _ _ S k e => ⟨0, ((p_0.Open.length : Nat) : Int), S, k.wk, e.sel [1, 0, 2, 3], hL⟩))
   ·clear hL; rintro n_67 a w ⟨v_65, v_66, hJ⟩; refine hJ.go fun hL => ?_
    clear hJ; obtain ⟨m_67, o_67, rfl, hG, hO1_67, hO2_67⟩ := iter_step hL; clear hL; rw [hs_67] at hG; refine sq (sq (rg (ra [] f0 [(11, B (decide (v_65 < v_66)))] (tN ?_)))); replace hG := ic hG; rcases hG with ⟨h_68, hG⟩ | ⟨h_68, hG⟩
    ·refine sb 11 (bt h_68) (ct (kS (tN (bk (sq (rg (ra [] f0 [(7, I (IntKind.i64.wrap (Int.fdiv (IntKind.u64.wrap (IntKind.i64.wrap (v_65 + v_66))) (2 ^ 1))))] (tN (sq ?_))))))))); replace hG := bs hG; obtain ⟨v_72o, hy_73, hG⟩ := hG; refine rg (rn 2 [] f0 [(18, .func (.func 77) #[] #[Pt g_1 0, Pt g_2 0]), (19, I (IntKind.i64.wrap (Int.fdiv (IntKind.u64.wrap (IntKind.i64.wrap (v_65 + v_66))) (2 ^ 1))))] (l1 (ci 20 (args := [I (IntKind.i64.wrap (Int.fdiv (IntKind.u64.wrap (IntKind.i64.wrap (v_65 + v_66))) (2 ^ 1))), Pt g_1 0, Pt g_2 0]) (fun E e w => ∃ v_72 : Bool, Rs S0 w0 (B v_72) (se E [0, 1, 2, 3]) (v_72 = v_72o) e w) Try.func77 rfl rfl ?_ ?_)))
     ·replace hG := hy_73
      try simp only [List.length_map, KLeaderL.n_Open] at hG
      refine sq (rg (ra [] f0 [] (tN (sq ?_)))); replace hG := bs hG; obtain ⟨v_74o, hy_74, hG⟩ := hG; refine qb (fxn (p := KTxL.p) inf30 (gd' (RowC p_0.Open_A p_0.Open_c KTxL.cells KTxL.ok p_0.Open) 1) hy_74 fun v_74 b_75 o_76 he_74 hi_74 => ?_); subst he_74
      try simp only [List.length_map, KLeaderL.n_Open] at hG
      exact qa [(1, 1, 5, 2), (1, 0, 0, 0), (1, 1, 0, 1), (0, 1, 4, 0)] (fc (hi_74 .i64) f0) [(4, B (decide (v_74.Ts ≥ p_1)))] (tN (kR (ri [] (B (decide (v_74.Ts ≥ p_1))) (fun a w S hK hE => ⟨decide (v_74.Ts ≥ p_1), rfl, ⟨S, hE.sel [2, 3, 4, 5]⟩, oi hG⟩))))
     ·rintro e w ⟨v_72, hJ⟩; refine hJ.go fun ho_ => ?_
      clear hJ; subst ho_; refine ra [] f0 [(21, B (!v_72))] (tN ?_); replace hG := ic hG; rcases hG with ⟨h_77, hG⟩ | ⟨h_77, hG⟩
      ·exact sb 21 (nt h_77) (cf (rg (ra [] f0 [(6, I (IntKind.i64.wrap (Int.fdiv (IntKind.u64.wrap (IntKind.i64.wrap (v_65 + v_66))) (2 ^ 1))))] (hN (tN (fun a w S hK hE => ⟨m_67, ⟨v_65, IntKind.i64.wrap (Int.fdiv (IntKind.u64.wrap (IntKind.i64.wrap (v_65 + v_66))) (2 ^ 1)), S, hK.wk, hE.sel [0, 1, 2, 3], hO1_67 _ (oi hG).symm⟩, Nat.lt_succ_self _⟩))))))
      ·exact sb 21 (nf h_77) (ct (rg (ra [] f0 [(5, I (IntKind.i64.wrap ((IntKind.i64.wrap (Int.fdiv (IntKind.u64.wrap (IntKind.i64.wrap (v_65 + v_66))) (2 ^ 1))) + 1)))] (hN (tN (fun a w S hK hE => ⟨m_67, ⟨IntKind.i64.wrap ((IntKind.i64.wrap (Int.fdiv (IntKind.u64.wrap (IntKind.i64.wrap (v_65 + v_66))) (2 ^ 1))) + 1), v_66, S, hK.wk, hE.sel [0, 1, 2, 3], hO1_67 _ (oi hG).symm⟩, Nat.lt_succ_self _⟩))))))
    ·refine sb 11 (bf h_68) (cf (kX (tX (tX ?_)))); have he_ := hO2_67 _ (oi hG).symm; subst he_; replace hG := hG_67; exact hH (tN (fun _ _ S k e => ⟨v_65, S, k.wk, e.sel [0, 1, 2, 3], oi hG⟩))
  ·rintro a w ⟨v_80, hJ⟩; refine hJ.go fun ho_ => ?_
   clear hJ; subst ho_; replace hG := hG_79; exact sq (rg (ra [] f0 [(4, I v_80)] (tN (kR (ri [] (I v_80) (fun a w S hK hE => ⟨v_80, rfl, ⟨S, hE.sel [0, 1, 2, 3]⟩, oi hG⟩))))))
 ·rintro e w ⟨v_41, hJ⟩; refine hJ.go fun ho_ => ?_
  clear hJ; subst ho_; refine ra [] f0 [(4, I v_41)] (tN (kR ?_)); obtain rfl := oi hG; exact rt []
def G_interval_Valid (F : Nat) (p_0 : KInterval) : Option (Bool) :=
  Option.bind (ifB (decide (0 ≤ p_0.Lo))
      (ifB (decide (p_0.Lo ≤ p_0.Hi))
        (some (decide (p_0.Hi ≤ 3000000000000000)))
        (some false))
      (some false) : Option (Bool)) (fun (v_5 : Bool) => 
    some v_5)
set_option maxRecDepth 100000 in
set_option maxHeartbeats 16000000 in
theorem z_interval_Valid (F : Nat) (p_0 : KInterval) (r : Bool) (hG : G_interval_Valid F p_0 = some r) :
  Cf Try.prog 45 [.agg #[I p_0.Lo, I p_0.Hi]] [] (B r) := by
 unfold G_interval_Valid at hG; refine fi Try.func45 rfl rfl m0 fun S0 w0 hT => sq (rg (l1 (nw 1 vp [I p_0.Lo, I p_0.Hi] 50 fun g_1 => ra [] f0 [] (tN ?_))))
 obtain ⟨o_4, hG, hG_4⟩ := bs hG; refine jn (fun K E a w => ∃ v_5 : Bool, Js S0 w0 18 ([(2, B v_5)] ++ K) (se E []) (v_5 = o_4) a w) ?_ ?_
 ·rcases ic hG with ⟨h_2, hG⟩ | ⟨h_2, hG⟩
  ·rcases ic hG with ⟨h_3, hG⟩ | ⟨h_3, hG⟩
   ·exact rg (rn 4 [(1, 1, 0, 0)] f0 [(6, B (decide (0 ≤ p_0.Lo)))] (sb 6 (bt h_2) (rn 7 [(1, 1, 0, 0), (1, 1, 0, 1)] f0 [(13, B (decide (p_0.Lo ≤ p_0.Hi)))] (sb 13 (bt h_3) (ra [(1, 1, 0, 1)] f0 [(2, B (decide (p_0.Hi ≤ 3000000000000000)))] (tN (fun _ _ S k e => ⟨decide (p_0.Hi ≤ 3000000000000000), S, k.wk, e.sel [], oi hG⟩)))))))
   ·exact rg (rn 4 [(1, 1, 0, 0)] f0 [(6, B (decide (0 ≤ p_0.Lo)))] (sb 6 (bt h_2) (rn 7 [(1, 1, 0, 0), (1, 1, 0, 1)] f0 [(13, B (decide (p_0.Lo ≤ p_0.Hi)))] (sb 13 (bf h_3) (ra [] f0 [(2, B false)] (tN (fun _ _ S k e => ⟨false, S, k.wk, e.sel [], oi hG⟩)))))))
  ·exact rg (rn 4 [(1, 1, 0, 0)] f0 [(6, B (decide (0 ≤ p_0.Lo)))] (sb 6 (bf h_2) (ra [] f0 [(2, B false)] (tN (fun _ _ S k e => ⟨false, S, k.wk, e.sel [], oi hG⟩)))))
 ·rintro a w ⟨v_5, hJ⟩; refine hJ.go fun ho_ => ?_
  clear hJ; subst ho_; replace hG := hG_4; refine kR ?_; obtain rfl := oi hG; exact rt []
def G_commit_Stamp_1 (F : Nat) (p_0 : Int) : Option (KLeader × KTx × Int) :=
 some ((⟨0, ([] : List KVersion), ([] : List KTx)⟩ : KLeader), (⟨0, 0, ([] : List KSeen), ([] : List KWrite)⟩ : KTx), p_0)
set_option maxRecDepth 100000 in
set_option maxHeartbeats 16000000 in
theorem z_commit_Stamp_1 (F : Nat) (p_0 : Int) (r : KLeader × KTx × Int) (hG : G_commit_Stamp_1 F p_0 = some r) :
  Cn Try.prog 44 [I p_0] [] (fun q : KLeaderL × KTxL => r.1 = q.1.p ∧ r.2.1 = q.2.p) (fun q => .tuple #[.agg #[I q.1.Last, .slice q.1.Store_A q.1.Store.length q.1.Store_c, .slice q.1.Open_A q.1.Open.length q.1.Open_c], .agg #[I q.2.ID, I q.2.Ts, .slice q.2.Reads_A q.2.Reads.length q.2.Reads_c, .slice q.2.Writes_A q.2.Writes.length q.2.Writes_c], I r.2.2]) (fun q => [KLeaderL.ok q.1, KTxL.ok q.2]) := by
 unfold G_commit_Stamp_1 at hG; refine fin Try.func44 rfl rfl m0 fun S0 w0 hT => sq (rg (l1 (nw 2 vp [I 0, .slice none 0 0, .slice none 0 0] 40 fun g_1 => l1 (nw 3 vp (KTxL.cells KTxL.z) 26 fun g_2 => ra [] f0 [] (tN (sq (rg (rn 3 [] f0 (ns 5 [.agg #[I 0, .slice none 0 0, .slice none 0 0], Aw (KTxL.cells KTxL.z), I p_0]) (l1 (sr 1 g_1 (ns 0 [I 0, .slice none 0 0, .slice none 0 0]) (l1 (sr 0 g_2 (ns 0 (KTxL.cells KTxL.z)) (ra [] f0 [(4, I p_0)] (tN (kR ?_)))))))))))))))
 obtain rfl := oi hG; exact rtn [(1, 0, 3), (0, 0, 4)] ((⟨0, none, 0, ([] : List KVersion), none, 0, ([] : List KTxL)⟩ : KLeaderL), (⟨0, 0, none, 0, ([] : List KSeen), none, 0, ([] : List KWrite)⟩ : KTxL)) ⟨rfl, rfl⟩ ⟨((Fd.two ((gn : Fd _ (RowC none 0 KVersion.cells tr ([] : List KVersion)))) ((gn : Fd _ (RowC none 0 KTxL.cells KTxL.ok ([] : List KTxL))))).m fun _ _ h => ⟨h.1, h.2⟩), ((Fd.two ((gn : Fd _ (RowC none 0 KSeen.cells tr ([] : List KSeen)))) ((gn : Fd _ (RowC none 0 KWrite.cells tr ([] : List KWrite))))).m fun _ _ h => ⟨h.1, h.2⟩), trivial⟩
def G_journal_need (F : Nat) (p_0 : Bool) : Option (Unit) :=
 ifB (p_0)
  (some ())
  (none)
set_option maxRecDepth 100000 in
set_option maxHeartbeats 16000000 in
theorem z_journal_need (F : Nat) (p_0 : Bool) (r : Unit) (hG : G_journal_need F p_0 = some r) :
  Cf Try.prog 89 [B p_0] [] (.tuple #[]) := by
 unfold G_journal_need at hG; refine fi Try.func89 rfl rfl m0 fun S0 w0 hT => sq (rg (ra [] f0 [(3, B (!p_0))] (tN ?_)))
 rcases ic hG with ⟨h_1, hG⟩ | ⟨h_1, hG⟩
 ·refine sb 3 (nt h_1) (cf (kS (fall ?_))); obtain rfl := oi hG; exact rt []
 ·refine sb 3 (nf h_1) (ct ?_); cases hG
def G_codec_need (F : Nat) (p_0 : Bool) : Option (Unit) :=
 ifB (p_0)
  (some ())
  (none)
set_option maxRecDepth 100000 in
set_option maxHeartbeats 16000000 in
theorem z_codec_need (F : Nat) (p_0 : Bool) (r : Unit) (hG : G_codec_need F p_0 = some r) :
  Cf Try.prog 106 [B p_0] [] (.tuple #[]) := by
 unfold G_codec_need at hG; refine fi Try.func106 rfl rfl m0 fun S0 w0 hT => sq (rg (ra [] f0 [(3, B (!p_0))] (tN ?_)))
 rcases ic hG with ⟨h_1, hG⟩ | ⟨h_1, hG⟩
 ·refine sb 3 (nt h_1) (cf (kS (fall ?_))); obtain rfl := oi hG; exact rt []
 ·refine sb 3 (nf h_1) (ct ?_); cases hG
end Go.Proofs.Ytlfkgbideknkhaa
namespace Go.Proofs.Ytlfkgbideknkhaa
open Go.RowKit Go.Maps Go.Shelf
attribute [local go_sem] Oper.semAt_some
def digN : Nat → Int → List Int
 | 0, _ => []
 | k + 1, u => if 128 ≤ u then bits .or .u8 (u % 256) 128 :: digN k (u / 128) else [u]
set_option maxRecDepth 100000 in
set_option maxHeartbeats 4000000 in
theorem digits1_in (F : Fence) (n : Nat) (h7 : F.fn 111) (hro : F.round = none) (hn : 1 ≤ n) (l Bs : Nat) (u0 : Int) (hu : 0 ≤ u0 ∧ u0 < 18446744073709551616) (J : List Int → Int → World → Prop)
  (hJu : ∀ pre u W, J pre u W → W.cell? ⟨Bs, 0, none⟩ = some (U u) ∧ W.frozen? ⟨Bs, 0, none⟩ = false)
  (hJs : ∀ pre u u' W, J pre u W → J pre u' (W.setCell ⟨Bs, 0, none⟩ (U u')))
  (hY : ∀ pre u x W, J pre u W → pre.length < 10 → YieldAt F (n - 1) Try.prog l #[Y x] W fun e W' => e = .returned (.bool true) ∧ J (pre ++ [x]) u W')
  (W : World) (h0 : J [] u0 W) :
  CallsIn F n Try.prog 111 #[.func (.yield l) #[] #[], .pointer (some ⟨Bs, 0, none⟩)] W fun e W' => (∃ v, e = .returned v) ∧ ∃ u, J (digN 10 u0) u W' := by
 refine callsIn_of_wp Try.func111 rfl h7 ?_ hro; simp only [Try.ntmps111, List.size_toArray, List.length_cons, List.length_nil, Nat.reduceAdd, Nat.reduceSub, Array.replicate_succ, Array.replicate_zero, List.push_toArray, List.append_toArray, List.nil_append, List.cons_append]
 gi_wp2
 gi_loopw [3] (fun _ wr => ∃ (k : Nat) (pre : List Int) (u : Int), J pre u wr ∧ pre.length + (k + 1) = 10 ∧ digN 10 u0 = pre ++ digN (k + 1) u ∧ u < 128 ^ (k + 1) ∧ 0 ≤ u ∧ u < 18446744073709551616)
  (fun _ w => match w.cell? ⟨Bs, 0, none⟩ with | some v => (intOf v).toNat | none => 0)
 case atStart => exact ⟨9, [], u0, h0, rfl, rfl, Int.lt_trans hu.2 (by decide), hu.1, hu.2⟩
 case round =>
  obtain ⟨k, pre, u, hJ0, hk, hd, hlt, hu0, hu1⟩ := hrel; obtain ⟨hc, hf⟩ := hJu _ _ _ hJ0; have hlen : pre.length < 10 := by omega
  by_cases hge : 128 ≤ u
  ·obtain ⟨fn, tmps, assign, body, hy, hR⟩ := hY pre u (bits .or .u8 (u % 256) 128) wr hJ0 hlen
   gi_wp2
   refine hR.mono ?_; rintro e W3 ⟨rfl, hJ3⟩; obtain ⟨hc3, hf3⟩ := hJu _ _ _ hJ3
   gi_wp2
   go_roundw
   case rel =>
    obtain ⟨k, rfl⟩ : ∃ k', k = k' + 1 := by
     cases k with
     | zero => exact absurd hlt (by rw [Int.pow_succ]; simp; omega)
     | succ k => exact ⟨k, rfl⟩
    refine ⟨k, pre ++ [bits .or .u8 (u % 256) 128], u / 128, hJs _ _ _ _ hJ3, by simp; omega, ?_, ?_, by omega, by omega⟩
    ·rw [hd, List.append_assoc]
     conv => lhs; rw [digN, if_pos hge]
     rfl
    ·rw [Int.pow_succ] at hlt; omega
   case measure =>
    have h2 := (hJu _ _ _ (hJs _ _ (u / 128) _ hJ3)).1; rw [h2, hc]
    simp [intOf]
    omega
  ·obtain ⟨fn, tmps, assign, body, hy, hR⟩ := hY pre u u wr hJ0 hlen
   gi_wp2
   refine hR.mono ?_; rintro e W3 ⟨rfl, hJ3⟩
   gi_wp2
   go_end0
   refine ⟨⟨_, rfl⟩, u, ?_⟩; rw [hd]; have : digN (k + 1) u = [u] := by rw [digN, if_neg (by omega)]
   rw [this]; exact hJ3
set_option maxRecDepth 100000 in
set_option maxHeartbeats 1000000 in
theorem digits_in (F : Fence) (n : Nat) (h5 : F.fn 101) (hro : F.round = none) (u : Int) (w : World) :
  CallsIn F n Try.prog 101 #[U u] w fun e w' => e = .returned (.func (.func 111) #[] #[.pointer (some ⟨w.heap.size, 0, none⟩)]) ∧ w' = w.alloc (.cells #[U u] 121) := by
 refine callsIn_of_wp Try.func101 rfl h5 ?_ hro; simp only [Try.ntmps101, List.size_toArray, List.length_cons, List.length_nil, Nat.reduceAdd, Nat.reduceSub, Array.replicate_succ, Array.replicate_zero, List.push_toArray, List.append_toArray, List.nil_append, List.cons_append]
 gi_wp2
 go_ret
 exact ⟨rfl, rfl⟩
theorem Ik.ok.what {B : Nat} {S : Nat → Prop} {w : World} {y : Ik} (h : y.ok B S w) {g : Nat} {o : Obj} (hg : y.at = some g) (ho : w.heap[g]? = some o) : o.isCells = true ∨ (∃ es c, o = .map es c) ∨ ∃ o', y = .ob g o' := by
 cases y with
 | blk b t cs =>
  obtain rfl : b = g := by simpa [Ik.at] using hg
  have := h.2.2; rw [show w.heap[b]? = _ from this] at ho; cases ho; exact .inl rfl
 | mp b m =>
  obtain rfl : b = g := by simpa [Ik.at] using hg
  obtain ⟨es, c, h1, _⟩ := h.2.2; rw [h1] at ho; cases ho; exact .inr (.inl ⟨_, _, rfl⟩)
 | me b m k s =>
  obtain rfl : b = g := by simpa [Ik.at] using hg
  obtain ⟨es, c, e, h1, _⟩ := h.2.2; rw [h1] at ho; cases ho; exact .inr (.inl ⟨_, _, rfl⟩)
 | own e m v k xs =>
  obtain ⟨⟨b, _, hr⟩, _⟩ := h; have hv : v.ownBlock = some g := hg; rcases hr.2 with ⟨h2, _⟩ | ⟨g', cap, cur, h2, h3, h4, _⟩
  ·rw [h2] at hv; cases hv
  ·rw [h2] at hv
   injection hv with hv
   subst hv; rw [h4] at ho; cases ho; exact .inl rfl
 | dat p => cases hg
 | ob b o' =>
  obtain rfl : b = g := by simpa [Ik.at] using hg
  exact .inr (.inr ⟨_, rfl⟩)
theorem Es.putL {S0 S : Nat → Prop} {w0 w : World} {L : List Ik} {l : Nat} {o : Obj} (o' : Obj) (h : Es S0 w0 w S L) (hl : w.heap[l]? = some o) (hB : w0.heap.size ≤ l) (hS : ¬ S l) (hc : o.isCells = false) (hm : ∀ es c, o ≠ .map es c) (hob : ∀ o', Ik.ob l o' ∉ L) : Es S0 w0 (w.putObj l o') S L := by
 have hk : ∀ g, g ≠ l → (w.putObj l o').heap[g]? = w.heap[g]? := fun g hg => World.putObj_heap_other hg
 have hn : ∀ y ∈ L, y.at ≠ some l := fun y hy hg => by
  rcases (h.k y hy).what hg hl with h1 | ⟨es, c, h1⟩ | ⟨o', h1⟩
  ·rw [hc] at h1; cases h1
  ·exact hm _ _ h1
  ·exact hob _ (h1 ▸ hy)
 refine ⟨h.b.grown (grownBy_putObj' w l o') (by have := (Array.getElem?_eq_some_iff.1 hl).1; omega) (fun k e => by cases e; omega), h.e, fun g hg => by simpa using h.lt g hg, fun y hy => ?_, h.p⟩; exact (h.k y hy).to (fun _ h => h) (fun g hg => (h.k y hy).notin hg) ⟨by simp, fun g hg => hk g (fun e => hS (e ▸ hg))⟩ (fun g hg => hk g (fun e => hn y hy (e ▸ hg)))
theorem append_keep {S0 S : Nat → Prop} {w0 w w' : World} {l : List Ik} {v u : Value} {P : Program} {T e : TypeId} {ti : TypeInfo} {z : Value} {m bytes k mm c i : Nat} {A : Option Addr} {ys news : List Value} {ty : TypeId} (hT : P.underlying T = some (.slice e)) (hti : P.info? e = some ti) (hz : ti.zero = some z) (hsz : ti.size = m) (hby : ti.bytes = bytes) (hzs : z.cells.size = m) (hm0 : 0 < m)
  (hE : Es S0 w0 w S l) (hi : l[i]? = some (.own e m v k ys)) (hl : news.length = mm * m) (hr : Rd w A news) (h1 : ∀ u ∈ news, u.oneCell' = true) (h63 : k + mm ≤ maxLen) (hbytes : (k + mm) * bytes ≤ 140737488355328) (hrun : (Builtin.append_ #[T, T] ty #[v, .slice A mm c]).run P w = .ok u w') : w.grownBy w' v.ownBlock := by
 obtain ⟨b, hb, hrow⟩ := hE.row i hi; have hbs : ∃ b', b' ≤ w.heap.size ∧ w.ownsRow b' e m v k ys := by
  rcases Nat.le_total b w.heap.size with h | h
  ·exact ⟨b, h, hrow⟩
  ·rcases hrow.2 with ⟨h2, h3⟩ | ⟨g, cap, cur, hv, hg, hh, r⟩
   ·exact ⟨w.heap.size, Nat.le_refl _, hrow.1, .inl ⟨h2, h3⟩⟩
   ·have := (Array.getElem?_eq_some_iff.1 hh).1; exact ⟨b, by omega, hrow⟩
 obtain ⟨b, hbs, hrow⟩ := hbs; obtain ⟨v', w2, hrun2, _, hgr, _⟩ := run_append_rd (P := P) w b T ty e ti z m bytes hT hti hz hsz hby hzs hm0 v k ys hrow A mm c news hl hr h1 h63 hbytes hbs; rw [hrun] at hrun2; cases hrun2; exact hgr
theorem Es.set1 {S0 S : Nat → Prop} {w0 w : World} {L : List Ik} {g : Nat} {t : TypeId} {v : Value} (h : Es S0 w0 w S L) (i : Nat) (hi : L[i]? = some (.blk g t #[v])) (v' : Value) : Es S0 w0 (w.setCell ⟨g, 0, none⟩ v') S (L.set i (.blk g t #[v'])) := by
 have hok := h.k _ (List.mem_of_getElem? hi); refine h.put i hi (h.b.setCell hok.1 v') (fun _ h => h) (fun _ h => .inl h) (by simp) ⟨hok.1, hok.2.1, ?_⟩ (fun _ h => .inl h) (fun k _ hne => Below.heap_setCell w ⟨g, 0, none⟩ v' k (fun e => hne (by simp [Ik.at, e]))); have := hok.2.2.set_ 0 v'
 simpa using this
theorem range_once {F : Fence} {n : Nat} {P : Program} {g : Operand} {ps : Array Tmp} {assign body : Code} {Q : Exit → Act → World → Prop} {a : Act} {w : World} (hro : F.round = none) (h1 : 1 ≤ n) {gf : Nat} {lb : Array Value} (hg : a.eval g = .func (.func gf) #[] lb) (hFg : F.fn gf) (eg : ∀ args w, (callFunc gf args).run P w = .ok (.enter gf args) w)
  (h : ∀ (fn : FuncId) (r : Loop), F.fn fn → r = { state := .ready, pending := none, fn := fn, tmps := a.tmps, params := ps, assign := assign, body := body, defers := w.heap.size } →
   CallsIn F (n - 1) P gf (#[.func (.yield (w.heap.size + 1)) #[] #[]] ++ lb) ((w.alloc (.deferred (some []))).alloc (.loop r)) (rangePost F n P (w.heap.size + 1) Q { a with defers := [{ target := .collected w.heap.size, args := #[] }] ++ a.defers })) :
  (Code.rangeFunc g ps assign body).wpIn F n P Q a w := by
 refine wpIn_rangeFunc ?_; intro fn hfn; rw [hro]; obtain ⟨r, hr⟩ : ∃ r : Loop, r = { state := .ready, pending := none, fn := fn, tmps := a.tmps, params := ps, assign := assign, body := body, defers := w.heap.size } := ⟨_, rfl⟩; have h3 := run_enterLoop_outer (P := P) (w := w) fn a.tmps ps assign body; rw [← hr] at h3; have h2 := h fn r hfn hr; clear h hr; generalize ((w.alloc (.deferred (some []))).alloc (.loop r)) = W at h2 h3; obtain ⟨d, hd⟩ : ∃ d : Deferred, d = { target := .fn (.func gf) lb, args := #[.func (.yield (w.heap.size + 1)) #[] #[]] } := ⟨_, rfl⟩; have e1 : (resolve a.eval (rangeCall g (w.heap.size + 1)) 0).run P W = .ok d W := by
  rw [hd]; simp only [rangeCall, resolve, hg]
  simp [go_sem]
 have e2 : ∀ f', Target.leads P W d.target d.args = some f' → F.fn f' := by
  intro f' hf'; rw [hd] at hf'; simp [Target.leads] at hf'; subst hf'; exact hFg
 have e3 : (invoke d.target d.args).run P W = .ok (.enter gf (#[.func (.yield (w.heap.size + 1)) #[] #[]] ++ lb)) W := by
  rw [hd]
  simp [invoke, go_sem, eg]
 refine ⟨w.heap.size + 1, [{ target := .collected w.heap.size, args := #[] }], W, d, W, gf, #[.func (.yield (w.heap.size + 1)) #[] #[]] ++ lb, W, h3, e1, e2, e3, fun _ => h1, ?_⟩; exact h2
theorem append_runIn {F : Fence} {n : Nat} {P : Program} {w w' : World} {ops : Array Oper} {rest : List Oper} {o : Oper} {a : Act} {Q : Exit → Act → World → Prop} (hg : o.guard = none) (s x : Operand) (t : TypeId) (hop : o.op = Op.call { callee := Callee.builtin Builtin.append, args := #[s, x], argTypes := #[t, t] }) {u v r : Value} (hs : a.eval s = u) (hx : a.eval x = v)
  (hrun : (Builtin.append_ #[t, t] o.type #[u, v]).run P w = .ok r w') (hK : wpListIn F n P ops Q rest (a.put o.dst r) w') : wpListIn F n P ops Q (o :: rest) a w := by
 refine wpListIn_plain hg fun K hK' => ?_
 unfold Oper.wpIn; refine ⟨?_, ?_⟩
 ·simp [Oper.about, hop, resolve, Target.leads, Sem.run_pure]
 ·rw [Oper.semAt_plain F _ _ (by rw [hop]; intro c hc'; cases hc')]
  simp [execOp, hop, resolve, invoke, builtin, hs, hx, hrun, Result.andThen]
  exact hK' _ _ hK
def zig (n : Int) : Int := if n < 0 then 2 * (-1 - n) + 1 else 2 * n
theorem zig_lt {n : Int} (h1 : -9223372036854775808 ≤ n) (h2 : n ≤ 9223372036854775807) : 0 ≤ zig n ∧ zig n < 18446744073709551616 := by
 unfold zig; split <;> omega
theorem xor_ones {a : Nat} (h : a < 18446744073709551616) : a ^^^ 18446744073709551615 = 18446744073709551615 - a := by
 have := congrArg BitVec.toNat (BitVec.xor_allOnes (x := BitVec.ofNat 64 a)); rw [BitVec.toNat_xor, BitVec.toNat_not, BitVec.toNat_ofNat, BitVec.toNat_allOnes, Nat.mod_eq_of_lt (by omega)] at this
 simpa using this
theorem zig_eq {n : Int} (h1 : -9223372036854775808 ≤ n) (h2 : n ≤ 9223372036854775807) : bits BinOp.xor IntKind.u64 (IntKind.u64.wrap (IntKind.u64.wrap n * 2)) (IntKind.u64.wrap (n / 9223372036854775808)) = zig n := by
 rw [IntKind.wrap_u64, IntKind.wrap_u64, IntKind.wrap_u64]; unfold zig
 split
 ·next hn =>
  have e1 : n % 18446744073709551616 * 2 % 18446744073709551616 = ((18446744073709551616 + 2 * n).toNat : Int) := by omega
  have e2 : n / 9223372036854775808 % 18446744073709551616 = ((18446744073709551615 : Nat) : Int) := by omega
  rw [e1, e2, bits_xor_u64_nat _ _ (by omega) (by omega), xor_ones (by omega)]; omega
 ·next hn =>
  have e1 : n % 18446744073709551616 * 2 % 18446744073709551616 = ((2 * n).toNat : Int) := by omega
  have e2 : n / 9223372036854775808 % 18446744073709551616 = ((0 : Nat) : Int) := by omega
  rw [e1, e2, bits_xor_u64_nat _ _ (by omega) (by omega), Nat.xor_zero]; omega
def G_codec_put (_F : Nat) (l : List Int) (n : Int) : Option (List Int) :=
 if (-9223372036854775808 ≤ n ∧ n ≤ 9223372036854775807) ∧ l.length + 10 ≤ 140737488355328 then some (l ++ digN 10 (zig n)) else none
set_option maxRecDepth 100000 in
set_option maxHeartbeats 4000000 in
theorem z_codec_put (F : Nat) (l : List Int) (n : Int) (r : List Int) (hG : G_codec_put F l n = some r) : Ca Try.prog 80 5 1 c_u8 (fun v => [v, I n]) l r := fun S0 w0 w S E A c hT hE => by
 unfold G_codec_put at hG
 split at hG
 ·next hc =>
  obtain ⟨⟨hn1, hn2⟩, hlen⟩ := hc; refine (callsIn_wide (n := 40)).1 ?_; refine callsIn_of_wp_marks Try.func80 rfl trivial ?_ rfl; simp only [Try.ntmps80, List.size_toArray, List.length_cons, List.length_nil, Nat.reduceAdd, Nat.reduceSub, Array.replicate_succ, Array.replicate_zero, List.push_toArray, List.append_toArray, List.nil_append, List.cons_append]
  gi_wp2_with (refine ⟨trivial, ?_⟩; gi_at_call 101; refine (digits_in Fence.wide _ trivial rfl _ _).mono ?_; rintro e w1 ⟨rfl, rfl⟩)
  obtain ⟨z, hz⟩ : ∃ z, bits BinOp.xor IntKind.u64 (IntKind.u64.wrap (IntKind.u64.wrap n * 2)) (IntKind.u64.wrap (n / 9223372036854775808)) = z := ⟨_, rfl⟩; rw [hz]; obtain rfl : z = zig n := hz.symm.trans (zig_eq hn1 hn2); clear hz; have hu := zig_lt hn1 hn2; have hE1 : Ez S0 w0 ((w.alloc (.cells #[.slice A l.length c] 22)).alloc (.cells #[U (zig n)] 121)) S (.blk (w.heap.size + 1) 121 [U (zig n)] :: .blk w.heap.size 22 [.slice A l.length c] :: .own 5 1 (.slice A l.length c) l.length (l.flatMap c_u8) :: E) := by
   have h1 := Es.alloc hE #[.slice A l.length c] 22; have h2 := Es.alloc h1 #[U (zig n)] 121; rw [World.size_alloc] at h2; exact h2
  have hs1 : ((w.alloc (.cells #[.slice A l.length c] 22)).alloc (.cells #[U (zig n)] 121)).heap.size = w.heap.size + 2 := by simp
  generalize ((w.alloc (.cells #[.slice A l.length c] 22)).alloc (.cells #[U (zig n)] 121)) = V at hE1 hs1 ⊢; obtain rfl := Option.some.inj hG; clear hG; have hSV : ∀ g, S g → g < V.heap.size := fun g hg => Es.lt hE1 g hg
  have hB0 : w0.heap.size ≤ V.heap.size := (Es.b hE1).size; have hat : ∀ y ∈ (Iz.blk (w.heap.size + 1) 121 [U (zig n)] :: Iz.blk w.heap.size 22 [.slice A l.length c] :: E).map Iz.ik, ∀ g, y.at = some g → g < V.heap.size := fun y hy g hg => by
   refine ((Es.k hE1 y ?_).lt hg).2; simp only [List.map_cons, List.mem_cons] at hy ⊢; rcases hy with hy | hy | hy <;> simp [hy]
  have hnob : ∀ g, V.heap.size ≤ g → ∀ o', Ik.ob g o' ∉ E.map Iz.ik := fun g hg o' hm => by
   have := hat _ (by simp only [List.map_cons, List.mem_cons]; exact .inr (.inr hm)) g rfl; omega
  refine range_once rfl (by omega) (gf := 111) (lb := #[.pointer (some ⟨w.heap.size + 1, 0, none⟩)]) rfl trivial (enters_of Try.func111 (by kernel_rfl) rfl) ?_; intro fn r hfn hr; have hE2 : Ez S0 w0 ((V.alloc (.deferred (some []))).alloc (.loop r)) S (.blk (w.heap.size + 1) 121 [U (zig n)] :: .blk w.heap.size 22 [.slice A l.length c] :: .own 5 1 (.slice A l.length c) l.length (l.flatMap c_u8) :: E) :=
   Es.same (Es.same hE1 ((Below.refl _ _).alloc (Nat.le_refl _) _)) ((Below.refl _ _).alloc (Nat.le_refl _) _)
  have g1 : ((V.alloc (.deferred (some []))).alloc (.loop r)).heap[V.heap.size + 1]? = some (.loop r) := by
   have := World.alloc_heap_new (V.alloc (.deferred (some []))) (.loop r); rwa [World.size_alloc] at this
  have g2 : ((V.alloc (.deferred (some []))).alloc (.loop r)).heap[V.heap.size]? = some (.deferred (some [])) := (Below.heap_alloc _ _ _ (by simp)).trans (World.alloc_heap_new V _); obtain ⟨D, hD⟩ : ∃ D, D = V.heap.size := ⟨_, rfl⟩; rw [← hD] at g1 g2 hSV hB0 hat hs1 hnob ⊢; have hD1 : w.heap.size + 1 < D := by omega
  generalize ((V.alloc (.deferred (some []))).alloc (.loop r)) = V2 at hE2 g1 g2 ⊢; clear hD hs1 hE1; obtain ⟨J, hJ⟩ : ∃ J : List Int → Int → World → Prop, ∀ pre u W, J pre u W ↔ ∃ A c, Ez S0 w0 W S (.blk (w.heap.size + 1) 121 [U u] :: .blk w.heap.size 22 [.slice A (l ++ pre).length c] :: .own 5 1 (.slice A (l ++ pre).length c) (l ++ pre).length ((l ++ pre).flatMap c_u8) :: E) ∧ W.heap[D + 1]? = some (.loop r) ∧ W.heap[D]? = some (.deferred (some [])) := ⟨_, fun _ _ _ => Iff.rfl⟩; refine (digits1_in Fence.wide (40 - 1) trivial rfl (by omega) (D + 1) (w.heap.size + 1) (zig n) hu J ?_ ?_ ?_ _ ?_).mono ?_
  ·intro pre u W hj; obtain ⟨A, c, h, _⟩ := (hJ _ _ _).1 hj; have hb := h.blk (i := 0) rfl; exact ⟨hb.cell 0, hb.frozen 0⟩
  ·intro pre u u' W hj; obtain ⟨A, c, h, h1, h2⟩ := (hJ _ _ _).1 hj; refine (hJ _ _ _).2 ⟨A, c, Es.set1 h 0 rfl _, ?_, ?_⟩
   ·rw [Below.heap_setCell W ⟨w.heap.size + 1, 0, none⟩ _ _ (by show D + 1 ≠ w.heap.size + 1; omega)]; exact h1
   ·rw [Below.heap_setCell W ⟨w.heap.size + 1, 0, none⟩ _ _ (by show D ≠ w.heap.size + 1; omega)]; exact h2
  ·intro pre u x W hj hp; obtain ⟨A, c, h, h1, h2⟩ := (hJ _ _ _).1 hj; have hy := run_yield (P := Try.prog) (args := #[Y x]) h1 (by rw [hr]; rfl); have hrs : r.state = .ready := by rw [hr]
   have hrp : r.pending = none := by rw [hr]
   obtain ⟨rb, hrb⟩ : ∃ rb, rb = { r with state := .busy } := ⟨_, rfl⟩; obtain ⟨W1, hW1⟩ : ∃ W1, W1 = W.putObj (D + 1) (.loop rb) := ⟨_, rfl⟩; have hbg : (Instr.beginRound (D + 1)).run Try.prog W = .ok () W1 := (run_beginRound (P := Try.prog) h1 hrs).trans (by rw [hW1, hrb]); have hL := (Array.getElem?_eq_some_iff.1 h1).1; have k1 : W1.heap[D + 1]? = some (.loop rb) := by rw [hW1]; exact World.putObj_heap_same hL
   have k2 : W1.heap[D]? = some (.deferred (some [])) := by rw [hW1]; exact (World.putObj_heap_other (show D ≠ D + 1 by omega)).trans h2
   have k3 := Es.putL (.loop rb) h h1 (by omega) (fun hs => by have := hSV _ hs; omega) rfl (fun _ _ e => by cases e) (fun o' hm => by simp only [List.map_cons, List.mem_cons, Iz.ik, reduceCtorEq, false_or] at hm; exact hnob _ (by omega) _ hm); rw [← hW1] at k3; obtain ⟨q, hq⟩ : ∃ q, ∃ _ : Unit, q = l ++ pre := ⟨_, (), rfl⟩; have hql : q.length + 1 ≤ 140737488355328 := by obtain ⟨_, e⟩ := hq; rw [e, List.length_append]; omega
   have k4 : Ez S0 w0 W1 S (.blk (w.heap.size + 1) 121 [U u] :: .blk w.heap.size 22 [.slice A q.length c] :: .own 5 1 (.slice A q.length c) q.length (q.flatMap c_u8) :: E) := by obtain ⟨_, e⟩ := hq; rw [e]; exact k3
   obtain ⟨ti, hti, hzv, hm, hby⟩ := info_parts inf22.i; have k5 := Es.alloc k4 #[Y x] 5; have hrd : Rd (W1.alloc (.cells #[Y x] 5)) (some ⟨W1.heap.size, 0, none⟩) [Y x] := Rd.of_blk (Blk.new W1 5 #[Y x]); have hone : ∀ v ∈ [Y x], v.oneCell' = true := fun v hv => by cases List.mem_singleton.1 hv; rfl
   obtain ⟨A', c', W3, hap, hc1, hc2, k6⟩ := run_append_es (P := Try.prog) (ty := 22) (c := 1) (mm := 1) (news := [Y x]) inf22.t hti hzv hm hby rfl (by omega) k5 (i := 3) rfl rfl hrd hone (by simp only [maxLen]; omega) (by omega); have hgr := append_keep (P := Try.prog) (ty := 22) (c := 1) (mm := 1) (news := [Y x]) inf22.t hti hzv hm hby rfl (by omega) k5 (i := 3) rfl rfl hrd hone (by simp only [maxLen]; omega) (by omega) hap; have hD2 : D + 1 < W1.heap.size := (Array.getElem?_eq_some_iff.1 k1).1; have nb : ∀ (g : Nat) (o : Obj), W1.heap[g]? = some o → o.isCells = false → (∀ es c, o ≠ Obj.map es c) → W3.heap[g]? = some o := fun g o ho hc hm => by
    have hg := (Array.getElem?_eq_some_iff.1 ho).1; have ho2 : (W1.alloc (.cells #[Y x] 5)).heap[g]? = some o := (Below.heap_alloc W1 _ g hg).trans ho; refine (hgr.block g (by simp; omega) fun e => ?_).trans ho2; rcases (Es.k k5 _ (List.mem_of_getElem? (i := 3) rfl)).what (g := g) e.symm ho2 with h1 | ⟨es, c, h1⟩ | ⟨o', h1⟩
    ·rw [hc] at h1; cases h1
    ·exact hm _ _ h1
    ·cases h1
   have n1 := nb _ _ k1 rfl (fun _ _ e => by cases e); have n2 := nb _ _ k2 rfl (fun _ _ e => by cases e); have k7 := Es.set1 k6 2 rfl (.slice A' (q.length + 1) c'); have m1 : (W3.setCell ⟨w.heap.size, 0, none⟩ (.slice A' (q.length + 1) c')).heap[D + 1]? = some (.loop rb) := (Below.heap_setCell W3 ⟨w.heap.size, 0, none⟩ _ _ (by show D + 1 ≠ w.heap.size; omega)).trans n1; have m2 : (W3.setCell ⟨w.heap.size, 0, none⟩ (.slice A' (q.length + 1) c')).heap[D]? = some (.deferred (some [])) := (Below.heap_setCell W3 ⟨w.heap.size, 0, none⟩ _ _ (by show D ≠ w.heap.size; omega)).trans n2; have hre : ({ rb with state := .ready, pending := none } : Loop) = r := by rw [hrb]; cases r; simp only at hrs hrp; subst hrs hrp; rfl
   have hend := run_endRound (P := Try.prog) none m1; have k8 := Es.putL (.loop r) k7 m1 (by omega) (fun hs => by have := hSV _ hs; omega) rfl (fun _ _ e => by cases e) (fun o' hm => hnob (D + 1) (by omega) o' (by simp [Iz.ik] at hm; simpa [Iz.ik] using hm)); have hcX : W1.cell? ⟨w.heap.size, 0, none⟩ = some (.slice A q.length c) := (Ez.blk k4 (i := 1) rfl).cell 0; have hcX3 : W3.cell? ⟨w.heap.size, 0, none⟩ = some (.slice A q.length c) := (Es.blk k6 2 rfl).cell 0; have hfX : W3.frozen? ⟨w.heap.size, 0, none⟩ = false := (Es.blk k6 2 rfl).frozen 0; rw [hr] at hy; refine ⟨fn, _, _, _, hy, roundIn_of_wpIn hfn ?_⟩; have fin : roundPost Try.prog (D + 1) (fun e W' => e = .returned (.bool true) ∧ J (pre ++ [x]) u W') .normal ⟨#[], []⟩ (W3.setCell ⟨w.heap.size, 0, none⟩ (.slice A' (q.length + 1) c')) := by
    refine ⟨_, _, hend, rfl, (hJ _ _ _).2 ⟨A', c', ?_, ?_, ?_⟩⟩
    ·obtain ⟨_, e⟩ := hq; have e2 : q.length + 1 = (l ++ (pre ++ [x])).length := by rw [e]; simp; omega
     have e3 : q.flatMap c_u8 ++ [Y x] = (l ++ (pre ++ [x])).flatMap c_u8 := by rw [e]; simp [c_u8]
     have := Es.drop k8 (List.sublist_cons_self _ _); rw [← e2, ← e3]; have e4 := hre; rw [show (Option.isNone (none : Option Code)) = true from rfl, if_pos rfl, e4]; exact this
    ·rw [World.putObj_heap_same (Array.getElem?_eq_some_iff.1 m1).1]; rw [show (Option.isNone (none : Option Code)) = true from rfl, if_pos rfl, hre]
    ·exact (World.putObj_heap_other (show D ≠ D + 1 by omega)).trans m2
   clear hr hJ hre hrb hrs hrp hend hW1 k1 k2 n1 n2 m1 m2 h1 h2 g1 g2 hti hzv hm hby
   dsimp only
   gi_wp2_with (gi_at_builtin; refine append_runIn rfl _ _ 22 rfl rfl rfl hap ?_)
   exact fin
  ·exact (hJ _ _ _).2 ⟨A, c, by simpa using hE2, g1, g2⟩
  ·rintro e W ⟨⟨v, rfl⟩, u, hj⟩; obtain ⟨A, c, h, h1, h2⟩ := (hJ _ _ _).1 hj; have hrs : r.state ≠ .busy := by rw [hr]; simp
   have hrp : r.pending = none := by rw [hr]
   obtain ⟨W3, hW3⟩ : ∃ W3, W3 = W.putObj (D + 1) (.loop { r with state := .exhausted }) := ⟨_, rfl⟩; have hend : (Instr.endLoop (D + 1)).run Try.prog W = .ok none W3 := (run_endLoop (P := Try.prog) h1 hrs).trans (by rw [hW3]; exact congrArg (fun p => Result.ok p _) hrp); have hDlt := (Array.getElem?_eq_some_iff.1 h2).1; have h3 := Es.putL (.loop { r with state := .exhausted }) h h1 (by omega) (fun hs => by have := hSV _ hs; omega) rfl (fun _ _ e => by cases e) (fun o' hm => by simp only [List.map_cons, List.mem_cons, Iz.ik, reduceCtorEq, false_or] at hm; exact hnob _ (by omega) _ hm); have h4 := (World.putObj_heap_other (w := W) (o := .loop { r with state := .exhausted }) (show D ≠ D + 1 by omega)).trans h2; rw [← hW3] at h3 h4; refine ⟨none, W3, hend, ?_⟩; clear h h1 h2 hend hrs hrp hr hE2 g1 g2 hj hJ hW3; have hc : W3.cell? ⟨w.heap.size, 0, none⟩ = some (.slice A (l ++ digN 10 (zig n)).length c) := (Ez.blk h3 (i := 1) rfl).cell 0; obtain ⟨q, hq⟩ : ∃ q, ∃ _ : Unit, q = l ++ digN 10 (zig n) := ⟨_, (), rfl⟩; have hc' : W3.cell? ⟨w.heap.size, 0, none⟩ = some (.slice A q.length c) := by obtain ⟨_, e⟩ := hq; rw [e]; exact hc
   clear hc
   dsimp only
   gi_wp2
   obtain ⟨_, hq⟩ := hq; refine ⟨by simp, .inl ⟨D, _, rfl, run_takeDeferred h4, ?_⟩⟩; refine ⟨.slice A q.length c, by simp [results, Try.results80, go_sem], A, c, S, by rw [hq], ?_⟩; have h5 := Es.putL (.deferred none) h3 h4 hB0 (fun hs => by have := hSV _ hs; omega) rfl (fun _ _ e => by cases e) (fun o' hm => by simp only [List.map_cons, List.mem_cons, Iz.ik, reduceCtorEq, false_or] at hm; exact hnob _ (by omega) _ hm); exact Es.drop h5 ((List.sublist_cons_self _ _).trans (List.sublist_cons_self _ _))
 ·cases hG
end Go.Proofs.Ytlfkgbideknkhaa
namespace Go.Proofs.Ytlfkgbideknkhaa
open Go.RowKit Go.Maps
def G_codec_Put (F : Nat) (p_0 : List Int) : Option ((List Int) × Int) :=
  ifB (decide (((p_0.length : Nat) : Int) > 1000))
    (some (([] : List Int), 2))
    (Option.bind (G_codec_put F ([] : List Int) ((p_0.length : Nat) : Int)) (fun v_2 =>
    Option.bind (Option.bind (iter (σ := Int × (List Int)) (ρ := (List Int)) (un2 fun (v_17 : Int) (v_18 : (List Int)) => 
          (ifB (decide (v_17 < ((p_0.length : Nat) : Int)))
            (Option.bind (ixI p_0 v_17) (fun v_23 =>
            Option.bind (G_codec_put F v_18 v_23) (fun v_26 =>
            some (.inl (IntKind.i64.wrap (v_17 + 1), v_26)))))
            (some (.inr v_18)) : Option ((Int × (List Int)) ⊕ (List Int)))) F (0, v_2)) (fun (v_27 : (List Int)) => 
        some v_27) : Option ((List Int))) (fun (v_31 : (List Int)) => 
      some (v_31, 0))))
set_option maxRecDepth 100000 in
set_option maxHeartbeats 16000000 in
theorem z_codec_Put (F : Nat) (p_0_A : Option Addr) (p_0_c : Nat) (p_0 : List Int) (r : (List Int) × Int) (hG : G_codec_Put F p_0 = some r) :
  Cg Try.prog 59 [.slice p_0_A p_0.length p_0_c] [RowC p_0_A p_0_c c_i64 tr p_0] (fun q : KSuint8L => r.1 = q.l) (fun q => .tuple #[.slice q.A q.l.length q.c, I r.2]) (fun q => [RowC q.A q.c c_u8 tr q.l]) := by
 unfold G_codec_Put at hG
 try simp only [List.length_map, KLeaderL.n_Open] at hG
 refine fing Try.func59 rfl rfl (mr tr_mv m0) fun S0 w0 hT => sq (rg (ra [] f0 [] (tN (sq (sq (rg (ra [] f0 [(9, B (decide (((p_0.length : Nat) : Int) > 1000)))] (tN ?_))))))))
 rcases ic hG with ⟨h_1, hG⟩ | ⟨h_1, hG⟩
 ·try simp only [List.length_map, KLeaderL.n_Open] at h_1
  refine sb 9 (bt h_1) (ct (sq (rg (ra [] f0 [(2, .slice none 0 0), (3, I 2)] (tN (kR (tR ?_))))))); obtain rfl := oi hG; exact rtg [] ⟨none, 0, ([] : List Int)⟩ rfl ⟨frN, trivial⟩
 ·try simp only [List.length_map, KLeaderL.n_Open] at h_1
  refine sb 9 (bf h_1) (cf (kS (tN (sq ?_)))); obtain ⟨v_2, hy_2, hG⟩ := bs hG; refine rg (rn 2 [] f0 [(11, I ((p_0.length : Nat) : Int))] (on 5 1 (l1 (ca 12 [0, 1] none 0 (z_codec_put F ([] : List Int) ((p_0.length : Nat) : Int) _ hy_2) hT fun v_2_A v_2_c => ra [] f0 [(4, .slice v_2_A v_2.length v_2_c)] (tN ?_))))); obtain ⟨o_30, hG, hG_30⟩ := bs hG; refine jn (fun K E a w => ∃ (v_31 : List Int) (v_32_A : Option Addr) (v_33_c : Nat), Js S0 w0 24 ([(4, .slice v_32_A v_31.length v_33_c)] ++ K) ([.own 5 1 (.slice v_32_A v_31.length v_33_c) v_31.length (v_31.flatMap c_u8)]) (v_31 = o_30) a w) ?_ ?_
  ·refine sq (rg (ra [] f0 (ns 13 [.slice p_0_A p_0.length p_0_c, I ((p_0.length : Nat) : Int), I 0]) (tN (bk ?_)))); obtain ⟨e_21, hL, hG_21⟩ := bs hG; clear hG; obtain ⟨stp_21, hs_21, hL⟩ := iter_gen hL; refine lp (fun K E n_ a w => ∃ (v_17 : Int) (v_18 : List Int) (v_19_A : Option Addr) (v_20_c : Nat), Js S0 w0 24 ([(4, .slice v_19_A v_18.length v_20_c), (15, I v_17)] ++ K) ([.own 5 1 (.slice v_19_A v_18.length v_20_c) v_18.length (v_18.flatMap c_u8)] ++ se E [1]) (iter stp_21 n_ (v_17, v_18) = some e_21) a w) F ?_ ?_
   ·exact fun _ _ S k e => ⟨0, v_2, v_2_A, v_2_c, S, k.wk, e.sel [0, 1], hL⟩
   ·clear hL; rintro n_21 a w ⟨v_17, v_18, v_19_A, v_20_c, hJ⟩; refine hJ.go fun hL => ?_
    clear hJ; obtain ⟨m_21, o_21, rfl, hG, hO1_21, hO2_21⟩ := iter_step hL; clear hL; rw [hs_21] at hG; refine sq (rg (ra [] f0 [(16, B (decide (v_17 < ((p_0.length : Nat) : Int))))] (tN (sq ?_)))); rcases ic hG with ⟨h_22, hG⟩ | ⟨h_22, hG⟩
    ·try simp only [List.length_map, KLeaderL.n_Open] at h_22
     refine sb 16 (bt h_22) (ct (kS (tN (sq (bk (sq ?_)))))); obtain ⟨v_23, hy_23, hG⟩ := bs hG; refine rg (fx inf45 (gd' (RowC p_0_A p_0_c c_i64 tr p_0) 1) hy_23 fun b_24 o_25 hi_23 => ra [(0, 0, 0, 0), (0, 1, 0, 0)] (fc (hi_23 .i64) f0) [(6, I v_23)] (tN ?_)); obtain ⟨v_26, hy_26, hG⟩ := bs hG; exact rg (rn 2 [] f0 [(19, .slice v_19_A v_18.length v_20_c), (20, I v_23)] (l1 (ca 21 [1, 0, 2] v_19_A v_20_c (z_codec_put F v_18 v_23 _ hy_26) hT fun v_26_A v_26_c => ra [] f0 [(4, .slice v_26_A v_26.length v_26_c)] (hN (tN (rg (ra [] f0 [(15, I (IntKind.i64.wrap (v_17 + 1)))] (tN (fun a w S hK hE => ⟨m_21, ⟨IntKind.i64.wrap (v_17 + 1), v_26, v_26_A, v_26_c, S, hK.wk, hE.sel [0, 2], hO1_21 _ (oi hG).symm⟩, Nat.lt_succ_self _⟩)))))))))
    ·try simp only [List.length_map, KLeaderL.n_Open] at h_22
     refine sb 16 (bf h_22) (cf (kX (tX (tX ?_)))); have he_ := hO2_21 _ (oi hG).symm; subst he_; replace hG := hG_21; exact hH (tN (fun _ _ S k e => ⟨v_18, v_19_A, v_20_c, S, k.wk, e.sel [0], oi hG⟩))
  ·rintro a w ⟨v_31, v_32_A, v_33_c, hJ⟩; refine hJ.go fun ho_ => ?_
   clear hJ; subst ho_; replace hG := hG_30; refine sq (rg (ra [] f0 [(2, .slice v_32_A v_31.length v_33_c), (3, I 0)] (tN (kR ?_)))); obtain rfl := oi hG; exact rtg [] ⟨v_32_A, v_33_c, v_31⟩ rfl ⟨frO 0, trivial⟩
def G_commit_work_formed (F : Nat) (p_0 : Kcommit_work) : Option (Bool) :=
  Option.bind (Option.bind (iter (σ := Int) (ρ := Unit ⊕ Unit) (fun (v_31 : Int) => 
        (ifB (decide (v_31 < ((p_0.Tx.Reads.length : Nat) : Int)))
          (Option.bind (ixI p_0.Tx.Reads v_31) (fun v_34 =>
          Option.bind (Option.bind (G_commit_between F v_34.Key 1 1000) (fun v_38 =>
            ifB (v_38)
              (Option.bind (G_commit_between F v_34.Ts 0 3000000000000000) (fun v_40 =>
              ifB (v_40)
                (ifB (decide (v_31 > 0))
                  (Option.bind (ixI p_0.Tx.Reads (IntKind.i64.wrap (v_31 - 1))) (fun v_43 =>
                  some (decide (v_34.Key ≤ v_43.Key))))
                  (some false))
                (some true)))
              (some true)) : Option (Bool)) (fun (v_47 : Bool) => 
            ifB (v_47)
              (some (.inr (.inr ())))
              (some (.inl (IntKind.i64.wrap (v_31 + 1)))))))
          (some (.inr (.inl ()))) : Option (Int ⊕ (Unit ⊕ Unit)))) F 0) (Sum.elim (fun (_ : Unit) => 
      some (.inl ())) (fun (_ : Unit) => 
      some (.inr ()))) : Option (Unit ⊕ Unit)) (Sum.elim (fun (_ : Unit) => 
    Option.bind (Option.bind (iter (σ := Int) (ρ := Unit ⊕ Unit) (fun (v_87 : Int) => 
          (ifB (decide (v_87 < ((p_0.Tx.Writes.length : Nat) : Int)))
            (Option.bind (ixI p_0.Tx.Writes v_87) (fun v_90 =>
            Option.bind (Option.bind (G_commit_between F v_90.Key 1 1000) (fun v_94 =>
              ifB (v_94)
                (Option.bind (G_commit_between F v_90.Value 0 1000000) (fun v_96 =>
                ifB (v_96)
                  (ifB (v_90.Gone)
                    (ifB ((v_90.Value == 0))
                      (ifB (decide (v_87 > 0))
                        (Option.bind (ixI p_0.Tx.Writes (IntKind.i64.wrap (v_87 - 1))) (fun v_101 =>
                        some (decide (v_90.Key ≤ v_101.Key))))
                        (some false))
                      (some true))
                    (ifB (decide (v_87 > 0))
                      (Option.bind (ixI p_0.Tx.Writes (IntKind.i64.wrap (v_87 - 1))) (fun v_105 =>
                      some (decide (v_90.Key ≤ v_105.Key))))
                      (some false)))
                  (some true)))
                (some true)) : Option (Bool)) (fun (v_109 : Bool) => 
              ifB (v_109)
                (some (.inr (.inr ())))
                (some (.inl (IntKind.i64.wrap (v_87 + 1)))))))
            (some (.inr (.inl ()))) : Option (Int ⊕ (Unit ⊕ Unit)))) F 0) (Sum.elim (fun (_ : Unit) => 
        some (.inl ())) (fun (_ : Unit) => 
        some (.inr ()))) : Option (Unit ⊕ Unit)) (Sum.elim (fun (_ : Unit) => 
      Option.bind (Option.bind (G_commit_between F p_0.Tx.ID 1 1000000) (fun v_112 =>
        ifB (v_112)
          (Option.bind (G_commit_between F p_0.Tx.Ts 0 3000000000000000) (fun v_114 =>
          ifB (v_114)
            (ifB (decide (((p_0.Tx.Reads.length : Nat) : Int) ≤ 8))
              (some (decide (((p_0.Tx.Writes.length : Nat) : Int) ≤ 8)))
              (some false))
            (some false)))
          (some false)) : Option (Bool)) (fun (v_118 : Bool) => 
        some v_118)) (fun (_ : Unit) => 
      some false))) (fun (_ : Unit) => 
    some false))
set_option maxRecDepth 100000 in
set_option maxHeartbeats 16000000 in
theorem z_commit_work_formed (F : Nat) (p_0 : Kcommit_workL) (r : Bool) (hG : G_commit_work_formed F p_0.p = some r) :
  Cf Try.prog 43 [.agg #[I p_0.Tx.ID, I p_0.Tx.Ts, .slice p_0.Tx.Reads_A p_0.Tx.Reads.length p_0.Tx.Reads_c, .slice p_0.Tx.Writes_A p_0.Tx.Writes.length p_0.Tx.Writes_c]] [Kcommit_workL.ok p_0] (B r) := by
 unfold G_commit_work_formed at hG
 try simp only [List.length_map, KLeaderL.n_Open] at hG
 refine fi Try.func43 rfl rfl (mc Kcommit_workL.mv m0) fun S0 w0 hT => sq (rg (l1 (nw 1 vp [I p_0.Tx.ID, I p_0.Tx.Ts, .slice p_0.Tx.Reads_A p_0.Tx.Reads.length p_0.Tx.Reads_c, .slice p_0.Tx.Writes_A p_0.Tx.Writes.length p_0.Tx.Writes_c] 88 fun g_1 => ra [] f0 [] (tN ?_))))
 obtain ⟨o_49, hG, hG_49⟩ := bs hG; refine jn (fun K E a w => Js S0 w0 114 (K) ([.dat (RowC p_0.Tx.Reads_A p_0.Tx.Reads_c KSeen.cells tr p_0.Tx.Reads), .dat (RowC p_0.Tx.Writes_A p_0.Tx.Writes_c KWrite.cells tr p_0.Tx.Writes)] ++ se E [0]) (.inl () = o_49) a w) ?_ ?_
 ·refine sq (rg (ra [(2, 1, 0, 2)] f0 (ns 9 [.slice p_0.Tx.Reads_A p_0.Tx.Reads.length p_0.Tx.Reads_c, I ((p_0.Tx.Reads.length : Nat) : Int), I 0]) (tN (bk ?_)))); obtain ⟨e_32, hL, hG_32⟩ := bs hG; clear hG; obtain ⟨stp_32, hs_32, hL⟩ := iter_gen hL; refine lp (fun K E n_ a w => ∃ v_31 : Int, Js S0 w0 114 ([(11, I v_31)] ++ K) ([.dat (RowC p_0.Tx.Reads_A p_0.Tx.Reads_c KSeen.cells tr p_0.Tx.Reads), .dat (RowC p_0.Tx.Writes_A p_0.Tx.Writes_c KWrite.cells tr p_0.Tx.Writes)] ++ se E [0]) (iter stp_32 n_ v_31 = some e_32) a w) F ?_ ?_
  ·exact fg (Kcommit_workL.ok p_0) 1 (fun _ _ h => h.b_Tx.f_Reads) (fg (Kcommit_workL.ok p_0) 2 (fun _ _ h => h.b_Tx.f_Writes) (fun _ _ S k e => ⟨0, S, k.wk, e.sel [1, 0, 2], hL⟩))
  ·clear hL; rintro n_32 a w ⟨v_31, hJ⟩; refine hJ.go fun hL => ?_
   clear hJ; obtain ⟨m_32, o_32, rfl, hG, hO1_32, hO2_32⟩ := iter_step hL; clear hL; rw [hs_32] at hG; refine sq (rg (ra [] f0 [(12, B (decide (v_31 < ((p_0.Tx.Reads.length : Nat) : Int))))] (tN (sq ?_)))); rcases ic hG with ⟨h_33, hG⟩ | ⟨h_33, hG⟩
   ·try simp only [List.length_map, KLeaderL.n_Open] at h_33
    refine sb 12 (bt h_33) (ct (kS (tN (sq (bk (sq ?_)))))); obtain ⟨v_34, hy_34, hG⟩ := bs hG; refine rg (fx inf23 (gd' (RowC p_0.Tx.Reads_A p_0.Tx.Reads_c KSeen.cells tr p_0.Tx.Reads) 0) hy_34 fun b_35 o_36 hi_34 => rn 3 [(1, 0, 0, 0), (0, 2, 0, 0)] (fc (hi_34 .i64) f0) [(13, I v_31), (15, .agg #[I v_34.Key, I v_34.Ts])] (l1 (nw 4 vp [I 0, I 0] 95 fun g_37 => rn 1 [] f0 [(3, I v_31)] (l1 (sr 0 g_37 [(0, I v_34.Key), (1, I v_34.Ts)] (nl (tN ?_))))))); obtain ⟨o_46, hG, hG_46⟩ := bs hG; refine jn (fun K E a w => ∃ v_47 : Bool, Js S0 w0 114 ([(42, B v_47)] ++ K) (se E [2, 3, 4]) (v_47 = o_46) a w) ?_ ?_
    ·obtain ⟨v_38, hy_38, hG⟩ := bs hG; rcases ic hG with ⟨h_39, hG⟩ | ⟨h_39, hG⟩
     ·obtain ⟨v_40, hy_40, hG⟩ := bs hG; rcases ic hG with ⟨h_41, hG⟩ | ⟨h_41, hG⟩
      ·rcases ic hG with ⟨h_42, hG⟩ | ⟨h_42, hG⟩
       ·obtain ⟨v_43, hy_43, hG⟩ := bs hG; exact qb (qn 2 [(1, 1, 0, 0)] f0 [(17, I v_34.Key)] (qc 18 (z_commit_between F v_34.Key 1 1000 _ hy_38) hT trivial (qn 2 [] f0 [(20, B (!v_38))] (sb 20 (nt h_39) (qn 2 [(1, 1, 0, 1)] f0 [(22, I v_34.Ts)] (qc 23 (z_commit_between F v_34.Ts 0 3000000000000000 _ hy_40) hT trivial (qn 3 [] f0 [(26, B (!v_40))] (sb 26 (nt h_41) (qn 3 [] f0 [(29, B (decide (v_31 > 0)))] (sb 29 (bt h_42) (fx inf23 (gd' (RowC p_0.Tx.Reads_A p_0.Tx.Reads_c KSeen.cells tr p_0.Tx.Reads) 2) hy_43 fun b_44 o_45 hi_43 => qa [(1, 1, 1, 0), (2, 1, 5, 2), (2, 0, 0, 0), (1, 1, 0, 0)] (fc (hi_43 .i64) f0) [(42, B (decide (v_34.Key ≤ v_43.Key)))] (tN (fun _ _ S k e => ⟨decide (v_34.Key ≤ v_43.Key), S, k.wk, e.sel [3, 4, 5], oi hG⟩)))))))))))))
       ·exact qb (qn 2 [(1, 1, 0, 0)] f0 [(17, I v_34.Key)] (qc 18 (z_commit_between F v_34.Key 1 1000 _ hy_38) hT trivial (qn 2 [] f0 [(20, B (!v_38))] (sb 20 (nt h_39) (qn 2 [(1, 1, 0, 1)] f0 [(22, I v_34.Ts)] (qc 23 (z_commit_between F v_34.Ts 0 3000000000000000 _ hy_40) hT trivial (qn 3 [] f0 [(26, B (!v_40))] (sb 26 (nt h_41) (qn 3 [] f0 [(29, B (decide (v_31 > 0)))] (sb 29 (bf h_42) (qa [] f0 [(42, B false)] (tN (fun _ _ S k e => ⟨false, S, k.wk, e.sel [2, 3, 4], oi hG⟩)))))))))))))
      ·exact qb (qn 2 [(1, 1, 0, 0)] f0 [(17, I v_34.Key)] (qc 18 (z_commit_between F v_34.Key 1 1000 _ hy_38) hT trivial (qn 2 [] f0 [(20, B (!v_38))] (sb 20 (nt h_39) (qn 2 [(1, 1, 0, 1)] f0 [(22, I v_34.Ts)] (qc 23 (z_commit_between F v_34.Ts 0 3000000000000000 _ hy_40) hT trivial (qn 3 [] f0 [(26, B (!v_40))] (sb 26 (nf h_41) (qa [] f0 [(42, B true)] (tN (fun _ _ S k e => ⟨true, S, k.wk, e.sel [2, 3, 4], oi hG⟩)))))))))))
     ·exact qb (qn 2 [(1, 1, 0, 0)] f0 [(17, I v_34.Key)] (qc 18 (z_commit_between F v_34.Key 1 1000 _ hy_38) hT trivial (qn 2 [] f0 [(20, B (!v_38))] (sb 20 (nf h_39) (qa [] f0 [(42, B true)] (tN (fun _ _ S k e => ⟨true, S, k.wk, e.sel [2, 3, 4], oi hG⟩)))))))
    ·rintro a w ⟨v_47, hJ⟩; refine hJ.go fun ho_ => ?_
     clear hJ; subst ho_; replace hG := hG_46; rcases ic hG with ⟨h_48, hG⟩ | ⟨h_48, hG⟩
     ·refine sb 42 (bt h_48) (ct (sq (rg (ra [] f0 [(2, B false)] (tN (kR (hR (tR (tR ?_))))))))); have he_ := hO2_32 _ (oi hG).symm; subst he_; replace hG := hG_32; refine hR (tR ?_); obtain rfl := oi hG; replace hG := hG_49; obtain rfl := oi hG; exact rt []
     ·exact sb 42 (bf h_48) (cf (kS (hN (tN (rg (ra [] f0 [(11, I (IntKind.i64.wrap (v_31 + 1)))] (tN (fun a w S hK hE => ⟨m_32, ⟨IntKind.i64.wrap (v_31 + 1), S, hK.wk, hE.sel [0, 1, 2], hO1_32 _ (oi hG).symm⟩, Nat.lt_succ_self _⟩))))))))
   ·try simp only [List.length_map, KLeaderL.n_Open] at h_33
    refine sb 12 (bf h_33) (cf (kX (tX (tX ?_)))); have he_ := hO2_32 _ (oi hG).symm; subst he_; replace hG := hG_32; exact hH (tN (fun _ _ S k e => ⟨S, k.wk, e.sel [0, 1, 2], oi hG⟩))
 ·rintro a w hJ; refine hJ.go fun ho_ => ?_
  clear hJ; subst ho_; replace hG := el hG_49; obtain ⟨o_111, hG, hG_111⟩ := bs hG; refine jn (fun K E a w => Js S0 w0 114 (K) (se E [0, 1, 2]) (.inl () = o_111) a w) ?_ ?_
  ·refine sq (rg (ra [(2, 1, 2, 3)] f0 (ns 46 [.slice p_0.Tx.Writes_A p_0.Tx.Writes.length p_0.Tx.Writes_c, I ((p_0.Tx.Writes.length : Nat) : Int), I 0]) (tN (bk ?_)))); obtain ⟨e_88, hL, hG_88⟩ := bs hG; clear hG; obtain ⟨stp_88, hs_88, hL⟩ := iter_gen hL; refine lp (fun K E n_ a w => ∃ v_87 : Int, Js S0 w0 114 ([(48, I v_87)] ++ K) (se E [0, 1, 2]) (iter stp_88 n_ v_87 = some e_88) a w) F ?_ ?_
   ·exact fun _ _ S k e => ⟨0, S, k.wk, e.sel [0, 1, 2], hL⟩
   ·clear hL; rintro n_88 a w ⟨v_87, hJ⟩; refine hJ.go fun hL => ?_
    clear hJ; obtain ⟨m_88, o_88, rfl, hG, hO1_88, hO2_88⟩ := iter_step hL; clear hL; rw [hs_88] at hG; refine sq (rg (ra [] f0 [(49, B (decide (v_87 < ((p_0.Tx.Writes.length : Nat) : Int))))] (tN (sq ?_)))); rcases ic hG with ⟨h_89, hG⟩ | ⟨h_89, hG⟩
    ·try simp only [List.length_map, KLeaderL.n_Open] at h_89
     refine sb 49 (bt h_89) (ct (kS (tN (sq (bk (sq ?_)))))); obtain ⟨v_90, hy_90, hG⟩ := bs hG; refine rg (fx inf24 (gd' (RowC p_0.Tx.Writes_A p_0.Tx.Writes_c KWrite.cells tr p_0.Tx.Writes) 1) hy_90 fun b_91 o_92 hi_90 => rn 3 [(1, 0, 0, 0), (0, 3, 0, 0)] (fc (hi_90 .i64) f0) [(50, I v_87), (52, .agg #[I v_90.Key, I v_90.Value, B v_90.Gone])] (l1 (nw 6 vp [I 0, I 0, B false] 66 fun g_93 => rn 1 [] f0 [(5, I v_87)] (l1 (sr 0 g_93 (ns 0 [I v_90.Key, I v_90.Value, B v_90.Gone]) (nl (tN ?_))))))); obtain ⟨o_108, hG, hG_108⟩ := bs hG; refine jn (fun K E a w => ∃ v_109 : Bool, Js S0 w0 114 ([(88, B v_109)] ++ K) (se E [2, 3, 4]) (v_109 = o_108) a w) ?_ ?_
     ·obtain ⟨v_94, hy_94, hG⟩ := bs hG; rcases ic hG with ⟨h_95, hG⟩ | ⟨h_95, hG⟩
      ·obtain ⟨v_96, hy_96, hG⟩ := bs hG; rcases ic hG with ⟨h_97, hG⟩ | ⟨h_97, hG⟩
       ·rcases ic hG with ⟨h_98, hG⟩ | ⟨h_98, hG⟩
        ·rcases ic hG with ⟨h_99, hG⟩ | ⟨h_99, hG⟩
         ·rcases ic hG with ⟨h_100, hG⟩ | ⟨h_100, hG⟩
          ·obtain ⟨v_101, hy_101, hG⟩ := bs hG; exact qb (qn 2 [(1, 1, 0, 0)] f0 [(54, I v_90.Key)] (qc 55 (z_commit_between F v_90.Key 1 1000 _ hy_94) hT trivial (qn 2 [] f0 [(57, B (!v_94))] (sb 57 (nt h_95) (qn 2 [(1, 1, 0, 1)] f0 [(59, I v_90.Value)] (qc 60 (z_commit_between F v_90.Value 0 1000000 _ hy_96) hT trivial (qn 3 [] f0 [(63, B (!v_96))] (sb 63 (nt h_97) (qn 3 [(1, 1, 0, 2)] f0 [(66, B v_90.Gone)] (sb 66 (bt h_98) (qn 6 [(1, 1, 0, 1)] f0 [(72, B (!(v_90.Value == 0)))] (sb 72 (nt h_99) (qn 3 [] f0 [(75, B (decide (v_87 > 0)))] (sb 75 (bt h_100) (fx inf24 (gd' (RowC p_0.Tx.Writes_A p_0.Tx.Writes_c KWrite.cells tr p_0.Tx.Writes) 3) hy_101 fun b_102 o_103 hi_101 => qa [(1, 1, 1, 0), (2, 1, 5, 3), (2, 0, 0, 0), (1, 1, 0, 0)] (fc (hi_101 .i64) f0) [(88, B (decide (v_90.Key ≤ v_101.Key)))] (tN (fun _ _ S k e => ⟨decide (v_90.Key ≤ v_101.Key), S, k.wk, e.sel [3, 4, 5], oi hG⟩)))))))))))))))))
          ·exact qb (qn 2 [(1, 1, 0, 0)] f0 [(54, I v_90.Key)] (qc 55 (z_commit_between F v_90.Key 1 1000 _ hy_94) hT trivial (qn 2 [] f0 [(57, B (!v_94))] (sb 57 (nt h_95) (qn 2 [(1, 1, 0, 1)] f0 [(59, I v_90.Value)] (qc 60 (z_commit_between F v_90.Value 0 1000000 _ hy_96) hT trivial (qn 3 [] f0 [(63, B (!v_96))] (sb 63 (nt h_97) (qn 3 [(1, 1, 0, 2)] f0 [(66, B v_90.Gone)] (sb 66 (bt h_98) (qn 6 [(1, 1, 0, 1)] f0 [(72, B (!(v_90.Value == 0)))] (sb 72 (nt h_99) (qn 3 [] f0 [(75, B (decide (v_87 > 0)))] (sb 75 (bf h_100) (qa [] f0 [(88, B false)] (tN (fun _ _ S k e => ⟨false, S, k.wk, e.sel [2, 3, 4], oi hG⟩)))))))))))))))))
         ·exact qb (qn 2 [(1, 1, 0, 0)] f0 [(54, I v_90.Key)] (qc 55 (z_commit_between F v_90.Key 1 1000 _ hy_94) hT trivial (qn 2 [] f0 [(57, B (!v_94))] (sb 57 (nt h_95) (qn 2 [(1, 1, 0, 1)] f0 [(59, I v_90.Value)] (qc 60 (z_commit_between F v_90.Value 0 1000000 _ hy_96) hT trivial (qn 3 [] f0 [(63, B (!v_96))] (sb 63 (nt h_97) (qn 3 [(1, 1, 0, 2)] f0 [(66, B v_90.Gone)] (sb 66 (bt h_98) (qn 6 [(1, 1, 0, 1)] f0 [(72, B (!(v_90.Value == 0)))] (sb 72 (nf h_99) (qa [] f0 [(88, B true)] (tN (fun _ _ S k e => ⟨true, S, k.wk, e.sel [2, 3, 4], oi hG⟩)))))))))))))))
        ·rcases ic hG with ⟨h_104, hG⟩ | ⟨h_104, hG⟩
         ·obtain ⟨v_105, hy_105, hG⟩ := bs hG; exact qb (qn 2 [(1, 1, 0, 0)] f0 [(54, I v_90.Key)] (qc 55 (z_commit_between F v_90.Key 1 1000 _ hy_94) hT trivial (qn 2 [] f0 [(57, B (!v_94))] (sb 57 (nt h_95) (qn 2 [(1, 1, 0, 1)] f0 [(59, I v_90.Value)] (qc 60 (z_commit_between F v_90.Value 0 1000000 _ hy_96) hT trivial (qn 3 [] f0 [(63, B (!v_96))] (sb 63 (nt h_97) (qn 3 [(1, 1, 0, 2)] f0 [(66, B v_90.Gone)] (sb 66 (bf h_98) (qn 9 [] f0 [(72, B false), (75, B (decide (v_87 > 0)))] (sb 75 (bt h_104) (fx inf24 (gd' (RowC p_0.Tx.Writes_A p_0.Tx.Writes_c KWrite.cells tr p_0.Tx.Writes) 3) hy_105 fun b_106 o_107 hi_105 => qa [(1, 1, 1, 0), (2, 1, 5, 3), (2, 0, 0, 0), (1, 1, 0, 0)] (fc (hi_105 .i64) f0) [(88, B (decide (v_90.Key ≤ v_105.Key)))] (tN (fun _ _ S k e => ⟨decide (v_90.Key ≤ v_105.Key), S, k.wk, e.sel [3, 4, 5], oi hG⟩)))))))))))))))
         ·exact qb (qn 2 [(1, 1, 0, 0)] f0 [(54, I v_90.Key)] (qc 55 (z_commit_between F v_90.Key 1 1000 _ hy_94) hT trivial (qn 2 [] f0 [(57, B (!v_94))] (sb 57 (nt h_95) (qn 2 [(1, 1, 0, 1)] f0 [(59, I v_90.Value)] (qc 60 (z_commit_between F v_90.Value 0 1000000 _ hy_96) hT trivial (qn 3 [] f0 [(63, B (!v_96))] (sb 63 (nt h_97) (qn 3 [(1, 1, 0, 2)] f0 [(66, B v_90.Gone)] (sb 66 (bf h_98) (qn 9 [] f0 [(72, B false), (75, B (decide (v_87 > 0)))] (sb 75 (bf h_104) (qa [] f0 [(88, B false)] (tN (fun _ _ S k e => ⟨false, S, k.wk, e.sel [2, 3, 4], oi hG⟩)))))))))))))))
       ·exact qb (qn 2 [(1, 1, 0, 0)] f0 [(54, I v_90.Key)] (qc 55 (z_commit_between F v_90.Key 1 1000 _ hy_94) hT trivial (qn 2 [] f0 [(57, B (!v_94))] (sb 57 (nt h_95) (qn 2 [(1, 1, 0, 1)] f0 [(59, I v_90.Value)] (qc 60 (z_commit_between F v_90.Value 0 1000000 _ hy_96) hT trivial (qn 3 [] f0 [(63, B (!v_96))] (sb 63 (nf h_97) (qa [] f0 [(88, B true)] (tN (fun _ _ S k e => ⟨true, S, k.wk, e.sel [2, 3, 4], oi hG⟩)))))))))))
      ·exact qb (qn 2 [(1, 1, 0, 0)] f0 [(54, I v_90.Key)] (qc 55 (z_commit_between F v_90.Key 1 1000 _ hy_94) hT trivial (qn 2 [] f0 [(57, B (!v_94))] (sb 57 (nf h_95) (qa [] f0 [(88, B true)] (tN (fun _ _ S k e => ⟨true, S, k.wk, e.sel [2, 3, 4], oi hG⟩)))))))
     ·rintro a w ⟨v_109, hJ⟩; refine hJ.go fun ho_ => ?_
      clear hJ; subst ho_; replace hG := hG_108; rcases ic hG with ⟨h_110, hG⟩ | ⟨h_110, hG⟩
      ·refine sb 88 (bt h_110) (ct (sq (rg (ra [] f0 [(2, B false)] (tN (kR (hR (tR (tR ?_))))))))); have he_ := hO2_88 _ (oi hG).symm; subst he_; replace hG := hG_88; refine hR (tR ?_); obtain rfl := oi hG; replace hG := hG_111; obtain rfl := oi hG; exact rt []
      ·exact sb 88 (bf h_110) (cf (kS (hN (tN (rg (ra [] f0 [(48, I (IntKind.i64.wrap (v_87 + 1)))] (tN (fun a w S hK hE => ⟨m_88, ⟨IntKind.i64.wrap (v_87 + 1), S, hK.wk, hE.sel [0, 1, 2], hO1_88 _ (oi hG).symm⟩, Nat.lt_succ_self _⟩))))))))
    ·try simp only [List.length_map, KLeaderL.n_Open] at h_89
     refine sb 49 (bf h_89) (cf (kX (tX (tX ?_)))); have he_ := hO2_88 _ (oi hG).symm; subst he_; replace hG := hG_88; exact hH (tN (fun _ _ S k e => ⟨S, k.wk, e.sel [0, 1, 2], oi hG⟩))
  ·rintro a w hJ; refine hJ.go fun ho_ => ?_
   clear hJ; subst ho_; replace hG := el hG_111; obtain ⟨o_117, hG, hG_117⟩ := bs hG; refine jn (fun K E a w => ∃ v_118 : Bool, Js S0 w0 114 ([(2, B v_118)] ++ K) (se E []) (v_118 = o_117) a w) ?_ ?_
   ·obtain ⟨v_112, hy_112, hG⟩ := bs hG; rcases ic hG with ⟨h_113, hG⟩ | ⟨h_113, hG⟩
    ·obtain ⟨v_114, hy_114, hG⟩ := bs hG; rcases ic hG with ⟨h_115, hG⟩ | ⟨h_115, hG⟩
     ·rcases ic hG with ⟨h_116, hG⟩ | ⟨h_116, hG⟩
      ·refine rg (rn 3 [(2, 1, 2, 0)] f0 [(92, I p_0.Tx.ID)] (l1 (cl 93 (z_commit_between F p_0.Tx.ID 1 1000000 _ hy_112) hT trivial (rn 1 [] f0 [(94, B v_112)] (sb 94 (bt h_113) (rn 3 [(2, 1, 2, 1)] f0 [(97, I p_0.Tx.Ts)] (l1 (cl 98 (z_commit_between F p_0.Tx.Ts 0 3000000000000000 _ hy_114) hT trivial (rn 2 [] f0 [(100, B v_114)] (sb 100 (bt h_115) (rn 7 [(2, 1, 2, 2)] f0 [(107, B (decide (((p_0.Tx.Reads.length : Nat) : Int) ≤ 8)))] ?_)))))))))))
       try simp only [List.length_map, KLeaderL.n_Open] at h_116
       exact sb 107 (bt h_116) (ra [(2, 1, 2, 3)] f0 [(2, B (decide (((p_0.Tx.Writes.length : Nat) : Int) ≤ 8)))] (tN (fun _ _ S k e => ⟨decide (((p_0.Tx.Writes.length : Nat) : Int) ≤ 8), S, k.wk, e.sel [], oi hG⟩)))
      ·refine rg (rn 3 [(2, 1, 2, 0)] f0 [(92, I p_0.Tx.ID)] (l1 (cl 93 (z_commit_between F p_0.Tx.ID 1 1000000 _ hy_112) hT trivial (rn 1 [] f0 [(94, B v_112)] (sb 94 (bt h_113) (rn 3 [(2, 1, 2, 1)] f0 [(97, I p_0.Tx.Ts)] (l1 (cl 98 (z_commit_between F p_0.Tx.Ts 0 3000000000000000 _ hy_114) hT trivial (rn 2 [] f0 [(100, B v_114)] (sb 100 (bt h_115) (rn 7 [(2, 1, 2, 2)] f0 [(107, B (decide (((p_0.Tx.Reads.length : Nat) : Int) ≤ 8)))] ?_)))))))))))
       try simp only [List.length_map, KLeaderL.n_Open] at h_116
       exact sb 107 (bf h_116) (ra [] f0 [(2, B false)] (tN (fun _ _ S k e => ⟨false, S, k.wk, e.sel [], oi hG⟩)))
     ·exact rg (rn 3 [(2, 1, 2, 0)] f0 [(92, I p_0.Tx.ID)] (l1 (cl 93 (z_commit_between F p_0.Tx.ID 1 1000000 _ hy_112) hT trivial (rn 1 [] f0 [(94, B v_112)] (sb 94 (bt h_113) (rn 3 [(2, 1, 2, 1)] f0 [(97, I p_0.Tx.Ts)] (l1 (cl 98 (z_commit_between F p_0.Tx.Ts 0 3000000000000000 _ hy_114) hT trivial (rn 2 [] f0 [(100, B v_114)] (sb 100 (bf h_115) (ra [] f0 [(2, B false)] (tN (fun _ _ S k e => ⟨false, S, k.wk, e.sel [], oi hG⟩)))))))))))))
    ·exact rg (rn 3 [(2, 1, 2, 0)] f0 [(92, I p_0.Tx.ID)] (l1 (cl 93 (z_commit_between F p_0.Tx.ID 1 1000000 _ hy_112) hT trivial (rn 1 [] f0 [(94, B v_112)] (sb 94 (bf h_113) (ra [] f0 [(2, B false)] (tN (fun _ _ S k e => ⟨false, S, k.wk, e.sel [], oi hG⟩))))))))
   ·rintro a w ⟨v_118, hJ⟩; refine hJ.go fun ho_ => ?_
    clear hJ; subst ho_; replace hG := hG_117; refine kR ?_; obtain rfl := oi hG; exact rt []
def G_cmp_Compare_int (F : Nat) (p_0 : Int) (p_1 : Int) : Option (Int) :=
 Option.bind (G_cmp_isNaN_int F p_0) (fun v_1 =>
 Option.bind (G_cmp_isNaN_int F p_1) (fun v_2 =>
 ifB (v_1)
  (ifB (v_2)
   (some 0)
   (some (-1)))
  (ifB (v_2)
   (some 1)
   (ifB (decide (p_0 < p_1))
    (some (-1))
    (ifB (decide (p_0 > p_1))
     (some 1)
     (some 0))))))
set_option maxRecDepth 100000 in
set_option maxHeartbeats 16000000 in
theorem z_cmp_Compare_int (F : Nat) (p_0 : Int) (p_1 : Int) (r : Int) (hG : G_cmp_Compare_int F p_0 p_1 = some r) :
  Cf Try.prog 100 [I p_0, I p_1] [] (I r) := by
 unfold G_cmp_Compare_int at hG; refine fi Try.func100 rfl rfl m0 fun S0 w0 hT => sq (rg (ra [] f0 [] (tN (sq ?_))))
 obtain ⟨v_1, hy_1, hG⟩ := bs hG; refine rg (rn 1 [] f0 [(7, I p_0)] (l1 (cl 8 (z_cmp_isNaN_int F p_0 _ hy_1) hT trivial (ra [] f0 [(5, B v_1)] (tN (sq ?_)))))); obtain ⟨v_2, hy_2, hG⟩ := bs hG; refine rg (rn 1 [] f0 [(9, I p_1)] (l1 (cl 10 (z_cmp_isNaN_int F p_1 _ hy_2) hT trivial (ra [] f0 [(6, B v_2)] (tN (sq (sq (rg (ra [] f0 [(11, B v_1)] (tN ?_)))))))))); rcases ic hG with ⟨h_3, hG⟩ | ⟨h_3, hG⟩
 ·refine sb 11 (bt h_3) (ct (sq (sq (rg (ra [] f0 [(12, B v_2)] (tN ?_)))))); rcases ic hG with ⟨h_4, hG⟩ | ⟨h_4, hG⟩
  ·refine sb 12 (bt h_4) (ct (sq (rg (ra [] f0 [(4, I 0)] (tN (kR (tR (tR ?_)))))))); obtain rfl := oi hG; exact rt []
  ·refine sb 12 (bf h_4) (cf (kS (tN (sq (rg (ra [] f0 [(4, I (-1))] (tN (kR (tR ?_))))))))); obtain rfl := oi hG; exact rt []
 ·refine sb 11 (bf h_3) (cf (kS (tN (sq (sq (rg (ra [] f0 [(13, B v_2)] (tN ?_)))))))); rcases ic hG with ⟨h_5, hG⟩ | ⟨h_5, hG⟩
  ·refine sb 13 (bt h_5) (ct (sq (rg (ra [] f0 [(4, I 1)] (tN (kR (tR ?_))))))); obtain rfl := oi hG; exact rt []
  ·refine sb 13 (bf h_5) (cf (kS (tN (sq (sq (rg (ra [] f0 [(16, B (decide (p_0 < p_1)))] (tN ?_)))))))); rcases ic hG with ⟨h_6, hG⟩ | ⟨h_6, hG⟩
   ·refine sb 16 (bt h_6) (ct (sq (rg (ra [] f0 [(4, I (-1))] (tN (kR (tR ?_))))))); obtain rfl := oi hG; exact rt []
   ·refine sb 16 (bf h_6) (cf (kS (tN (sq (sq (rg (ra [] f0 [(19, B (decide (p_0 > p_1)))] (tN ?_)))))))); rcases ic hG with ⟨h_7, hG⟩ | ⟨h_7, hG⟩
    ·refine sb 19 (bt h_7) (ct (sq (rg (ra [] f0 [(4, I 1)] (tN (kR (tR ?_))))))); obtain rfl := oi hG; exact rt []
    ·refine sb 19 (bf h_7) (cf (kS (tN (sq (rg (ra [] f0 [(4, I 0)] (tN (kR ?_)))))))); obtain rfl := oi hG; exact rt []
def G_versions_isKey (F : Nat) (p_0 : Int) : Option (Bool) :=
 Option.bind (G_versions_within F p_0 1 1000) (fun v_1 =>
 some v_1)
set_option maxRecDepth 100000 in
set_option maxHeartbeats 16000000 in
theorem z_versions_isKey (F : Nat) (p_0 : Int) (r : Bool) (hG : G_versions_isKey F p_0 = some r) :
  Cf Try.prog 56 [I p_0] [] (B r) := by
 unfold G_versions_isKey at hG; refine fi Try.func56 rfl rfl m0 fun S0 w0 hT => sq (rg (ra [] f0 [] (tN (sq ?_))))
 obtain ⟨v_1, hy_1, hG⟩ := bs hG; refine rg (rn 1 [] f0 [(3, I p_0)] (l1 (cl 4 (z_versions_within F p_0 1 1000 _ hy_1) hT trivial (ra [] f0 [(2, B v_1)] (tN (kR ?_)))))); obtain rfl := oi hG; exact rt []
def G_versions_isStamp (F : Nat) (p_0 : Int) : Option (Bool) :=
 Option.bind (G_versions_within F p_0 1 3000000000000000) (fun v_1 =>
 some v_1)
set_option maxRecDepth 100000 in
set_option maxHeartbeats 16000000 in
theorem z_versions_isStamp (F : Nat) (p_0 : Int) (r : Bool) (hG : G_versions_isStamp F p_0 = some r) :
  Cf Try.prog 57 [I p_0] [] (B r) := by
 unfold G_versions_isStamp at hG; refine fi Try.func57 rfl rfl m0 fun S0 w0 hT => sq (rg (ra [] f0 [] (tN (sq ?_))))
 obtain ⟨v_1, hy_1, hG⟩ := bs hG; refine rg (rn 1 [] f0 [(3, I p_0)] (l1 (cl 4 (z_versions_within F p_0 1 3000000000000000 _ hy_1) hT trivial (ra [] f0 [(2, B v_1)] (tN (kR ?_)))))); obtain rfl := oi hG; exact rt []
def G_regulatorref34_SameTxs (F : Nat) (p_0 : List KTx) (p_1 : List KTx) : Option (Bool) :=
  ifB ((((p_0.length : Nat) : Int) == ((p_1.length : Nat) : Int)))
    (Option.bind (Option.bind (iter (σ := Int) (ρ := Unit ⊕ Unit) (fun (v_21 : Int) => 
          (ifB (decide (v_21 < ((p_0.length : Nat) : Int)))
            (Option.bind (ixI p_0 v_21) (fun v_24 =>
            Option.bind (ixI p_1 v_21) (fun v_27 =>
            Option.bind (G_regulatorref34_SameTx F v_24 v_27) (fun v_30 =>
            ifB (v_30)
              (some (.inl (IntKind.i64.wrap (v_21 + 1))))
              (some (.inr (.inr ())))))))
            (some (.inr (.inl ()))) : Option (Int ⊕ (Unit ⊕ Unit)))) F 0) (Sum.elim (fun (_ : Unit) => 
        some (.inl ())) (fun (_ : Unit) => 
        some (.inr ()))) : Option (Unit ⊕ Unit)) (Sum.elim (fun (_ : Unit) => 
      some true) (fun (_ : Unit) => 
      some false)))
    (some false)
set_option maxRecDepth 100000 in
set_option maxHeartbeats 16000000 in
theorem z_regulatorref34_SameTxs (F : Nat) (p_0_A : Option Addr) (p_0_c : Nat) (p_0 : List KTxL) (p_1_A : Option Addr) (p_1_c : Nat) (p_1 : List KTxL) (r : Bool) (hG : G_regulatorref34_SameTxs F (p_0.map KTxL.p) (p_1.map KTxL.p) = some r) :
  Cf Try.prog 16 [.slice p_0_A p_0.length p_0_c, .slice p_1_A p_1.length p_1_c] [RowC p_0_A p_0_c KTxL.cells KTxL.ok p_0, RowC p_1_A p_1_c KTxL.cells KTxL.ok p_1] (B r) := by
 unfold G_regulatorref34_SameTxs at hG
 try simp only [List.length_map, KLeaderL.n_Open] at hG
 refine fi Try.func16 rfl rfl (mr KTxL.mv (mr KTxL.mv m0)) fun S0 w0 hT => sq (rg (ra [] f0 [] (tN (sq (sq (rg (ra [] f0 [(10, B (!(((p_0.length : Nat) : Int) == ((p_1.length : Nat) : Int))))] (tN ?_))))))))
 rcases ic hG with ⟨h_1, hG⟩ | ⟨h_1, hG⟩
 ·try simp only [List.length_map, KLeaderL.n_Open] at h_1
  refine sb 10 (nt h_1) (cf (kS (tN ?_))); obtain ⟨o_32, hG, hG_32⟩ := bs hG; refine jn (fun K E a w => Js S0 w0 27 (K) (se E []) (.inl () = o_32) a w) ?_ ?_
  ·refine sq (rg (ra [] f0 [(5, I 0)] (tN (bk ?_)))); obtain ⟨e_22, hL, hG_22⟩ := bs hG; clear hG; obtain ⟨stp_22, hs_22, hL⟩ := iter_gen hL; refine lp (fun K E n_ a w => ∃ v_21 : Int, Js S0 w0 27 ([(5, I v_21)] ++ K) (se E [0, 1]) (iter stp_22 n_ v_21 = some e_22) a w) F ?_ ?_
   ·exact fun _ _ S k e => ⟨0, S, k.wk, e.sel [0, 1], hL⟩
   ·clear hL; rintro n_22 a w ⟨v_21, hJ⟩; refine hJ.go fun hL => ?_
    clear hJ; obtain ⟨m_22, o_22, rfl, hG, hO1_22, hO2_22⟩ := iter_step hL; clear hL; rw [hs_22] at hG; refine sq (sq (rg (ra [] f0 [(14, B (decide (v_21 < ((p_0.length : Nat) : Int))))] (tN ?_)))); rcases ic hG with ⟨h_23, hG⟩ | ⟨h_23, hG⟩
    ·try simp only [List.length_map, KLeaderL.n_Open] at h_23
     refine sb 14 (bt h_23) (ct (kS (tN (sq (bk (sq ?_)))))); obtain ⟨v_24o, hy_24, hG⟩ := bs hG; replace hG := bs hG; obtain ⟨v_27o, hy_27, hG⟩ := hG; replace hG := bs hG; obtain ⟨v_30, hy_30, hG⟩ := hG; refine qb (fxn (p := KTxL.p) inf30 (gd' (RowC p_0_A p_0_c KTxL.cells KTxL.ok p_0) 0) hy_24 fun v_24 b_25 o_26 he_24 hi_24 => ?_); subst he_24
     try simp only [List.length_map, KLeaderL.n_Open] at hG
     refine fxn (p := KTxL.p) inf30 (gd' (RowC p_1_A p_1_c KTxL.cells KTxL.ok p_1) 3) hy_27 fun v_27 b_28 o_29 he_27 hi_27 => ?_
     subst he_27
     try simp only [List.length_map, KLeaderL.n_Open] at hG
     refine qn 8 [(2, 0, 0, 0), (0, 4, 2, 0), (2, 0, 0, 0), (0, 4, 0, 0)] (fc (hi_24 .i64) (fc (hi_27 .i64) f0)) [(20, .agg #[I v_24.ID, I v_24.Ts, .slice v_24.Reads_A v_24.Reads.length v_24.Reads_c, .slice v_24.Writes_A v_24.Writes.length v_24.Writes_c]), (24, .agg #[I v_27.ID, I v_27.Ts, .slice v_27.Reads_A v_27.Reads.length v_27.Reads_c, .slice v_27.Writes_A v_27.Writes.length v_27.Writes_c])] (qc 25 (z_regulatorref34_SameTx F v_24 v_27 _ hy_30) hT ⟨(gi 3).a, (gi 1).a, trivial⟩ (qa [] f0 [(26, B (!v_30))] (tN ?_))); rcases ic hG with ⟨h_31, hG⟩ | ⟨h_31, hG⟩
     ·exact sb 26 (nt h_31) (cf (kS (hN (tN (rg (ra [] f0 [(5, I (IntKind.i64.wrap (v_21 + 1)))] (tN (fun a w S hK hE => ⟨m_22, ⟨IntKind.i64.wrap (v_21 + 1), S, hK.wk, hE.sel [4, 5], hO1_22 _ (oi hG).symm⟩, Nat.lt_succ_self _⟩))))))))
     ·refine sb 26 (nf h_31) (ct (sq (rg (ra [] f0 [(4, B false)] (tN (kR (hR (tR (tR ?_))))))))); have he_ := hO2_22 _ (oi hG).symm; subst he_; replace hG := hG_22; refine hR (tR ?_); obtain rfl := oi hG; replace hG := hG_32; obtain rfl := oi hG; exact rt []
    ·try simp only [List.length_map, KLeaderL.n_Open] at h_23
     refine sb 14 (bf h_23) (cf (kX (tX (tX ?_)))); have he_ := hO2_22 _ (oi hG).symm; subst he_; replace hG := hG_22; exact hH (tN (fun _ _ S k e => ⟨S, k.wk, e.sel [], oi hG⟩))
  ·rintro a w hJ; refine hJ.go fun ho_ => ?_
   clear hJ; subst ho_; replace hG := el hG_32; refine sq (rg (ra [] f0 [(4, B true)] (tN (kR ?_)))); obtain rfl := oi hG; exact rt []
 ·try simp only [List.length_map, KLeaderL.n_Open] at h_1
  refine sb 10 (nf h_1) (ct (sq (rg (ra [] f0 [(4, B false)] (tN (kR (tR ?_))))))); obtain rfl := oi hG; exact rt []
def G_regulatorref34_reads (F : Nat) (p_0 : List KSeen) : Option (Bool) :=
  Option.bind (Option.bind (iter (σ := Int) (ρ := Unit ⊕ Unit) (fun (v_49 : Int) => 
        (ifB (decide (v_49 < ((p_0.length : Nat) : Int)))
          (Option.bind (ixI p_0 v_49) (fun v_52 =>
          Option.bind (G_regulatorref33_Key F v_52.Key) (fun v_55 =>
          Option.bind (ifB (v_55)
              (ifB (decide (v_49 > 0))
                (Option.bind (ixI p_0 v_49) (fun v_58 =>
                Option.bind (ixI p_0 (IntKind.i64.wrap (v_49 - 1))) (fun v_61 =>
                ifB (decide (v_58.Key ≤ v_61.Key))
                  (some true)
                  (Option.bind (ixI p_0 v_49) (fun v_65 =>
                  ifB (decide (v_65.Ts < 0))
                    (some true)
                    (Option.bind (ixI p_0 v_49) (fun v_69 =>
                    some (decide (v_69.Ts > 3000000000000000)))))))))
                (Option.bind (ixI p_0 v_49) (fun v_72 =>
                ifB (decide (v_72.Ts < 0))
                  (some true)
                  (Option.bind (ixI p_0 v_49) (fun v_76 =>
                  some (decide (v_76.Ts > 3000000000000000)))))))
              (some true) : Option (Bool)) (fun (v_80 : Bool) => 
            ifB (v_80)
              (some (.inr (.inr ())))
              (some (.inl (IntKind.i64.wrap (v_49 + 1))))))))
          (some (.inr (.inl ()))) : Option (Int ⊕ (Unit ⊕ Unit)))) F 0) (Sum.elim (fun (_ : Unit) => 
      some (.inl ())) (fun (_ : Unit) => 
      some (.inr ()))) : Option (Unit ⊕ Unit)) (Sum.elim (fun (_ : Unit) => 
    some (decide (((p_0.length : Nat) : Int) ≤ 8))) (fun (_ : Unit) => 
    some false))
set_option maxRecDepth 100000 in
set_option maxHeartbeats 16000000 in
theorem z_regulatorref34_reads (F : Nat) (p_0_A : Option Addr) (p_0_c : Nat) (p_0 : List KSeen) (r : Bool) (hG : G_regulatorref34_reads F p_0 = some r) :
  Cf Try.prog 54 [.slice p_0_A p_0.length p_0_c] [RowC p_0_A p_0_c KSeen.cells tr p_0] (B r) := by
 unfold G_regulatorref34_reads at hG
 try simp only [List.length_map, KLeaderL.n_Open] at hG
 refine fi Try.func54 rfl rfl (mr tr_mv m0) fun S0 w0 hT => sq (rg (ra [] f0 [] (tN ?_)))
 obtain ⟨o_82, hG, hG_82⟩ := bs hG; refine jn (fun K E a w => Js S0 w0 56 (K) (se E [0]) (.inl () = o_82) a w) ?_ ?_
 ·refine sq (rg (ra [] f0 [(3, I 0)] (tN (bk ?_)))); obtain ⟨e_50, hL, hG_50⟩ := bs hG; clear hG; obtain ⟨stp_50, hs_50, hL⟩ := iter_gen hL; refine lp (fun K E n_ a w => ∃ v_49 : Int, Js S0 w0 56 ([(3, I v_49)] ++ K) (se E [0]) (iter stp_50 n_ v_49 = some e_50) a w) F ?_ ?_
  ·exact fun _ _ S k e => ⟨0, S, k.wk, e.sel [0], hL⟩
  ·clear hL; rintro n_50 a w ⟨v_49, hJ⟩; refine hJ.go fun hL => ?_
   clear hJ; obtain ⟨m_50, o_50, rfl, hG, hO1_50, hO2_50⟩ := iter_step hL; clear hL; rw [hs_50] at hG; refine sq (sq (rg (ra [] f0 [(8, B (decide (v_49 < ((p_0.length : Nat) : Int))))] (tN ?_)))); rcases ic hG with ⟨h_51, hG⟩ | ⟨h_51, hG⟩
   ·try simp only [List.length_map, KLeaderL.n_Open] at h_51
    refine sb 8 (bt h_51) (ct (kS (tN (sq (bk (sq ?_)))))); obtain ⟨v_52, hy_52, hG⟩ := bs hG; obtain ⟨v_55, hy_55, hG⟩ := bs hG; refine rg (fx inf23 (gd' (RowC p_0_A p_0_c KSeen.cells tr p_0) 0) hy_52 fun b_53 o_54 hi_52 => rn 5 [(2, 0, 0, 0), (1, 1, 0, 0)] (fc (hi_52 .i64) f0) [(15, I v_52.Key)] (l1 (cl 16 (z_regulatorref33_Key F v_52.Key _ hy_55) hT trivial (ra [] f0 [(4, B v_55)] (tN ?_))))); obtain ⟨o_79, hG, hG_79⟩ := bs hG; refine jn (fun K E a w => ∃ v_80 : Bool, Js S0 w0 56 ([(52, B v_80)] ++ K) (se E [1]) (v_80 = o_79) a w) ?_ ?_
    ·rcases ic hG with ⟨h_56, hG⟩ | ⟨h_56, hG⟩
     ·rcases ic hG with ⟨h_57, hG⟩ | ⟨h_57, hG⟩
      ·obtain ⟨v_58, hy_58, hG⟩ := bs hG; obtain ⟨v_61, hy_61, hG⟩ := bs hG; rcases ic hG with ⟨h_64, hG⟩ | ⟨h_64, hG⟩
       ·exact qb (qn 3 [] f0 [(19, B (!v_55))] (sb 19 (nt h_56) (qn 3 [] f0 [(22, B (decide (v_49 > 0)))] (sb 22 (bt h_57) (fx inf23 (gd' (RowC p_0_A p_0_c KSeen.cells tr p_0) 1) hy_58 fun b_59 o_60 hi_58 => fx inf23 (gd' (RowC p_0_A p_0_c KSeen.cells tr p_0) 2) hy_61 fun b_62 o_63 hi_61 => qn 15 [(2, 0, 0, 0), (1, 1, 1, 0), (3, 0, 0, 0), (1, 1, 0, 0)] (fc (hi_58 .i64) (fc (hi_61 .i64) f0)) [(37, B (decide (v_58.Key ≤ v_61.Key)))] (sb 37 (bt h_64) (qa [] f0 [(52, B true)] (tN (fun _ _ S k e => ⟨true, S, k.wk, e.sel [3], oi hG⟩)))))))))
       ·obtain ⟨v_65, hy_65, hG⟩ := bs hG; rcases ic hG with ⟨h_68, hG⟩ | ⟨h_68, hG⟩
        ·exact qb (qn 3 [] f0 [(19, B (!v_55))] (sb 19 (nt h_56) (qn 3 [] f0 [(22, B (decide (v_49 > 0)))] (sb 22 (bt h_57) (fx inf23 (gd' (RowC p_0_A p_0_c KSeen.cells tr p_0) 1) hy_58 fun b_59 o_60 hi_58 => fx inf23 (gd' (RowC p_0_A p_0_c KSeen.cells tr p_0) 2) hy_61 fun b_62 o_63 hi_61 => qn 15 [(2, 0, 0, 0), (1, 1, 1, 0), (3, 0, 0, 0), (1, 1, 0, 0)] (fc (hi_58 .i64) (fc (hi_61 .i64) f0)) [(37, B (decide (v_58.Key ≤ v_61.Key)))] (sb 37 (bf h_64) (fx inf23 (gd' (RowC p_0_A p_0_c KSeen.cells tr p_0) 3) hy_65 fun b_66 o_67 hi_65 => qn 8 [(2, 0, 0, 0), (1, 1, 0, 1)] (fc (hi_65 .i64) f0) [(45, B (decide (v_65.Ts < 0)))] (sb 45 (bt h_68) (qa [] f0 [(52, B true)] (tN (fun _ _ S k e => ⟨true, S, k.wk, e.sel [4], oi hG⟩)))))))))))
        ·obtain ⟨v_69, hy_69, hG⟩ := bs hG; exact qb (qn 3 [] f0 [(19, B (!v_55))] (sb 19 (nt h_56) (qn 3 [] f0 [(22, B (decide (v_49 > 0)))] (sb 22 (bt h_57) (fx inf23 (gd' (RowC p_0_A p_0_c KSeen.cells tr p_0) 1) hy_58 fun b_59 o_60 hi_58 => fx inf23 (gd' (RowC p_0_A p_0_c KSeen.cells tr p_0) 2) hy_61 fun b_62 o_63 hi_61 => qn 15 [(2, 0, 0, 0), (1, 1, 1, 0), (3, 0, 0, 0), (1, 1, 0, 0)] (fc (hi_58 .i64) (fc (hi_61 .i64) f0)) [(37, B (decide (v_58.Key ≤ v_61.Key)))] (sb 37 (bf h_64) (fx inf23 (gd' (RowC p_0_A p_0_c KSeen.cells tr p_0) 3) hy_65 fun b_66 o_67 hi_65 => qn 8 [(2, 0, 0, 0), (1, 1, 0, 1)] (fc (hi_65 .i64) f0) [(45, B (decide (v_65.Ts < 0)))] (sb 45 (bf h_68) (fx inf23 (gd' (RowC p_0_A p_0_c KSeen.cells tr p_0) 4) hy_69 fun b_70 o_71 hi_69 => qa [(2, 0, 0, 0), (1, 1, 0, 1)] (fc (hi_69 .i64) f0) [(52, B (decide (v_69.Ts > 3000000000000000)))] (tN (fun _ _ S k e => ⟨decide (v_69.Ts > 3000000000000000), S, k.wk, e.sel [5], oi hG⟩)))))))))))
      ·obtain ⟨v_72, hy_72, hG⟩ := bs hG; rcases ic hG with ⟨h_75, hG⟩ | ⟨h_75, hG⟩
       ·exact qb (qn 3 [] f0 [(19, B (!v_55))] (sb 19 (nt h_56) (qn 3 [] f0 [(22, B (decide (v_49 > 0)))] (sb 22 (bf h_57) (fx inf23 (gd' (RowC p_0_A p_0_c KSeen.cells tr p_0) 1) hy_72 fun b_73 o_74 hi_72 => qn 23 [(17, 0, 0, 0), (1, 1, 0, 1)] (fc (hi_72 .i64) f0) [(45, B (decide (v_72.Ts < 0)))] (sb 45 (bt h_75) (qa [] f0 [(52, B true)] (tN (fun _ _ S k e => ⟨true, S, k.wk, e.sel [2], oi hG⟩)))))))))
       ·obtain ⟨v_76, hy_76, hG⟩ := bs hG; exact qb (qn 3 [] f0 [(19, B (!v_55))] (sb 19 (nt h_56) (qn 3 [] f0 [(22, B (decide (v_49 > 0)))] (sb 22 (bf h_57) (fx inf23 (gd' (RowC p_0_A p_0_c KSeen.cells tr p_0) 1) hy_72 fun b_73 o_74 hi_72 => qn 23 [(17, 0, 0, 0), (1, 1, 0, 1)] (fc (hi_72 .i64) f0) [(45, B (decide (v_72.Ts < 0)))] (sb 45 (bf h_75) (fx inf23 (gd' (RowC p_0_A p_0_c KSeen.cells tr p_0) 2) hy_76 fun b_77 o_78 hi_76 => qa [(2, 0, 0, 0), (1, 1, 0, 1)] (fc (hi_76 .i64) f0) [(52, B (decide (v_76.Ts > 3000000000000000)))] (tN (fun _ _ S k e => ⟨decide (v_76.Ts > 3000000000000000), S, k.wk, e.sel [3], oi hG⟩)))))))))
     ·exact qb (qn 3 [] f0 [(19, B (!v_55))] (sb 19 (nf h_56) (qa [] f0 [(52, B true)] (tN (fun _ _ S k e => ⟨true, S, k.wk, e.sel [1], oi hG⟩)))))
    ·rintro a w ⟨v_80, hJ⟩; refine hJ.go fun ho_ => ?_
     clear hJ; subst ho_; replace hG := hG_79; rcases ic hG with ⟨h_81, hG⟩ | ⟨h_81, hG⟩
     ·refine sb 52 (bt h_81) (ct (sq (rg (ra [] f0 [(2, B false)] (tN (kR (hR (tR (tR ?_))))))))); have he_ := hO2_50 _ (oi hG).symm; subst he_; replace hG := hG_50; refine hR (tR ?_); obtain rfl := oi hG; replace hG := hG_82; obtain rfl := oi hG; exact rt []
     ·exact sb 52 (bf h_81) (cf (kS (hN (tN (rg (ra [] f0 [(3, I (IntKind.i64.wrap (v_49 + 1)))] (tN (fun a w S hK hE => ⟨m_50, ⟨IntKind.i64.wrap (v_49 + 1), S, hK.wk, hE.sel [0], hO1_50 _ (oi hG).symm⟩, Nat.lt_succ_self _⟩))))))))
   ·try simp only [List.length_map, KLeaderL.n_Open] at h_51
    refine sb 8 (bf h_51) (cf (kX (tX (tX ?_)))); have he_ := hO2_50 _ (oi hG).symm; subst he_; replace hG := hG_50; exact hH (tN (fun _ _ S k e => ⟨S, k.wk, e.sel [0], oi hG⟩))
 ·rintro a w hJ; refine hJ.go fun ho_ => ?_
  clear hJ; subst ho_; replace hG := el hG_82; refine sq (rg (ra [] f0 [(2, B (decide (((p_0.length : Nat) : Int) ≤ 8)))] (tN (kR ?_)))); obtain rfl := oi hG; exact rt []
end Go.Proofs.Ytlfkgbideknkhaa
namespace Go.Proofs.Ytlfkgbideknkhaa
open Go.RowKit Go.Maps
def G_regulatorref34_writes (F : Nat) (p_0 : List KWrite) : Option (Bool) :=
  Option.bind (Option.bind (iter (σ := Int) (ρ := Unit ⊕ Unit) (fun (v_73 : Int) => 
        (ifB (decide (v_73 < ((p_0.length : Nat) : Int)))
          (Option.bind (ixI p_0 v_73) (fun v_76 =>
          Option.bind (G_regulatorref33_Key F v_76.Key) (fun v_79 =>
          Option.bind (ifB (v_79)
              (ifB (decide (v_73 > 0))
                (Option.bind (ixI p_0 v_73) (fun v_82 =>
                Option.bind (ixI p_0 (IntKind.i64.wrap (v_73 - 1))) (fun v_85 =>
                ifB (decide (v_82.Key ≤ v_85.Key))
                  (some true)
                  (Option.bind (ixI p_0 v_73) (fun v_89 =>
                  ifB (decide (v_89.Value < 0))
                    (some true)
                    (Option.bind (ixI p_0 v_73) (fun v_93 =>
                    ifB (decide (v_93.Value > 1000000))
                      (some true)
                      (Option.bind (ixI p_0 v_73) (fun v_97 =>
                      ifB (v_97.Gone)
                        (Option.bind (ixI p_0 v_73) (fun v_101 =>
                        some (!(v_101.Value == 0))))
                        (some false))))))))))
                (Option.bind (ixI p_0 v_73) (fun v_104 =>
                ifB (decide (v_104.Value < 0))
                  (some true)
                  (Option.bind (ixI p_0 v_73) (fun v_108 =>
                  ifB (decide (v_108.Value > 1000000))
                    (some true)
                    (Option.bind (ixI p_0 v_73) (fun v_112 =>
                    ifB (v_112.Gone)
                      (Option.bind (ixI p_0 v_73) (fun v_116 =>
                      some (!(v_116.Value == 0))))
                      (some false))))))))
              (some true) : Option (Bool)) (fun (v_120 : Bool) => 
            ifB (v_120)
              (some (.inr (.inr ())))
              (some (.inl (IntKind.i64.wrap (v_73 + 1))))))))
          (some (.inr (.inl ()))) : Option (Int ⊕ (Unit ⊕ Unit)))) F 0) (Sum.elim (fun (_ : Unit) => 
      some (.inl ())) (fun (_ : Unit) => 
      some (.inr ()))) : Option (Unit ⊕ Unit)) (Sum.elim (fun (_ : Unit) => 
    some (decide (((p_0.length : Nat) : Int) ≤ 8))) (fun (_ : Unit) => 
    some false))
set_option maxRecDepth 100000 in
set_option maxHeartbeats 16000000 in
theorem z_regulatorref34_writes (F : Nat) (p_0_A : Option Addr) (p_0_c : Nat) (p_0 : List KWrite) (r : Bool) (hG : G_regulatorref34_writes F p_0 = some r) :
  Cf Try.prog 55 [.slice p_0_A p_0.length p_0_c] [RowC p_0_A p_0_c KWrite.cells tr p_0] (B r) := by
 unfold G_regulatorref34_writes at hG
 try simp only [List.length_map, KLeaderL.n_Open] at hG
 refine fi Try.func55 rfl rfl (mr tr_mv m0) fun S0 w0 hT => sq (rg (ra [] f0 [] (tN ?_)))
 obtain ⟨o_122, hG, hG_122⟩ := bs hG; refine jn (fun K E a w => Js S0 w0 71 (K) (se E [0]) (.inl () = o_122) a w) ?_ ?_
 ·refine sq (rg (ra [] f0 [(3, I 0)] (tN (bk ?_)))); obtain ⟨e_74, hL, hG_74⟩ := bs hG; clear hG; obtain ⟨stp_74, hs_74, hL⟩ := iter_gen hL; refine lp (fun K E n_ a w => ∃ v_73 : Int, Js S0 w0 71 ([(3, I v_73)] ++ K) (se E [0]) (iter stp_74 n_ v_73 = some e_74) a w) F ?_ ?_
  ·exact fun _ _ S k e => ⟨0, S, k.wk, e.sel [0], hL⟩
  ·clear hL; rintro n_74 a w ⟨v_73, hJ⟩; refine hJ.go fun hL => ?_
   clear hJ; obtain ⟨m_74, o_74, rfl, hG, hO1_74, hO2_74⟩ := iter_step hL; clear hL; rw [hs_74] at hG; refine sq (sq (rg (ra [] f0 [(8, B (decide (v_73 < ((p_0.length : Nat) : Int))))] (tN ?_)))); rcases ic hG with ⟨h_75, hG⟩ | ⟨h_75, hG⟩
   ·try simp only [List.length_map, KLeaderL.n_Open] at h_75
    refine sb 8 (bt h_75) (ct (kS (tN (sq (bk (sq ?_)))))); obtain ⟨v_76, hy_76, hG⟩ := bs hG; obtain ⟨v_79, hy_79, hG⟩ := bs hG; refine rg (fx inf24 (gd' (RowC p_0_A p_0_c KWrite.cells tr p_0) 0) hy_76 fun b_77 o_78 hi_76 => rn 5 [(2, 0, 0, 0), (1, 1, 0, 0)] (fc (hi_76 .i64) f0) [(15, I v_76.Key)] (l1 (cl 16 (z_regulatorref33_Key F v_76.Key _ hy_79) hT trivial (ra [] f0 [(4, B v_79)] (tN ?_))))); obtain ⟨o_119, hG, hG_119⟩ := bs hG; refine jn (fun K E a w => ∃ v_120 : Bool, Js S0 w0 71 ([(67, B v_120)] ++ K) (se E [1]) (v_120 = o_119) a w) ?_ ?_
    ·rcases ic hG with ⟨h_80, hG⟩ | ⟨h_80, hG⟩
     ·rcases ic hG with ⟨h_81, hG⟩ | ⟨h_81, hG⟩
      ·obtain ⟨v_82, hy_82, hG⟩ := bs hG; obtain ⟨v_85, hy_85, hG⟩ := bs hG; rcases ic hG with ⟨h_88, hG⟩ | ⟨h_88, hG⟩
       ·exact qb (qn 3 [] f0 [(19, B (!v_79))] (sb 19 (nt h_80) (qn 3 [] f0 [(22, B (decide (v_73 > 0)))] (sb 22 (bt h_81) (fx inf24 (gd' (RowC p_0_A p_0_c KWrite.cells tr p_0) 1) hy_82 fun b_83 o_84 hi_82 => fx inf24 (gd' (RowC p_0_A p_0_c KWrite.cells tr p_0) 2) hy_85 fun b_86 o_87 hi_85 => qn 15 [(2, 0, 0, 0), (1, 1, 1, 0), (3, 0, 0, 0), (1, 1, 0, 0)] (fc (hi_82 .i64) (fc (hi_85 .i64) f0)) [(37, B (decide (v_82.Key ≤ v_85.Key)))] (sb 37 (bt h_88) (qa [] f0 [(67, B true)] (tN (fun _ _ S k e => ⟨true, S, k.wk, e.sel [3], oi hG⟩)))))))))
       ·obtain ⟨v_89, hy_89, hG⟩ := bs hG; rcases ic hG with ⟨h_92, hG⟩ | ⟨h_92, hG⟩
        ·exact qb (qn 3 [] f0 [(19, B (!v_79))] (sb 19 (nt h_80) (qn 3 [] f0 [(22, B (decide (v_73 > 0)))] (sb 22 (bt h_81) (fx inf24 (gd' (RowC p_0_A p_0_c KWrite.cells tr p_0) 1) hy_82 fun b_83 o_84 hi_82 => fx inf24 (gd' (RowC p_0_A p_0_c KWrite.cells tr p_0) 2) hy_85 fun b_86 o_87 hi_85 => qn 15 [(2, 0, 0, 0), (1, 1, 1, 0), (3, 0, 0, 0), (1, 1, 0, 0)] (fc (hi_82 .i64) (fc (hi_85 .i64) f0)) [(37, B (decide (v_82.Key ≤ v_85.Key)))] (sb 37 (bf h_88) (fx inf24 (gd' (RowC p_0_A p_0_c KWrite.cells tr p_0) 3) hy_89 fun b_90 o_91 hi_89 => qn 8 [(2, 0, 0, 0), (1, 1, 0, 1)] (fc (hi_89 .i64) f0) [(45, B (decide (v_89.Value < 0)))] (sb 45 (bt h_92) (qa [] f0 [(67, B true)] (tN (fun _ _ S k e => ⟨true, S, k.wk, e.sel [4], oi hG⟩)))))))))))
        ·obtain ⟨v_93, hy_93, hG⟩ := bs hG; rcases ic hG with ⟨h_96, hG⟩ | ⟨h_96, hG⟩
         ·exact qb (qn 3 [] f0 [(19, B (!v_79))] (sb 19 (nt h_80) (qn 3 [] f0 [(22, B (decide (v_73 > 0)))] (sb 22 (bt h_81) (fx inf24 (gd' (RowC p_0_A p_0_c KWrite.cells tr p_0) 1) hy_82 fun b_83 o_84 hi_82 => fx inf24 (gd' (RowC p_0_A p_0_c KWrite.cells tr p_0) 2) hy_85 fun b_86 o_87 hi_85 => qn 15 [(2, 0, 0, 0), (1, 1, 1, 0), (3, 0, 0, 0), (1, 1, 0, 0)] (fc (hi_82 .i64) (fc (hi_85 .i64) f0)) [(37, B (decide (v_82.Key ≤ v_85.Key)))] (sb 37 (bf h_88) (fx inf24 (gd' (RowC p_0_A p_0_c KWrite.cells tr p_0) 3) hy_89 fun b_90 o_91 hi_89 => qn 8 [(2, 0, 0, 0), (1, 1, 0, 1)] (fc (hi_89 .i64) f0) [(45, B (decide (v_89.Value < 0)))] (sb 45 (bf h_92) (fx inf24 (gd' (RowC p_0_A p_0_c KWrite.cells tr p_0) 4) hy_93 fun b_94 o_95 hi_93 => qn 8 [(2, 0, 0, 0), (1, 1, 0, 1)] (fc (hi_93 .i64) f0) [(53, B (decide (v_93.Value > 1000000)))] (sb 53 (bt h_96) (qa [] f0 [(67, B true)] (tN (fun _ _ S k e => ⟨true, S, k.wk, e.sel [5], oi hG⟩)))))))))))))
         ·obtain ⟨v_97, hy_97, hG⟩ := bs hG; rcases ic hG with ⟨h_100, hG⟩ | ⟨h_100, hG⟩
          ·obtain ⟨v_101, hy_101, hG⟩ := bs hG; exact qb (qn 3 [] f0 [(19, B (!v_79))] (sb 19 (nt h_80) (qn 3 [] f0 [(22, B (decide (v_73 > 0)))] (sb 22 (bt h_81) (fx inf24 (gd' (RowC p_0_A p_0_c KWrite.cells tr p_0) 1) hy_82 fun b_83 o_84 hi_82 => fx inf24 (gd' (RowC p_0_A p_0_c KWrite.cells tr p_0) 2) hy_85 fun b_86 o_87 hi_85 => qn 15 [(2, 0, 0, 0), (1, 1, 1, 0), (3, 0, 0, 0), (1, 1, 0, 0)] (fc (hi_82 .i64) (fc (hi_85 .i64) f0)) [(37, B (decide (v_82.Key ≤ v_85.Key)))] (sb 37 (bf h_88) (fx inf24 (gd' (RowC p_0_A p_0_c KWrite.cells tr p_0) 3) hy_89 fun b_90 o_91 hi_89 => qn 8 [(2, 0, 0, 0), (1, 1, 0, 1)] (fc (hi_89 .i64) f0) [(45, B (decide (v_89.Value < 0)))] (sb 45 (bf h_92) (fx inf24 (gd' (RowC p_0_A p_0_c KWrite.cells tr p_0) 4) hy_93 fun b_94 o_95 hi_93 => qn 8 [(2, 0, 0, 0), (1, 1, 0, 1)] (fc (hi_93 .i64) f0) [(53, B (decide (v_93.Value > 1000000)))] (sb 53 (bf h_96) (fx inf24 (gd' (RowC p_0_A p_0_c KWrite.cells tr p_0) 5) hy_97 fun b_98 o_99 hi_97 => qn 6 [(2, 0, 0, 0), (1, 1, 0, 2)] (fc (hi_97 .i64) f0) [(59, B v_97.Gone)] (sb 59 (bt h_100) (fx inf24 (gd' (RowC p_0_A p_0_c KWrite.cells tr p_0) 6) hy_101 fun b_102 o_103 hi_101 => qa [(2, 0, 0, 0), (1, 1, 0, 1)] (fc (hi_101 .i64) f0) [(67, B (!(v_101.Value == 0)))] (tN (fun _ _ S k e => ⟨!(v_101.Value == 0), S, k.wk, e.sel [7], oi hG⟩)))))))))))))))
          ·exact qb (qn 3 [] f0 [(19, B (!v_79))] (sb 19 (nt h_80) (qn 3 [] f0 [(22, B (decide (v_73 > 0)))] (sb 22 (bt h_81) (fx inf24 (gd' (RowC p_0_A p_0_c KWrite.cells tr p_0) 1) hy_82 fun b_83 o_84 hi_82 => fx inf24 (gd' (RowC p_0_A p_0_c KWrite.cells tr p_0) 2) hy_85 fun b_86 o_87 hi_85 => qn 15 [(2, 0, 0, 0), (1, 1, 1, 0), (3, 0, 0, 0), (1, 1, 0, 0)] (fc (hi_82 .i64) (fc (hi_85 .i64) f0)) [(37, B (decide (v_82.Key ≤ v_85.Key)))] (sb 37 (bf h_88) (fx inf24 (gd' (RowC p_0_A p_0_c KWrite.cells tr p_0) 3) hy_89 fun b_90 o_91 hi_89 => qn 8 [(2, 0, 0, 0), (1, 1, 0, 1)] (fc (hi_89 .i64) f0) [(45, B (decide (v_89.Value < 0)))] (sb 45 (bf h_92) (fx inf24 (gd' (RowC p_0_A p_0_c KWrite.cells tr p_0) 4) hy_93 fun b_94 o_95 hi_93 => qn 8 [(2, 0, 0, 0), (1, 1, 0, 1)] (fc (hi_93 .i64) f0) [(53, B (decide (v_93.Value > 1000000)))] (sb 53 (bf h_96) (fx inf24 (gd' (RowC p_0_A p_0_c KWrite.cells tr p_0) 5) hy_97 fun b_98 o_99 hi_97 => qn 6 [(2, 0, 0, 0), (1, 1, 0, 2)] (fc (hi_97 .i64) f0) [(59, B v_97.Gone)] (sb 59 (bf h_100) (qa [] f0 [(67, B false)] (tN (fun _ _ S k e => ⟨false, S, k.wk, e.sel [6], oi hG⟩)))))))))))))))
      ·obtain ⟨v_104, hy_104, hG⟩ := bs hG; rcases ic hG with ⟨h_107, hG⟩ | ⟨h_107, hG⟩
       ·exact qb (qn 3 [] f0 [(19, B (!v_79))] (sb 19 (nt h_80) (qn 3 [] f0 [(22, B (decide (v_73 > 0)))] (sb 22 (bf h_81) (fx inf24 (gd' (RowC p_0_A p_0_c KWrite.cells tr p_0) 1) hy_104 fun b_105 o_106 hi_104 => qn 23 [(17, 0, 0, 0), (1, 1, 0, 1)] (fc (hi_104 .i64) f0) [(45, B (decide (v_104.Value < 0)))] (sb 45 (bt h_107) (qa [] f0 [(67, B true)] (tN (fun _ _ S k e => ⟨true, S, k.wk, e.sel [2], oi hG⟩)))))))))
       ·obtain ⟨v_108, hy_108, hG⟩ := bs hG; rcases ic hG with ⟨h_111, hG⟩ | ⟨h_111, hG⟩
        ·exact qb (qn 3 [] f0 [(19, B (!v_79))] (sb 19 (nt h_80) (qn 3 [] f0 [(22, B (decide (v_73 > 0)))] (sb 22 (bf h_81) (fx inf24 (gd' (RowC p_0_A p_0_c KWrite.cells tr p_0) 1) hy_104 fun b_105 o_106 hi_104 => qn 23 [(17, 0, 0, 0), (1, 1, 0, 1)] (fc (hi_104 .i64) f0) [(45, B (decide (v_104.Value < 0)))] (sb 45 (bf h_107) (fx inf24 (gd' (RowC p_0_A p_0_c KWrite.cells tr p_0) 2) hy_108 fun b_109 o_110 hi_108 => qn 8 [(2, 0, 0, 0), (1, 1, 0, 1)] (fc (hi_108 .i64) f0) [(53, B (decide (v_108.Value > 1000000)))] (sb 53 (bt h_111) (qa [] f0 [(67, B true)] (tN (fun _ _ S k e => ⟨true, S, k.wk, e.sel [3], oi hG⟩)))))))))))
        ·obtain ⟨v_112, hy_112, hG⟩ := bs hG; rcases ic hG with ⟨h_115, hG⟩ | ⟨h_115, hG⟩
         ·obtain ⟨v_116, hy_116, hG⟩ := bs hG; exact qb (qn 3 [] f0 [(19, B (!v_79))] (sb 19 (nt h_80) (qn 3 [] f0 [(22, B (decide (v_73 > 0)))] (sb 22 (bf h_81) (fx inf24 (gd' (RowC p_0_A p_0_c KWrite.cells tr p_0) 1) hy_104 fun b_105 o_106 hi_104 => qn 23 [(17, 0, 0, 0), (1, 1, 0, 1)] (fc (hi_104 .i64) f0) [(45, B (decide (v_104.Value < 0)))] (sb 45 (bf h_107) (fx inf24 (gd' (RowC p_0_A p_0_c KWrite.cells tr p_0) 2) hy_108 fun b_109 o_110 hi_108 => qn 8 [(2, 0, 0, 0), (1, 1, 0, 1)] (fc (hi_108 .i64) f0) [(53, B (decide (v_108.Value > 1000000)))] (sb 53 (bf h_111) (fx inf24 (gd' (RowC p_0_A p_0_c KWrite.cells tr p_0) 3) hy_112 fun b_113 o_114 hi_112 => qn 6 [(2, 0, 0, 0), (1, 1, 0, 2)] (fc (hi_112 .i64) f0) [(59, B v_112.Gone)] (sb 59 (bt h_115) (fx inf24 (gd' (RowC p_0_A p_0_c KWrite.cells tr p_0) 4) hy_116 fun b_117 o_118 hi_116 => qa [(2, 0, 0, 0), (1, 1, 0, 1)] (fc (hi_116 .i64) f0) [(67, B (!(v_116.Value == 0)))] (tN (fun _ _ S k e => ⟨!(v_116.Value == 0), S, k.wk, e.sel [5], oi hG⟩)))))))))))))
         ·exact qb (qn 3 [] f0 [(19, B (!v_79))] (sb 19 (nt h_80) (qn 3 [] f0 [(22, B (decide (v_73 > 0)))] (sb 22 (bf h_81) (fx inf24 (gd' (RowC p_0_A p_0_c KWrite.cells tr p_0) 1) hy_104 fun b_105 o_106 hi_104 => qn 23 [(17, 0, 0, 0), (1, 1, 0, 1)] (fc (hi_104 .i64) f0) [(45, B (decide (v_104.Value < 0)))] (sb 45 (bf h_107) (fx inf24 (gd' (RowC p_0_A p_0_c KWrite.cells tr p_0) 2) hy_108 fun b_109 o_110 hi_108 => qn 8 [(2, 0, 0, 0), (1, 1, 0, 1)] (fc (hi_108 .i64) f0) [(53, B (decide (v_108.Value > 1000000)))] (sb 53 (bf h_111) (fx inf24 (gd' (RowC p_0_A p_0_c KWrite.cells tr p_0) 3) hy_112 fun b_113 o_114 hi_112 => qn 6 [(2, 0, 0, 0), (1, 1, 0, 2)] (fc (hi_112 .i64) f0) [(59, B v_112.Gone)] (sb 59 (bf h_115) (qa [] f0 [(67, B false)] (tN (fun _ _ S k e => ⟨false, S, k.wk, e.sel [4], oi hG⟩)))))))))))))
     ·exact qb (qn 3 [] f0 [(19, B (!v_79))] (sb 19 (nf h_80) (qa [] f0 [(67, B true)] (tN (fun _ _ S k e => ⟨true, S, k.wk, e.sel [1], oi hG⟩)))))
    ·rintro a w ⟨v_120, hJ⟩; refine hJ.go fun ho_ => ?_
     clear hJ; subst ho_; replace hG := hG_119; rcases ic hG with ⟨h_121, hG⟩ | ⟨h_121, hG⟩
     ·refine sb 67 (bt h_121) (ct (sq (rg (ra [] f0 [(2, B false)] (tN (kR (hR (tR (tR ?_))))))))); have he_ := hO2_74 _ (oi hG).symm; subst he_; replace hG := hG_74; refine hR (tR ?_); obtain rfl := oi hG; replace hG := hG_122; obtain rfl := oi hG; exact rt []
     ·exact sb 67 (bf h_121) (cf (kS (hN (tN (rg (ra [] f0 [(3, I (IntKind.i64.wrap (v_73 + 1)))] (tN (fun a w S hK hE => ⟨m_74, ⟨IntKind.i64.wrap (v_73 + 1), S, hK.wk, hE.sel [0], hO1_74 _ (oi hG).symm⟩, Nat.lt_succ_self _⟩))))))))
   ·try simp only [List.length_map, KLeaderL.n_Open] at h_75
    refine sb 8 (bf h_75) (cf (kX (tX (tX ?_)))); have he_ := hO2_74 _ (oi hG).symm; subst he_; replace hG := hG_74; exact hH (tN (fun _ _ S k e => ⟨S, k.wk, e.sel [0], oi hG⟩))
 ·rintro a w hJ; refine hJ.go fun ho_ => ?_
  clear hJ; subst ho_; replace hG := el hG_122; refine sq (rg (ra [] f0 [(2, B (decide (((p_0.length : Nat) : Int) ≤ 8)))] (tN (kR ?_)))); obtain rfl := oi hG; exact rt []
def G_commit_copies (F : Nat) (p_0 : List KTx) : Option ((List KTx)) :=
  Option.bind (Option.bind (iter (σ := (List KTx) × Int) (ρ := (List KTx)) (un2 fun (v_21 : (List KTx)) (v_24 : Int) => 
        (ifB (decide (v_24 < ((p_0.length : Nat) : Int)))
          (Option.bind (ixI p_0 v_24) (fun v_27 =>
          Option.bind (G_commit_copied F v_27) (fun v_31 =>
          Option.bind (apG 64 v_21 ([v_31] : List KTx)) (fun v_33 =>
          some (.inl (v_33, IntKind.i64.wrap (v_24 + 1)))))))
          (some (.inr v_21)) : Option (((List KTx) × Int) ⊕ (List KTx)))) F (([] : List KTx), 0)) (fun (v_34 : (List KTx)) => 
      some v_34) : Option ((List KTx))) (fun (v_38 : (List KTx)) => 
    some v_38)
set_option maxRecDepth 100000 in
set_option maxHeartbeats 16000000 in
theorem z_commit_copies (F : Nat) (p_0_A : Option Addr) (p_0_c : Nat) (p_0 : List KTxL) (r : (List KTx)) (hG : G_commit_copies F (p_0.map KTxL.p) = some r) :
  Cn Try.prog 51 [.slice p_0_A p_0.length p_0_c] [RowC p_0_A p_0_c KTxL.cells KTxL.ok p_0] (fun q : KSapi_TxL => r = (q.l.map KTxL.p)) (fun q => .slice q.A q.l.length q.c) (fun q => [RowC q.A q.c KTxL.cells KTxL.ok q.l]) := by
 unfold G_commit_copies at hG
 try simp only [List.length_map, KLeaderL.n_Open] at hG
 refine fin Try.func51 rfl rfl (mr KTxL.mv m0) fun S0 w0 hT => sq (rg (ra [] f0 [] (tN (sq (rg (ra [] f0 [(3, .slice none 0 0)] (tN ?_)))))))
 obtain ⟨o_37, hG, hG_37⟩ := bs hG; refine jn (fun K E a w => ∃ (v_38 : List KTxL) (v_39_A : Option Addr) (v_40_c : Nat), Js S0 w0 19 ([(3, .slice v_39_A v_38.length v_40_c)] ++ K) ([.own 26 4 (.slice v_39_A v_38.length v_40_c) v_38.length (v_38.flatMap KTxL.cells), .dat (Each KTxL.ok v_38)]) ((v_38.map KTxL.p) = o_37) a w) ?_ ?_
 ·refine sq (rg (ra [] f0 (ns 6 [.slice p_0_A p_0.length p_0_c, I ((p_0.length : Nat) : Int), I 0]) (tN (bk ?_)))); obtain ⟨e_25, hL, hG_25⟩ := bs hG; clear hG; obtain ⟨stp_25, hs_25, hL⟩ := iter_gen hL; refine lp (fun K E n_ a w => ∃ (v_21 : List KTxL) (v_22_A : Option Addr) (v_23_c : Nat) (v_24 : Int), Js S0 w0 19 ([(3, .slice v_22_A v_21.length v_23_c), (8, I v_24)] ++ K) ([.own 26 4 (.slice v_22_A v_21.length v_23_c) v_21.length (v_21.flatMap KTxL.cells), .dat (Each KTxL.ok v_21)] ++ se E [0]) (iter stp_25 n_ ((v_21.map KTxL.p), v_24) = some e_25) a w) F ?_ ?_
  ·exact on 26 4 (fm (Each KTxL.ok ([] : List KTxL)) e0 (fun _ _ S k e => ⟨([] : List KTxL), none, 0, 0, S, k.wk, e.sel [1, 0, 2], hL⟩))
  ·clear hL; rintro n_25 a w ⟨v_21, v_22_A, v_23_c, v_24, hJ⟩; refine hJ.go fun hL => ?_
   clear hJ; obtain ⟨m_25, o_25, rfl, hG, hO1_25, hO2_25⟩ := iter_step hL; clear hL; rw [hs_25] at hG
   try simp only [List.length_map, KLeaderL.n_Open] at hG
   refine sq (rg (ra [] f0 [(9, B (decide (v_24 < ((p_0.length : Nat) : Int))))] (tN (sq ?_)))); rcases ic hG with ⟨h_26, hG⟩ | ⟨h_26, hG⟩
   ·try simp only [List.length_map, KLeaderL.n_Open] at h_26
    refine sb 9 (bt h_26) (ct (kS (tN (sq (bk (sq ?_)))))); obtain ⟨v_27o, hy_27, hG⟩ := bs hG; refine rg (fxn (p := KTxL.p) inf30 (gd' (RowC p_0_A p_0_c KTxL.cells KTxL.ok p_0) 2) hy_27 fun v_27 b_28 o_29 he_27 hi_27 => ?_); subst he_27
    try simp only [List.length_map, KLeaderL.n_Open] at hG
    refine rn 2 [(0, 0, 0, 0), (0, 4, 0, 0)] (fc (hi_27 .i64) f0) [(11, .agg #[I v_27.ID, I v_27.Ts, .slice v_27.Reads_A v_27.Reads.length v_27.Reads_c, .slice v_27.Writes_A v_27.Writes.length v_27.Writes_c])] (l1 (nw 5 vp (KTxL.cells KTxL.z) 26 fun g_30 => l1 (sr 0 g_30 (ns 0 [I v_27.ID, I v_27.Ts, .slice v_27.Reads_A v_27.Reads.length v_27.Reads_c, .slice v_27.Writes_A v_27.Writes.length v_27.Writes_c]) (nl (tN ?_))))); obtain ⟨v_31o, hy_31, hG⟩ := bs hG; replace hG := bs hG; obtain ⟨v_33o, hy_33, hG⟩ := hG; refine rg (rn 2 [(1, 4, 0, 0)] f0 [(12, .slice v_22_A v_21.length v_23_c), (13, .agg #[I v_27.ID, I v_27.Ts, .slice v_27.Reads_A v_27.Reads.length v_27.Reads_c, .slice v_27.Writes_A v_27.Writes.length v_27.Writes_c])] (l1 (cn 14 (z_commit_copied F v_27 _ hy_31) hT (fun _ => (mc KTxL.mv m0)) ⟨(gi 2), trivial⟩ ?_))); rintro v_31 hq_31; obtain rfl : v_31.p = v_31o := hq_31.symm
    try simp only [List.length_map, KLeaderL.n_Open] at hG
    refine l1 (nw 15 (vs 1) [I v_31.ID, I v_31.Ts, .slice v_31.Reads_A v_31.Reads.length v_31.Reads_c, .slice v_31.Writes_A v_31.Writes.length v_31.Writes_c] 26 fun g_32 => l1 (apn (p := KTxL.p) (ok := KTxL.ok) 5 16 v_22_A v_23_c v_21 ([v_31] : List KTxL) inf30 (bA (f := KTxL.cells) (ok := tr) (l := ([v_31] : List KTxL)) g_32 0 et.a) (gd' (Each KTxL.ok v_21) 6) (ec (gi 1) e0) hy_33 KTxL.one fun v_33 v_33_A v_33_c he_33 _ => ?_)); subst he_33
    try simp only [List.length_map, KLeaderL.n_Open] at hG
    exact ra [] f0 [(3, .slice v_33_A v_33.length v_33_c)] (hN (tN (rg (ra [] f0 [(8, I (IntKind.i64.wrap (v_24 + 1)))] (tN (fun a w S hK hE => ⟨m_25, ⟨v_33, v_33_A, v_33_c, IntKind.i64.wrap (v_24 + 1), S, hK.wk, hE.sel [6, 0, 8], hO1_25 _ (oi hG).symm⟩, Nat.lt_succ_self _⟩))))))
   ·try simp only [List.length_map, KLeaderL.n_Open] at h_26
    refine sb 9 (bf h_26) (cf (kX (tX (tX ?_)))); have he_ := hO2_25 _ (oi hG).symm; subst he_; replace hG := hG_25
    try simp only [List.length_map, KLeaderL.n_Open] at hG
    exact hH (tN (fun _ _ S k e => ⟨v_21, v_22_A, v_23_c, S, k.wk, e.sel [0, 1], oi hG⟩))
 ·rintro a w ⟨v_38, v_39_A, v_40_c, hJ⟩; refine hJ.go fun ho_ => ?_
  clear hJ; subst ho_; replace hG := hG_37
  try simp only [List.length_map, KLeaderL.n_Open] at hG
  refine sq (rg (ra [] f0 [(2, .slice v_39_A v_38.length v_40_c)] (tN (kR ?_)))); obtain rfl := oi hG; exact so (A := v_39_A) (c := v_40_c) 0 KTxL.cells KTxL.ok v_38 KTxL.mv (gd' (Each KTxL.ok v_38) 1) (rtn [] ⟨v_39_A, v_40_c, v_38⟩ rfl ⟨gi 0, trivial⟩)
end Go.Proofs.Ytlfkgbideknkhaa
namespace Go.Proofs.Ytlfkgbideknkhaa
open Go.RowKit Go.Maps
section
variable {S0 S : Nat → Prop} {w0 w w' : World} {n : Nat} {K : List (Nat × Value)} {E : List Iz} {P : Program} {Q : Exit → Act → World → Prop} {o : Oper} {v : Value} {Kx X : Act → World → Prop}
theorem pn [DSc] {f : FuncId} {args : List Value} {ch : List PanicEntry} (hc : ∀ w, Calls P f args.toArray w fun e w' => e = .panicked ch ∧ w' = w) (h : Ge S0 w0 n K E (Q (.panic ch))) (he : ∀ J, sx P (execOp (rho K J) o) [] = some (.enter f args.toArray, []) := by intro J; kernel_rfl) :
  Ge S0 w0 n K E (oW P o Q Kx) := fun a w S hK hE => by
 unfold oW Oper.wp Oper.upon; rw [hK.eval, sx_run _ (he _) trivial]; refine (hc w).mono fun e w' hr => ?_
 obtain ⟨rfl, rfl⟩ := hr; exact h a _ S hK hE
theorem dr1 [DSc] {x : Iz} (h : Ge S0 w0 n K E X) : Ge S0 w0 n K (x :: E) X := fun a w S k e => h a w S k (Es.drop e (List.sublist_cons_self _ _))
theorem run_shl {T : TypeId} {k yk : IntKind} {p q : Int} (hq : ¬ q < 0) (W : World) : (binOp .shl T (.int k p) (.int yk q)).run P W = .ok (.int k (k.wrap (p * 2 ^ min q.toNat k.bits))) W := by
 simp [binOp, Op.shift, hq, pure, Sem.run]
end
abbrev chE : List PanicEntry := [{ v := .iface 31 (.int .i64 7), recovered := false }]
theorem need_bad (w : World) : Calls Try.prog 106 [B false].toArray w fun e w' => e = .panicked chE ∧ w' = w := by
 go_enter Try.func106, Try.ntmps106
 go_wp2
 exact ⟨rfl, rfl, rfl⟩
theorem need_ok : Cf Try.prog 106 [B true] [] (.tuple #[]) := z_codec_need 0 true () rfl
def shI (c k : Int) : Int := IntKind.u64.wrap (IntKind.u64.wrap (bits .and .u8 c 127) * 2 ^ min (IntKind.i64.wrap (7 * k)).toNat IntKind.u64.bits)
def decI (u : Int) : Int := bits .xor .i64 (IntKind.i64.wrap (Int.fdiv u (2 ^ 1))) (IntKind.i64.wrap (0 - (IntKind.i64.wrap (bits .and .u64 u 1))))
def rdV : Nat → Int → Int → List Int → Option (Int × List Int)
 | 0, _, _, _ => none
 | _ + 1, _, _, [] => none
 | f + 1, k, u, c :: bs => match (decide (k < 9) || decide (c < 2)) && ((k == 0) || decide (c > 0)) with
  | false => none
  | true => match decide (c < 128) with
   | true => some (decI (bits .or .u64 u (shI c k)), bs)
   | false => rdV f (k + 1) (bits .or .u64 u (shI c k)) bs
set_option maxRecDepth 100000 in
set_option maxHeartbeats 4000000 in
theorem int_c (S0 : Nat → Prop) (w0 w : World) (S : Nat → Prop) (E : List Iz) (g : Nat) (A : Option Addr) (c : Nat) (bs : List Int) (i0 : Nat) (hi0 : i0 ≤ bs.length) (hbs : bs.length ≤ 4611686018427387904) (hT : Tb w0)
  (hE : Ez S0 w0 w S (.blk g 142 [.slice A bs.length c, I (i0 : Nat)] :: .dat (RowC A c c_u8 tr bs) :: E)) :
  Calls Try.prog 105 [Pt g 0].toArray w fun e w' =>
   (∃ v rest S, rdV 10 0 0 (bs.drop i0) = some (v, rest) ∧ e = .returned (I v) ∧ rest.length ≤ bs.length ∧ rest = bs.drop (bs.length - rest.length) ∧ Ez S0 w0 w' S (.blk g 142 [.slice A bs.length c, I ((bs.length - rest.length : Nat) : Int)] :: .dat (RowC A c c_u8 tr bs) :: E)) ∨
   (rdV 10 0 0 (bs.drop i0) = none ∧ e = .panicked chE ∧ ∃ z S, Ez S0 w0 w' S (.blk g 142 [.slice A bs.length c, I z] :: .dat (RowC A c c_u8 tr bs) :: E)) := by
 obtain ⟨tg, htg⟩ : ∃ tg, rdV 10 0 0 (bs.drop i0) = tg := ⟨_, rfl⟩; rw [htg]; refine vc_enter Try.func105 rfl rfl (by kernel_rfl) fun a hK => ?_
 refine (?_ : Ge S0 w0 73 _ (.blk g 142 [.slice A bs.length c, I (i0 : Nat)] :: .dat (RowC A c c_u8 tr bs) :: E) _) a w S hK hE; clear hK hE a w S; refine sq ?_; refine rg (ra [] f0 [(2, I 0)] (tN ?_)); refine sq ?_; refine rg (ra [] f0 [(3, U 0)] (tN ?_)); refine sq ?_; refine rg (ra [] f0 [(4, I 0)] (tN ?_)); refine bk ?_; refine lp (fun K E' m a w => ∃ (f : Nat) (k u : Int) (i : Nat), Js S0 w0 73 ([(3, U u), (4, I k)] ++ K) (.blk g 142 [.slice A bs.length c, I (i : Nat)] :: .dat (RowC A c c_u8 tr bs) :: E) (i ≤ bs.length ∧ rdV f k u (bs.drop i) = tg ∧ 0 ≤ k ∧ k + f = 10 ∧ m = f) a w) 10 ?_ ?_
 ·exact fun a w S k e => ⟨10, 0, 0, i0, S, k.wk, e, hi0, htg, Int.le_refl _, rfl, rfl⟩
 ·rintro m a w ⟨f, k, u, i, hJ⟩; refine hJ.go fun ⟨hi, hr, hk0, hf, hm⟩ => ?_
  clear hJ htg; refine sq (bk (sq ?_)); have hcl : ∀ x, decide (((i : Nat) : Int) < ((bs.length : Nat) : Int)) = x → (x = true → k < 10 → False) → tg = none := fun x hx h => by
   rw [← hr]; cases f with
   | zero => rfl
   | succ f =>
    by_cases hlt : i < bs.length
    ·exact absurd (by omega) (h (by rw [← hx]; exact decide_eq_true (by omega)))
    ·rw [List.drop_eq_nil_of_le (by omega)]; rfl
  refine hb [0, 1] ?_; refine ht [0, 1] [0, 1, 2, 3, 4, 5, 6, 7, 8, 9, 10] [(3, 1, 0, 1), (3, 1, 0, 0)] f0 [(18, B (decide (((i : Nat) : Int) < ((bs.length : Nat) : Int))))] ?_
  by_cases hlt : i < bs.length
  ·have h18 : decide (((i : Nat) : Int) < ((bs.length : Nat) : Int)) = true := decide_eq_true (by omega); refine sb 18 (bt h18) ?_; refine ht [0, 1] [11, 12, 13] [] f0 [(21, B (decide (k < 10)))] ?_
   by_cases hk10 : k < 10
   ·refine sb 21 (bt (decide_eq_true hk10)) ?_; refine ho [14] ⟨h1 (cl 22 need_ok hT trivial (hk [0, 1] (he (tN ?_)))), trivial⟩; obtain ⟨f, rfl⟩ : ∃ f', f = f' + 1 := ⟨f - 1, by omega⟩; obtain ⟨q, hq⟩ : ∃ q, bs[i]? = some q := ⟨_, List.getElem?_eq_getElem hlt⟩; have hy : ixI bs ((i : Nat) : Int) = some q := by unfold ixI; rw [if_pos (by omega)]; simpa using hq
    have hdr : bs.drop i = q :: bs.drop (i + 1) := by
     rw [List.drop_eq_getElem_cons hlt]; rw [List.getElem?_eq_getElem hlt] at hq; rw [Option.some.inj hq]
    rw [hdr] at hr; refine sq ?_; refine qb (fx inf22 (gd' (RowC A c c_u8 tr bs) 1) hy fun b o hi => qa [(3, 1, 1, 0), (3, 1, 1, 1), (0, 0, 0, 0), (0, 1, 0, 0)] (fc (hi .i64) f0) [(5, Y q)] (tN (dr1 ?_))); obtain ⟨t, ht⟩ : ∃ t, ((decide (k < 9) || decide (q < 2)) && ((k == 0) || decide (q > 0))) = t := ⟨_, rfl⟩; unfold rdV at hr; rw [ht] at hr; have hn : t = false → tg = none := fun e => by rw [← hr, e]
    refine jn (fun K E' a w => Js S0 w0 73 ([(5, Y q), (3, U u), (4, I k), (2, I 0), (0, Pt g 0)]) (.blk g 142 [.slice A bs.length c, I (i : Nat)] :: .dat (RowC A c c_u8 tr bs) :: E) (t = true) a w) ?_ ?_
    ·refine rg ?_; refine rn 3 [] f0 [(35, B (decide (k < 9)))] ?_
     by_cases h9 : k < 9
     ·refine sb 35 (bt (decide_eq_true h9)) ?_; refine rn 4 [] f0 [(39, B true)] ?_
      by_cases h0 : k = 0
      ·refine rn 3 [] f0 [(42, B (k == 0))] ?_; refine sb 42 (bt (b := k == 0) (by simp [h0])) ?_; refine rn 4 [] f0 [(46, B true)] ?_; exact l1 (cl 47 need_ok hT trivial (nl (tN (fun a w S k' e => ⟨S, k'.wk, e, by rw [← ht]; simp [h9, h0]⟩))))
      ·refine rn 3 [] f0 [(42, B (k == 0))] ?_; refine sb 42 (bf (b := k == 0) (by simp [h0])) ?_; refine rn 4 [] f0 [(46, B (decide (q > 0)))] ?_
       by_cases hq0 : q > 0
       ·refine sb 46 (bt (decide_eq_true hq0)) ?_; exact l1 (cl 47 need_ok hT trivial (nl (tN (fun a w S k' e => ⟨S, k'.wk, e, by rw [← ht]; simp [h9, h0, hq0]⟩))))
       ·refine sb 46 (bf (decide_eq_false hq0)) ?_; exact l1 (pn need_bad (fun a w S k' e => ⟨k'.d, .inr ⟨hn (by rw [← ht]; simp [h9, h0, hq0]), rfl, _, S, e⟩⟩))
     ·refine sb 35 (bf (decide_eq_false h9)) ?_; refine rn 4 [] f0 [(39, B (decide (q < 2)))] ?_; have h0 : ¬ k = 0 := by omega
      by_cases h2 : q < 2
      ·refine sb 39 (bt (decide_eq_true h2)) ?_; refine rn 3 [] f0 [(42, B (k == 0))] ?_; refine sb 42 (bf (b := k == 0) (by simp [h0])) ?_; refine rn 4 [] f0 [(46, B (decide (q > 0)))] ?_
       by_cases hq0 : q > 0
       ·refine sb 46 (bt (decide_eq_true hq0)) ?_; exact l1 (cl 47 need_ok hT trivial (nl (tN (fun a w S k' e => ⟨S, k'.wk, e, by rw [← ht]; simp [h2, h0, hq0]⟩))))
       ·refine sb 46 (bf (decide_eq_false hq0)) ?_; exact l1 (pn need_bad (fun a w S k' e => ⟨k'.d, .inr ⟨hn (by rw [← ht]; simp [h0, hq0]), rfl, _, S, e⟩⟩))
      ·refine sb 39 (bf (decide_eq_false h2)) ?_; refine rn 7 [] f0 [(46, B false)] ?_; exact l1 (pn need_bad (fun a w S k' e => ⟨k'.d, .inr ⟨hn (by rw [← ht]; simp [h9, h2]), rfl, _, S, e⟩⟩))
    ·rintro a w hJ; refine hJ.go fun ht1 => ?_
     clear hJ hn ht; rw [ht1] at hr; refine sq ?_; have h7 : ¬ IntKind.i64.wrap (7 * k) < 0 := by
      have : IntKind.i64.wrap (7 * k) = 7 * k := by unfold IntKind.wrap; simp [IntKind.signed, IntKind.bits]; omega
      omega
     refine rg (ra [(6, 0, 0, 0)] (fc (fun W => run_shl (T := 121) (k := .u64) (yk := .i64) (p := IntKind.u64.wrap (bits .and .u8 q 127)) (q := IntKind.i64.wrap (7 * k)) h7 W) f0) [(3, U (bits .or .u64 u (shI q k)))] (tN ?_)); refine sq ?_; have hw : IntKind.i64.wrap (((i : Nat) : Int) + 1) = ((i + 1 : Nat) : Int) := by unfold IntKind.wrap; simp [IntKind.signed, IntKind.bits]; omega
     refine rg (rn 5 [(3, 1, 0, 1)] f0 [(56, Pt g 0), (60, I (IntKind.i64.wrap (((i : Nat) : Int) + 1)))] ?_); refine sb 60 (congrArg I hw) ?_; refine rn 2 [] f0 [(62, Pt g 1)] (l1 (sr 0 g [(1, I ((i + 1 : Nat) : Int))] (nl (tN ?_)))); refine sq ?_; refine rg (ra [] f0 [(64, B (decide (q < 128)))] (tN ?_))
     by_cases h128 : q < 128
     ·refine sb 64 (bt (decide_eq_true h128)) ?_; rw [decide_eq_true h128] at hr; refine ct (sq (rg (ra [] f0 [(2, I (decI (bits .or .u64 u (shI q k))))] (tN (kR ?_))))); have hl : (bs.drop (i + 1)).length = bs.length - (i + 1) := List.length_drop; have hl2 : bs.length - (bs.drop (i + 1)).length = i + 1 := by omega
      refine hR (tR (tR (hR (ri [] (I (decI (bits .or .u64 u (shI q k)))) ?_)))); exact (fun a w S k' e => .inl ⟨_, bs.drop (i + 1), S, hr.symm, rfl, by omega, by rw [hl2], by rw [hl2]; exact e⟩)
     ·refine sb 64 (bf (decide_eq_false h128)) ?_; rw [decide_eq_false h128] at hr; have hwk : IntKind.i64.wrap (k + 1) = k + 1 := by unfold IntKind.wrap; simp [IntKind.signed, IntKind.bits]; omega
      refine cf (kS (hN (tN (rg (ra [] f0 [(4, I (IntKind.i64.wrap (k + 1)))] (sb 4 (congrArg I hwk) (tN ?_))))))); exact fun a w S k' e => ⟨f, ⟨f, k + 1, _, i + 1, S, k'.wk, e, by omega, hr, by omega, by omega, rfl⟩, by omega⟩
   ·refine sb 21 (bf (decide_eq_false hk10)) ?_; have hn := hcl _ h18 (fun _ h => hk10 h); exact ho [14] ⟨h1 (pn need_bad (fun a w S k e => ⟨k.d, .inr ⟨hn, rfl, _, S, e⟩⟩)), trivial⟩
  ·have h18 : decide (((i : Nat) : Int) < ((bs.length : Nat) : Int)) = false := decide_eq_false (by omega); refine sb 18 (bf h18) ?_; refine ht [0, 1] [11, 12, 13] [] f0 [(21, B false)] ?_; have hn := hcl _ h18 (fun h _ => by cases h); exact ho [14] ⟨h1 (pn need_bad (fun a w S k e => ⟨k.d, .inr ⟨hn, rfl, _, S, e⟩⟩)), trivial⟩
end Go.Proofs.Ytlfkgbideknkhaa
namespace Go.Proofs.Ytlfkgbideknkhaa
open Go.RowKit Go.Maps
section
variable {S0 S : Nat → Prop} {w0 w w' : World} {n : Nat} {K : List (Nat × Value)} {E : List Iz} {P : Program} {ops : Array Oper} {Q : Exit → Act → World → Prop} {o : Oper} {L : List Oper} {v : Value} {Kx X : Act → World → Prop}
theorem vcD_enter {f : FuncId} {fn : Func} {c : Code} {args : List Value} {R : Ending → World → Prop} (hf : P.funcs[f]? = some fn) (hb : fn.body = some c) (hn : fn.ntmps = n) (hs : Nat.ble args.length n = true)
  (h : ∀ a, Kn n (argK args 0) a → c.wp P (bodyPostD P fn R) a w) : Calls P f args.toArray w R := by
 refine calls_of_wp_defers hf hb (h _ ⟨rfl, ?_, fun i v hv => ?_⟩)
 ·have : args.length ≤ n := Nat.le_of_ble_eq_true hs
  simp [hn]; omega
 ·obtain ⟨_, h2⟩ := argK_look args 0 i v hv; have hi : i < args.length := by
   have := (List.getElem?_eq_some_iff.1 h2).1; omega
  rw [Array.getElem?_append_left (by simpa using hi)]
  simpa using h2
theorem res_run [DSc] {fn : Func} {a : Act} (hK : Kn n K a) (hE : Ez S0 w0 w S E) (hs : List (Nat × Nat × Nat)) (he : ∀ J, sx P (resF fn fun t => rho K J (.tmp t)) ((rvl E hs).map (·.2)) = some (v, rvl E hs) := by intro J; kernel_rfl) : (results fn a.tmps).run P w = .ok v w := by
 have e : results fn a.tmps = resF fn fun t => a.tmps.getD t undef := rfl
 rw [e, hK.slot]; exact sx_run _ (he _) (rvl_obs hE)
theorem df (d : Deferred) (h : @Ge ⟨[d]⟩ S0 w0 n K E (wpList P ops Q L)) (he : ∀ J W, (execOp (rho K J) o).run P W = .ok (.defer d) W) (hd : o.dst = none := by kernel_rfl) (hg : gd ops K o = some true := by kernel_rfl) : @Ge DS0 S0 w0 n K E (wpList P ops Q (o :: L)) := fun a w S hK hE => by
 refine st_of hK hg ?_; rw [if_pos rfl]; unfold Oper.wp; rw [hK.eval, he, Oper.upon_defer, hd]; refine h _ w S ?_ hE; exact @Kn.mk ⟨[d]⟩ n K _ (by show d :: a.defers = [d]; rw [hK.d]; rfl) hK.s hK.k
end
theorem get1_idle (p q : Addr) (w : World) :
  CallsD Try.prog 104 #[.pointer (some p), .pointer (some q)] .returning w fun e u' w' => e = .returned (.tuple #[]) ∧ u' = .returning ∧ w' = w := by
 refine callsD_of_wpS Try.func104 rfl fun c₀ cs hu => ?_
 apply wpS_seq
 apply wpS_region
 simp [wpOpsS, go_sem, recoverD, hu, Try.ntmps104, Exit.thenS]
 apply wpS_seq
 apply wpS_region
 simp [wpOpsS, go_sem, Exit.thenS]
 refine wpS_cond (t := false) (by simp [Act.eval, Array.replicate]) ?_; simp only [Bool.false_eq_true, if_false]; refine wpS_of_wp (wp_skip ?_); cases c₀
 simp_all [bodyPostS, results, Try.results104]
theorem read1_idle (p q : Addr) (w : World) :
  CallsD Try.prog 85 #[.pointer (some p), .pointer (some q)] .returning w fun e u' w' => e = .returned (.tuple #[]) ∧ u' = .returning ∧ w' = w := by
 refine callsD_of_wpS Try.func85 rfl fun c₀ cs hu => ?_
 apply wpS_seq
 apply wpS_region
 simp [wpOpsS, go_sem, recoverD, hu, Try.ntmps85, Exit.thenS]
 refine wpS_cond (t := false) (by simp [Act.eval, Array.replicate]) ?_; simp only [Bool.false_eq_true, if_false]; refine wpS_of_wp (wp_skip ?_); cases c₀
 simp_all [bodyPostS, results, Try.results85]
abbrev chR : List PanicEntry := [{ v := .iface 31 (.int .i64 7), recovered := true }]
theorem read1_catch (S0 : Nat → Prop) (w0 w : World) (S : Nat → Prop) (E : List Iz) (g2 g3 : Nat) (x0 x1 x2 x3 y : Value) (hE : Ez S0 w0 w S (.blk g2 26 [x0, x1, x2, x3] :: .blk g3 4 [y] :: E)) :
  CallsD Try.prog 85 #[Pt g2 0, Pt g3 0] (.panicking chE) w fun e u' w' => e = .returned (.tuple #[]) ∧ u' = .panicking chR ∧ ∃ S, Ez S0 w0 w' S (.blk g2 26 [I 0, I 0, .slice none 0 0, .slice none 0 0] :: .blk g3 4 [B false] :: E) := by
 refine callsD_of_wpS Try.func85 rfl fun c₀ cs hu => ?_
 apply wpS_seq
 apply wpS_region
 simp [wpOpsS, go_sem, recoverD, hu, Try.ntmps85, Exit.thenS]
 refine wpS_cond (t := true) (by simp [Act.eval, Array.replicate]) ?_; simp only [if_true]; refine wpS_of_wp ?_; refine (?_ : Ge S0 w0 5 [(0, Pt g2 0), (1, Pt g3 0)] (.blk g2 26 [x0, x1, x2, x3] :: .blk g3 4 [y] :: E) _) _ w S ⟨rfl, by simp, fun i v hv => ?_⟩ hE
 ·refine rg (rn 1 [] f0 [(4, .agg #[I 0, I 0, .slice none 0 0, .slice none 0 0])] (l1 (sr 0 g2 (ns 0 [I 0, I 0, .slice none 0 0, .slice none 0 0]) (l1 (sr 1 g3 [(0, B false)] (nl ?_)))))); intro a w S k e; exact ⟨k.d, _, rfl, .tuple #[], by simp [results, Try.results85], rfl, rfl, S, e⟩
 ·match i, hv with
  | 0, hv => cases hv; rfl
  | 1, hv => cases hv; rfl
  | i + 2, hv => cases hv
theorem get1_catch (S0 : Nat → Prop) (w0 w : World) (S : Nat → Prop) (E : List Iz) (g2 g3 : Nat) (x y : Value) (hE : Ez S0 w0 w S (.blk g2 45 [x] :: .blk g3 31 [y] :: E)) :
  CallsD Try.prog 104 #[Pt g2 0, Pt g3 0] (.panicking chE) w fun e u' w' => e = .returned (.tuple #[]) ∧ u' = .panicking chR ∧ ∃ S, Ez S0 w0 w' S (.blk g2 45 [.slice none 0 0] :: .blk g3 31 [I 7] :: E) := by
 refine callsD_of_wpS Try.func104 rfl fun c₀ cs hu => ?_
 apply wpS_seq
 apply wpS_region
 simp [wpOpsS, go_sem, recoverD, hu, Try.ntmps104, Exit.thenS]
 apply wpS_seq
 apply wpS_region
 simp [wpOpsS, go_sem, Exit.thenS]
 refine wpS_cond (t := true) (by simp [Act.eval, Array.replicate]) ?_; simp only [if_true]; refine wpS_of_wp ?_; refine (?_ : Ge S0 w0 8 [(0, Pt g2 0), (1, Pt g3 0), (2, .iface 31 (I 7))] (.blk g2 45 [x] :: .blk g3 31 [y] :: E) _) _ w S ⟨rfl, by simp, fun i v hv => ?_⟩ hE
 ·refine hb [] ?_; refine ht [] [0, 1] [] f0 [(7, I 7)] ?_; refine ho [2] ⟨h1 (sr 0 g2 [(0, .slice none 0 0)] (hk [] (ho [3] ⟨h1 (sr 1 g3 [(0, I 7)] (hk [] (he ?_))), trivial⟩))), trivial⟩; intro a w S k e; exact ⟨k.d, _, rfl, .tuple #[], by simp [results, Try.results104], rfl, rfl, S, e⟩
 ·match i, hv with
  | 0, hv => cases hv; rfl
  | 1, hv => cases hv; rfl
  | 2, hv => cases hv; rfl
  | i + 3, hv => cases hv
end Go.Proofs.Ytlfkgbideknkhaa
