/-
  Texts joined: Z4, Ci37, Df37, Cg37, Cf37, Z5, Z6, Z7, Z8, Z9, Z10.
-/
import Derived.Test.YtlfkgbideknkhaaProg
import Derived.WalkKit
import Derived.Defers
import Derived.Recover
import Derived.Tactics
import Derived.Tactics2
import Derived.ChangeKeysEq
import Derived.Test.YtlfkgbideknkhaaJU11
import Derived.Test.YtlfkgbideknkhaaJU12
set_option linter.unusedSimpArgs false
set_option linter.unusedVariables false
namespace Go.Proofs.Ytlfkgbideknkhaa
open Go.RowKit Go.Maps
def G_regulatorref34_writes (F : Nat) (p_0 : List KWrite) : Option (Bool) :=
  Option.bind (Option.bind (iter (σ := Int) (ρ := Unit ⊕ Unit) (fun (v_73 : Int) => 
        (ifB (decide (v_73 < ((p_0.length : Nat) : Int)))
          (Option.bind (ixI p_0 v_73) (fun v_76 =>
          Option.bind (G_regulatorref33_Key F v_76.Key) (fun v_79 =>
          Option.bind (ifB (v_79)
              (ifB (decide (v_73 > 0))
                (Option.bind (ixI p_0 v_73) (fun v_82 =>
                Option.bind (ixI p_0 (IntKind.i64.wrap (v_73 - 1))) (fun v_85 =>
                ifB (decide (v_82.Key ≤ v_85.Key))
                  (some true)
                  (Option.bind (ixI p_0 v_73) (fun v_89 =>
                  ifB (decide (v_89.Value < 0))
                    (some true)
                    (Option.bind (ixI p_0 v_73) (fun v_93 =>
                    ifB (decide (v_93.Value > 1000000))
                      (some true)
                      (Option.bind (ixI p_0 v_73) (fun v_97 =>
                      ifB (v_97.Gone)
                        (Option.bind (ixI p_0 v_73) (fun v_101 =>
                        some (!(v_101.Value == 0))))
                        (some false))))))))))
                (Option.bind (ixI p_0 v_73) (fun v_104 =>
                ifB (decide (v_104.Value < 0))
                  (some true)
                  (Option.bind (ixI p_0 v_73) (fun v_108 =>
                  ifB (decide (v_108.Value > 1000000))
                    (some true)
                    (Option.bind (ixI p_0 v_73) (fun v_112 =>
                    ifB (v_112.Gone)
                      (Option.bind (ixI p_0 v_73) (fun v_116 =>
                      some (!(v_116.Value == 0))))
                      (some false))))))))
              (some true) : Option (Bool)) (fun (v_120 : Bool) => 
            ifB (v_120)
              (some (.inr (.inr ())))
              (some (.inl (IntKind.i64.wrap (v_73 + 1))))))))
          (some (.inr (.inl ()))) : Option (Int ⊕ (Unit ⊕ Unit)))) F 0) (Sum.elim (fun (_ : Unit) => 
      some (.inl ())) (fun (_ : Unit) => 
      some (.inr ()))) : Option (Unit ⊕ Unit)) (Sum.elim (fun (_ : Unit) => 
    some (decide (((p_0.length : Nat) : Int) ≤ 8))) (fun (_ : Unit) => 
    some false))
set_option maxRecDepth 100000 in
set_option maxHeartbeats 16000000 in
theorem z_regulatorref34_writes (F : Nat) (p_0_A : Option Addr) (p_0_c : Nat) (p_0 : List KWrite) (r : Bool) (hG : G_regulatorref34_writes F p_0 = some r) :
  Cf Try.prog 55 [.slice p_0_A p_0.length p_0_c] [RowC p_0_A p_0_c KWrite.cells tr p_0] (B r) := by
 unfold G_regulatorref34_writes at hG
 try simp only [List.length_map, KLeaderL.n_Open] at hG
 refine fi Try.func55 rfl rfl (mr tr_mv m0) fun S0 w0 hT => sq (rg (ra [] f0 [] (tN ?_)))
 obtain ⟨o_122, hG, hG_122⟩ := bs hG; refine jn (fun K E a w => Js S0 w0 71 (K) (se E [0]) (.inl () = o_122) a w) ?_ ?_
 ·refine sq (rg (ra [] f0 [(3, I 0)] (tN (bk ?_)))); obtain ⟨e_74, hL, hG_74⟩ := bs hG; clear hG; obtain ⟨stp_74, hs_74, hL⟩ := iter_gen hL; refine lp (fun K E n_ a w => ∃ v_73 : Int, Js S0 w0 71 ([(3, I v_73)] ++ K) (se E [0]) (iter stp_74 n_ v_73 = some e_74) a w) F ?_ ?_
  ·exact fun _ _ S k e => ⟨0, S, k.wk, e.sel [0], hL⟩
  ·clear hL; rintro n_74 a w ⟨v_73, hJ⟩; refine hJ.go fun hL => ?_
   clear hJ; obtain ⟨m_74, o_74, rfl, hG, hO1_74, hO2_74⟩ := iter_step hL; clear hL; rw [hs_74] at hG; refine sq (sq (rg (ra [] f0 [(8, B (decide (v_73 < ((p_0.length : Nat) : Int))))] (tN ?_)))); rcases ic hG with ⟨h_75, hG⟩ | ⟨h_75, hG⟩
   ·try simp only [List.length_map, KLeaderL.n_Open] at h_75
    refine sb 8 (bt h_75) (ct (kS (tN (sq (bk (sq ?_)))))); obtain ⟨v_76, hy_76, hG⟩ := bs hG; obtain ⟨v_79, hy_79, hG⟩ := bs hG; refine rg (fx inf24 (gd' (RowC p_0_A p_0_c KWrite.cells tr p_0) 0) hy_76 fun b_77 o_78 hi_76 => rn 5 [(2, 0, 0, 0), (1, 1, 0, 0)] (fc (hi_76 .i64) f0) [(15, I v_76.Key)] (l1 (cl 16 (z_regulatorref33_Key F v_76.Key _ hy_79) hT trivial (ra [] f0 [(4, B v_79)] (tN ?_))))); obtain ⟨o_119, hG, hG_119⟩ := bs hG; refine jn (fun K E a w => ∃ v_120 : Bool, Js S0 w0 71 ([(67, B v_120)] ++ K) (se E [1]) (v_120 = o_119) a w) ?_ ?_
    ·rcases ic hG with ⟨h_80, hG⟩ | ⟨h_80, hG⟩
     ·rcases ic hG with ⟨h_81, hG⟩ | ⟨h_81, hG⟩
      ·obtain ⟨v_82, hy_82, hG⟩ := bs hG; obtain ⟨v_85, hy_85, hG⟩ := bs hG; rcases ic hG with ⟨h_88, hG⟩ | ⟨h_88, hG⟩
       ·exact qb (qn 3 [] f0 [(19, B (!v_79))] (sb 19 (nt h_80) (qn 3 [] f0 [(22, B (decide (v_73 > 0)))] (sb 22 (bt h_81) (fx inf24 (gd' (RowC p_0_A p_0_c KWrite.cells tr p_0) 1) hy_82 fun b_83 o_84 hi_82 => fx inf24 (gd' (RowC p_0_A p_0_c KWrite.cells tr p_0) 2) hy_85 fun b_86 o_87 hi_85 => qn 15 [(2, 0, 0, 0), (1, 1, 1, 0), (3, 0, 0, 0), (1, 1, 0, 0)] (fc (hi_82 .i64) (fc (hi_85 .i64) f0)) [(37, B (decide (v_82.Key ≤ v_85.Key)))] (sb 37 (bt h_88) (qa [] f0 [(67, B true)] (tN (fun _ _ S k e => ⟨true, S, k.wk, e.sel [3], oi hG⟩)))))))))
       ·obtain ⟨v_89, hy_89, hG⟩ := bs hG; rcases ic hG with ⟨h_92, hG⟩ | ⟨h_92, hG⟩
        ·exact qb (qn 3 [] f0 [(19, B (!v_79))] (sb 19 (nt h_80) (qn 3 [] f0 [(22, B (decide (v_73 > 0)))] (sb 22 (bt h_81) (fx inf24 (gd' (RowC p_0_A p_0_c KWrite.cells tr p_0) 1) hy_82 fun b_83 o_84 hi_82 => fx inf24 (gd' (RowC p_0_A p_0_c KWrite.cells tr p_0) 2) hy_85 fun b_86 o_87 hi_85 => qn 15 [(2, 0, 0, 0), (1, 1, 1, 0), (3, 0, 0, 0), (1, 1, 0, 0)] (fc (hi_82 .i64) (fc (hi_85 .i64) f0)) [(37, B (decide (v_82.Key ≤ v_85.Key)))] (sb 37 (bf h_88) (fx inf24 (gd' (RowC p_0_A p_0_c KWrite.cells tr p_0) 3) hy_89 fun b_90 o_91 hi_89 => qn 8 [(2, 0, 0, 0), (1, 1, 0, 1)] (fc (hi_89 .i64) f0) [(45, B (decide (v_89.Value < 0)))] (sb 45 (bt h_92) (qa [] f0 [(67, B true)] (tN (fun _ _ S k e => ⟨true, S, k.wk, e.sel [4], oi hG⟩)))))))))))
        ·obtain ⟨v_93, hy_93, hG⟩ := bs hG; rcases ic hG with ⟨h_96, hG⟩ | ⟨h_96, hG⟩
         ·exact qb (qn 3 [] f0 [(19, B (!v_79))] (sb 19 (nt h_80) (qn 3 [] f0 [(22, B (decide (v_73 > 0)))] (sb 22 (bt h_81) (fx inf24 (gd' (RowC p_0_A p_0_c KWrite.cells tr p_0) 1) hy_82 fun b_83 o_84 hi_82 => fx inf24 (gd' (RowC p_0_A p_0_c KWrite.cells tr p_0) 2) hy_85 fun b_86 o_87 hi_85 => qn 15 [(2, 0, 0, 0), (1, 1, 1, 0), (3, 0, 0, 0), (1, 1, 0, 0)] (fc (hi_82 .i64) (fc (hi_85 .i64) f0)) [(37, B (decide (v_82.Key ≤ v_85.Key)))] (sb 37 (bf h_88) (fx inf24 (gd' (RowC p_0_A p_0_c KWrite.cells tr p_0) 3) hy_89 fun b_90 o_91 hi_89 => qn 8 [(2, 0, 0, 0), (1, 1, 0, 1)] (fc (hi_89 .i64) f0) [(45, B (decide (v_89.Value < 0)))] (sb 45 (bf h_92) (fx inf24 (gd' (RowC p_0_A p_0_c KWrite.cells tr p_0) 4) hy_93 fun b_94 o_95 hi_93 => qn 8 [(2, 0, 0, 0), (1, 1, 0, 1)] (fc (hi_93 .i64) f0) [(53, B (decide (v_93.Value > 1000000)))] (sb 53 (bt h_96) (qa [] f0 [(67, B true)] (tN (fun _ _ S k e => ⟨true, S, k.wk, e.sel [5], oi hG⟩)))))))))))))
         ·obtain ⟨v_97, hy_97, hG⟩ := bs hG; rcases ic hG with ⟨h_100, hG⟩ | ⟨h_100, hG⟩
          ·obtain ⟨v_101, hy_101, hG⟩ := bs hG; exact qb (qn 3 [] f0 [(19, B (!v_79))] (sb 19 (nt h_80) (qn 3 [] f0 [(22, B (decide (v_73 > 0)))] (sb 22 (bt h_81) (fx inf24 (gd' (RowC p_0_A p_0_c KWrite.cells tr p_0) 1) hy_82 fun b_83 o_84 hi_82 => fx inf24 (gd' (RowC p_0_A p_0_c KWrite.cells tr p_0) 2) hy_85 fun b_86 o_87 hi_85 => qn 15 [(2, 0, 0, 0), (1, 1, 1, 0), (3, 0, 0, 0), (1, 1, 0, 0)] (fc (hi_82 .i64) (fc (hi_85 .i64) f0)) [(37, B (decide (v_82.Key ≤ v_85.Key)))] (sb 37 (bf h_88) (fx inf24 (gd' (RowC p_0_A p_0_c KWrite.cells tr p_0) 3) hy_89 fun b_90 o_91 hi_89 => qn 8 [(2, 0, 0, 0), (1, 1, 0, 1)] (fc (hi_89 .i64) f0) [(45, B (decide (v_89.Value < 0)))] (sb 45 (bf h_92) (fx inf24 (gd' (RowC p_0_A p_0_c KWrite.cells tr p_0) 4) hy_93 fun b_94 o_95 hi_93 => qn 8 [(2, 0, 0, 0), (1, 1, 0, 1)] (fc (hi_93 .i64) f0) [(53, B (decide (v_93.Value > 1000000)))] (sb 53 (bf h_96) (fx inf24 (gd' (RowC p_0_A p_0_c KWrite.cells tr p_0) 5) hy_97 fun b_98 o_99 hi_97 => qn 6 [(2, 0, 0, 0), (1, 1, 0, 2)] (fc (hi_97 .i64) f0) [(59, B v_97.Gone)] (sb 59 (bt h_100) (fx inf24 (gd' (RowC p_0_A p_0_c KWrite.cells tr p_0) 6) hy_101 fun b_102 o_103 hi_101 => qa [(2, 0, 0, 0), (1, 1, 0, 1)] (fc (hi_101 .i64) f0) [(67, B (!(v_101.Value == 0)))] (tN (fun _ _ S k e => ⟨!(v_101.Value == 0), S, k.wk, e.sel [7], oi hG⟩)))))))))))))))
          ·exact qb (qn 3 [] f0 [(19, B (!v_79))] (sb 19 (nt h_80) (qn 3 [] f0 [(22, B (decide (v_73 > 0)))] (sb 22 (bt h_81) (fx inf24 (gd' (RowC p_0_A p_0_c KWrite.cells tr p_0) 1) hy_82 fun b_83 o_84 hi_82 => fx inf24 (gd' (RowC p_0_A p_0_c KWrite.cells tr p_0) 2) hy_85 fun b_86 o_87 hi_85 => qn 15 [(2, 0, 0, 0), (1, 1, 1, 0), (3, 0, 0, 0), (1, 1, 0, 0)] (fc (hi_82 .i64) (fc (hi_85 .i64) f0)) [(37, B (decide (v_82.Key ≤ v_85.Key)))] (sb 37 (bf h_88) (fx inf24 (gd' (RowC p_0_A p_0_c KWrite.cells tr p_0) 3) hy_89 fun b_90 o_91 hi_89 => qn 8 [(2, 0, 0, 0), (1, 1, 0, 1)] (fc (hi_89 .i64) f0) [(45, B (decide (v_89.Value < 0)))] (sb 45 (bf h_92) (fx inf24 (gd' (RowC p_0_A p_0_c KWrite.cells tr p_0) 4) hy_93 fun b_94 o_95 hi_93 => qn 8 [(2, 0, 0, 0), (1, 1, 0, 1)] (fc (hi_93 .i64) f0) [(53, B (decide (v_93.Value > 1000000)))] (sb 53 (bf h_96) (fx inf24 (gd' (RowC p_0_A p_0_c KWrite.cells tr p_0) 5) hy_97 fun b_98 o_99 hi_97 => qn 6 [(2, 0, 0, 0), (1, 1, 0, 2)] (fc (hi_97 .i64) f0) [(59, B v_97.Gone)] (sb 59 (bf h_100) (qa [] f0 [(67, B false)] (tN (fun _ _ S k e => ⟨false, S, k.wk, e.sel [6], oi hG⟩)))))))))))))))
      ·obtain ⟨v_104, hy_104, hG⟩ := bs hG; rcases ic hG with ⟨h_107, hG⟩ | ⟨h_107, hG⟩
       ·exact qb (qn 3 [] f0 [(19, B (!v_79))] (sb 19 (nt h_80) (qn 3 [] f0 [(22, B (decide (v_73 > 0)))] (sb 22 (bf h_81) (fx inf24 (gd' (RowC p_0_A p_0_c KWrite.cells tr p_0) 1) hy_104 fun b_105 o_106 hi_104 => qn 23 [(17, 0, 0, 0), (1, 1, 0, 1)] (fc (hi_104 .i64) f0) [(45, B (decide (v_104.Value < 0)))] (sb 45 (bt h_107) (qa [] f0 [(67, B true)] (tN (fun _ _ S k e => ⟨true, S, k.wk, e.sel [2], oi hG⟩)))))))))
       ·obtain ⟨v_108, hy_108, hG⟩ := bs hG; rcases ic hG with ⟨h_111, hG⟩ | ⟨h_111, hG⟩
        ·exact qb (qn 3 [] f0 [(19, B (!v_79))] (sb 19 (nt h_80) (qn 3 [] f0 [(22, B (decide (v_73 > 0)))] (sb 22 (bf h_81) (fx inf24 (gd' (RowC p_0_A p_0_c KWrite.cells tr p_0) 1) hy_104 fun b_105 o_106 hi_104 => qn 23 [(17, 0, 0, 0), (1, 1, 0, 1)] (fc (hi_104 .i64) f0) [(45, B (decide (v_104.Value < 0)))] (sb 45 (bf h_107) (fx inf24 (gd' (RowC p_0_A p_0_c KWrite.cells tr p_0) 2) hy_108 fun b_109 o_110 hi_108 => qn 8 [(2, 0, 0, 0), (1, 1, 0, 1)] (fc (hi_108 .i64) f0) [(53, B (decide (v_108.Value > 1000000)))] (sb 53 (bt h_111) (qa [] f0 [(67, B true)] (tN (fun _ _ S k e => ⟨true, S, k.wk, e.sel [3], oi hG⟩)))))))))))
        ·obtain ⟨v_112, hy_112, hG⟩ := bs hG; rcases ic hG with ⟨h_115, hG⟩ | ⟨h_115, hG⟩
         ·obtain ⟨v_116, hy_116, hG⟩ := bs hG; exact qb (qn 3 [] f0 [(19, B (!v_79))] (sb 19 (nt h_80) (qn 3 [] f0 [(22, B (decide (v_73 > 0)))] (sb 22 (bf h_81) (fx inf24 (gd' (RowC p_0_A p_0_c KWrite.cells tr p_0) 1) hy_104 fun b_105 o_106 hi_104 => qn 23 [(17, 0, 0, 0), (1, 1, 0, 1)] (fc (hi_104 .i64) f0) [(45, B (decide (v_104.Value < 0)))] (sb 45 (bf h_107) (fx inf24 (gd' (RowC p_0_A p_0_c KWrite.cells tr p_0) 2) hy_108 fun b_109 o_110 hi_108 => qn 8 [(2, 0, 0, 0), (1, 1, 0, 1)] (fc (hi_108 .i64) f0) [(53, B (decide (v_108.Value > 1000000)))] (sb 53 (bf h_111) (fx inf24 (gd' (RowC p_0_A p_0_c KWrite.cells tr p_0) 3) hy_112 fun b_113 o_114 hi_112 => qn 6 [(2, 0, 0, 0), (1, 1, 0, 2)] (fc (hi_112 .i64) f0) [(59, B v_112.Gone)] (sb 59 (bt h_115) (fx inf24 (gd' (RowC p_0_A p_0_c KWrite.cells tr p_0) 4) hy_116 fun b_117 o_118 hi_116 => qa [(2, 0, 0, 0), (1, 1, 0, 1)] (fc (hi_116 .i64) f0) [(67, B (!(v_116.Value == 0)))] (tN (fun _ _ S k e => ⟨!(v_116.Value == 0), S, k.wk, e.sel [5], oi hG⟩)))))))))))))
         ·exact qb (qn 3 [] f0 [(19, B (!v_79))] (sb 19 (nt h_80) (qn 3 [] f0 [(22, B (decide (v_73 > 0)))] (sb 22 (bf h_81) (fx inf24 (gd' (RowC p_0_A p_0_c KWrite.cells tr p_0) 1) hy_104 fun b_105 o_106 hi_104 => qn 23 [(17, 0, 0, 0), (1, 1, 0, 1)] (fc (hi_104 .i64) f0) [(45, B (decide (v_104.Value < 0)))] (sb 45 (bf h_107) (fx inf24 (gd' (RowC p_0_A p_0_c KWrite.cells tr p_0) 2) hy_108 fun b_109 o_110 hi_108 => qn 8 [(2, 0, 0, 0), (1, 1, 0, 1)] (fc (hi_108 .i64) f0) [(53, B (decide (v_108.Value > 1000000)))] (sb 53 (bf h_111) (fx inf24 (gd' (RowC p_0_A p_0_c KWrite.cells tr p_0) 3) hy_112 fun b_113 o_114 hi_112 => qn 6 [(2, 0, 0, 0), (1, 1, 0, 2)] (fc (hi_112 .i64) f0) [(59, B v_112.Gone)] (sb 59 (bf h_115) (qa [] f0 [(67, B false)] (tN (fun _ _ S k e => ⟨false, S, k.wk, e.sel [4], oi hG⟩)))))))))))))
     ·exact qb (qn 3 [] f0 [(19, B (!v_79))] (sb 19 (nf h_80) (qa [] f0 [(67, B true)] (tN (fun _ _ S k e => ⟨true, S, k.wk, e.sel [1], oi hG⟩)))))
    ·rintro a w ⟨v_120, hJ⟩; refine hJ.go fun ho_ => ?_
     clear hJ; subst ho_; replace hG := hG_119; rcases ic hG with ⟨h_121, hG⟩ | ⟨h_121, hG⟩
     ·refine sb 67 (bt h_121) (ct (sq (rg (ra [] f0 [(2, B false)] (tN (kR (hR (tR (tR ?_))))))))); have he_ := hO2_74 _ (oi hG).symm; subst he_; replace hG := hG_74; refine hR (tR ?_); obtain rfl := oi hG; replace hG := hG_122; obtain rfl := oi hG; exact rt []
     ·exact sb 67 (bf h_121) (cf (kS (hN (tN (rg (ra [] f0 [(3, I (IntKind.i64.wrap (v_73 + 1)))] (tN (fun a w S hK hE => ⟨m_74, ⟨IntKind.i64.wrap (v_73 + 1), S, hK.wk, hE.sel [0], hO1_74 _ (oi hG).symm⟩, Nat.lt_succ_self _⟩))))))))
   ·try simp only [List.length_map, KLeaderL.n_Open] at h_75
    refine sb 8 (bf h_75) (cf (kX (tX (tX ?_)))); have he_ := hO2_74 _ (oi hG).symm; subst he_; replace hG := hG_74; exact hH (tN (fun _ _ S k e => ⟨S, k.wk, e.sel [0], oi hG⟩))
 ·rintro a w hJ; refine hJ.go fun ho_ => ?_
  clear hJ; subst ho_; replace hG := el hG_122; refine sq (rg (ra [] f0 [(2, B (decide (((p_0.length : Nat) : Int) ≤ 8)))] (tN (kR ?_)))); obtain rfl := oi hG; exact rt []
def G_regulatorref04_Get (F : Nat) (p_0 : List Int) : Option ((List Int) × Int) :=
  Option.bind (G_regulatorref04_Read F p_0 0) (un3 fun v_1 v_2 v_3 =>
  Option.bind (ifB (v_3)
      (ifB (decide (v_1 < 0))
        (some true)
        (some (decide (v_1 > 1000))))
      (some true) : Option (Bool)) (fun (v_7 : Bool) => 
    ifB (v_7)
      (some (([] : List Int), 7))
      (Option.bind (Option.bind (iter (σ := Int × (List Int) × Int) (ρ := (Int × (List Int)) ⊕ Unit) (un3 fun (v_28 : Int) (v_29 : (List Int)) (v_32 : Int) => 
            (ifB (decide (v_32 < v_1))
              (Option.bind (G_regulatorref04_Read F p_0 v_28) (un3 fun v_35 v_36 v_37 =>
              ifB (v_37)
                (Option.bind (apG 8 v_29 ([v_35] : List Int)) (fun v_40 =>
                some (.inl (v_36, v_40, IntKind.i64.wrap (v_32 + 1)))))
                (some (.inr (.inr ())))))
              (some (.inr (.inl (v_28, v_29)))) : Option ((Int × (List Int) × Int) ⊕ ((Int × (List Int)) ⊕ Unit)))) F (v_2, ([] : List Int), 0)) (Sum.elim (un2 fun (v_41 : Int) (v_42 : (List Int)) => 
          some (.inl (v_41, v_42))) (fun (_ : Unit) => 
          some (.inr ()))) : Option ((Int × (List Int)) ⊕ Unit)) (Sum.elim (un2 fun (v_46 : Int) (v_47 : (List Int)) => 
        ifB ((v_46 == ((p_0.length : Nat) : Int)))
          (some (v_47, 0))
          (some (([] : List Int), 7))) (fun (_ : Unit) => 
        some (([] : List Int), 7))))))
set_option maxRecDepth 100000 in
set_option maxHeartbeats 16000000 in
theorem z_regulatorref04_Get (F : Nat) (p_0_A : Option Addr) (p_0_c : Nat) (p_0 : List Int) (r : (List Int) × Int) (hG : G_regulatorref04_Get F p_0 = some r) :
  Cn Try.prog 90 [.slice p_0_A p_0.length p_0_c] [RowC p_0_A p_0_c c_u8 tr p_0] (fun q : KSintL => r.1 = q.l) (fun q => .tuple #[.slice q.A q.l.length q.c, I r.2]) (fun q => [RowC q.A q.c c_i64 tr q.l]) := by
 unfold G_regulatorref04_Get at hG
 try simp only [List.length_map, KLeaderL.n_Open] at hG
 refine fin Try.func90 rfl rfl (mr tr_mv m0) fun S0 w0 hT => sq (rg (ra [] f0 [] (tN (sq ?_))))
 obtain ⟨v_1, v_2, v_3, hy_1, hG⟩ := b3 hG; refine rg (rn 1 [] f0 [(13, .slice p_0_A p_0.length p_0_c)] (l1 (cl 14 (z_regulatorref04_Read F p_0_A p_0_c p_0 0 _ hy_1) hT ⟨ga 0, trivial⟩ (ra [] f0 (ns 4 [I v_1, I v_2, B v_3]) (tN (sq ?_)))))); obtain ⟨o_6, hG, hG_6⟩ := bs hG; refine jn (fun K E a w => ∃ v_7 : Bool, Js S0 w0 52 ([(27, B v_7)] ++ K) (se E [0]) (v_7 = o_6) a w) ?_ ?_
 ·rcases ic hG with ⟨h_4, hG⟩ | ⟨h_4, hG⟩
  ·rcases ic hG with ⟨h_5, hG⟩ | ⟨h_5, hG⟩
   ·exact rg (rn 3 [] f0 [(20, B (!v_3))] (sb 20 (nt h_4) (rn 4 [] f0 [(24, B (decide (v_1 < 0)))] (sb 24 (bt h_5) (ra [] f0 [(27, B true)] (tN (fun _ _ S k e => ⟨true, S, k.wk, e.sel [0], oi hG⟩)))))))
   ·exact rg (rn 3 [] f0 [(20, B (!v_3))] (sb 20 (nt h_4) (rn 4 [] f0 [(24, B (decide (v_1 < 0)))] (sb 24 (bf h_5) (ra [] f0 [(27, B (decide (v_1 > 1000)))] (tN (fun _ _ S k e => ⟨decide (v_1 > 1000), S, k.wk, e.sel [0], oi hG⟩)))))))
  ·exact rg (rn 3 [] f0 [(20, B (!v_3))] (sb 20 (nf h_4) (ra [] f0 [(27, B true)] (tN (fun _ _ S k e => ⟨true, S, k.wk, e.sel [0], oi hG⟩)))))
 ·rintro a w ⟨v_7, hJ⟩; refine hJ.go fun ho_ => ?_
  clear hJ; subst ho_; replace hG := hG_6; rcases ic hG with ⟨h_8, hG⟩ | ⟨h_8, hG⟩
  ·refine sb 27 (bt h_8) (ct (sq (rg (ra [] f0 [(2, .slice none 0 0), (3, I 7)] (tN (kR (tR ?_))))))); obtain rfl := oi hG; exact rtn [] ⟨none, 0, ([] : List Int)⟩ rfl ⟨gn, trivial⟩
  ·refine sb 27 (bf h_8) (cf (kS (tN (sq (rg (ra [] f0 [(7, .slice none 0 0)] (tN ?_))))))); obtain ⟨o_45, hG, hG_45⟩ := bs hG; refine jn (fun K E a w => ∃ (v_46 : Int) (v_47 : List Int) (v_48_A : Option Addr) (v_49_c : Nat), Js S0 w0 52 ([(5, I v_46), (7, .slice v_48_A v_47.length v_49_c)] ++ K) ([.own 3 1 (.slice v_48_A v_47.length v_49_c) v_47.length (v_47.flatMap c_i64)] ++ se E [0]) (.inl (v_46, v_47) = o_45) a w) ?_ ?_
   ·refine sq (rg (ra [] f0 [(8, I 0)] (tN (bk ?_)))); obtain ⟨e_33, hL, hG_33⟩ := bs hG; clear hG; obtain ⟨stp_33, hs_33, hL⟩ := iter_gen hL; refine lp (fun K E n_ a w => ∃ (v_28 : Int) (v_29 : List Int) (v_30_A : Option Addr) (v_31_c : Nat) (v_32 : Int), Js S0 w0 52 ([(5, I v_28), (7, .slice v_30_A v_29.length v_31_c), (8, I v_32)] ++ K) ([.own 3 1 (.slice v_30_A v_29.length v_31_c) v_29.length (v_29.flatMap c_i64)] ++ se E [0]) (iter stp_33 n_ (v_28, v_29, v_32) = some e_33) a w) F ?_ ?_
    ·exact on 3 1 (fun _ _ S k e => ⟨v_2, ([] : List Int), none, 0, 0, S, k.wk, e.sel [0, 1], hL⟩)
    ·clear hL; rintro n_33 a w ⟨v_28, v_29, v_30_A, v_31_c, v_32, hJ⟩; refine hJ.go fun hL => ?_
     clear hJ; obtain ⟨m_33, o_33, rfl, hG, hO1_33, hO2_33⟩ := iter_step hL; clear hL; rw [hs_33] at hG; refine sq (sq (rg (ra [] f0 [(30, B (decide (v_32 < v_1)))] (tN ?_)))); rcases ic hG with ⟨h_34, hG⟩ | ⟨h_34, hG⟩
     ·refine sb 30 (bt h_34) (ct (kS (tN (sq (bk (sq ?_)))))); obtain ⟨v_35, v_36, v_37, hy_35, hG⟩ := b3 hG; refine rg (rn 2 [] f0 [(34, .slice p_0_A p_0.length p_0_c), (35, I v_28)] (l1 (cl 36 (z_regulatorref04_Read F p_0_A p_0_c p_0 v_28 _ hy_35) hT ⟨ga 1, trivial⟩ (ra [] f0 (ns 9 [I v_35, I v_36, B v_37]) (tN (sq (sq (rg (ra [] f0 [(41, B (!v_37))] (tN ?_)))))))))); rcases ic hG with ⟨h_38, hG⟩ | ⟨h_38, hG⟩
      ·refine sb 41 (nt h_38) (cf (kS (tN (sq ?_)))); obtain ⟨v_40, hy_40, hG⟩ := bs hG; exact rg (rn 2 [] f0 [(42, .slice v_30_A v_29.length v_31_c), (43, I v_35)] (l1 (nw 44 (vs 1) [I v_35] 3 fun g_39 => l1 (ap 1 45 v_30_A v_31_c v_29 ([v_35] : List Int) inf45 (bA (f := c_i64) (ok := tr) (l := ([v_35] : List Int)) g_39 0 et.a) hy_40 one_i64 fun v_40_A v_40_c _ => ra [] f0 [(7, .slice v_40_A v_40.length v_40_c)] (tN (rg (ra [] f0 [(5, I v_36)] (hN (tN (rg (ra [] f0 [(8, I (IntKind.i64.wrap (v_32 + 1)))] (tN (fun a w S hK hE => ⟨m_33, ⟨v_36, v_40, v_40_A, v_40_c, IntKind.i64.wrap (v_32 + 1), S, hK.wk, hE.sel [1, 2], hO1_33 _ (oi hG).symm⟩, Nat.lt_succ_self _⟩)))))))))))))
      ·refine sb 41 (nf h_38) (ct (sq (rg (ra [] f0 [(2, .slice none 0 0), (3, I 7)] (tN (kR (tR (hR (tR (tR ?_)))))))))); have he_ := hO2_33 _ (oi hG).symm; subst he_; replace hG := hG_33; refine hR (tR ?_); obtain rfl := oi hG; replace hG := hG_45; obtain rfl := oi hG; exact rtn [] ⟨none, 0, ([] : List Int)⟩ rfl ⟨gn, trivial⟩
     ·refine sb 30 (bf h_34) (cf (kX (tX (tX ?_)))); have he_ := hO2_33 _ (oi hG).symm; subst he_; replace hG := hG_33; exact hH (tN (fun _ _ S k e => ⟨v_28, v_29, v_30_A, v_31_c, S, k.wk, e.sel [0, 1], oi hG⟩))
   ·rintro a w ⟨v_46, v_47, v_48_A, v_49_c, hJ⟩; refine hJ.go fun ho_ => ?_
    clear hJ; subst ho_; replace hG := el hG_45; refine sq (sq (rg (ra [] f0 [(50, B (!(v_46 == ((p_0.length : Nat) : Int))))] (tN ?_)))); rcases ic hG with ⟨h_50, hG⟩ | ⟨h_50, hG⟩
    ·try simp only [List.length_map, KLeaderL.n_Open] at h_50
     refine sb 50 (nt h_50) (cf (kS (tN (sq (rg (ra [] f0 [(2, .slice v_48_A v_47.length v_49_c), (3, I 0)] (tN (kR ?_)))))))); obtain rfl := oi hG; exact so (A := v_48_A) (c := v_49_c) 0 c_i64 tr v_47 tr_mv et (rtn [] ⟨v_48_A, v_49_c, v_47⟩ rfl ⟨gi 0, trivial⟩)
    ·try simp only [List.length_map, KLeaderL.n_Open] at h_50
     refine sb 50 (nf h_50) (ct (sq (rg (ra [] f0 [(2, .slice none 0 0), (3, I 7)] (tN (kR (tR ?_))))))); obtain rfl := oi hG; exact rtn [] ⟨none, 0, ([] : List Int)⟩ rfl ⟨gn, trivial⟩
def G_regulatorref04_sum (F : Nat) (p_0 : List Int) : Option ((List Int)) :=
  Option.bind (G_regulatorref03_Sum F p_0) (fun v_1 =>
  Option.bind (repI 1 8 0) (fun v_3 =>
  Option.bind (Option.bind (iter (σ := Int × (List Int) × Int) (ρ := (List Int)) (un3 fun (v_16 : Int) (v_17 : (List Int)) (v_20 : Int) => 
        (ifB (decide (v_20 ≥ 0))
          (Option.bind (whenG (decide (0 ≤ v_20 ∧ v_20 < ((v_17.length : Nat) : Int))) ()) (fun v_23 =>
          Option.bind (stI v_17 v_20 (IntKind.u8.wrap (Int.tmod v_16 256))) (fun v_25 =>
          some (.inl (IntKind.u64.wrap (Int.tdiv v_16 256), v_25, IntKind.i64.wrap (v_20 - 1))))))
          (some (.inr v_17)) : Option ((Int × (List Int) × Int) ⊕ (List Int)))) F (v_1, v_3, 7)) (fun (v_26 : (List Int)) => 
      some v_26) : Option ((List Int))) (fun (v_30 : (List Int)) => 
    some v_30)))
set_option maxRecDepth 100000 in
set_option maxHeartbeats 16000000 in
theorem z_regulatorref04_sum (F : Nat) (p_0_A : Option Addr) (p_0_c : Nat) (p_0 : List Int) (r : (List Int)) (hG : G_regulatorref04_sum F p_0 = some r) :
  Cg Try.prog 83 [.slice p_0_A p_0.length p_0_c] [RowC p_0_A p_0_c c_u8 tr p_0] (fun q : KSuint8L => r = q.l) (fun q => .slice q.A q.l.length q.c) (fun q => [RowC q.A q.c c_u8 tr q.l]) := by
 unfold G_regulatorref04_sum at hG
 try simp only [List.length_map, KLeaderL.n_Open] at hG
 refine fing Try.func83 rfl rfl (mr tr_mv m0) fun S0 w0 hT => sq (rg (ra [] f0 [] (tN (sq ?_))))
 obtain ⟨v_1, hy_1, hG⟩ := bs hG; refine rg (rn 1 [] f0 [(6, .slice p_0_A p_0.length p_0_c)] (l1 (cl 7 (z_regulatorref03_Sum F p_0_A p_0_c p_0 _ hy_1) hT ⟨ga 0, trivial⟩ (ra [] f0 [(3, U v_1)] (tN (sq ?_)))))); obtain ⟨v_3, hy_3, hG⟩ := bs hG; refine rg (l1 (mkn 8 c_u8 0 (kl := .i64) (kc := .i64) inf22 hy_3 fun v_3_A => ra [] f0 [(4, .slice v_3_A v_3.length v_3.length)] (tN ?_))); obtain ⟨o_29, hG, hG_29⟩ := bs hG; refine jn (fun K E a w => ∃ (v_30 : List Int) (v_31_A : Option Addr) (v_32_c : Nat), Js S0 w0 22 ([(4, .slice v_31_A v_30.length v_32_c)] ++ dk [3] K) ([.own 5 1 (.slice v_31_A v_30.length v_32_c) v_30.length (v_30.flatMap c_u8)]) (v_30 = o_29) a w) ?_ ?_
 ·refine sq (rg (ra [] f0 [(5, I 7)] (tN (bk ?_)))); obtain ⟨e_21, hL, hG_21⟩ := bs hG; clear hG; obtain ⟨stp_21, hs_21, hL⟩ := iter_gen hL; refine lp (fun K E n_ a w => ∃ (v_16 : Int) (v_17 : List Int) (v_18_A : Option Addr) (v_19_c : Nat) (v_20 : Int), Js S0 w0 22 ((ns 3 [U v_16, .slice v_18_A v_17.length v_19_c, I v_20]) ++ K) ([.own 5 1 (.slice v_18_A v_17.length v_19_c) v_17.length (v_17.flatMap c_u8)]) (iter stp_21 n_ (v_16, v_17, v_20) = some e_21) a w) F ?_ ?_
  ·exact fun _ _ S k e => ⟨v_1, v_3, v_3_A, v_3.length, 7, S, k.wk, e.sel [0], hL⟩
  ·clear hL; rintro n_21 a w ⟨v_16, v_17, v_18_A, v_19_c, v_20, hJ⟩; refine hJ.go fun hL => ?_
   clear hJ; obtain ⟨m_21, o_21, rfl, hG, hO1_21, hO2_21⟩ := iter_step hL; clear hL; rw [hs_21] at hG; refine sq (sq (rg (ra [] f0 [(10, B (decide (v_20 ≥ 0)))] (tN ?_)))); rcases ic hG with ⟨h_22, hG⟩ | ⟨h_22, hG⟩
   ·refine sb 10 (bt h_22) (ct (kS (tN (sq (bk (sq ?_)))))); obtain ⟨v_23, hy_23, hG⟩ := bs hG; obtain ⟨v_25, hy_25, hG⟩ := bs hG; refine rg (rn 5 [(3, 0, 0, 0)] (fc (fun W => run_rem (T := 121) (k := .u64) (p := v_16) (q := 256) (by decide) W) f0) [(13, .slice v_18_A v_17.length v_19_c), (14, I v_20), (17, Y (IntKind.u8.wrap (Int.tmod v_16 256)))] (fo 0 v_18_A v_17.length v_19_c c_u8 v_17 rfl inf22 (of_decide_eq_true (whenG_some hy_23).1) fun g_24 hA_23 hi_23 => rn 1 [(0, 0, 0, 0)] (fc (hi_23 .i64) f0) [(18, Pt g_24 (v_20.toNat * 1))] (l1 (sw 0 5 1 g_24 v_17.length v_19_c c_u8 v_17 (IntKind.u8.wrap (Int.tmod v_16 256)) rfl hA_23 hy_25 ?_)))); have hk_25 : v_17.length = v_25.length := (stI_len hy_25).symm; exact nl (ek 0 5 1 v_18_A v_17.length v_19_c (v_25.flatMap c_u8) v_25.length hk_25 (sb 4 (v := .slice v_18_A v_17.length v_19_c) (v' := .slice v_18_A v_25.length v_19_c) (by rw [hk_25]) (sb 13 (v := .slice v_18_A v_17.length v_19_c) (v' := .slice v_18_A v_25.length v_19_c) (by rw [hk_25]) (tN (rg (ra [(1, 0, 0, 0)] (fc (fun W => run_quo (T := 121) (k := .u64) (p := v_16) (q := 256) (by decide) W) f0) [(3, U (IntKind.u64.wrap (Int.tdiv v_16 256)))] (hN (tN (rg (ra [] f0 [(5, I (IntKind.i64.wrap (v_20 - 1)))] (tN (fun a w S hK hE => ⟨m_21, ⟨IntKind.u64.wrap (Int.tdiv v_16 256), v_25, v_18_A, v_19_c, IntKind.i64.wrap (v_20 - 1), S, hK.wk, hE.sel [0], hO1_21 _ (oi hG).symm⟩, Nat.lt_succ_self _⟩))))))))))))
   ·refine sb 10 (bf h_22) (cf (kX (tX (tX ?_)))); have he_ := hO2_21 _ (oi hG).symm; subst he_; replace hG := hG_21; exact hH (tN (fun _ _ S k e => ⟨v_17, v_18_A, v_19_c, S, k.wk, e.sel [0], oi hG⟩))
 ·rintro a w ⟨v_30, v_31_A, v_32_c, hJ⟩; refine hJ.go fun ho_ => ?_
  clear hJ; subst ho_; replace hG := hG_29; refine sq (rg (ra [] f0 [(2, .slice v_31_A v_30.length v_32_c)] (tN (kR ?_)))); obtain rfl := oi hG; exact rtg [] ⟨v_31_A, v_32_c, v_30⟩ rfl ⟨frO 0, trivial⟩
end Go.Proofs.Ytlfkgbideknkhaa
namespace Go.Proofs.Ytlfkgbideknkhaa
open Go.RowKit Go.Maps
section
variable {S0 S : Nat → Prop} {w0 w w' : World} {n : Nat} {K : List (Nat × Value)} {E : List Iz} {P : Program} {Q : Exit → Act → World → Prop} {o : Oper} {v : Value} {Kx X : Act → World → Prop}
theorem pn [DSc] {f : FuncId} {args : List Value} {ch : List PanicEntry} (hc : ∀ w, Calls P f args.toArray w fun e w' => e = .panicked ch ∧ w' = w) (h : Ge S0 w0 n K E (Q (.panic ch))) (he : ∀ J, sx P (execOp (rho K J) o) [] = some (.enter f args.toArray, []) := by intro J; kernel_rfl) :
  Ge S0 w0 n K E (oW P o Q Kx) := fun a w S hK hE => by
 unfold oW Oper.wp Oper.upon; rw [hK.eval, sx_run _ (he _) trivial]; refine (hc w).mono fun e w' hr => ?_
 obtain ⟨rfl, rfl⟩ := hr; exact h a _ S hK hE
theorem dr1 [DSc] {x : Iz} (h : Ge S0 w0 n K E X) : Ge S0 w0 n K (x :: E) X := fun a w S k e => h a w S k (Es.drop e (List.sublist_cons_self _ _))
theorem run_shl {T : TypeId} {k yk : IntKind} {p q : Int} (hq : ¬ q < 0) (W : World) : (binOp .shl T (.int k p) (.int yk q)).run P W = .ok (.int k (k.wrap (p * 2 ^ min q.toNat k.bits))) W := by
 simp [binOp, Op.shift, hq, pure, Sem.run]
end
abbrev chE : List PanicEntry := [{ v := .iface 31 (.int .i64 7), recovered := false }]
theorem need_bad (w : World) : Calls Try.prog 106 [B false].toArray w fun e w' => e = .panicked chE ∧ w' = w := by
 go_enter Try.func106, Try.ntmps106
 go_wp2
 exact ⟨rfl, rfl, rfl⟩
theorem need_ok : Cf Try.prog 106 [B true] [] (.tuple #[]) := z_codec_need 0 true () rfl
def shI (c k : Int) : Int := IntKind.u64.wrap (IntKind.u64.wrap (bits .and .u8 c 127) * 2 ^ min (IntKind.i64.wrap (7 * k)).toNat IntKind.u64.bits)
def decI (u : Int) : Int := bits .xor .i64 (IntKind.i64.wrap (Int.fdiv u (2 ^ 1))) (IntKind.i64.wrap (0 - (IntKind.i64.wrap (bits .and .u64 u 1))))
def rdV : Nat → Int → Int → List Int → Option (Int × List Int)
 | 0, _, _, _ => none
 | _ + 1, _, _, [] => none
 | f + 1, k, u, c :: bs => match (decide (k < 9) || decide (c < 2)) && ((k == 0) || decide (c > 0)) with
  | false => none
  | true => match decide (c < 128) with
   | true => some (decI (bits .or .u64 u (shI c k)), bs)
   | false => rdV f (k + 1) (bits .or .u64 u (shI c k)) bs
set_option maxRecDepth 100000 in
set_option maxHeartbeats 4000000 in
theorem int_c (S0 : Nat → Prop) (w0 w : World) (S : Nat → Prop) (E : List Iz) (g : Nat) (A : Option Addr) (c : Nat) (bs : List Int) (i0 : Nat) (hi0 : i0 ≤ bs.length) (hbs : bs.length ≤ 4611686018427387904) (hT : Tb w0)
  (hE : Ez S0 w0 w S (.blk g 142 [.slice A bs.length c, I (i0 : Nat)] :: .dat (RowC A c c_u8 tr bs) :: E)) :
  Calls Try.prog 105 [Pt g 0].toArray w fun e w' =>
   (∃ v rest S, rdV 10 0 0 (bs.drop i0) = some (v, rest) ∧ e = .returned (I v) ∧ rest.length ≤ bs.length ∧ rest = bs.drop (bs.length - rest.length) ∧ Ez S0 w0 w' S (.blk g 142 [.slice A bs.length c, I ((bs.length - rest.length : Nat) : Int)] :: .dat (RowC A c c_u8 tr bs) :: E)) ∨
   (rdV 10 0 0 (bs.drop i0) = none ∧ e = .panicked chE ∧ ∃ z S, Ez S0 w0 w' S (.blk g 142 [.slice A bs.length c, I z] :: .dat (RowC A c c_u8 tr bs) :: E)) := by
 obtain ⟨tg, htg⟩ : ∃ tg, rdV 10 0 0 (bs.drop i0) = tg := ⟨_, rfl⟩; rw [htg]; refine vc_enter Try.func105 rfl rfl (by kernel_rfl) fun a hK => ?_
 refine (?_ : Ge S0 w0 73 _ (.blk g 142 [.slice A bs.length c, I (i0 : Nat)] :: .dat (RowC A c c_u8 tr bs) :: E) _) a w S hK hE; clear hK hE a w S; refine sq ?_; refine rg (ra [] f0 [(2, I 0)] (tN ?_)); refine sq ?_; refine rg (ra [] f0 [(3, U 0)] (tN ?_)); refine sq ?_; refine rg (ra [] f0 [(4, I 0)] (tN ?_)); refine bk ?_; refine lp (fun K E' m a w => ∃ (f : Nat) (k u : Int) (i : Nat), Js S0 w0 73 ([(3, U u), (4, I k)] ++ K) (.blk g 142 [.slice A bs.length c, I (i : Nat)] :: .dat (RowC A c c_u8 tr bs) :: E) (i ≤ bs.length ∧ rdV f k u (bs.drop i) = tg ∧ 0 ≤ k ∧ k + f = 10 ∧ m = f) a w) 10 ?_ ?_
 ·exact fun a w S k e => ⟨10, 0, 0, i0, S, k.wk, e, hi0, htg, Int.le_refl _, rfl, rfl⟩
 ·rintro m a w ⟨f, k, u, i, hJ⟩; refine hJ.go fun ⟨hi, hr, hk0, hf, hm⟩ => ?_
  clear hJ htg; refine sq (bk (sq ?_)); have hcl : ∀ x, decide (((i : Nat) : Int) < ((bs.length : Nat) : Int)) = x → (x = true → k < 10 → False) → tg = none := fun x hx h => by
   rw [← hr]; cases f with
   | zero => rfl
   | succ f =>
    by_cases hlt : i < bs.length
    ·exact absurd (by omega) (h (by rw [← hx]; exact decide_eq_true (by omega)))
    ·rw [List.drop_eq_nil_of_le (by omega)]; rfl
  refine hb [0, 1] ?_; refine ht [0, 1] [0, 1, 2, 3, 4, 5, 6, 7, 8, 9, 10] [(3, 1, 0, 1), (3, 1, 0, 0)] f0 [(18, B (decide (((i : Nat) : Int) < ((bs.length : Nat) : Int))))] ?_
  by_cases hlt : i < bs.length
  ·have h18 : decide (((i : Nat) : Int) < ((bs.length : Nat) : Int)) = true := decide_eq_true (by omega); refine sb 18 (bt h18) ?_; refine ht [0, 1] [11, 12, 13] [] f0 [(21, B (decide (k < 10)))] ?_
   by_cases hk10 : k < 10
   ·refine sb 21 (bt (decide_eq_true hk10)) ?_; refine ho [14] ⟨h1 (cl 22 need_ok hT trivial (hk [0, 1] (he (tN ?_)))), trivial⟩; obtain ⟨f, rfl⟩ : ∃ f', f = f' + 1 := ⟨f - 1, by omega⟩; obtain ⟨q, hq⟩ : ∃ q, bs[i]? = some q := ⟨_, List.getElem?_eq_getElem hlt⟩; have hy : ixI bs ((i : Nat) : Int) = some q := by unfold ixI; rw [if_pos (by omega)]; simpa using hq
    have hdr : bs.drop i = q :: bs.drop (i + 1) := by
     rw [List.drop_eq_getElem_cons hlt]; rw [List.getElem?_eq_getElem hlt] at hq; rw [Option.some.inj hq]
    rw [hdr] at hr; refine sq ?_; refine qb (fx inf22 (gd' (RowC A c c_u8 tr bs) 1) hy fun b o hi => qa [(3, 1, 1, 0), (3, 1, 1, 1), (0, 0, 0, 0), (0, 1, 0, 0)] (fc (hi .i64) f0) [(5, Y q)] (tN (dr1 ?_))); obtain ⟨t, ht⟩ : ∃ t, ((decide (k < 9) || decide (q < 2)) && ((k == 0) || decide (q > 0))) = t := ⟨_, rfl⟩; unfold rdV at hr; rw [ht] at hr; have hn : t = false → tg = none := fun e => by rw [← hr, e]
    refine jn (fun K E' a w => Js S0 w0 73 ([(5, Y q), (3, U u), (4, I k), (2, I 0), (0, Pt g 0)]) (.blk g 142 [.slice A bs.length c, I (i : Nat)] :: .dat (RowC A c c_u8 tr bs) :: E) (t = true) a w) ?_ ?_
    ·refine rg ?_; refine rn 3 [] f0 [(35, B (decide (k < 9)))] ?_
     by_cases h9 : k < 9
     ·refine sb 35 (bt (decide_eq_true h9)) ?_; refine rn 4 [] f0 [(39, B true)] ?_
      by_cases h0 : k = 0
      ·refine rn 3 [] f0 [(42, B (k == 0))] ?_; refine sb 42 (bt (b := k == 0) (by simp [h0])) ?_; refine rn 4 [] f0 [(46, B true)] ?_; exact l1 (cl 47 need_ok hT trivial (nl (tN (fun a w S k' e => ⟨S, k'.wk, e, by rw [← ht]; simp [h9, h0]⟩))))
      ·refine rn 3 [] f0 [(42, B (k == 0))] ?_; refine sb 42 (bf (b := k == 0) (by simp [h0])) ?_; refine rn 4 [] f0 [(46, B (decide (q > 0)))] ?_
       by_cases hq0 : q > 0
       ·refine sb 46 (bt (decide_eq_true hq0)) ?_; exact l1 (cl 47 need_ok hT trivial (nl (tN (fun a w S k' e => ⟨S, k'.wk, e, by rw [← ht]; simp [h9, h0, hq0]⟩))))
       ·refine sb 46 (bf (decide_eq_false hq0)) ?_; exact l1 (pn need_bad (fun a w S k' e => ⟨k'.d, .inr ⟨hn (by rw [← ht]; simp [h9, h0, hq0]), rfl, _, S, e⟩⟩))
     ·refine sb 35 (bf (decide_eq_false h9)) ?_; refine rn 4 [] f0 [(39, B (decide (q < 2)))] ?_; have h0 : ¬ k = 0 := by omega
      by_cases h2 : q < 2
      ·refine sb 39 (bt (decide_eq_true h2)) ?_; refine rn 3 [] f0 [(42, B (k == 0))] ?_; refine sb 42 (bf (b := k == 0) (by simp [h0])) ?_; refine rn 4 [] f0 [(46, B (decide (q > 0)))] ?_
       by_cases hq0 : q > 0
       ·refine sb 46 (bt (decide_eq_true hq0)) ?_; exact l1 (cl 47 need_ok hT trivial (nl (tN (fun a w S k' e => ⟨S, k'.wk, e, by rw [← ht]; simp [h2, h0, hq0]⟩))))
       ·refine sb 46 (bf (decide_eq_false hq0)) ?_; exact l1 (pn need_bad (fun a w S k' e => ⟨k'.d, .inr ⟨hn (by rw [← ht]; simp [h0, hq0]), rfl, _, S, e⟩⟩))
      ·refine sb 39 (bf (decide_eq_false h2)) ?_; refine rn 7 [] f0 [(46, B false)] ?_; exact l1 (pn need_bad (fun a w S k' e => ⟨k'.d, .inr ⟨hn (by rw [← ht]; simp [h9, h2]), rfl, _, S, e⟩⟩))
    ·rintro a w hJ; refine hJ.go fun ht1 => ?_
     clear hJ hn ht; rw [ht1] at hr; refine sq ?_; have h7 : ¬ IntKind.i64.wrap (7 * k) < 0 := by
      have : IntKind.i64.wrap (7 * k) = 7 * k := by unfold IntKind.wrap; simp [IntKind.signed, IntKind.bits]; omega
      omega
     refine rg (ra [(6, 0, 0, 0)] (fc (fun W => run_shl (T := 121) (k := .u64) (yk := .i64) (p := IntKind.u64.wrap (bits .and .u8 q 127)) (q := IntKind.i64.wrap (7 * k)) h7 W) f0) [(3, U (bits .or .u64 u (shI q k)))] (tN ?_)); refine sq ?_; have hw : IntKind.i64.wrap (((i : Nat) : Int) + 1) = ((i + 1 : Nat) : Int) := by unfold IntKind.wrap; simp [IntKind.signed, IntKind.bits]; omega
     refine rg (rn 5 [(3, 1, 0, 1)] f0 [(56, Pt g 0), (60, I (IntKind.i64.wrap (((i : Nat) : Int) + 1)))] ?_); refine sb 60 (congrArg I hw) ?_; refine rn 2 [] f0 [(62, Pt g 1)] (l1 (sr 0 g [(1, I ((i + 1 : Nat) : Int))] (nl (tN ?_)))); refine sq ?_; refine rg (ra [] f0 [(64, B (decide (q < 128)))] (tN ?_))
     by_cases h128 : q < 128
     ·refine sb 64 (bt (decide_eq_true h128)) ?_; rw [decide_eq_true h128] at hr; refine ct (sq (rg (ra [] f0 [(2, I (decI (bits .or .u64 u (shI q k))))] (tN (kR ?_))))); have hl : (bs.drop (i + 1)).length = bs.length - (i + 1) := List.length_drop; have hl2 : bs.length - (bs.drop (i + 1)).length = i + 1 := by omega
      refine hR (tR (tR (hR (ri [] (I (decI (bits .or .u64 u (shI q k)))) ?_)))); exact (fun a w S k' e => .inl ⟨_, bs.drop (i + 1), S, hr.symm, rfl, by omega, by rw [hl2], by rw [hl2]; exact e⟩)
     ·refine sb 64 (bf (decide_eq_false h128)) ?_; rw [decide_eq_false h128] at hr; have hwk : IntKind.i64.wrap (k + 1) = k + 1 := by unfold IntKind.wrap; simp [IntKind.signed, IntKind.bits]; omega
      refine cf (kS (hN (tN (rg (ra [] f0 [(4, I (IntKind.i64.wrap (k + 1)))] (sb 4 (congrArg I hwk) (tN ?_))))))); exact fun a w S k' e => ⟨f, ⟨f, k + 1, _, i + 1, S, k'.wk, e, by omega, hr, by omega, by omega, rfl⟩, by omega⟩
   ·refine sb 21 (bf (decide_eq_false hk10)) ?_; have hn := hcl _ h18 (fun _ h => hk10 h); exact ho [14] ⟨h1 (pn need_bad (fun a w S k e => ⟨k.d, .inr ⟨hn, rfl, _, S, e⟩⟩)), trivial⟩
  ·have h18 : decide (((i : Nat) : Int) < ((bs.length : Nat) : Int)) = false := decide_eq_false (by omega); refine sb 18 (bf h18) ?_; refine ht [0, 1] [11, 12, 13] [] f0 [(21, B false)] ?_; have hn := hcl _ h18 (fun h _ => by cases h); exact ho [14] ⟨h1 (pn need_bad (fun a w S k e => ⟨k.d, .inr ⟨hn, rfl, _, S, e⟩⟩)), trivial⟩
end Go.Proofs.Ytlfkgbideknkhaa
namespace Go.Proofs.Ytlfkgbideknkhaa
open Go.RowKit Go.Maps
section
variable {S0 S : Nat → Prop} {w0 w w' : World} {n : Nat} {K : List (Nat × Value)} {E : List Iz} {P : Program} {ops : Array Oper} {Q : Exit → Act → World → Prop} {o : Oper} {L : List Oper} {v : Value} {Kx X : Act → World → Prop}
theorem vcD_enter {f : FuncId} {fn : Func} {c : Code} {args : List Value} {R : Ending → World → Prop} (hf : P.funcs[f]? = some fn) (hb : fn.body = some c) (hn : fn.ntmps = n) (hs : Nat.ble args.length n = true)
  (h : ∀ a, Kn n (argK args 0) a → c.wp P (bodyPostD P fn R) a w) : Calls P f args.toArray w R := by
 refine calls_of_wp_defers hf hb (h _ ⟨rfl, ?_, fun i v hv => ?_⟩)
 ·have : args.length ≤ n := Nat.le_of_ble_eq_true hs
  simp [hn]; omega
 ·obtain ⟨_, h2⟩ := argK_look args 0 i v hv; have hi : i < args.length := by
   have := (List.getElem?_eq_some_iff.1 h2).1; omega
  rw [Array.getElem?_append_left (by simpa using hi)]
  simpa using h2
theorem res_run [DSc] {fn : Func} {a : Act} (hK : Kn n K a) (hE : Ez S0 w0 w S E) (hs : List (Nat × Nat × Nat)) (he : ∀ J, sx P (resF fn fun t => rho K J (.tmp t)) ((rvl E hs).map (·.2)) = some (v, rvl E hs) := by intro J; kernel_rfl) : (results fn a.tmps).run P w = .ok v w := by
 have e : results fn a.tmps = resF fn fun t => a.tmps.getD t undef := rfl
 rw [e, hK.slot]; exact sx_run _ (he _) (rvl_obs hE)
theorem df (d : Deferred) (h : @Ge ⟨[d]⟩ S0 w0 n K E (wpList P ops Q L)) (he : ∀ J W, (execOp (rho K J) o).run P W = .ok (.defer d) W) (hd : o.dst = none := by kernel_rfl) (hg : gd ops K o = some true := by kernel_rfl) : @Ge DS0 S0 w0 n K E (wpList P ops Q (o :: L)) := fun a w S hK hE => by
 refine st_of hK hg ?_; rw [if_pos rfl]; unfold Oper.wp; rw [hK.eval, he, Oper.upon_defer, hd]; refine h _ w S ?_ hE; exact @Kn.mk ⟨[d]⟩ n K _ (by show d :: a.defers = [d]; rw [hK.d]; rfl) hK.s hK.k
end
theorem get1_idle (p q : Addr) (w : World) :
  CallsD Try.prog 104 #[.pointer (some p), .pointer (some q)] .returning w fun e u' w' => e = .returned (.tuple #[]) ∧ u' = .returning ∧ w' = w := by
 refine callsD_of_wpS Try.func104 rfl fun c₀ cs hu => ?_
 apply wpS_seq
 apply wpS_region
 simp [wpOpsS, go_sem, recoverD, hu, Try.ntmps104, Exit.thenS]
 apply wpS_seq
 apply wpS_region
 simp [wpOpsS, go_sem, Exit.thenS]
 refine wpS_cond (t := false) (by simp [Act.eval, Array.replicate]) ?_; simp only [Bool.false_eq_true, if_false]; refine wpS_of_wp (wp_skip ?_); cases c₀
 simp_all [bodyPostS, results, Try.results104]
theorem read1_idle (p q : Addr) (w : World) :
  CallsD Try.prog 85 #[.pointer (some p), .pointer (some q)] .returning w fun e u' w' => e = .returned (.tuple #[]) ∧ u' = .returning ∧ w' = w := by
 refine callsD_of_wpS Try.func85 rfl fun c₀ cs hu => ?_
 apply wpS_seq
 apply wpS_region
 simp [wpOpsS, go_sem, recoverD, hu, Try.ntmps85, Exit.thenS]
 refine wpS_cond (t := false) (by simp [Act.eval, Array.replicate]) ?_; simp only [Bool.false_eq_true, if_false]; refine wpS_of_wp (wp_skip ?_); cases c₀
 simp_all [bodyPostS, results, Try.results85]
abbrev chR : List PanicEntry := [{ v := .iface 31 (.int .i64 7), recovered := true }]
theorem read1_catch (S0 : Nat → Prop) (w0 w : World) (S : Nat → Prop) (E : List Iz) (g2 g3 : Nat) (x0 x1 x2 x3 y : Value) (hE : Ez S0 w0 w S (.blk g2 26 [x0, x1, x2, x3] :: .blk g3 4 [y] :: E)) :
  CallsD Try.prog 85 #[Pt g2 0, Pt g3 0] (.panicking chE) w fun e u' w' => e = .returned (.tuple #[]) ∧ u' = .panicking chR ∧ ∃ S, Ez S0 w0 w' S (.blk g2 26 [I 0, I 0, .slice none 0 0, .slice none 0 0] :: .blk g3 4 [B false] :: E) := by
 refine callsD_of_wpS Try.func85 rfl fun c₀ cs hu => ?_
 apply wpS_seq
 apply wpS_region
 simp [wpOpsS, go_sem, recoverD, hu, Try.ntmps85, Exit.thenS]
 refine wpS_cond (t := true) (by simp [Act.eval, Array.replicate]) ?_; simp only [if_true]; refine wpS_of_wp ?_; refine (?_ : Ge S0 w0 5 [(0, Pt g2 0), (1, Pt g3 0)] (.blk g2 26 [x0, x1, x2, x3] :: .blk g3 4 [y] :: E) _) _ w S ⟨rfl, by simp, fun i v hv => ?_⟩ hE
 ·refine rg (rn 1 [] f0 [(4, .agg #[I 0, I 0, .slice none 0 0, .slice none 0 0])] (l1 (sr 0 g2 (ns 0 [I 0, I 0, .slice none 0 0, .slice none 0 0]) (l1 (sr 1 g3 [(0, B false)] (nl ?_)))))); intro a w S k e; exact ⟨k.d, _, rfl, .tuple #[], by simp [results, Try.results85], rfl, rfl, S, e⟩
 ·match i, hv with
  | 0, hv => cases hv; rfl
  | 1, hv => cases hv; rfl
  | i + 2, hv => cases hv
theorem get1_catch (S0 : Nat → Prop) (w0 w : World) (S : Nat → Prop) (E : List Iz) (g2 g3 : Nat) (x y : Value) (hE : Ez S0 w0 w S (.blk g2 45 [x] :: .blk g3 31 [y] :: E)) :
  CallsD Try.prog 104 #[Pt g2 0, Pt g3 0] (.panicking chE) w fun e u' w' => e = .returned (.tuple #[]) ∧ u' = .panicking chR ∧ ∃ S, Ez S0 w0 w' S (.blk g2 45 [.slice none 0 0] :: .blk g3 31 [I 7] :: E) := by
 refine callsD_of_wpS Try.func104 rfl fun c₀ cs hu => ?_
 apply wpS_seq
 apply wpS_region
 simp [wpOpsS, go_sem, recoverD, hu, Try.ntmps104, Exit.thenS]
 apply wpS_seq
 apply wpS_region
 simp [wpOpsS, go_sem, Exit.thenS]
 refine wpS_cond (t := true) (by simp [Act.eval, Array.replicate]) ?_; simp only [if_true]; refine wpS_of_wp ?_; refine (?_ : Ge S0 w0 8 [(0, Pt g2 0), (1, Pt g3 0), (2, .iface 31 (I 7))] (.blk g2 45 [x] :: .blk g3 31 [y] :: E) _) _ w S ⟨rfl, by simp, fun i v hv => ?_⟩ hE
 ·refine hb [] ?_; refine ht [] [0, 1] [] f0 [(7, I 7)] ?_; refine ho [2] ⟨h1 (sr 0 g2 [(0, .slice none 0 0)] (hk [] (ho [3] ⟨h1 (sr 1 g3 [(0, I 7)] (hk [] (he ?_))), trivial⟩))), trivial⟩; intro a w S k e; exact ⟨k.d, _, rfl, .tuple #[], by simp [results, Try.results104], rfl, rfl, S, e⟩
 ·match i, hv with
  | 0, hv => cases hv; rfl
  | 1, hv => cases hv; rfl
  | 2, hv => cases hv; rfl
  | i + 3, hv => cases hv
end Go.Proofs.Ytlfkgbideknkhaa
namespace Go.Proofs.Ytlfkgbideknkhaa
open Go.RowKit Go.Maps
def rdN : Nat → List Int → Option (List Int × List Int)
 | 0, b => some ([], b)
 | k + 1, b => match rdV 10 0 0 b with
  | none => none
  | some (n, r) => match rdN k r with
   | none => none
   | some (l, r') => some (n :: l, r')
def fnG (l : List Int) : Option (List Int × List Int) → List Int × Int
 | some (l2, []) => (l ++ l2, 0)
 | _ => ([], 7)
theorem fn_step {l : List Int} {v : Int} {k : Nat} {b rs : List Int} (h : rdV 10 0 0 b = some (v, rs)) : fnG l (rdN (k + 1) b) = fnG (l ++ [v]) (rdN k rs) := by
  have e : rdN (k + 1) b = match rdN k rs with
      | none => none
      | some (l, r') => some (v :: l, r') := by conv => lhs; unfold rdN; rw [h]
  rw [e]
  cases rdN k rs with
  | none => rfl
  | some q =>
    obtain ⟨q1, q2⟩ := q
    cases q2 with
    | nil => simp [fnG]
    | cons x y => rfl
def getS (b : List Int) : List Int × Int := match rdV 10 0 0 b with
 | none => ([], 7)
 | some (n, rest) => if 0 ≤ n ∧ n ≤ 1000 then fnG [] (rdN n.toNat rest) else ([], 7)
def G_codec_Get (_F : Nat) (b : List Int) : Option (List Int × Int) := if b.length ≤ 4611686018427387904 then some (getS b) else none
section
variable {S0 S : Nat → Prop} {w0 w w' : World} {n : Nat} {K : List (Nat × Value)} {E E' : List Iz} {Q : Exit → Act → World → Prop} {o : Oper} {Kx X : Act → World → Prop}
theorem cI [DSc] (d g : Nat) (A : Option Addr) (c : Nat) (bs : List Int) (i0 : Nat) (il : List Nat) (hi0 : i0 ≤ bs.length) (hbs : bs.length ≤ 4611686018427387904) (hT : Tb w0)
  (hok : ∀ v rest, rdV 10 0 0 (bs.drop i0) = some (v, rest) → rest.length ≤ bs.length → rest = bs.drop (bs.length - rest.length) → Ge S0 w0 n ((d, I v) :: K) (.blk g 142 [.slice A bs.length c, I ((bs.length - rest.length : Nat) : Int)] :: .dat (RowC A c c_u8 tr bs) :: E') Kx)
  (hbad : rdV 10 0 0 (bs.drop i0) = none → ∀ z, Ge S0 w0 n K (.blk g 142 [.slice A bs.length c, I z] :: .dat (RowC A c c_u8 tr bs) :: E') (Q (.panic chE)))
  (hw : selz E il = some (.blk g 142 [.slice A bs.length c, I (i0 : Nat)] :: .dat (RowC A c c_u8 tr bs) :: E') := by kernel_rfl) (hi : ndB il = true := by kernel_rfl)
  (he : ∀ J, sx Try.prog (execOp (rho K J) o) [] = some (.enter 105 #[Pt g 0], []) := by intro J; kernel_rfl) (hd : o.dst = some d := by kernel_rfl) (hn : Nat.blt d n = true := by kernel_rfl) :
  Ge S0 w0 n K E (oW Try.prog o Q Kx) := fun a w S hK hE => by
 unfold oW Oper.wp Oper.upon; rw [hK.eval, sx_run _ (he _) trivial, hd]; refine (int_c S0 w0 w S E' g A c bs i0 hi0 hbs hT (hE.sel il hw hi)).mono fun e w' hr => ?_
 rcases hr with ⟨v, rest, S', h1, rfl, h2, h3, h4⟩ | ⟨h1, rfl, z, S', h4⟩
 ·exact hok v rest h1 h2 h3 _ _ _ (hK.put hn _) h4
 ·exact hbad h1 z _ _ _ hK h4
theorem pm (il : List Nat) [DSc] (h : Ge S0 w0 n K E' X) (hw : selz E il = some E' := by kernel_rfl) (hi : ndB il = true := by kernel_rfl) : Ge S0 w0 n K E X := fun a w S k e => h a w S k (e.sel il hw hi)
end
abbrev deG (g2 g3 : Nat) : Deferred := { target := .fn (.func 104) #[Pt g2 0, Pt g3 0], args := #[] }
abbrev dG (g2 g3 : Nat) : DSc := ⟨[deG g2 g3]⟩
theorem get_bad {S0 : Nat → Prop} {w0 : World} {K : List (Nat × Value)} {E : List Iz} {g2 g3 : Nat} {x y : Value} {R : Ending → World → Prop} (hK2 : ∀ a, @Kn (dG g2 g3) 37 K a → @Kn (dG g2 g3) 37 [(2, Pt g2 0), (3, Pt g3 0)] a)
  (hR : ∀ S w, Ez S0 w0 w S (.blk g2 45 [.slice none 0 0] :: .blk g3 31 [I 7] :: E) → R (.returned (.tuple #[.slice none 0 0, I 7])) w) :
  @Ge (dG g2 g3) S0 w0 37 K (.blk g2 45 [x] :: .blk g3 31 [y] :: E) (bodyPostD Try.prog Try.f84 R (.panic chE)) := fun a w S hK hE => by
 letI : DSc := dG g2 g3
 have hK' := hK2 a hK
 show Leaves _ _ _ _ a.defers _ _
 rw [hK'.d]; refine leaves_cons (f := 104) (args := #[Pt g2 0, Pt g3 0]) (by simp) (by simp [go_sem]) ?_; refine (get1_catch S0 w0 w S E g2 g3 x y hE).mono ?_; rintro e u' w' ⟨rfl, rfl, S', hE'⟩; exact ⟨_, res_run hK' hE' [(0, 0, 1), (1, 0, 1)], hR _ _ hE'⟩
theorem get_end {S0 : Nat → Prop} {w0 : World} {K : List (Nat × Value)} {E : List Iz} {g2 g3 : Nat} {x y : Value} {R : Ending → World → Prop} (hK2 : ∀ a, @Kn (dG g2 g3) 37 K a → @Kn (dG g2 g3) 37 [(2, Pt g2 0), (3, Pt g3 0)] a)
  (hR : ∀ S w, Ez S0 w0 w S (.blk g2 45 [x] :: .blk g3 31 [y] :: E) → R (.returned (.tuple #[x, y])) w) :
  @Ge (dG g2 g3) S0 w0 37 K (.blk g2 45 [x] :: .blk g3 31 [y] :: E) (bodyPostD Try.prog Try.f84 R .ret) := fun a w S hK hE => by
 letI : DSc := dG g2 g3
 have hK' := hK2 a hK
 show Leaves _ _ _ _ a.defers _ _
 rw [hK'.d]; refine leaves_cons (f := 104) (args := #[Pt g2 0, Pt g3 0]) (by simp) (by simp [go_sem]) ?_; refine (get1_idle _ _ w).mono ?_; rintro e u' w' ⟨rfl, rfl, rfl⟩; exact ⟨_, res_run hK' hE [(0, 0, 1), (1, 0, 1)], hR _ _ hE⟩
set_option maxRecDepth 100000 in
set_option maxHeartbeats 4000000 in
theorem z_codec_Get (F : Nat) (A : Option Addr) (c : Nat) (b : List Int) (r : List Int × Int) (hG : G_codec_Get F b = some r) :
  Cn Try.prog 84 [.slice A b.length c] [RowC A c c_u8 tr b] (fun q : KSintL => r.1 = q.l) (fun q => .tuple #[.slice q.A q.l.length q.c, I r.2]) (fun q => [RowC q.A q.c c_i64 tr q.l]) := by
 unfold G_codec_Get at hG
 split at hG
 ·next hbl =>
  obtain rfl := oi hG; clear hG; intro S0 w0 hS hT hH; refine vcD_enter Try.func84 rfl rfl (by kernel_rfl) fun a hK => ?_
  refine (?_ : Ge S0 w0 37 _ ([RowC A c c_u8 tr b].map .dat) _) a w0 S0 hK (hH.ez hS (mr tr_mv m0)); clear hK a hS hH; refine sq (rg (l1 (nw 2 vp [.slice none 0 0] 45 fun g2 => l1 (nw 3 vp [I 0] 31 fun g3 => nl (tN ?_))))); refine sq (rg (rn 1 [] f0 [(6, .func (.func 104) #[] #[Pt g2 0, Pt g3 0])] (df (deG g2 g3) ?_ (by intro J W; first | kernel_rfl | simp [execOp, resolve, go_sem, rho, look]))))
  letI : DSc := dG g2 g3
  refine nl (tN ?_); have bad : getS b = ([], 7) → ∀ K x y E, (∀ a, Kn 37 K a → Kn 37 [(2, Pt g2 0), (3, Pt g3 0)] a) → Ge S0 w0 37 K (.blk g2 45 [x] :: .blk g3 31 [y] :: E) (bodyPostD Try.prog Try.f84 (fun e w' => ∃ x : KSintL, (getS b).1 = x.l ∧ e = .returned (.tuple #[.slice x.A x.l.length x.c, I (getS b).2]) ∧ Below w0.heap.size w0 w' ∧ AllH (ext S0 w0 w') w' [RowC x.A x.c c_i64 tr x.l]) (.panic chE)) := fun hn K x y E hk =>
   get_bad hk fun S w e => ⟨⟨none, 0, []⟩, by rw [hn], by rw [hn]; rfl, Es.b e, ⟨RowS.nil _ _ _, Nat.le_refl _, fun _ h => absurd h List.not_mem_nil⟩, trivial⟩
  refine sq (rg (rn 2 [] f0 [(8, .agg #[.slice A b.length c, I 0])] (l1 (nw 9 vp [.slice A b.length c, I 0] 142 fun g9 => ra [] f0 [(4, Pt g9 0)] (tN ?_))))); have bad1 : getS b = ([], 7) → ∀ K z, (∀ a, Kn 37 K a → Kn 37 [(2, Pt g2 0), (3, Pt g3 0)] a) → Ge S0 w0 37 K [.blk g9 142 [.slice A b.length c, I z], .dat (RowC A c c_u8 tr b), .blk g3 31 [I 0], .blk g2 45 [.slice none 0 0]] (bodyPostD Try.prog Try.f84 (fun e w' => ∃ x : KSintL, (getS b).1 = x.l ∧ e = .returned (.tuple #[.slice x.A x.l.length x.c, I (getS b).2]) ∧ Below w0.heap.size w0 w' ∧ AllH (ext S0 w0 w') w' [RowC x.A x.c c_i64 tr x.l]) (.panic chE)) := fun hn K z hk =>
   pm [3, 2, 0, 1] (bad hn K (.slice none 0 0) (I 0) [.blk g9 142 [.slice A b.length c, I z], .dat (RowC A c c_u8 tr b)] hk)
  refine sq (rg (rn 1 [] f0 [(10, Pt g9 0)] (l1 (cI (E' := [.blk g3 31 [I 0], .blk g2 45 [.slice none 0 0]]) 11 g9 A c b 0 [0, 3, 1, 2] (Nat.zero_le _) hbl hT (fun n rest q1 q2 q3 => ?_) (fun q1 z => ?_)))))
  ·have hn : getS b = if 0 ≤ n ∧ n ≤ 1000 then fnG [] (rdN n.toNat rest) else ([], 7) := by unfold getS; rw [show b = b.drop 0 from rfl, q1]
   refine ra [] f0 [(5, I n)] (tN ?_); refine sq (rg ?_); refine rn 3 [] f0 [(14, B (decide (0 ≤ n)))] ?_; have fail : ¬ (0 ≤ n ∧ n ≤ 1000) → getS b = ([], 7) := fun h => by rw [hn, if_neg h]
   by_cases hn0 : 0 ≤ n
   ·refine sb 14 (bt (decide_eq_true hn0)) ?_; refine rn 3 [] f0 [(17, B (decide (n ≤ 1000)))] ?_
    by_cases hn1 : n ≤ 1000
    ·refine sb 17 (bt (decide_eq_true hn1)) ?_; rw [if_pos ⟨hn0, hn1⟩] at hn; refine l1 (cl 18 need_ok hT trivial (nl (tN ?_))); clear fail; refine jn (fun K E a w => ∃ (l : List Int) (A2 : Option Addr) (c2 i : Nat), Js S0 w0 37 [(4, Pt g9 0), (2, Pt g2 0), (3, Pt g3 0), (0, .slice A b.length c)] [.blk g2 45 [.slice A2 l.length c2], .own 3 1 (.slice A2 l.length c2) l.length (l.flatMap c_i64), .blk g9 142 [.slice A b.length c, I (i : Nat)], .dat (RowC A c c_u8 tr b), .blk g3 31 [I 0]] (i ≤ b.length ∧ getS b = fnG l (some ([], b.drop i))) a w) ?_ ?_
     ·refine sq (rg (ra [] f0 [(19, I n), (20, I 0)] (tN (bk ?_)))); refine lp (fun K E m a w => ∃ (k : Nat) (l : List Int) (A2 : Option Addr) (c2 i : Nat), Js S0 w0 37 [(19, I n), (20, I (l.length : Nat)), (4, Pt g9 0), (2, Pt g2 0), (3, Pt g3 0), (0, .slice A b.length c)] [.blk g2 45 [.slice A2 l.length c2], .own 3 1 (.slice A2 l.length c2) l.length (l.flatMap c_i64), .blk g9 142 [.slice A b.length c, I (i : Nat)], .dat (RowC A c c_u8 tr b), .blk g3 31 [I 0]] (i ≤ b.length ∧ getS b = fnG l (rdN k (b.drop i)) ∧ (l.length : Int) + k = n ∧ m = k) a w) n.toNat ?_ ?_
      ·exact on 3 1 (fun a w S k e => ⟨n.toNat, [], none, 0, b.length - rest.length, S, k.wk, e.sel [4, 0, 1, 2, 3], by omega, by rw [hn, ← q3], by simp; omega, rfl⟩)
      ·rintro m a w ⟨k, l, A2, c2, i, hJ⟩; refine hJ.go fun ⟨hi, hg, hk0, hm⟩ => ?_
       clear hJ hn; refine sq (rg (ra [] f0 [(21, B (decide (((l.length : Nat) : Int) < n)))] (tN (sq ?_))))
       by_cases hlt : ((l.length : Nat) : Int) < n
       ·refine sb 21 (bt (decide_eq_true hlt)) (ct (kS (tN (sq (bk ?_))))); obtain ⟨k, rfl⟩ : ∃ k', k = k' + 1 := ⟨k - 1, by omega⟩; have hwl : IntKind.i64.wrap (((l.length : Nat) : Int) + 1) = ((l.length : Nat) : Int) + 1 := by unfold IntKind.wrap; simp [IntKind.signed, IntKind.bits]; omega
        have hbd : rdV 10 0 0 (b.drop i) = none → getS b = ([], 7) := fun h => by rw [hg]; unfold rdN; rw [h]; rfl
        have badL : getS b = ([], 7) → ∀ K z, (∀ a, Kn 37 K a → Kn 37 [(2, Pt g2 0), (3, Pt g3 0)] a) → Ge S0 w0 37 K [.blk g9 142 [.slice A b.length c, I z], .dat (RowC A c c_u8 tr b), .blk g2 45 [.slice A2 l.length c2], .own 3 1 (.slice A2 l.length c2) l.length (l.flatMap c_i64), .blk g3 31 [I 0]] (bodyPostD Try.prog Try.f84 (fun e w' => ∃ x : KSintL, (getS b).1 = x.l ∧ e = .returned (.tuple #[.slice x.A x.l.length x.c, I (getS b).2]) ∧ Below w0.heap.size w0 w' ∧ AllH (ext S0 w0 w') w' [RowC x.A x.c c_i64 tr x.l]) (.panic chE)) := fun hn K z hk =>
         pm [2, 4, 3, 0, 1] (bad hn K (.slice A2 l.length c2) (I 0) [.own 3 1 (.slice A2 l.length c2) l.length (l.flatMap c_i64), .blk g9 142 [.slice A b.length c, I z], .dat (RowC A c c_u8 tr b)] hk)
        have hap : ∀ v, apG 8 l ([v] : List Int) = some (l ++ [v]) := fun v => by unfold apG; rw [if_pos (by simp; omega)]
        refine hb [] (ho [0, 1] ⟨h1 (po 22 (.slice A2 l.length c2) [(0, 1, 0, 0)] f0 (hk [] (ho [1] ⟨h1 (po 23 (Pt g9 0) [] f0 (hk [] (ho [2] ⟨h1 (cI (E' := [.blk g2 45 [.slice A2 l.length c2], .own 3 1 (.slice A2 l.length c2) l.length (l.flatMap c_i64), .blk g3 31 [I 0]]) 24 g9 A c b i [2, 3, 0, 1, 4] hi hbl hT (fun v rs j1 j2 j3 => hk [] (ho [3] ⟨h1 (nw 25 (vs 1) [I v] 3 fun g => hk [] (ho [4] ⟨h1 (ap 4 26 A2 c2 l ([v] : List Int) inf45 (bA (f := c_i64) (ok := tr) (l := ([v] : List Int)) g 0 et.a) (hap v) one_i64 fun A3 c3 _ => hk [] (ho [5] ⟨h1 (sr 3 g2 [(0, .slice A3 (l ++ [v]).length c3)] (hk [] (he (hN (tN ?_))))), trivial⟩)), trivial⟩)), trivial⟩)) (fun j1 z => badL (hbd j1) _ z fun a k => k.wk)), trivial⟩))), trivial⟩))), h1 (po 23 (Pt g9 0) [] f0 (hk [] (ho [0, 2] ⟨h1 (po 22 (.slice A2 l.length c2) [(0, 1, 0, 0)] f0 (hk [] (ho [2] ⟨h1 (cI (E' := [.blk g2 45 [.slice A2 l.length c2], .own 3 1 (.slice A2 l.length c2) l.length (l.flatMap c_i64), .blk g3 31 [I 0]]) 24 g9 A c b i [2, 3, 0, 1, 4] hi hbl hT (fun v rs j1 j2 j3 => hk [] (ho [3] ⟨h1 (nw 25 (vs 1) [I v] 3 fun g => hk [] (ho [4] ⟨h1 (ap 4 26 A2 c2 l ([v] : List Int) inf45 (bA (f := c_i64) (ok := tr) (l := ([v] : List Int)) g 0 et.a) (hap v) one_i64 fun A3 c3 _ => hk [] (ho [5] ⟨h1 (sr 3 g2 [(0, .slice A3 (l ++ [v]).length c3)] (hk [] (he (hN (tN ?_))))), trivial⟩)), trivial⟩)), trivial⟩)) (fun j1 z => badL (hbd j1) _ z fun a k => k.wk)), trivial⟩))), h1 (cI (E' := [.blk g2 45 [.slice A2 l.length c2], .own 3 1 (.slice A2 l.length c2) l.length (l.flatMap c_i64), .blk g3 31 [I 0]]) 24 g9 A c b i [2, 3, 0, 1, 4] hi hbl hT (fun v rs j1 j2 j3 => hk [] (ho [0, 3] ⟨h1 (po 22 (.slice A2 l.length c2) [(0, 1, 2, 0)] f0 (hk [] (ho [3] ⟨h1 (nw 25 (vs 1) [I v] 3 fun g => hk [] (ho [4] ⟨h1 (ap 4 26 A2 c2 l ([v] : List Int) inf45 (bA (f := c_i64) (ok := tr) (l := ([v] : List Int)) g 0 et.a) (hap v) one_i64 fun A3 c3 _ => hk [] (ho [5] ⟨h1 (sr 3 g2 [(0, .slice A3 (l ++ [v]).length c3)] (hk [] (he (hN (tN ?_))))), trivial⟩)), trivial⟩)), trivial⟩))), h1 (nw 25 (vs 1) [I v] 3 fun g => hk [] (ho [0] ⟨h1 (po 22 (.slice A2 l.length c2) [(0, 1, 3, 0)] f0 (hk [] (ho [4] ⟨h1 (ap 4 26 A2 c2 l ([v] : List Int) inf45 (bA (f := c_i64) (ok := tr) (l := ([v] : List Int)) g 0 et.a) (hap v) one_i64 fun A3 c3 _ => hk [] (ho [5] ⟨h1 (sr 3 g2 [(0, .slice A3 (l ++ [v]).length c3)] (hk [] (he (hN (tN ?_))))), trivial⟩)), trivial⟩))), trivial⟩)), trivial⟩)) (fun j1 z => badL (hbd j1) _ z fun a k => k.wk)), trivial⟩))), trivial⟩)
        all_goals
         refine rg (ra [] f0 [(20, I (IntKind.i64.wrap (((l.length : Nat) : Int) + 1)))] (tN ?_)); refine sb 20 (congrArg I (hwl.trans (by simp : ((l.length : Nat) : Int) + 1 = (((l ++ [v]).length : Nat) : Int)))) ?_; exact fun a w S k' e => ⟨k, ⟨k, l ++ [v], A3, c3, b.length - rs.length, S, k'.wk, e.sel [3, 4, 1, 2, 5], by omega, by rw [hg, ← j3]; exact fn_step j1, by simp; omega, rfl⟩, by omega⟩
       ·refine sb 21 (bf (decide_eq_false hlt)) (cf (kX (tX (tX ?_)))); obtain rfl : k = 0 := by omega
        refine hH (tN ?_); exact fun a w S k e => ⟨l, A2, c2, i, S, k.wk, e, hi, hg⟩
     ·rintro a w ⟨l, A2, c2, i, hJ⟩; refine hJ.go fun ⟨hi, hg⟩ => ?_
      clear hJ hn; refine sq (rg (rn 7 [(3, 1, 2, 1)] f0 [(34, B (((i : Nat) : Int) == ((b.length : Nat) : Int)))] ?_))
      by_cases he : i = b.length
      ·refine sb 34 (bt (b := ((i : Nat) : Int) == ((b.length : Nat) : Int)) (by simp [he])) (l1 (cl 35 need_ok hT trivial (nl (tN ?_)))); have hg2 : getS b = (l, 0) := by rw [hg, he, List.drop_eq_nil_of_le (Nat.le_refl _)]; simp [fnG]
       refine sq (rg (rn 1 [(0, 1, 0, 0)] f0 [(36, .slice A2 l.length c2)] (l1 (sr 0 g2 [(0, .slice A2 l.length c2)] (l1 (sr 4 g3 [(0, I 0)] (nl (tN (kR ?_))))))))); refine so (A := A2) (c := c2) 1 c_i64 tr l tr_mv et ?_; refine pm (E' := .blk g2 45 [.slice A2 l.length c2] :: .blk g3 31 [I 0] :: [.dat (RowC A2 c2 c_i64 tr l), .blk g9 142 [.slice A b.length c, I (i : Nat)], .dat (RowC A c c_u8 tr b)]) [0, 4, 1, 2, 3] ?_; exact get_end (fun a k => k.wk) fun S w e => ⟨⟨A2, c2, l⟩, by rw [hg2], by rw [hg2], Es.b e, RowC.to tr_mv (Ez.get e (i := 2) rfl) (Es.sub e) (Ag.refl _ _), trivial⟩
      ·refine sb 34 (bf (b := ((i : Nat) : Int) == ((b.length : Nat) : Int)) (by simp; omega)) (l1 (pn need_bad ?_)); have hg2 : getS b = ([], 7) := by
        rw [hg]; cases hd : b.drop i with
        | nil => have := congrArg List.length hd; simp at this; omega
        | cons x y => rfl
       exact pm [0, 4, 1, 2, 3] (bad hg2 _ (.slice A2 l.length c2) (I 0) [.own 3 1 (.slice A2 l.length c2) l.length (l.flatMap c_i64), .blk g9 142 [.slice A b.length c, I (i : Nat)], .dat (RowC A c c_u8 tr b)] fun a k => k.wk)
    ·refine sb 17 (bf (decide_eq_false hn1)) ?_; exact l1 (pn need_bad (bad1 (fail fun h => hn1 h.2) _ _ fun a k => k.wk))
   ·refine sb 14 (bf (decide_eq_false hn0)) ?_; refine rn 3 [] f0 [(17, B false)] ?_; exact l1 (pn need_bad (bad1 (fail fun h => hn0 h.1) _ _ fun a k => k.wk))
  ·exact bad1 (by unfold getS; rw [show b = b.drop 0 from rfl, q1]) _ _ fun a k => k.wk
 ·cases hG
end Go.Proofs.Ytlfkgbideknkhaa
namespace Go.Proofs.Ytlfkgbideknkhaa
open Go.RowKit Go.Maps
theorem run_part3 {P : Program} {T e : TypeId} {i : TypeInfo} {A : Option Addr} {n c m p q : Nat} {k' k'' : IntKind} (lo : Option Value) (hT : P.underlying T = some (.slice e)) (hi' : P.info? e = some i) (hm : i.size = m) (hlo : (lo = none ∧ p = 0) ∨ (∃ k, lo = some (.int k (p : Int)))) (hpq : p ≤ q) (hqn : q ≤ n) (hnc : n ≤ c) (W : World) :
  (Instr.sliceAt T (.slice A n c) lo (some (.int k' (q : Int))) (some (.int k'' (q : Int)))).run P W = .ok (.slice (if q = p then A else A.map (·.add (p * m))) (q - p) (q - p)) W := by
 have hs : ∀ W, (sizeOf e).run P W = .ok m W := fun W => by simp [sizeOf, typeInfo, hi', hm, run_program]
 have h1 : (p : Int) ≤ q := by omega
 have h2 : (q : Int) ≤ c := by omega
 rcases hlo with ⟨rfl, rfl⟩ | ⟨k, rfl⟩ <;> simp [Instr.sliceAt, Instr.slice, run_underlying hT, Instr.sliceBounds, run_sliceBound, hs, h1, h2]
section
variable {S0 : Nat → Prop} {w0 : World} {n : Nat} {K : List (Nat × Value)} {E : List Iz} {X : Act → World → Prop} {P : Program} {T e : TypeId} {m bytes : Nat} {z0 : Value} {α : Type} {A : Option Addr} {c : Nat} {f : α → List Value} {ok : α → Pr} {l : List α}
theorem fpx [DSc] (lo : Bool) (inf : Inf P T e m bytes z0) (hr : Fd E (RowC A c f ok l)) {a b : Int} {r : List α} (hy : slI l a b = some r) (hlo : lo = false → a = 0)
  (h : ∀ A', (∀ k k' k'' W, (Instr.sliceAt T (.slice A l.length c) (ib lo k a) (some (.int k' b)) (some (.int k'' b))).run P W = .ok (.slice A' r.length r.length) W) → Ge S0 w0 n K (.dat (RowC A' r.length f ok r) :: E) X) (hm : ∀ x, (f x).length = m := by intro _; rfl) : Ge S0 w0 n K E X := fun ac w S hK hE => by
 obtain ⟨ti, hti, _, hm', _⟩ := info_parts inf.i; obtain ⟨p, q, rfl, rfl, hpq, hql, hrr⟩ := slI_some hy; have hc := (hr _ _ _ _ hE S w (fun _ h => h) (Ag.refl _ _)).c; have hrl : r.length = q - p := by rw [hrr, List.length_drop, List.length_take]; omega
 refine h (if q = p then A else A.map (·.add (p * m))) (fun k k' k'' W => ?_) ac w S hK (Es.dat hE fun S' W h1 h2 => ?_)
 ·rw [hrl]; refine run_part3 (p := p) (q := q) (n := l.length) _ inf.t hti hm' ?_ hpq hql hc W; cases lo with
  | false => exact .inl ⟨rfl, by have := hlo rfl; omega⟩
  | true => exact .inr ⟨k, rfl⟩
 ·have h3 := hr _ _ _ _ hE S' W h1 h2; refine ⟨?_, Nat.le_refl _, fun y hy => h3.e y (List.mem_of_mem_take (List.mem_of_mem_drop (hrr ▸ hy)))⟩; subst hrr
  split
  ·next hcp =>
   have : (l.take q).drop p = [] := List.drop_eq_nil_of_le (by rw [List.length_take]; omega); rw [this]; exact RowS.nil _ _ _
  ·exact h3.r.part hm p q hql
theorem rwc [DSc] (hr : Fd E (RowC A c f ok l)) (hl : l.flatMap f ≠ []) (h : ∀ b o, A = some ⟨b, o, none⟩ → Ge S0 w0 n K (.rc b o (l.flatMap f) :: E) X) : Ge S0 w0 n K E X := fun a w S hK hE => by
 obtain ⟨b, o, hA, _⟩ := (hr _ _ _ _ hE S w (fun _ h => h) (Ag.refl _ _)).r.s hl; refine h b o hA a w S hK (Es.dat hE fun S' W h1 h2 => ?_); have h3 := (hr _ _ _ _ hE S' W h1 h2).r; obtain ⟨b', o', e1, hS⟩ := h3.s hl; obtain ⟨b2, o2, e2, _, hc⟩ := h3.r hl; rw [hA] at e1 e2
 injection e1 with e1; injection e1 with e11 e12
 injection e2 with e2; injection e2 with e21 e22
 subst e11 e12 e21 e22; exact ⟨hc, hS⟩
end
theorem eqItems_bytes {P : Program} {e : TypeId} {xs ys : Array Value} {a b : Nat → Int} (d : Nat) (he : P.plainKey e = true) (hu : P.underlying e = some (.int .u8)) (w : World) :
  ∀ (is : List Nat), (∀ i ∈ is, xs[i]? = some (Y (a i)) ∧ ys[i]? = some (Y (b i))) → (Op.eqItems (d + 1) e 1 xs ys is).run P w = .ok (is.all fun i => a i == b i) w
 | [], _ => by simp [Op.eqItems, List.all]
 | i :: is, h => by
  have h0 := h i (.head _); have ih := eqItems_bytes d he hu w is (fun j hj => h j (.tail _ hj)); rw [Op.eqItems, Sem.run_bind, Nat.mul_one, run_part_plain w he h0.1, Result.andThen_ok, Sem.run_bind, run_part_plain w he h0.2, Result.andThen_ok, Sem.run_bind, run_equalIn_int w d e _ _ _ _ hu, Result.andThen_ok]
  by_cases hq : a i = b i
  ·rw [show (a i == b i) = true from beq_iff_eq.2 hq, if_neg (by simp), ih, List.all_cons, beq_iff_eq.2 hq, Bool.true_and]
  ·have hf : (a i == b i) = false := by simpa using hq
   rw [hf, if_pos (show (!false) = true from rfl), Sem.run_pure, List.all_cons, hf, Bool.false_and]
theorem neq_K8 (x y : K8_uint8) (w : World) : (binOp .neq 107 (.agg #[Y x.f0, Y x.f1, Y x.f2, Y x.f3, Y x.f4, Y x.f5, Y x.f6, Y x.f7]) (.agg #[Y y.f0, Y y.f1, Y y.f2, Y y.f3, Y y.f4, Y y.f5, Y y.f6, Y y.f7])).run Try.prog w = .ok (.bool (!decide (x = y))) w := by
 obtain ⟨i, hi⟩ : ∃ i, Try.prog.info? 5 = some i := info_of_underlying Try.underlying5
 let at8 : K8_uint8 → Nat → Int := fun x i => match i with | 0 => x.f0 | 1 => x.f1 | 2 => x.f2 | 3 => x.f3 | 4 => x.f4 | 5 => x.f5 | 6 => x.f6 | _ => x.f7
 rw [run_neq_struct, show (10000 : Nat) = 9998 + 1 + 1 from rfl, run_equalIn_array w (9998 + 1) (e := 5) (n := 8) _ _ (by kernel_rfl) hi, show Try.prog.cellsOf 5 = 1 by kernel_rfl,
  eqItems_bytes (a := at8 x) (b := at8 y) 9998 (by kernel_rfl) (by kernel_rfl) w _ (fun i hi => ?_), Result.andThen_ok]
 ·have he : ((List.range 8).all fun i => at8 x i == at8 y i) = decide (x = y) := by
   rw [Bool.eq_iff_iff, List.all_eq_true, decide_eq_true_iff]; constructor
   ·intro h; have h' : ∀ i, i < 8 → at8 x i = at8 y i := fun i hi => beq_iff_eq.1 (h i (List.mem_range.2 hi))
    have e0 := h' 0 (by decide); have e1 := h' 1 (by decide); have e2 := h' 2 (by decide); have e3 := h' 3 (by decide); have e4 := h' 4 (by decide); have e5 := h' 5 (by decide); have e6 := h' 6 (by decide); have e7 := h' 7 (by decide); cases x; cases y; simp only [at8] at e0 e1 e2 e3 e4 e5 e6 e7; subst e0 e1 e2 e3 e4 e5 e6 e7; rfl
   ·intro h; subst h; intro i _; exact beq_self_eq_true _
  rw [he]
 ·have := List.mem_range.1 hi
  match i, this with
  | 0, _ => exact ⟨rfl, rfl⟩
  | 1, _ => exact ⟨rfl, rfl⟩
  | 2, _ => exact ⟨rfl, rfl⟩
  | 3, _ => exact ⟨rfl, rfl⟩
  | 4, _ => exact ⟨rfl, rfl⟩
  | 5, _ => exact ⟨rfl, rfl⟩
  | 6, _ => exact ⟨rfl, rfl⟩
  | 7, _ => exact ⟨rfl, rfl⟩
def frmN (b0 b1 b2 : Int) : Int := bits .or .i64 (bits .or .i64 (IntKind.i64.wrap (IntKind.i64.wrap b0 * 2 ^ 16)) (IntKind.i64.wrap (IntKind.i64.wrap b1 * 2 ^ 8))) (IntKind.i64.wrap b2)
def k8 : List Int → Option K8_uint8
 | [d0, d1, d2, d3, d4, d5, d6, d7] => some ⟨d0, d1, d2, d3, d4, d5, d6, d7⟩
 | _ => none
def G_codec_first (F : Nat) (b : List Int) : Option (List Int × Int × Bool) :=
  match b with
  | b0 :: b1 :: b2 :: _ => ifB (decide (((b.length : Nat) : Int) < IntKind.i64.wrap (frmN b0 b1 b2 + 11))) (some ([], 0, false))
      (Option.bind (slI b (IntKind.i64.wrap (frmN b0 b1 b2 + 3)) (IntKind.i64.wrap (frmN b0 b1 b2 + 11))) fun d =>
      Option.bind (k8 d) fun d8 =>
      Option.bind (slI b 0 (IntKind.i64.wrap (frmN b0 b1 b2 + 3))) fun h =>
      Option.bind (G_codec_sum F h) fun s =>
      ifB (decide (d8 = s)) (Option.bind (slI b 3 (IntKind.i64.wrap (frmN b0 b1 b2 + 3))) fun q =>
          Option.bind (G_codec_Get F q) (un2 fun l e => some (l, IntKind.i64.wrap (frmN b0 b1 b2 + 11), e == 0)))
        (some ([], 0, false)))
  | _ => some ([], 0, false)
theorem k8_some {d : List Int} {x : K8_uint8} (h : k8 d = some x) : d = [x.f0, x.f1, x.f2, x.f3, x.f4, x.f5, x.f6, x.f7] := by
 unfold k8 at h
 split at h
 ·cases h; rfl
 ·cases h
set_option maxRecDepth 100000 in
set_option maxHeartbeats 4000000 in
theorem z_codec_first (F : Nat) (A : Option Addr) (c : Nat) (b : List Int) (r : List Int × Int × Bool) (hG : G_codec_first F b = some r) :
  Cn Try.prog 64 [.slice A b.length c] [RowC A c c_u8 tr b] (fun q : KSintL => r.1 = q.l) (fun q => .tuple #[.slice q.A q.l.length q.c, I r.2.1, B r.2.2]) (fun q => [RowC q.A q.c c_i64 tr q.l]) := by
 refine fin Try.func64 rfl rfl (mr tr_mv m0) fun S0 w0 hT => ?_
 refine sq (rg (ra [] f0 [(2, .slice none 0 0), (3, I 0), (4, B false)] (tN (sq (sq (rg (ra [] f0 [(10, B (decide (((b.length : Nat) : Int) < 3)))] (tN ?_))))))))
 by_cases h3 : b.length < 3
 ·refine sb 10 (bt (b := decide (((b.length : Nat) : Int) < 3)) (decide_eq_true (by omega))) (ct (sq (rg (ra [] f0 [(2, .slice none 0 0), (3, I 0), (4, B false)] (tN (kR (tR ?_))))))); have hr : r = ([], 0, false) := by
   match b, h3 with
   | [], _ => exact (oi hG).symm
   | [_], _ => exact (oi hG).symm
   | [_, _], _ => exact (oi hG).symm
  subst hr; exact rtn [] ⟨none, 0, ([] : List Int)⟩ rfl ⟨gn, trivial⟩
 ·refine sb 10 (bf (b := decide (((b.length : Nat) : Int) < 3)) (decide_eq_false (by omega))) (cf (kS (tN (sq ?_)))); obtain ⟨y0, y1, y2, ys, rfl⟩ : ∃ y0 y1 y2 ys, b = y0 :: y1 :: y2 :: ys := by
   match b, h3 with
   | y0 :: y1 :: y2 :: ys, _ => exact ⟨_, _, _, _, rfl⟩
   | [], h => exact absurd (by simp) h
   | [_], h => exact absurd (by simp) h
   | [_, _], h => exact absurd (by simp) h
  unfold G_codec_first at hG; obtain ⟨n, hn⟩ : ∃ n, frmN y0 y1 y2 = n := ⟨_, rfl⟩
  dsimp only at hG
  rw [hn] at hG; obtain ⟨b, hb⟩ : ∃ b, y0 :: y1 :: y2 :: ys = b := ⟨_, rfl⟩; have e0 : ixI b 0 = some y0 := by rw [← hb]; rfl
  have e1 : ixI b 1 = some y1 := by rw [← hb]; rfl
  have e2 : ixI b 2 = some y2 := by rw [← hb]; rfl
  rw [hb] at hG h3 ⊢; clear hb; refine qb (fx inf22 (gd' (RowC A c c_u8 tr b) 0) e0 fun g0 o0 i0 => fx inf22 (gd' (RowC A c c_u8 tr b) 1) e1 fun g1 o1 i1 => fx inf22 (gd' (RowC A c c_u8 tr b) 2) e2 fun g2 o2 i2 => qa [(1, 0, 0, 0), (0, 1, 2, 0), (3, 0, 0, 0), (0, 1, 1, 0), (4, 0, 0, 0), (0, 1, 0, 0)] (fc (i0 .i64) (fc (i1 .i64) (fc (i2 .i64) f0))) [(5, I (frmN y0 y1 y2))] (tN ?_)); refine sb 5 (congrArg I hn) (sq (sq ?_)); refine (qb (qn 6 [] f0 [(32, B (decide (((b.length : Nat) : Int) < IntKind.i64.wrap (n + 11))))] ?_)); rcases ic hG with ⟨h4, hG⟩ | ⟨h4, hG⟩
  ·refine sb 32 (bt h4) (qa [] f0 [(49, B true)] (tN (ct (sq (rg (ra [] f0 [(2, .slice none 0 0), (3, I 0), (4, B false)] (tN (kR (tR ?_))))))))); obtain rfl := oi hG; exact rtn [] ⟨none, 0, ([] : List Int)⟩ rfl ⟨gn, trivial⟩
  ·refine sb 32 (bf h4) ?_; obtain ⟨d, hd, hG1⟩ := bs hG; obtain ⟨x, hx, hG2⟩ := bs hG1; have hdx := k8_some hx; subst hdx; obtain ⟨h, hh, hG3⟩ := bs hG2; obtain ⟨s, hs, hG⟩ := bs hG3; refine fp true true inf22 (gd' (RowC A c c_u8 tr b) 3) hd fun A' c' i1 => ?_
   refine rwc (gd' (RowC A' c' c_u8 tr [x.f0, x.f1, x.f2, x.f3, x.f4, x.f5, x.f6, x.f7]) 0) (by simp [List.flatMap, c_u8]) fun g1 o1 hA => ?_
   subst hA; refine fpx false inf22 (gd' (RowC A c c_u8 tr b) 5) hh (fun _ => rfl) fun A2 i2 => ?_
   refine qn 14 [(5, 0, 0, 0), (1, 8, 1, 0), (5, 0, 0, 0)] (fc (i1 .i64 .i64) (fc (i2 .i64 .i64 .i64) f0)) [(40, .agg #[Y x.f0, Y x.f1, Y x.f2, Y x.f3, Y x.f4, Y x.f5, Y x.f6, Y x.f7]), (46, .slice A2 h.length h.length)] ?_; refine qc 47 (z_codec_sum F A2 h.length h _ hs) hT ⟨ga 0, trivial⟩ (qa [(0, 0, 0, 0)] (fc (neq_K8 x s) f0) [(49, B (!decide (x = s)))] (tN ?_)); rcases ic hG with ⟨h5, hG⟩ | ⟨h5, hG⟩
   ·refine sb 49 (nt h5) (cf (kS (tN (sq ?_)))); obtain ⟨q, hq, hG⟩ := bs hG; obtain ⟨l, e, hl, hG⟩ := b2 hG; obtain rfl := oi hG; refine rg (fpx true inf22 (gd' (RowC A c c_u8 tr b) 6) hq (fun h => by cases h) fun A3 i3 => rn 6 [(5, 0, 0, 0)] (fc (i3 .i64 .i64 .i64) f0) [(56, .slice A3 q.length q.length)] (l1 (cn 57 (z_codec_Get F A3 q.length q _ hl) hT (fun _ => (mr tr_mv m0)) ⟨gi 0, trivial⟩ ?_))); rintro ⟨A4, c4, l'⟩ hq4; obtain rfl : l = l' := hq4; refine ra [] f0 [(6, .slice A4 l.length c4), (7, I e)] (tN (sq (rg (ra [] f0 [(2, .slice A4 l.length c4), (3, I (IntKind.i64.wrap (n + 11))), (4, B (e == 0))] (tN (kR ?_)))))); exact rtn [] ⟨A4, c4, l⟩ rfl ⟨gi 0, trivial⟩
   ·refine sb 49 (nf h5) (ct (sq (rg (ra [] f0 [(2, .slice none 0 0), (3, I 0), (4, B false)] (tN (kR (tR ?_))))))); obtain rfl := oi hG; exact rtn [] ⟨none, 0, ([] : List Int)⟩ rfl ⟨gn, trivial⟩
end Go.Proofs.Ytlfkgbideknkhaa
namespace Go.Proofs.Ytlfkgbideknkhaa
open Go.RowKit Go.Maps
def G_codec_Frame (F : Nat) (p_0 : List Int) : Option ((List Int) × Int) :=
 Option.bind (G_codec_Put F p_0) (un2 fun v_1 v_2 =>
 ifB ((v_2 == 0))
  (Option.bind (apG 1 ([IntKind.u8.wrap (Int.fdiv ((v_1.length : Nat) : Int) (2 ^ 16)), IntKind.u8.wrap (Int.fdiv ((v_1.length : Nat) : Int) (2 ^ 8)), IntKind.u8.wrap ((v_1.length : Nat) : Int)] : List Int) v_1) (fun v_5 =>
  Option.bind (G_codec_sum F v_5) (fun v_6 =>
  Option.bind (apG 1 v_5 ([v_6.f0, v_6.f1, v_6.f2, v_6.f3, v_6.f4, v_6.f5, v_6.f6, v_6.f7] : List Int)) (fun v_8 =>
  some (v_8, 0)))))
  (some (([] : List Int), v_2)))
set_option maxRecDepth 100000 in
set_option maxHeartbeats 16000000 in
theorem z_codec_Frame (F : Nat) (p_0_A : Option Addr) (p_0_c : Nat) (p_0 : List Int) (r : (List Int) × Int) (hG : G_codec_Frame F p_0 = some r) :
  Cg Try.prog 28 [.slice p_0_A p_0.length p_0_c] [RowC p_0_A p_0_c c_i64 tr p_0] (fun q : KSuint8L => r.1 = q.l) (fun q => .tuple #[.slice q.A q.l.length q.c, I r.2]) (fun q => [RowC q.A q.c c_u8 tr q.l]) := by
 unfold G_codec_Frame at hG
 try simp only [List.length_map, KLeaderL.n_Open] at hG
 refine fing Try.func28 rfl rfl (mr tr_mv m0) fun S0 w0 hT => sq (rg (ra [] f0 [] (tN (sq ?_))))
 obtain ⟨v_1o, v_2, hy_1, hG⟩ := b2 hG; refine rg (rn 1 [] f0 [(9, .slice p_0_A p_0.length p_0_c)] (l1 (cgn 10 (z_codec_Put F p_0_A p_0_c p_0 _ hy_1) hT (fun _ => (mr tr_mv m0)) ⟨ga 0, trivial⟩ ?_))); rintro ⟨v_1_A, v_1_c, v_1⟩ hq_1; obtain rfl : v_1 = v_1o := hq_1.symm
 try simp only [List.length_map, KLeaderL.n_Open] at hG
 refine ra [] f0 [(4, .slice v_1_A v_1.length v_1_c), (5, I v_2)] (tN (sq (sq (rg (ra [] f0 [(14, B (!(v_2 == 0)))] (tN ?_)))))); rcases ic hG with ⟨h_3, hG⟩ | ⟨h_3, hG⟩
 ·refine sb 14 (nt h_3) (cf (kS (tN (sq ?_)))); obtain ⟨v_5, hy_5, hG⟩ := bs hG; refine rg (rn 11 [] f0 [(19, Y (IntKind.u8.wrap (Int.fdiv ((v_1.length : Nat) : Int) (2 ^ 16)))), (23, Y (IntKind.u8.wrap (Int.fdiv ((v_1.length : Nat) : Int) (2 ^ 8)))), (26, Y (IntKind.u8.wrap ((v_1.length : Nat) : Int)))] (l1 (nw 27 (vs 3) [Y (IntKind.u8.wrap (Int.fdiv ((v_1.length : Nat) : Int) (2 ^ 16))), Y (IntKind.u8.wrap (Int.fdiv ((v_1.length : Nat) : Int) (2 ^ 8))), Y (IntKind.u8.wrap ((v_1.length : Nat) : Int))] 5 fun g_4 => rn 1 [] f0 [(28, .slice v_1_A v_1.length v_1_c)] (bo 0 1 3 g_4 5 [Y (IntKind.u8.wrap (Int.fdiv ((v_1.length : Nat) : Int) (2 ^ 16))), Y (IntKind.u8.wrap (Int.fdiv ((v_1.length : Nat) : Int) (2 ^ 8))), Y (IntKind.u8.wrap ((v_1.length : Nat) : Int))] (l1 (ap 0 29 (some ⟨g_4, 0, none⟩) 3 ([IntKind.u8.wrap (Int.fdiv ((v_1.length : Nat) : Int) (2 ^ 16)), IntKind.u8.wrap (Int.fdiv ((v_1.length : Nat) : Int) (2 ^ 8)), IntKind.u8.wrap ((v_1.length : Nat) : Int)] : List Int) v_1 inf22 ((gd' (RowC v_1_A v_1_c c_u8 tr v_1) 2).a) hy_5 one_u8 fun v_5_A v_5_c _ => ra [] f0 [(6, .slice v_5_A v_5.length v_5_c)] (tN (sq ?_)))))))); obtain ⟨v_6, hy_6, hG⟩ := bs hG; refine rg (rn 1 [] f0 [(30, .slice v_5_A v_5.length v_5_c)] (l1 (cl 31 (z_codec_sum F v_5_A v_5_c v_5 _ hy_6) hT ⟨oa 0 et.a, trivial⟩ (l1 (nw 7 vp [Y 0, Y 0, Y 0, Y 0, Y 0, Y 0, Y 0, Y 0] 107 fun g_7 => l1 (sr 0 g_7 (ns 0 [Y v_6.f0, Y v_6.f1, Y v_6.f2, Y v_6.f3, Y v_6.f4, Y v_6.f5, Y v_6.f6, Y v_6.f7]) (nl (tN (sq ?_))))))))); obtain ⟨v_8, hy_8, hG⟩ := bs hG; refine rg (rn 2 [] f0 [(32, .slice v_5_A v_5.length v_5_c), (33, Sb g_7 8 8)] (l1 (ap 1 34 v_5_A v_5_c v_5 ([v_6.f0, v_6.f1, v_6.f2, v_6.f3, v_6.f4, v_6.f5, v_6.f6, v_6.f7] : List Int) inf22 (bA (f := c_u8) (ok := tr) (l := ([v_6.f0, v_6.f1, v_6.f2, v_6.f3, v_6.f4, v_6.f5, v_6.f6, v_6.f7] : List Int)) g_7 0 et.a) hy_8 one_u8 fun v_8_A v_8_c _ => ra [] f0 [(2, .slice v_8_A v_8.length v_8_c), (3, I 0)] (tN (kR ?_))))); obtain rfl := oi hG; exact rtg [] ⟨v_8_A, v_8_c, v_8⟩ rfl ⟨frO 1, trivial⟩
 ·refine sb 14 (nf h_3) (ct (sq (rg (ra [] f0 [(2, .slice none 0 0), (3, I v_2)] (tN (kR (tR ?_))))))); obtain rfl := oi hG; exact rtg [] ⟨none, 0, ([] : List Int)⟩ rfl ⟨frN, trivial⟩
def G_codec_Frames (F : Nat) (p_0 : List Int) : Option ((List (List Int)) × Int × Int) :=
  ifB (decide (((p_0.length : Nat) : Int) > 100000))
    (some (([] : List (List Int)), 0, 2))
    (Option.bind (Option.bind (G_codec_first F p_0) (un3 fun v_2 v_3 v_4 =>
      Option.bind (iter (σ := (List (List Int)) × Int × (List Int) × Int × Bool) (ρ := ((List (List Int)) × Int)) (un5 fun (v_28 : (List (List Int))) (v_31 : Int) (v_32 : (List Int)) (v_35 : Int) (v_36 : Bool) => 
          (ifB (v_36)
            (Option.bind (apG 24 v_28 ([v_32] : List (List Int))) (fun v_40 =>
            Option.bind (slI p_0 (IntKind.i64.wrap (v_31 + v_35)) ((p_0.length : Nat) : Int)) (fun v_41 =>
            Option.bind (G_codec_first F v_41) (un3 fun v_42 v_43 v_44 =>
            some (.inl (v_40, IntKind.i64.wrap (v_31 + v_35), v_42, v_43, v_44))))))
            (some (.inr (v_28, v_31))) : Option (((List (List Int)) × Int × (List Int) × Int × Bool) ⊕ ((List (List Int)) × Int)))) F (([] : List (List Int)), 0, v_2, v_3, v_4)) (un2 fun (v_45 : (List (List Int))) (v_48 : Int) => 
        some (v_45, v_48))) : Option (((List (List Int)) × Int))) (un2 fun (v_50 : (List (List Int))) (v_53 : Int) => 
      some (v_50, v_53, 0)))
set_option maxRecDepth 100000 in
set_option maxHeartbeats 16000000 in
theorem z_codec_Frames (F : Nat) (p_0_A : Option Addr) (p_0_c : Nat) (p_0 : List Int) (r : (List (List Int)) × Int × Int) (hG : G_codec_Frames F p_0 = some r) :
  Cn Try.prog 32 [.slice p_0_A p_0.length p_0_c] [RowC p_0_A p_0_c c_u8 tr p_0] (fun q : KS__intL => r.1 = (q.l.map KSintL.p)) (fun q => .tuple #[.slice q.A q.l.length q.c, I r.2.1, I r.2.2]) (fun q => [RowC q.A q.c KSintL.cells KSintL.ok q.l]) := by
 unfold G_codec_Frames at hG
 try simp only [List.length_map, KLeaderL.n_Open] at hG
 refine fin Try.func32 rfl rfl (mr tr_mv m0) fun S0 w0 hT => sq (rg (ra [] f0 [] (tN (sq (sq (rg (ra [] f0 [(12, B (decide (((p_0.length : Nat) : Int) > 100000)))] (tN ?_))))))))
 rcases ic hG with ⟨h_1, hG⟩ | ⟨h_1, hG⟩
 ·try simp only [List.length_map, KLeaderL.n_Open] at h_1
  refine sb 12 (bt h_1) (ct (sq (rg (ra [] f0 (ns 2 [.slice none 0 0, I 0, I 2]) (tN (kR (tR ?_))))))); obtain rfl := oi hG; exact rtn [] ⟨none, 0, ([] : List KSintL)⟩ rfl ⟨gn, trivial⟩
 ·try simp only [List.length_map, KLeaderL.n_Open] at h_1
  refine sb 12 (bf h_1) (cf (kS (tN (sq (rg (ra [] f0 [(5, .slice none 0 0)] (tN (sq (rg (ra [] f0 [(6, I 0)] (tN ?_))))))))))); obtain ⟨o_49, hG, hG_49⟩ := bs hG; refine jn (fun K E a w => ∃ (v_50 : List KSintL) (v_51_A : Option Addr) (v_52_c : Nat) (v_53 : Int), Js S0 w0 37 ([(5, .slice v_51_A v_50.length v_52_c), (6, I v_53)] ++ K) ([.own 45 1 (.slice v_51_A v_50.length v_52_c) v_50.length (v_50.flatMap KSintL.cells), .dat (Each KSintL.ok v_50)]) (((v_50.map KSintL.p), v_53) = o_49) a w) ?_ ?_
  ·refine sq ?_; obtain ⟨v_2o, v_3, v_4, hy_2, hG⟩ := b3 hG; refine rg (rn 1 [] f0 [(14, .slice p_0_A p_0.length p_0_c)] (l1 (cn 15 (z_codec_first F p_0_A p_0_c p_0 _ hy_2) hT (fun _ => (mr tr_mv m0)) ⟨gi 0, trivial⟩ ?_))); rintro ⟨v_2_A, v_2_c, v_2⟩ hq_2; obtain rfl : v_2 = v_2o := hq_2.symm
   try simp only [List.length_map, KLeaderL.n_Open] at hG
   refine ra [] f0 (ns 7 [.slice v_2_A v_2.length v_2_c, I v_3, B v_4]) (tN (bk ?_)); obtain ⟨e_37, hL, hG_37⟩ := bs hG; clear hG; obtain ⟨stp_37, hs_37, hL⟩ := iter_gen hL; refine lp (fun K E n_ a w => ∃ (v_28 : List KSintL) (v_29_A : Option Addr) (v_30_c : Nat) (v_31 : Int) (v_32 : List Int) (v_33_A : Option Addr) (v_34_c : Nat) (v_35 : Int) (v_36 : Bool), Js S0 w0 37 ((ns 5 [.slice v_29_A v_28.length v_30_c, I v_31, .slice v_33_A v_32.length v_34_c, I v_35, B v_36]) ++ K) ([.own 45 1 (.slice v_29_A v_28.length v_30_c) v_28.length (v_28.flatMap KSintL.cells), .dat (Each KSintL.ok v_28), .dat (RowC v_33_A v_34_c c_i64 tr v_32)] ++ se E [1]) (iter stp_37 n_ ((v_28.map KSintL.p), v_31, v_32, v_35, v_36) = some e_37) a w) F ?_ ?_
   ·exact on 45 1 (fm (Each KSintL.ok ([] : List KSintL)) e0 (fun _ _ S k e => ⟨([] : List KSintL), none, 0, 0, v_2, v_2_A, v_2_c, v_3, v_4, S, k.wk, e.sel [1, 0, 2, 3], hL⟩))
   ·clear hL; rintro n_37 a w ⟨v_28, v_29_A, v_30_c, v_31, v_32, v_33_A, v_34_c, v_35, v_36, hJ⟩; refine hJ.go fun hL => ?_
    clear hJ; obtain ⟨m_37, o_37, rfl, hG, hO1_37, hO2_37⟩ := iter_step hL; clear hL; rw [hs_37] at hG
    try simp only [List.length_map, KLeaderL.n_Open] at hG
    refine sq (sq (rg (ra [] f0 [(19, B v_36)] (tN ?_)))); rcases ic hG with ⟨h_38, hG⟩ | ⟨h_38, hG⟩
    ·refine sb 19 (bt h_38) (ct (kS (tN (sq (bk ?_))))); obtain ⟨v_40o, hy_40, hG⟩ := bs hG; refine rg (rn 2 [] f0 [(28, .slice v_29_A v_28.length v_30_c), (29, .slice v_33_A v_32.length v_34_c)] (l1 (nw 30 (vs 1) [.slice v_33_A v_32.length v_34_c] 45 fun g_39 => l1 (apn (p := KSintL.p) (ok := KSintL.ok) 1 31 v_29_A v_30_c v_28 ([(⟨v_33_A, v_34_c, v_32⟩ : KSintL)] : List KSintL) inf71 (bA (f := KSintL.cells) (ok := tr) (l := ([(⟨v_33_A, v_34_c, v_32⟩ : KSintL)] : List KSintL)) g_39 0 et.a) (gd' (Each KSintL.ok v_28) 2) (ec (((gd' (RowC v_33_A v_34_c c_i64 tr v_32) 3)).m fun _ _ h => ⟨h⟩) e0) hy_40 KSintL.one fun v_40 v_40_A v_40_c he_40 _ => ?_)))); subst he_40
     try simp only [List.length_map, KLeaderL.n_Open] at hG
     refine ra [] f0 [(5, .slice v_40_A v_40.length v_40_c), (6, I (IntKind.i64.wrap (v_31 + v_35)))] (hN (tN ?_)); obtain ⟨v_41, hy_41, hG⟩ := bs hG; obtain ⟨v_42o, v_43, v_44, hy_42, hG⟩ := b3 hG; refine rg (fp true false inf22 (gd' (RowC p_0_A p_0_c c_u8 tr p_0) 5) hy_41 fun v_41_A v_41_c hp_41 => rn 3 [(2, 0, 0, 0)] (fc (hp_41 .i64 .i64) f0) [(23, .slice v_41_A v_41.length v_41_c)] (l1 (cn 24 (z_codec_first F v_41_A v_41_c v_41 _ hy_42) hT (fun _ => (mr tr_mv m0)) ⟨gi 0, trivial⟩ ?_))); rintro ⟨v_42_A, v_42_c, v_42⟩ hq_42; obtain rfl : v_42 = v_42o := hq_42.symm
     try simp only [List.length_map, KLeaderL.n_Open] at hG
     exact ra [] f0 (ns 7 [.slice v_42_A v_42.length v_42_c, I v_43, B v_44]) (tN (fun a w S hK hE => ⟨m_37, ⟨v_40, v_40_A, v_40_c, IntKind.i64.wrap (v_31 + v_35), v_42, v_42_A, v_42_c, v_43, v_44, S, hK.wk, hE.sel [4, 2, 0, 7], hO1_37 _ (oi hG).symm⟩, Nat.lt_succ_self _⟩))
    ·refine sb 19 (bf h_38) (cf (kX (tX (tX ?_)))); have he_ := hO2_37 _ (oi hG).symm; subst he_; replace hG := hG_37
     try simp only [List.length_map, KLeaderL.n_Open] at hG
     exact hH (tN (fun _ _ S k e => ⟨v_28, v_29_A, v_30_c, v_31, S, k.wk, e.sel [0, 1], oi hG⟩))
  ·rintro a w ⟨v_50, v_51_A, v_52_c, v_53, hJ⟩; refine hJ.go fun ho_ => ?_
   clear hJ; subst ho_; replace hG := hG_49
   try simp only [List.length_map, KLeaderL.n_Open] at hG
   refine sq (rg (ra [] f0 (ns 2 [.slice v_51_A v_50.length v_52_c, I v_53, I 0]) (tN (kR ?_)))); obtain rfl := oi hG; exact so (A := v_51_A) (c := v_52_c) 0 KSintL.cells KSintL.ok v_50 KSintL.mv (gd' (Each KSintL.ok v_50) 1) (rtn [] ⟨v_51_A, v_52_c, v_50⟩ rfl ⟨gi 0, trivial⟩)
def G_versions_order (F : Nat) (p_0 : KVersion) (p_1 : KVersion) : Option (Int) :=
 Option.bind (G_cmp_Compare_int F p_0.Key p_1.Key) (fun v_3 =>
 Option.bind (G_cmp_Compare_int F p_0.Ts p_1.Ts) (fun v_4 =>
 Option.bind (G_cmp_Or_int F ([v_3, v_4] : List Int)) (fun v_6 =>
 some v_6)))
set_option maxRecDepth 100000 in
set_option maxHeartbeats 16000000 in
theorem z_versions_order (F : Nat) (p_0 : KVersion) (p_1 : KVersion) (r : Int) (hG : G_versions_order F p_0 p_1 = some r) :
  Cf Try.prog 72 [.agg #[I p_0.Key, I p_0.Ts, I p_0.Value, B p_0.Gone], .agg #[I p_1.Key, I p_1.Ts, I p_1.Value, B p_1.Gone]] [] (I r) := by
 unfold G_versions_order at hG; refine fi Try.func72 rfl rfl m0 fun S0 w0 hT => sq (rg (l1 (nw 2 vp [I p_0.Key, I p_0.Ts, I p_0.Value, B p_0.Gone] 61 fun g_1 => l1 (nw 3 vp [I p_1.Key, I p_1.Ts, I p_1.Value, B p_1.Gone] 61 fun g_2 => ra [] f0 [] (tN (sq ?_))))))
 obtain ⟨v_3, hy_3, hG⟩ := bs hG; obtain ⟨v_4, hy_4, hG⟩ := bs hG; obtain ⟨v_6, hy_6, hG⟩ := bs hG; refine hb [0, 1] (ht [0, 1] [0, 1, 2, 3, 5, 6, 7, 8] [(1, 1, 1, 0), (1, 1, 0, 0), (1, 1, 1, 1), (1, 1, 0, 1)] f0 [(6, I p_0.Key), (8, I p_1.Key), (11, I p_0.Ts), (13, I p_1.Ts)] (ho [4] ⟨h1 (cl 9 (z_cmp_Compare_int F p_0.Key p_1.Key _ hy_3) hT trivial (hk [0, 1] (ho [9] ⟨h1 (cl 14 (z_cmp_Compare_int F p_0.Ts p_1.Ts _ hy_4) hT trivial (hk [0, 1] (ho [10] ⟨h1 (nw 15 (vs 2) [I v_3, I v_4] 3 fun g_5 => hk [1, 2] (ho [11] ⟨h1 (cl 16 (z_cmp_Or_int F (some ⟨g_5, 0, none⟩) 2 ([v_3, v_4] : List Int) _ hy_6) hT ⟨ba 0 et.a, trivial⟩ (hk [1, 2] (ht [1, 2] [12] [] f0 [(4, I v_6)] (he (tN (kR ?_)))))), trivial⟩)), trivial⟩))), trivial⟩))), trivial⟩)); obtain rfl := oi hG; exact rt []
def G_versions_wellFormed (F : Nat) (p_0 : KVersion) : Option (Bool) :=
 Option.bind (Option.bind (G_versions_isKey F p_0.Key) (fun v_2 =>
  ifB (v_2)
   (Option.bind (G_versions_isStamp F p_0.Ts) (fun v_4 =>
   ifB (v_4)
    (Option.bind (G_versions_within F p_0.Value 0 1000000) (fun v_6 =>
    ifB (v_6)
     (ifB (p_0.Gone)
      (some (p_0.Value == 0))
      (some true))
     (some false)))
    (some false)))
   (some false)) : Option (Bool)) (fun (v_10 : Bool) =>
  some v_10)
set_option maxRecDepth 100000 in
set_option maxHeartbeats 16000000 in
theorem z_versions_wellFormed (F : Nat) (p_0 : KVersion) (r : Bool) (hG : G_versions_wellFormed F p_0 = some r) :
  Cf Try.prog 68 [.agg #[I p_0.Key, I p_0.Ts, I p_0.Value, B p_0.Gone]] [] (B r) := by
 unfold G_versions_wellFormed at hG; refine fi Try.func68 rfl rfl m0 fun S0 w0 hT => sq (rg (l1 (nw 1 vp [I p_0.Key, I p_0.Ts, I p_0.Value, B p_0.Gone] 61 fun g_1 => ra [] f0 [] (tN ?_))))
 obtain ⟨o_9, hG, hG_9⟩ := bs hG; refine jn (fun K E a w => ∃ v_10 : Bool, Js S0 w0 26 ([(2, B v_10)] ++ K) (se E []) (v_10 = o_9) a w) ?_ ?_
 ·obtain ⟨v_2, hy_2, hG⟩ := bs hG; rcases ic hG with ⟨h_3, hG⟩ | ⟨h_3, hG⟩
  ·obtain ⟨v_4, hy_4, hG⟩ := bs hG; rcases ic hG with ⟨h_5, hG⟩ | ⟨h_5, hG⟩
   ·obtain ⟨v_6, hy_6, hG⟩ := bs hG; rcases ic hG with ⟨h_7, hG⟩ | ⟨h_7, hG⟩
    ·rcases ic hG with ⟨h_8, hG⟩ | ⟨h_8, hG⟩
     ·exact rg (rn 2 [(1, 1, 0, 0)] f0 [(4, I p_0.Key)] (l1 (cl 5 (z_versions_isKey F p_0.Key _ hy_2) hT trivial (rn 1 [] f0 [(6, B v_2)] (sb 6 (bt h_3) (rn 2 [(1, 1, 0, 1)] f0 [(8, I p_0.Ts)] (l1 (cl 9 (z_versions_isStamp F p_0.Ts _ hy_4) hT trivial (rn 2 [] f0 [(11, B v_4)] (sb 11 (bt h_5) (rn 2 [(1, 1, 0, 2)] f0 [(13, I p_0.Value)] (l1 (cl 14 (z_versions_within F p_0.Value 0 1000000 _ hy_6) hT trivial (rn 2 [] f0 [(16, B v_6)] (sb 16 (bt h_7) (rn 4 [(1, 1, 0, 3)] f0 [(20, B (!p_0.Gone))] (sb 20 (nt h_8) (ra [(1, 1, 0, 2)] f0 [(2, B (p_0.Value == 0))] (tN (fun _ _ S k e => ⟨(p_0.Value == 0), S, k.wk, e.sel [], oi hG⟩))))))))))))))))))))
     ·exact rg (rn 2 [(1, 1, 0, 0)] f0 [(4, I p_0.Key)] (l1 (cl 5 (z_versions_isKey F p_0.Key _ hy_2) hT trivial (rn 1 [] f0 [(6, B v_2)] (sb 6 (bt h_3) (rn 2 [(1, 1, 0, 1)] f0 [(8, I p_0.Ts)] (l1 (cl 9 (z_versions_isStamp F p_0.Ts _ hy_4) hT trivial (rn 2 [] f0 [(11, B v_4)] (sb 11 (bt h_5) (rn 2 [(1, 1, 0, 2)] f0 [(13, I p_0.Value)] (l1 (cl 14 (z_versions_within F p_0.Value 0 1000000 _ hy_6) hT trivial (rn 2 [] f0 [(16, B v_6)] (sb 16 (bt h_7) (rn 4 [(1, 1, 0, 3)] f0 [(20, B (!p_0.Gone))] (sb 20 (nf h_8) (ra [] f0 [(2, B true)] (tN (fun _ _ S k e => ⟨true, S, k.wk, e.sel [], oi hG⟩))))))))))))))))))))
    ·exact rg (rn 2 [(1, 1, 0, 0)] f0 [(4, I p_0.Key)] (l1 (cl 5 (z_versions_isKey F p_0.Key _ hy_2) hT trivial (rn 1 [] f0 [(6, B v_2)] (sb 6 (bt h_3) (rn 2 [(1, 1, 0, 1)] f0 [(8, I p_0.Ts)] (l1 (cl 9 (z_versions_isStamp F p_0.Ts _ hy_4) hT trivial (rn 2 [] f0 [(11, B v_4)] (sb 11 (bt h_5) (rn 2 [(1, 1, 0, 2)] f0 [(13, I p_0.Value)] (l1 (cl 14 (z_versions_within F p_0.Value 0 1000000 _ hy_6) hT trivial (rn 2 [] f0 [(16, B v_6)] (sb 16 (bf h_7) (ra [] f0 [(2, B false)] (tN (fun _ _ S k e => ⟨false, S, k.wk, e.sel [], oi hG⟩))))))))))))))))))
   ·exact rg (rn 2 [(1, 1, 0, 0)] f0 [(4, I p_0.Key)] (l1 (cl 5 (z_versions_isKey F p_0.Key _ hy_2) hT trivial (rn 1 [] f0 [(6, B v_2)] (sb 6 (bt h_3) (rn 2 [(1, 1, 0, 1)] f0 [(8, I p_0.Ts)] (l1 (cl 9 (z_versions_isStamp F p_0.Ts _ hy_4) hT trivial (rn 2 [] f0 [(11, B v_4)] (sb 11 (bf h_5) (ra [] f0 [(2, B false)] (tN (fun _ _ S k e => ⟨false, S, k.wk, e.sel [], oi hG⟩)))))))))))))
  ·exact rg (rn 2 [(1, 1, 0, 0)] f0 [(4, I p_0.Key)] (l1 (cl 5 (z_versions_isKey F p_0.Key _ hy_2) hT trivial (rn 1 [] f0 [(6, B v_2)] (sb 6 (bf h_3) (ra [] f0 [(2, B false)] (tN (fun _ _ S k e => ⟨false, S, k.wk, e.sel [], oi hG⟩))))))))
 ·rintro a w ⟨v_10, hJ⟩; refine hJ.go fun ho_ => ?_
  clear hJ; subst ho_; replace hG := hG_9; refine kR ?_; obtain rfl := oi hG; exact rt []
def G_regulatorref34_Same (F : Nat) (p_0 : KLeader) (p_1 : KLeader) : Option (Bool) :=
  Option.bind (ifB ((p_0.Last == p_1.Last))
      (Option.bind (G_regulatorref33_Same F p_0.Store p_1.Store) (fun v_4 =>
      ifB (v_4)
        (Option.bind (G_regulatorref34_SameTxs F p_0.Open p_1.Open) (fun v_6 =>
        some v_6))
        (some false)))
      (some false) : Option (Bool)) (fun (v_8 : Bool) => 
    some v_8)
set_option maxRecDepth 100000 in
set_option maxHeartbeats 16000000 in
theorem z_regulatorref34_Same (F : Nat) (p_0 : KLeaderL) (p_1 : KLeaderL) (r : Bool) (hG : G_regulatorref34_Same F p_0.p p_1.p = some r) :
  Cf Try.prog 19 [.agg #[I p_0.Last, .slice p_0.Store_A p_0.Store.length p_0.Store_c, .slice p_0.Open_A p_0.Open.length p_0.Open_c], .agg #[I p_1.Last, .slice p_1.Store_A p_1.Store.length p_1.Store_c, .slice p_1.Open_A p_1.Open.length p_1.Open_c]] [KLeaderL.ok p_0, KLeaderL.ok p_1] (B r) := by
 unfold G_regulatorref34_Same at hG
 try simp only [List.length_map, KLeaderL.n_Open] at hG
 refine fi Try.func19 rfl rfl (mc KLeaderL.mv (mc KLeaderL.mv m0)) fun S0 w0 hT => sq (rg (l1 (nw 2 vp [I p_0.Last, .slice p_0.Store_A p_0.Store.length p_0.Store_c, .slice p_0.Open_A p_0.Open.length p_0.Open_c] 40 fun g_1 => l1 (nw 3 vp [I p_1.Last, .slice p_1.Store_A p_1.Store.length p_1.Store_c, .slice p_1.Open_A p_1.Open.length p_1.Open_c] 40 fun g_2 => ra [] f0 [] (tN ?_)))))
 obtain ⟨o_7, hG, hG_7⟩ := bs hG; refine jn (fun K E a w => ∃ v_8 : Bool, Js S0 w0 24 ([(4, B v_8)] ++ K) (se E []) (v_8 = o_7) a w) ?_ ?_
 ·rcases ic hG with ⟨h_3, hG⟩ | ⟨h_3, hG⟩
  ·obtain ⟨v_4, hy_4, hG⟩ := bs hG; rcases ic hG with ⟨h_5, hG⟩ | ⟨h_5, hG⟩
   ·obtain ⟨v_6, hy_6, hG⟩ := bs hG; exact rg (rn 6 [(1, 1, 1, 0), (1, 1, 0, 0)] f0 [(10, B (p_0.Last == p_1.Last))] (sb 10 (bt h_3) (rn 4 [(1, 1, 1, 1), (1, 1, 0, 1)] f0 [(12, .slice p_0.Store_A p_0.Store.length p_0.Store_c), (14, .slice p_1.Store_A p_1.Store.length p_1.Store_c)] (l1 (cl 15 (z_regulatorref33_Same F p_0.Store_A p_0.Store_c p_0.Store p_1.Store_A p_1.Store_c p_1.Store _ hy_4) hT ⟨(gm (KLeaderL.ok p_0) 2 fun _ _ h => h.f_Store).a, (gm (KLeaderL.ok p_1) 3 fun _ _ h => h.f_Store).a, trivial⟩ (rn 2 [] f0 [(17, B v_4)] (sb 17 (bt h_5) (rn 4 [(1, 1, 1, 2), (1, 1, 0, 2)] f0 [(19, .slice p_0.Open_A p_0.Open.length p_0.Open_c), (21, .slice p_1.Open_A p_1.Open.length p_1.Open_c)] (l1 (cl 22 (z_regulatorref34_SameTxs F p_0.Open_A p_0.Open_c p_0.Open p_1.Open_A p_1.Open_c p_1.Open _ hy_6) hT ⟨(gm (KLeaderL.ok p_0) 2 fun _ _ h => h.f_Open).a, (gm (KLeaderL.ok p_1) 3 fun _ _ h => h.f_Open).a, trivial⟩ (ra [] f0 [(4, B v_6)] (tN (fun _ _ S k e => ⟨v_6, S, k.wk, e.sel [], oi hG⟩)))))))))))))
   ·exact rg (rn 6 [(1, 1, 1, 0), (1, 1, 0, 0)] f0 [(10, B (p_0.Last == p_1.Last))] (sb 10 (bt h_3) (rn 4 [(1, 1, 1, 1), (1, 1, 0, 1)] f0 [(12, .slice p_0.Store_A p_0.Store.length p_0.Store_c), (14, .slice p_1.Store_A p_1.Store.length p_1.Store_c)] (l1 (cl 15 (z_regulatorref33_Same F p_0.Store_A p_0.Store_c p_0.Store p_1.Store_A p_1.Store_c p_1.Store _ hy_4) hT ⟨(gm (KLeaderL.ok p_0) 2 fun _ _ h => h.f_Store).a, (gm (KLeaderL.ok p_1) 3 fun _ _ h => h.f_Store).a, trivial⟩ (rn 2 [] f0 [(17, B v_4)] (sb 17 (bf h_5) (ra [] f0 [(4, B false)] (tN (fun _ _ S k e => ⟨false, S, k.wk, e.sel [], oi hG⟩))))))))))
  ·exact rg (rn 6 [(1, 1, 1, 0), (1, 1, 0, 0)] f0 [(10, B (p_0.Last == p_1.Last))] (sb 10 (bf h_3) (ra [] f0 [(4, B false)] (tN (fun _ _ S k e => ⟨false, S, k.wk, e.sel [], oi hG⟩)))))
 ·rintro a w ⟨v_8, hJ⟩; refine hJ.go fun ho_ => ?_
  clear hJ; subst ho_; replace hG := hG_7; refine kR ?_; obtain rfl := oi hG; exact rt []
def G_regulatorref34_Tx (F : Nat) (p_0 : KTx) : Option (Bool) :=
  Option.bind (G_regulatorref34_reads F p_0.Reads) (fun v_2 =>
  Option.bind (G_regulatorref34_writes F p_0.Writes) (fun v_3 =>
  Option.bind (ifB (v_2)
      (ifB (v_3)
        (ifB (decide (p_0.ID ≥ 1))
          (ifB (decide (p_0.ID ≤ 1000000))
            (ifB (decide (p_0.Ts ≥ 0))
              (some (decide (p_0.Ts ≤ 3000000000000000)))
              (some false))
            (some false))
          (some false))
        (some false))
      (some false) : Option (Bool)) (fun (v_10 : Bool) => 
    some v_10)))
set_option maxRecDepth 100000 in
set_option maxHeartbeats 16000000 in
theorem z_regulatorref34_Tx (F : Nat) (p_0 : KTxL) (r : Bool) (hG : G_regulatorref34_Tx F p_0.p = some r) :
  Cf Try.prog 25 [.agg #[I p_0.ID, I p_0.Ts, .slice p_0.Reads_A p_0.Reads.length p_0.Reads_c, .slice p_0.Writes_A p_0.Writes.length p_0.Writes_c]] [KTxL.ok p_0] (B r) := by
 unfold G_regulatorref34_Tx at hG
 try simp only [List.length_map, KLeaderL.n_Open] at hG
 refine fi Try.func25 rfl rfl (mc KTxL.mv m0) fun S0 w0 hT => sq (rg (l1 (nw 1 vp [I p_0.ID, I p_0.Ts, .slice p_0.Reads_A p_0.Reads.length p_0.Reads_c, .slice p_0.Writes_A p_0.Writes.length p_0.Writes_c] 26 fun g_1 => ra [] f0 [] (tN (sq ?_)))))
 obtain ⟨v_2, hy_2, hG⟩ := bs hG; refine rg (rn 2 [(1, 1, 0, 2)] f0 [(6, .slice p_0.Reads_A p_0.Reads.length p_0.Reads_c)] (l1 (cl 7 (z_regulatorref34_reads F p_0.Reads_A p_0.Reads_c p_0.Reads _ hy_2) hT ⟨(gm (KTxL.ok p_0) 1 fun _ _ h => h.f_Reads).a, trivial⟩ (ra [] f0 [(3, B v_2)] (tN (sq ?_)))))); obtain ⟨v_3, hy_3, hG⟩ := bs hG; refine rg (rn 2 [(1, 1, 0, 3)] f0 [(9, .slice p_0.Writes_A p_0.Writes.length p_0.Writes_c)] (l1 (cl 10 (z_regulatorref34_writes F p_0.Writes_A p_0.Writes_c p_0.Writes _ hy_3) hT ⟨(gm (KTxL.ok p_0) 1 fun _ _ h => h.f_Writes).a, trivial⟩ (ra [] f0 [(4, B v_3)] (tN ?_))))); obtain ⟨o_9, hG, hG_9⟩ := bs hG; refine jn (fun K E a w => ∃ v_10 : Bool, Js S0 w0 35 ([(2, B v_10)] ++ K) (se E []) (v_10 = o_9) a w) ?_ ?_
 ·rcases ic hG with ⟨h_4, hG⟩ | ⟨h_4, hG⟩
  ·rcases ic hG with ⟨h_5, hG⟩ | ⟨h_5, hG⟩
   ·rcases ic hG with ⟨h_6, hG⟩ | ⟨h_6, hG⟩
    ·rcases ic hG with ⟨h_7, hG⟩ | ⟨h_7, hG⟩
     ·rcases ic hG with ⟨h_8, hG⟩ | ⟨h_8, hG⟩
      ·exact rg (rn 2 [] f0 [(12, B v_2)] (sb 12 (bt h_4) (rn 3 [] f0 [(15, B v_3)] (sb 15 (bt h_5) (rn 5 [(1, 1, 0, 0)] f0 [(20, B (decide (p_0.ID ≥ 1)))] (sb 20 (bt h_6) (rn 5 [(1, 1, 0, 0)] f0 [(25, B (decide (p_0.ID ≤ 1000000)))] (sb 25 (bt h_7) (rn 5 [(1, 1, 0, 1)] f0 [(30, B (decide (p_0.Ts ≥ 0)))] (sb 30 (bt h_8) (ra [(1, 1, 0, 1)] f0 [(2, B (decide (p_0.Ts ≤ 3000000000000000)))] (tN (fun _ _ S k e => ⟨decide (p_0.Ts ≤ 3000000000000000), S, k.wk, e.sel [], oi hG⟩)))))))))))))
      ·exact rg (rn 2 [] f0 [(12, B v_2)] (sb 12 (bt h_4) (rn 3 [] f0 [(15, B v_3)] (sb 15 (bt h_5) (rn 5 [(1, 1, 0, 0)] f0 [(20, B (decide (p_0.ID ≥ 1)))] (sb 20 (bt h_6) (rn 5 [(1, 1, 0, 0)] f0 [(25, B (decide (p_0.ID ≤ 1000000)))] (sb 25 (bt h_7) (rn 5 [(1, 1, 0, 1)] f0 [(30, B (decide (p_0.Ts ≥ 0)))] (sb 30 (bf h_8) (ra [] f0 [(2, B false)] (tN (fun _ _ S k e => ⟨false, S, k.wk, e.sel [], oi hG⟩)))))))))))))
     ·exact rg (rn 2 [] f0 [(12, B v_2)] (sb 12 (bt h_4) (rn 3 [] f0 [(15, B v_3)] (sb 15 (bt h_5) (rn 5 [(1, 1, 0, 0)] f0 [(20, B (decide (p_0.ID ≥ 1)))] (sb 20 (bt h_6) (rn 5 [(1, 1, 0, 0)] f0 [(25, B (decide (p_0.ID ≤ 1000000)))] (sb 25 (bf h_7) (ra [] f0 [(2, B false)] (tN (fun _ _ S k e => ⟨false, S, k.wk, e.sel [], oi hG⟩)))))))))))
    ·exact rg (rn 2 [] f0 [(12, B v_2)] (sb 12 (bt h_4) (rn 3 [] f0 [(15, B v_3)] (sb 15 (bt h_5) (rn 5 [(1, 1, 0, 0)] f0 [(20, B (decide (p_0.ID ≥ 1)))] (sb 20 (bf h_6) (ra [] f0 [(2, B false)] (tN (fun _ _ S k e => ⟨false, S, k.wk, e.sel [], oi hG⟩)))))))))
   ·exact rg (rn 2 [] f0 [(12, B v_2)] (sb 12 (bt h_4) (rn 3 [] f0 [(15, B v_3)] (sb 15 (bf h_5) (ra [] f0 [(2, B false)] (tN (fun _ _ S k e => ⟨false, S, k.wk, e.sel [], oi hG⟩)))))))
  ·exact rg (rn 2 [] f0 [(12, B v_2)] (sb 12 (bf h_4) (ra [] f0 [(2, B false)] (tN (fun _ _ S k e => ⟨false, S, k.wk, e.sel [], oi hG⟩)))))
 ·rintro a w ⟨v_10, hJ⟩; refine hJ.go fun ho_ => ?_
  clear hJ; subst ho_; replace hG := hG_9; refine kR ?_; obtain rfl := oi hG; exact rt []
def G_regulatorref04_next (F : Nat) (p_0 : List Int) : Option ((List Int) × Int × Bool) :=
  ifB (decide (((p_0.length : Nat) : Int) < 3))
    (some (([] : List Int), 0, false))
    (Option.bind (ixI p_0 0) (fun v_2 =>
    Option.bind (ixI p_0 1) (fun v_5 =>
    Option.bind (ixI p_0 2) (fun v_8 =>
    Option.bind (ifB (decide (((p_0.length : Nat) : Int) < (IntKind.i64.wrap ((IntKind.i64.wrap ((IntKind.i64.wrap ((IntKind.i64.wrap ((IntKind.i64.wrap v_2) * 65536)) + (IntKind.i64.wrap ((IntKind.i64.wrap v_5) * 256)))) + (IntKind.i64.wrap v_8))) + 11))))
        (some true)
        (Option.bind (slI p_0 0 (IntKind.i64.wrap ((IntKind.i64.wrap ((IntKind.i64.wrap ((IntKind.i64.wrap ((IntKind.i64.wrap v_2) * 65536)) + (IntKind.i64.wrap ((IntKind.i64.wrap v_5) * 256)))) + (IntKind.i64.wrap v_8))) + 3))) (fun v_12 =>
        Option.bind (G_regulatorref04_sum F v_12) (fun v_13 =>
        Option.bind (slI p_0 (IntKind.i64.wrap ((IntKind.i64.wrap ((IntKind.i64.wrap ((IntKind.i64.wrap ((IntKind.i64.wrap v_2) * 65536)) + (IntKind.i64.wrap ((IntKind.i64.wrap v_5) * 256)))) + (IntKind.i64.wrap v_8))) + 3)) (IntKind.i64.wrap ((IntKind.i64.wrap ((IntKind.i64.wrap ((IntKind.i64.wrap ((IntKind.i64.wrap v_2) * 65536)) + (IntKind.i64.wrap ((IntKind.i64.wrap v_5) * 256)))) + (IntKind.i64.wrap v_8))) + 11))) (fun v_14 =>
        Option.bind (G_regulatorref04_Same F v_13 v_14) (fun v_15 =>
        some (!v_15)))))) : Option (Bool)) (fun (v_17 : Bool) => 
      ifB (v_17)
        (some (([] : List Int), 0, false))
        (Option.bind (slI p_0 3 (IntKind.i64.wrap ((IntKind.i64.wrap ((IntKind.i64.wrap ((IntKind.i64.wrap ((IntKind.i64.wrap v_2) * 65536)) + (IntKind.i64.wrap ((IntKind.i64.wrap v_5) * 256)))) + (IntKind.i64.wrap v_8))) + 3))) (fun v_19 =>
        Option.bind (G_regulatorref04_Get F v_19) (un2 fun v_20 v_21 =>
        some (v_20, IntKind.i64.wrap ((IntKind.i64.wrap ((IntKind.i64.wrap ((IntKind.i64.wrap ((IntKind.i64.wrap v_2) * 65536)) + (IntKind.i64.wrap ((IntKind.i64.wrap v_5) * 256)))) + (IntKind.i64.wrap v_8))) + 11), (v_21 == 0))))))))))
set_option maxRecDepth 100000 in
set_option maxHeartbeats 16000000 in
theorem z_regulatorref04_next (F : Nat) (p_0_A : Option Addr) (p_0_c : Nat) (p_0 : List Int) (r : (List Int) × Int × Bool) (hG : G_regulatorref04_next F p_0 = some r) :
  Cn Try.prog 67 [.slice p_0_A p_0.length p_0_c] [RowC p_0_A p_0_c c_u8 tr p_0] (fun q : KSintL => r.1 = q.l) (fun q => .tuple #[.slice q.A q.l.length q.c, I r.2.1, B r.2.2]) (fun q => [RowC q.A q.c c_i64 tr q.l]) := by
 unfold G_regulatorref04_next at hG
 try simp only [List.length_map, KLeaderL.n_Open] at hG
 refine fin Try.func67 rfl rfl (mr tr_mv m0) fun S0 w0 hT => sq (rg (ra [] f0 [] (tN (sq (sq (rg (ra [] f0 [(10, B (decide (((p_0.length : Nat) : Int) < 3)))] (tN ?_))))))))
 rcases ic hG with ⟨h_1, hG⟩ | ⟨h_1, hG⟩
 ·try simp only [List.length_map, KLeaderL.n_Open] at h_1
  refine sb 10 (bt h_1) (ct (sq (rg (ra [] f0 (ns 2 [.slice none 0 0, I 0, B false]) (tN (kR (tR ?_))))))); obtain rfl := oi hG; exact rtn [] ⟨none, 0, ([] : List Int)⟩ rfl ⟨gn, trivial⟩
 ·try simp only [List.length_map, KLeaderL.n_Open] at h_1
  refine sb 10 (bf h_1) (cf (kS (tN (sq ?_)))); obtain ⟨v_2, hy_2, hG⟩ := bs hG; obtain ⟨v_5, hy_5, hG⟩ := bs hG; obtain ⟨v_8, hy_8, hG⟩ := bs hG; refine qb (fx inf22 (gd' (RowC p_0_A p_0_c c_u8 tr p_0) 0) hy_2 fun b_3 o_4 hi_2 => fx inf22 (gd' (RowC p_0_A p_0_c c_u8 tr p_0) 1) hy_5 fun b_6 o_7 hi_5 => fx inf22 (gd' (RowC p_0_A p_0_c c_u8 tr p_0) 2) hy_8 fun b_9 o_10 hi_8 => qa [(1, 0, 0, 0), (0, 1, 2, 0), (3, 0, 0, 0), (0, 1, 1, 0), (4, 0, 0, 0), (0, 1, 0, 0)] (fc (hi_2 .i64) (fc (hi_5 .i64) (fc (hi_8 .i64) f0))) [(5, I (IntKind.i64.wrap ((IntKind.i64.wrap ((IntKind.i64.wrap ((IntKind.i64.wrap v_2) * 65536)) + (IntKind.i64.wrap ((IntKind.i64.wrap v_5) * 256)))) + (IntKind.i64.wrap v_8))))] (tN (sq ?_))); obtain ⟨o_16, hG, hG_16⟩ := bs hG; refine jn (fun K E a w => ∃ v_17 : Bool, Js S0 w0 60 ([(46, B v_17)] ++ K) (se E [3]) (v_17 = o_16) a w) ?_ ?_
  ·rcases ic hG with ⟨h_11, hG⟩ | ⟨h_11, hG⟩
   ·refine qb (qn 6 [] f0 [(32, B (decide (((p_0.length : Nat) : Int) < (IntKind.i64.wrap ((IntKind.i64.wrap ((IntKind.i64.wrap ((IntKind.i64.wrap ((IntKind.i64.wrap v_2) * 65536)) + (IntKind.i64.wrap ((IntKind.i64.wrap v_5) * 256)))) + (IntKind.i64.wrap v_8))) + 11)))))] ?_)
    try simp only [List.length_map, KLeaderL.n_Open] at h_11
    exact sb 32 (bt h_11) (qa [] f0 [(46, B true)] (tN (fun _ _ S k e => ⟨true, S, k.wk, e.sel [3], oi hG⟩)))
   ·obtain ⟨v_12, hy_12, hG⟩ := bs hG; obtain ⟨v_13o, hy_13, hG⟩ := bs hG; replace hG := bs hG; obtain ⟨v_14, hy_14, hG⟩ := hG; replace hG := bs hG; obtain ⟨v_15, hy_15, hG⟩ := hG; refine fp false true inf22 (gd' (RowC p_0_A p_0_c c_u8 tr p_0) 3) hy_12 fun v_12_A v_12_c hp_12 => fp true true inf22 (gd' (RowC p_0_A p_0_c c_u8 tr p_0) 4) hy_14 fun v_14_A v_14_c hp_14 => hb [0, 1, 2, 3, 4, 5] (ht [0, 1, 2, 3, 4, 5] [0, 1, 2, 3, 4, 5] [] f0 [(32, B (decide (((p_0.length : Nat) : Int) < (IntKind.i64.wrap ((IntKind.i64.wrap ((IntKind.i64.wrap ((IntKind.i64.wrap ((IntKind.i64.wrap v_2) * 65536)) + (IntKind.i64.wrap ((IntKind.i64.wrap v_5) * 256)))) + (IntKind.i64.wrap v_8))) + 11)))))] ?_)
    try simp only [List.length_map, KLeaderL.n_Open] at h_11
    refine sb 32 (bf h_11) (ht [0, 1, 2, 3, 4, 5] [6, 7, 8, 9, 11, 12, 13, 14, 15, 16] [(3, 0, 0, 0), (5, 0, 0, 0)] (fc (hp_12 .i64 .i64) (fc (hp_14 .i64 .i64) f0)) [(36, .slice v_12_A v_12.length v_12_c), (43, .slice v_14_A v_14.length v_14_c)] (ho [10] ⟨h1 (cg 37 (z_regulatorref04_sum F v_12_A v_12_c v_12 _ hy_13) hT (fun _ => (mr tr_mv m0)) ⟨ga 1, trivial⟩ ?_), trivial⟩)); rintro ⟨v_13_A, v_13_c, v_13⟩ hq_13; obtain rfl : v_13 = v_13o := hq_13.symm
    try simp only [List.length_map, KLeaderL.n_Open] at hG
    exact hk [1, 2, 3, 4, 5, 6] (ho [17] ⟨h1 (cl 44 (z_regulatorref04_Same F v_13_A v_13_c v_13 v_14_A v_14_c v_14 _ hy_15) hT ⟨ga 0, ga 1, trivial⟩ (hk [1, 2, 3, 4, 5, 6] (ht [1, 2, 3, 4, 5, 6] [18, 19] [] f0 [(46, B (!v_15))] (he (tN (fun _ _ S k e => ⟨!v_15, S, k.wk, e.sel [6], oi hG⟩)))))), trivial⟩)
  ·rintro a w ⟨v_17, hJ⟩; refine hJ.go fun ho_ => ?_
   clear hJ; subst ho_; replace hG := hG_16; rcases ic hG with ⟨h_18, hG⟩ | ⟨h_18, hG⟩
   ·refine sb 46 (bt h_18) (ct (sq (rg (ra [] f0 (ns 2 [.slice none 0 0, I 0, B false]) (tN (kR (tR ?_))))))); obtain rfl := oi hG; exact rtn [] ⟨none, 0, ([] : List Int)⟩ rfl ⟨gn, trivial⟩
   ·refine sb 46 (bf h_18) (cf (kS (tN (sq ?_)))); obtain ⟨v_19, hy_19, hG⟩ := bs hG; obtain ⟨v_20o, v_21, hy_20, hG⟩ := b2 hG; refine rg (fp true true inf22 (gd' (RowC p_0_A p_0_c c_u8 tr p_0) 0) hy_19 fun v_19_A v_19_c hp_19 => rn 4 [(3, 0, 0, 0)] (fc (hp_19 .i64 .i64) f0) [(51, .slice v_19_A v_19.length v_19_c)] (l1 (cn 52 (z_regulatorref04_Get F v_19_A v_19_c v_19 _ hy_20) hT (fun _ => (mr tr_mv m0)) ⟨gi 0, trivial⟩ ?_))); rintro ⟨v_20_A, v_20_c, v_20⟩ hq_20; obtain rfl : v_20 = v_20o := hq_20.symm
    try simp only [List.length_map, KLeaderL.n_Open] at hG
    refine ra [] f0 [(6, .slice v_20_A v_20.length v_20_c), (7, I v_21)] (tN (sq (rg (ra [] f0 (ns 2 [.slice v_20_A v_20.length v_20_c, I (IntKind.i64.wrap ((IntKind.i64.wrap ((IntKind.i64.wrap ((IntKind.i64.wrap ((IntKind.i64.wrap v_2) * 65536)) + (IntKind.i64.wrap ((IntKind.i64.wrap v_5) * 256)))) + (IntKind.i64.wrap v_8))) + 11)), B (v_21 == 0)]) (tN (kR ?_)))))); obtain rfl := oi hG; exact rtn [] ⟨v_20_A, v_20_c, v_20⟩ rfl ⟨gi 0, trivial⟩
def G_regulatorref04_Frame (F : Nat) (p_0 : List Int) : Option ((List Int) × Int) :=
 Option.bind (G_regulatorref04_Put F p_0) (un2 fun v_1 v_2 =>
 ifB ((v_2 == 0))
  (Option.bind (apG 1 ([0, IntKind.u8.wrap (IntKind.i64.wrap (Int.tdiv ((v_1.length : Nat) : Int) 256)), IntKind.u8.wrap (Int.tmod ((v_1.length : Nat) : Int) 256)] : List Int) v_1) (fun v_5 =>
  Option.bind (G_regulatorref04_sum F v_5) (fun v_6 =>
  Option.bind (apG 1 v_5 v_6) (fun v_7 =>
  some (v_7, 0)))))
  (some (([] : List Int), v_2)))
set_option maxRecDepth 100000 in
set_option maxHeartbeats 16000000 in
theorem z_regulatorref04_Frame (F : Nat) (p_0_A : Option Addr) (p_0_c : Nat) (p_0 : List Int) (r : (List Int) × Int) (hG : G_regulatorref04_Frame F p_0 = some r) :
  Cg Try.prog 62 [.slice p_0_A p_0.length p_0_c] [RowC p_0_A p_0_c c_i64 tr p_0] (fun q : KSuint8L => r.1 = q.l) (fun q => .tuple #[.slice q.A q.l.length q.c, I r.2]) (fun q => [RowC q.A q.c c_u8 tr q.l]) := by
 unfold G_regulatorref04_Frame at hG
 try simp only [List.length_map, KLeaderL.n_Open] at hG
 refine fing Try.func62 rfl rfl (mr tr_mv m0) fun S0 w0 hT => sq (rg (ra [] f0 [] (tN (sq ?_))))
 obtain ⟨v_1o, v_2, hy_1, hG⟩ := b2 hG; refine rg (rn 1 [] f0 [(8, .slice p_0_A p_0.length p_0_c)] (l1 (cgn 9 (z_regulatorref04_Put F p_0_A p_0_c p_0 _ hy_1) hT (fun _ => (mr tr_mv m0)) ⟨ga 0, trivial⟩ ?_))); rintro ⟨v_1_A, v_1_c, v_1⟩ hq_1; obtain rfl : v_1 = v_1o := hq_1.symm
 try simp only [List.length_map, KLeaderL.n_Open] at hG
 refine ra [] f0 [(4, .slice v_1_A v_1.length v_1_c), (5, I v_2)] (tN (sq (sq (rg (ra [] f0 [(13, B (!(v_2 == 0)))] (tN ?_)))))); rcases ic hG with ⟨h_3, hG⟩ | ⟨h_3, hG⟩
 ·refine sb 13 (nt h_3) (cf (kS (tN (sq (rg (rn 8 [(2, 0, 0, 0), (3, 0, 0, 0)] (fc (fun W => run_quo (T := 3) (k := .i64) (p := ((v_1.length : Nat) : Int)) (q := 256) (by decide) W) (fc (fun W => run_rem (T := 3) (k := .i64) (p := ((v_1.length : Nat) : Int)) (q := 256) (by decide) W) f0)) [(18, Y (IntKind.u8.wrap (IntKind.i64.wrap (Int.tdiv ((v_1.length : Nat) : Int) 256)))), (22, Y (IntKind.u8.wrap (Int.tmod ((v_1.length : Nat) : Int) 256)))] (l1 (nw 23 (vs 3) [Y 0, Y (IntKind.u8.wrap (IntKind.i64.wrap (Int.tdiv ((v_1.length : Nat) : Int) 256))), Y (IntKind.u8.wrap (Int.tmod ((v_1.length : Nat) : Int) 256))] 5 fun g_4 => ra [] f0 [(6, Sb g_4 3 3)] (tN (sq ?_)))))))))); obtain ⟨v_5, hy_5, hG⟩ := bs hG; refine rg (rn 2 [] f0 [(24, Sb g_4 3 3), (25, .slice v_1_A v_1.length v_1_c)] (bo 0 1 3 g_4 5 [Y 0, Y (IntKind.u8.wrap (IntKind.i64.wrap (Int.tdiv ((v_1.length : Nat) : Int) 256))), Y (IntKind.u8.wrap (Int.tmod ((v_1.length : Nat) : Int) 256))] (l1 (ap 0 26 (some ⟨g_4, 0, none⟩) 3 ([0, IntKind.u8.wrap (IntKind.i64.wrap (Int.tdiv ((v_1.length : Nat) : Int) 256)), IntKind.u8.wrap (Int.tmod ((v_1.length : Nat) : Int) 256)] : List Int) v_1 inf22 ((gd' (RowC v_1_A v_1_c c_u8 tr v_1) 2).a) hy_5 one_u8 fun v_5_A v_5_c _ => ra [] f0 [(6, .slice v_5_A v_5.length v_5_c)] (tN (sq ?_)))))); obtain ⟨v_6o, hy_6, hG⟩ := bs hG; replace hG := bs hG; obtain ⟨v_7, hy_7, hG⟩ := hG; refine rg (rn 2 [] f0 [(27, .slice v_5_A v_5.length v_5_c), (28, .slice v_5_A v_5.length v_5_c)] (l1 (cgn 29 (z_regulatorref04_sum F v_5_A v_5_c v_5 _ hy_6) hT (fun _ => (mr tr_mv m0)) ⟨oa 0 et.a, trivial⟩ ?_))); rintro ⟨v_6_A, v_6_c, v_6⟩ hq_6; obtain rfl : v_6 = v_6o := hq_6.symm
  try simp only [List.length_map, KLeaderL.n_Open] at hG
  refine l1 (ap 2 30 v_5_A v_5_c v_5 v_6 inf22 ((gd' (RowC v_6_A v_6_c c_u8 tr v_6) 1).a) hy_7 one_u8 fun v_7_A v_7_c _ => ra [] f0 [(6, .slice v_7_A v_7.length v_7_c)] (tN (sq (rg (ra [] f0 [(2, .slice v_7_A v_7.length v_7_c), (3, I 0)] (tN (kR ?_))))))); obtain rfl := oi hG; exact rtg [] ⟨v_7_A, v_7_c, v_7⟩ rfl ⟨frO 2, trivial⟩
 ·refine sb 13 (nf h_3) (ct (sq (rg (ra [] f0 [(2, .slice none 0 0), (3, I v_2)] (tN (kR (tR ?_))))))); obtain rfl := oi hG; exact rtg [] ⟨none, 0, ([] : List Int)⟩ rfl ⟨frN, trivial⟩
end Go.Proofs.Ytlfkgbideknkhaa
namespace Go.Proofs.Ytlfkgbideknkhaa
open Go.RowKit Go.Maps
def G_versions_Valid (F : Nat) (p_0 : List KVersion) : Option (Bool) :=
  Option.bind (Option.bind (iter (σ := Int) (ρ := Unit ⊕ Unit) (fun (v_27 : Int) => 
        (ifB (decide (v_27 < ((p_0.length : Nat) : Int)))
          (Option.bind (ixI p_0 v_27) (fun v_30 =>
          Option.bind (Option.bind (G_versions_wellFormed F v_30) (fun v_34 =>
            ifB (v_34)
              (ifB (decide (v_27 > 0))
                (Option.bind (ixI p_0 (IntKind.i64.wrap (v_27 - 1))) (fun v_37 =>
                Option.bind (G_versions_order F v_37 v_30) (fun v_40 =>
                some (decide (v_40 ≥ 0)))))
                (some false))
              (some true)) : Option (Bool)) (fun (v_42 : Bool) => 
            ifB (v_42)
              (some (.inr (.inr ())))
              (some (.inl (IntKind.i64.wrap (v_27 + 1)))))))
          (some (.inr (.inl ()))) : Option (Int ⊕ (Unit ⊕ Unit)))) F 0) (Sum.elim (fun (_ : Unit) => 
      some (.inl ())) (fun (_ : Unit) => 
      some (.inr ()))) : Option (Unit ⊕ Unit)) (Sum.elim (fun (_ : Unit) => 
    some (decide (((p_0.length : Nat) : Int) ≤ 4000))) (fun (_ : Unit) => 
    some false))
set_option maxRecDepth 100000 in
set_option maxHeartbeats 16000000 in
theorem z_versions_Valid (F : Nat) (p_0_A : Option Addr) (p_0_c : Nat) (p_0 : List KVersion) (r : Bool) (hG : G_versions_Valid F p_0 = some r) :
  Cf Try.prog 40 [.slice p_0_A p_0.length p_0_c] [RowC p_0_A p_0_c KVersion.cells tr p_0] (B r) := by
 unfold G_versions_Valid at hG
 try simp only [List.length_map, KLeaderL.n_Open] at hG
 refine fi Try.func40 rfl rfl (mr tr_mv m0) fun S0 w0 hT => sq (rg (ra [] f0 [] (tN ?_)))
 obtain ⟨o_44, hG, hG_44⟩ := bs hG; refine jn (fun K E a w => Js S0 w0 33 (K) (se E [0]) (.inl () = o_44) a w) ?_ ?_
 ·refine sq (rg (ra [] f0 (ns 5 [.slice p_0_A p_0.length p_0_c, I ((p_0.length : Nat) : Int), I 0]) (tN (bk ?_)))); obtain ⟨e_28, hL, hG_28⟩ := bs hG; clear hG; obtain ⟨stp_28, hs_28, hL⟩ := iter_gen hL; refine lp (fun K E n_ a w => ∃ v_27 : Int, Js S0 w0 33 ([(7, I v_27)] ++ K) (se E [0]) (iter stp_28 n_ v_27 = some e_28) a w) F ?_ ?_
  ·exact fun _ _ S k e => ⟨0, S, k.wk, e.sel [0], hL⟩
  ·clear hL; rintro n_28 a w ⟨v_27, hJ⟩; refine hJ.go fun hL => ?_
   clear hJ; obtain ⟨m_28, o_28, rfl, hG, hO1_28, hO2_28⟩ := iter_step hL; clear hL; rw [hs_28] at hG; refine sq (rg (ra [] f0 [(8, B (decide (v_27 < ((p_0.length : Nat) : Int))))] (tN (sq ?_)))); rcases ic hG with ⟨h_29, hG⟩ | ⟨h_29, hG⟩
   ·try simp only [List.length_map, KLeaderL.n_Open] at h_29
    refine sb 8 (bt h_29) (ct (kS (tN (sq (bk (sq ?_)))))); obtain ⟨v_30, hy_30, hG⟩ := bs hG; refine rg (fx inf38 (gd' (RowC p_0_A p_0_c KVersion.cells tr p_0) 0) hy_30 fun b_31 o_32 hi_30 => rn 3 [(1, 0, 0, 0), (0, 4, 0, 0)] (fc (hi_30 .i64) f0) [(9, I v_27), (11, .agg #[I v_30.Key, I v_30.Ts, I v_30.Value, B v_30.Gone])] (l1 (nw 4 vp [I 0, I 0, I 0, B false] 61 fun g_33 => rn 1 [] f0 [(3, I v_27)] (l1 (sr 0 g_33 (ns 0 [I v_30.Key, I v_30.Ts, I v_30.Value, B v_30.Gone]) (nl (tN ?_))))))); obtain ⟨o_41, hG, hG_41⟩ := bs hG; refine jn (fun K E a w => ∃ v_42 : Bool, Js S0 w0 33 ([(28, B v_42)] ++ K) (se E [2]) (v_42 = o_41) a w) ?_ ?_
    ·obtain ⟨v_34, hy_34, hG⟩ := bs hG; rcases ic hG with ⟨h_35, hG⟩ | ⟨h_35, hG⟩
     ·rcases ic hG with ⟨h_36, hG⟩ | ⟨h_36, hG⟩
      ·obtain ⟨v_37, hy_37, hG⟩ := bs hG; obtain ⟨v_40, hy_40, hG⟩ := bs hG; exact qb (qn 1 [(0, 4, 0, 0)] f0 [(12, .agg #[I v_30.Key, I v_30.Ts, I v_30.Value, B v_30.Gone])] (qc 13 (z_versions_wellFormed F v_30 _ hy_34) hT trivial (qn 2 [] f0 [(15, B (!v_34))] (sb 15 (nt h_35) (qn 3 [] f0 [(18, B (decide (v_27 > 0)))] (sb 18 (bt h_36) (fx inf38 (gd' (RowC p_0_A p_0_c KVersion.cells tr p_0) 2) hy_37 fun b_38 o_39 hi_37 => qn 6 [(3, 0, 0, 0), (0, 4, 0, 0), (0, 4, 1, 0)] (fc (hi_37 .i64) f0) [(23, .agg #[I v_37.Key, I v_37.Ts, I v_37.Value, B v_37.Gone]), (24, .agg #[I v_30.Key, I v_30.Ts, I v_30.Value, B v_30.Gone])] (qc 25 (z_versions_order F v_37 v_30 _ hy_40) hT trivial (qa [] f0 [(28, B (decide (v_40 ≥ 0)))] (tN (fun _ _ S k e => ⟨decide (v_40 ≥ 0), S, k.wk, e.sel [3], oi hG⟩)))))))))))
      ·exact qb (qn 1 [(0, 4, 0, 0)] f0 [(12, .agg #[I v_30.Key, I v_30.Ts, I v_30.Value, B v_30.Gone])] (qc 13 (z_versions_wellFormed F v_30 _ hy_34) hT trivial (qn 2 [] f0 [(15, B (!v_34))] (sb 15 (nt h_35) (qn 3 [] f0 [(18, B (decide (v_27 > 0)))] (sb 18 (bf h_36) (qa [] f0 [(28, B false)] (tN (fun _ _ S k e => ⟨false, S, k.wk, e.sel [2], oi hG⟩)))))))))
     ·exact qb (qn 1 [(0, 4, 0, 0)] f0 [(12, .agg #[I v_30.Key, I v_30.Ts, I v_30.Value, B v_30.Gone])] (qc 13 (z_versions_wellFormed F v_30 _ hy_34) hT trivial (qn 2 [] f0 [(15, B (!v_34))] (sb 15 (nf h_35) (qa [] f0 [(28, B true)] (tN (fun _ _ S k e => ⟨true, S, k.wk, e.sel [2], oi hG⟩)))))))
    ·rintro a w ⟨v_42, hJ⟩; refine hJ.go fun ho_ => ?_
     clear hJ; subst ho_; replace hG := hG_41; rcases ic hG with ⟨h_43, hG⟩ | ⟨h_43, hG⟩
     ·refine sb 28 (bt h_43) (ct (sq (rg (ra [] f0 [(2, B false)] (tN (kR (hR (tR (tR ?_))))))))); have he_ := hO2_28 _ (oi hG).symm; subst he_; replace hG := hG_28; refine hR (tR ?_); obtain rfl := oi hG; replace hG := hG_44; obtain rfl := oi hG; exact rt []
     ·exact sb 28 (bf h_43) (cf (kS (hN (tN (rg (ra [] f0 [(7, I (IntKind.i64.wrap (v_27 + 1)))] (tN (fun a w S hK hE => ⟨m_28, ⟨IntKind.i64.wrap (v_27 + 1), S, hK.wk, hE.sel [0], hO1_28 _ (oi hG).symm⟩, Nat.lt_succ_self _⟩))))))))
   ·try simp only [List.length_map, KLeaderL.n_Open] at h_29
    refine sb 8 (bf h_29) (cf (kX (tX (tX ?_)))); have he_ := hO2_28 _ (oi hG).symm; subst he_; replace hG := hG_28; exact hH (tN (fun _ _ S k e => ⟨S, k.wk, e.sel [0], oi hG⟩))
 ·rintro a w hJ; refine hJ.go fun ho_ => ?_
  clear hJ; subst ho_; replace hG := el hG_44; refine sq (rg (ra [] f0 [(2, B (decide (((p_0.length : Nat) : Int) ≤ 4000)))] (tN (kR ?_)))); obtain rfl := oi hG; exact rt []
def G_regulatorref04_Frames (F : Nat) (p_0 : List Int) : Option ((List (List Int)) × Int × Int) :=
  ifB (decide (((p_0.length : Nat) : Int) > 100000))
    (some (([] : List (List Int)), 0, 2))
    (Option.bind (iter (σ := (List (List Int)) × Int) (ρ := ((List (List Int)) × Int)) (un2 fun (v_20 : (List (List Int))) (v_23 : Int) => 
        (Option.bind (slI p_0 v_23 ((p_0.length : Nat) : Int)) (fun v_25 =>
        Option.bind (G_regulatorref04_next F v_25) (un3 fun v_26 v_27 v_28 =>
        ifB (v_28)
          (Option.bind (apG 24 v_20 ([v_26] : List (List Int))) (fun v_31 =>
          some (.inl (v_31, IntKind.i64.wrap (v_23 + v_27)))))
          (some (.inr (v_20, v_23))))) : Option (((List (List Int)) × Int) ⊕ ((List (List Int)) × Int)))) F (([] : List (List Int)), 0)) (un2 fun (v_32 : (List (List Int))) (v_33 : Int) => 
      some (v_32, v_33, 0)))
set_option maxRecDepth 100000 in
set_option maxHeartbeats 16000000 in
theorem z_regulatorref04_Frames (F : Nat) (p_0_A : Option Addr) (p_0_c : Nat) (p_0 : List Int) (r : (List (List Int)) × Int × Int) (hG : G_regulatorref04_Frames F p_0 = some r) :
  Cn Try.prog 34 [.slice p_0_A p_0.length p_0_c] [RowC p_0_A p_0_c c_u8 tr p_0] (fun q : KS__intL => r.1 = (q.l.map KSintL.p)) (fun q => .tuple #[.slice q.A q.l.length q.c, I r.2.1, I r.2.2]) (fun q => [RowC q.A q.c KSintL.cells KSintL.ok q.l]) := by
 unfold G_regulatorref04_Frames at hG
 try simp only [List.length_map, KLeaderL.n_Open] at hG
 refine fin Try.func34 rfl rfl (mr tr_mv m0) fun S0 w0 hT => sq (rg (ra [] f0 [] (tN (sq (sq (rg (ra [] f0 [(12, B (decide (((p_0.length : Nat) : Int) > 100000)))] (tN ?_))))))))
 rcases ic hG with ⟨h_1, hG⟩ | ⟨h_1, hG⟩
 ·try simp only [List.length_map, KLeaderL.n_Open] at h_1
  refine sb 12 (bt h_1) (ct (sq (rg (ra [] f0 (ns 2 [.slice none 0 0, I 0, I 2]) (tN (kR (tR ?_))))))); obtain rfl := oi hG; exact rtn [] ⟨none, 0, ([] : List KSintL)⟩ rfl ⟨gn, trivial⟩
 ·try simp only [List.length_map, KLeaderL.n_Open] at h_1
  refine sb 12 (bf h_1) (cf (kS (tN (sq (rg (ra [] f0 [(5, .slice none 0 0)] (tN (sq (rg (ra [] f0 [(6, I 0)] (tN (bk ?_)))))))))))); obtain ⟨e_24, hL, hG_24⟩ := bs hG; clear hG; obtain ⟨stp_24, hs_24, hL⟩ := iter_gen hL; refine lp (fun K E n_ a w => ∃ (v_20 : List KSintL) (v_21_A : Option Addr) (v_22_c : Nat) (v_23 : Int), Js S0 w0 32 ([(5, .slice v_21_A v_20.length v_22_c), (6, I v_23)] ++ K) ([.own 45 1 (.slice v_21_A v_20.length v_22_c) v_20.length (v_20.flatMap KSintL.cells), .dat (Each KSintL.ok v_20)] ++ se E [0]) (iter stp_24 n_ ((v_20.map KSintL.p), v_23) = some e_24) a w) F ?_ ?_
  ·exact on 45 1 (fm (Each KSintL.ok ([] : List KSintL)) e0 (fun _ _ S k e => ⟨([] : List KSintL), none, 0, 0, S, k.wk, e.sel [1, 0, 2], hL⟩))
  ·clear hL; rintro n_24 a w ⟨v_20, v_21_A, v_22_c, v_23, hJ⟩; refine hJ.go fun hL => ?_
   clear hJ; obtain ⟨m_24, o_24, rfl, hG, hO1_24, hO2_24⟩ := iter_step hL; clear hL; rw [hs_24] at hG
   try simp only [List.length_map, KLeaderL.n_Open] at hG
   refine bk (sq ?_); obtain ⟨v_25, hy_25, hG⟩ := bs hG; obtain ⟨v_26o, v_27, v_28, hy_26, hG⟩ := b3 hG; refine rg (fp true false inf22 (gd' (RowC p_0_A p_0_c c_u8 tr p_0) 2) hy_25 fun v_25_A v_25_c hp_25 => rn 3 [(2, 0, 0, 0)] (fc (hp_25 .i64 .i64) f0) [(16, .slice v_25_A v_25.length v_25_c)] (l1 (cn 17 (z_regulatorref04_next F v_25_A v_25_c v_25 _ hy_26) hT (fun _ => (mr tr_mv m0)) ⟨gi 0, trivial⟩ ?_))); rintro ⟨v_26_A, v_26_c, v_26⟩ hq_26; obtain rfl : v_26 = v_26o := hq_26.symm
   try simp only [List.length_map, KLeaderL.n_Open] at hG
   refine ra [] f0 (ns 7 [.slice v_26_A v_26.length v_26_c, I v_27, B v_28]) (tN (sq (sq (rg (ra [] f0 [(22, B (!v_28))] (tN ?_)))))); rcases ic hG with ⟨h_29, hG⟩ | ⟨h_29, hG⟩
   ·refine sb 22 (nt h_29) (cf (kS (tN (sq ?_)))); obtain ⟨v_31o, hy_31, hG⟩ := bs hG; refine rg (rn 2 [] f0 [(25, .slice v_21_A v_20.length v_22_c), (26, .slice v_26_A v_26.length v_26_c)] (l1 (nw 27 (vs 1) [.slice v_26_A v_26.length v_26_c] 45 fun g_30 => l1 (apn (p := KSintL.p) (ok := KSintL.ok) 3 28 v_21_A v_22_c v_20 ([(⟨v_26_A, v_26_c, v_26⟩ : KSintL)] : List KSintL) inf71 (bA (f := KSintL.cells) (ok := tr) (l := ([(⟨v_26_A, v_26_c, v_26⟩ : KSintL)] : List KSintL)) g_30 0 et.a) (gd' (Each KSintL.ok v_20) 4) (ec (((gd' (RowC v_26_A v_26_c c_i64 tr v_26) 1)).m fun _ _ h => ⟨h⟩) e0) hy_31 KSintL.one fun v_31 v_31_A v_31_c he_31 _ => ?_)))); subst he_31
    try simp only [List.length_map, KLeaderL.n_Open] at hG
    exact ra [] f0 [(5, .slice v_31_A v_31.length v_31_c)] (tN (rg (ra [] f0 [(6, I (IntKind.i64.wrap (v_23 + v_27)))] (hN (tN (fun a w S hK hE => ⟨m_24, ⟨v_31, v_31_A, v_31_c, IntKind.i64.wrap (v_23 + v_27), S, hK.wk, hE.sel [4, 0, 6], hO1_24 _ (oi hG).symm⟩, Nat.lt_succ_self _⟩))))))
   ·refine sb 22 (nf h_29) (ct (sq (rg (ra [] f0 (ns 2 [.slice v_21_A v_20.length v_22_c, I v_23, I 0]) (tN (kR (tR (hR (tR ?_))))))))); have he_ := hO2_24 _ (oi hG).symm; subst he_; replace hG := hG_24
    try simp only [List.length_map, KLeaderL.n_Open] at hG
    refine hR ?_; obtain rfl := oi hG; exact so (A := v_21_A) (c := v_22_c) 2 KSintL.cells KSintL.ok v_20 KSintL.mv (gd' (Each KSintL.ok v_20) 3) (rtn [] ⟨v_21_A, v_22_c, v_20⟩ rfl ⟨gi 2, trivial⟩)
def G_regulatorref37_Record (F : Nat) (p_0 : KTx) : Option ((List Int)) :=
 Option.bind (G_regulatorref37_Ints F p_0) (fun v_2 =>
 Option.bind (G_regulatorref04_Frame F v_2) (un2 fun v_3 v_4 =>
 some v_3))
set_option maxRecDepth 100000 in
set_option maxHeartbeats 16000000 in
theorem z_regulatorref37_Record (F : Nat) (p_0 : KTxL) (r : (List Int)) (hG : G_regulatorref37_Record F p_0.p = some r) :
  Cg Try.prog 31 [.agg #[I p_0.ID, I p_0.Ts, .slice p_0.Reads_A p_0.Reads.length p_0.Reads_c, .slice p_0.Writes_A p_0.Writes.length p_0.Writes_c]] [KTxL.ok p_0] (fun q : KSuint8L => r = q.l) (fun q => .slice q.A q.l.length q.c) (fun q => [RowC q.A q.c c_u8 tr q.l]) := by
 unfold G_regulatorref37_Record at hG
 try simp only [List.length_map, KLeaderL.n_Open] at hG
 refine fing Try.func31 rfl rfl (mc KTxL.mv m0) fun S0 w0 hT => sq (rg (l1 (nw 1 vp [I p_0.ID, I p_0.Ts, .slice p_0.Reads_A p_0.Reads.length p_0.Reads_c, .slice p_0.Writes_A p_0.Writes.length p_0.Writes_c] 26 fun g_1 => ra [] f0 [] (tN (sq ?_)))))
 obtain ⟨v_2o, hy_2, hG⟩ := bs hG; replace hG := b2 hG; obtain ⟨v_3o, v_4, hy_3, hG⟩ := hG; refine rg (rn 1 [(0, 4, 0, 0)] f0 [(6, .agg #[I p_0.ID, I p_0.Ts, .slice p_0.Reads_A p_0.Reads.length p_0.Reads_c, .slice p_0.Writes_A p_0.Writes.length p_0.Writes_c])] (l1 (cgn 7 (z_regulatorref37_Ints F p_0 _ hy_2) hT (fun _ => (mr tr_mv m0)) ⟨(gi 1).a, trivial⟩ ?_))); rintro ⟨v_2_A, v_2_c, v_2⟩ hq_2; obtain rfl : v_2 = v_2o := hq_2.symm
 try simp only [List.length_map, KLeaderL.n_Open] at hG
 refine l1 (cgn 8 (z_regulatorref04_Frame F v_2_A v_2_c v_2 _ hy_3) hT (fun _ => (mr tr_mv m0)) ⟨ga 1, trivial⟩ ?_); rintro ⟨v_3_A, v_3_c, v_3⟩ hq_3; obtain rfl : v_3 = v_3o := hq_3.symm
 try simp only [List.length_map, KLeaderL.n_Open] at hG
 refine ra [] f0 [(3, .slice v_3_A v_3.length v_3_c)] (tN (sq (rg (ra [] f0 [(2, .slice v_3_A v_3.length v_3_c)] (tN (kR ?_)))))); obtain rfl := oi hG; exact rtg [] ⟨v_3_A, v_3_c, v_3⟩ rfl ⟨frD tr_mv 0, trivial⟩
def G_regulatorref37_Tx (F : Nat) (p_0 : List Int) : Option (KTx × Bool) :=
  Option.bind (ifB (decide (((p_0.length : Nat) : Int) < 4))
      (some true)
      (Option.bind (ixI p_0 2) (fun v_3 =>
      ifB (decide (v_3 < 0))
        (some true)
        (Option.bind (ixI p_0 2) (fun v_7 =>
        ifB (decide (v_7 > 8))
          (some true)
          (Option.bind (ixI p_0 2) (fun v_11 =>
          some (decide (((p_0.length : Nat) : Int) < (IntKind.i64.wrap (4 + (IntKind.i64.wrap (2 * v_11)))))))))))) : Option (Bool)) (fun (v_15 : Bool) => 
    ifB (v_15)
      (some ((⟨0, 0, ([] : List KSeen), ([] : List KWrite)⟩ : KTx), false))
      (Option.bind (ixI p_0 0) (fun v_17 =>
      Option.bind (ixI p_0 1) (fun v_20 =>
      Option.bind (Option.bind (iter (σ := (List KSeen) × Int × Int) (ρ := ((List KSeen) × Int)) (un3 fun (v_61 : (List KSeen)) (v_64 : Int) (v_65 : Int) => 
            (Option.bind (ixI p_0 2) (fun v_67 =>
            ifB (decide (v_65 < v_67))
              (Option.bind (Option.bind (ixI p_0 v_64) (fun v_71 =>
                Option.bind (ixI p_0 (IntKind.i64.wrap (v_64 + 1))) (fun v_74 =>
                Option.bind (apG 16 v_61 ([(⟨v_71, v_74⟩ : KSeen)] : List KSeen)) (fun v_78 =>
                some v_78))) : Option ((List KSeen))) (fun (v_80 : (List KSeen)) => 
                some (.inl (v_80, IntKind.i64.wrap (v_64 + 2), IntKind.i64.wrap (v_65 + 1)))))
              (some (.inr (v_61, v_64)))) : Option (((List KSeen) × Int × Int) ⊕ ((List KSeen) × Int)))) F (([] : List KSeen), 3, 0)) (un2 fun (v_83 : (List KSeen)) (v_86 : Int) => 
          some (v_83, v_86)) : Option (((List KSeen) × Int))) (un2 fun (v_88 : (List KSeen)) (v_91 : Int) => 
        Option.bind (ixI p_0 v_91) (fun v_92 =>
        Option.bind (ifB (decide (v_92 < 0))
            (some true)
            (ifB (decide (v_92 > 8))
              (some true)
              (some (!(((p_0.length : Nat) : Int) == (IntKind.i64.wrap ((IntKind.i64.wrap (v_91 + 1)) + (IntKind.i64.wrap (3 * v_92)))))))) : Option (Bool)) (fun (v_98 : Bool) => 
          ifB (v_98)
            (some ((⟨0, 0, ([] : List KSeen), ([] : List KWrite)⟩ : KTx), false))
            (Option.bind (Option.bind (iter (σ := (List KWrite) × Int × Int) (ρ := (List KWrite) ⊕ Unit) (un3 fun (v_157 : (List KWrite)) (v_160 : Int) (v_161 : Int) => 
                  (ifB (decide (v_161 < v_92))
                    (Option.bind (Option.bind (ixI p_0 (IntKind.i64.wrap (v_160 + 2))) (fun v_164 =>
                      ifB ((v_164 == 0))
                        (some false)
                        (Option.bind (ixI p_0 (IntKind.i64.wrap (v_160 + 2))) (fun v_168 =>
                        some (!(v_168 == 1))))) : Option (Bool)) (fun (v_172 : Bool) => 
                      ifB (v_172)
                        (some (.inr (.inr ())))
                        (Option.bind (Option.bind (ixI p_0 v_160) (fun v_174 =>
                          Option.bind (ixI p_0 (IntKind.i64.wrap (v_160 + 1))) (fun v_177 =>
                          Option.bind (ixI p_0 (IntKind.i64.wrap (v_160 + 2))) (fun v_180 =>
                          Option.bind (apG 24 v_157 ([(⟨v_174, v_177, (v_180 == 1)⟩ : KWrite)] : List KWrite)) (fun v_184 =>
                          some v_184)))) : Option ((List KWrite))) (fun (v_186 : (List KWrite)) => 
                          some (.inl (v_186, IntKind.i64.wrap (v_160 + 3), IntKind.i64.wrap (v_161 + 1)))))))
                    (some (.inr (.inl v_157))) : Option (((List KWrite) × Int × Int) ⊕ ((List KWrite) ⊕ Unit)))) F (([] : List KWrite), IntKind.i64.wrap (v_91 + 1), 0)) (Sum.elim (fun (v_189 : (List KWrite)) => 
                some (.inl v_189)) (fun (_ : Unit) => 
                some (.inr ()))) : Option ((List KWrite) ⊕ Unit)) (Sum.elim (fun (v_193 : (List KWrite)) => 
              Option.bind (G_regulatorref34_Tx F (⟨v_17, v_20, v_88, v_193⟩ : KTx)) (fun v_196 =>
              Option.bind (ifB (v_196)
                  (some (v_20 == 0))
                  (some true) : Option (Bool)) (fun (v_199 : Bool) => 
                ifB (v_199)
                  (some ((⟨0, 0, ([] : List KSeen), ([] : List KWrite)⟩ : KTx), false))
                  (some ((⟨v_17, v_20, v_88, v_193⟩ : KTx), true))))) (fun (_ : Unit) => 
              some ((⟨0, 0, ([] : List KSeen), ([] : List KWrite)⟩ : KTx), false)))))))))))
set_option maxRecDepth 100000 in
set_option maxHeartbeats 16000000 in
theorem z_regulatorref37_Tx (F : Nat) (p_0_A : Option Addr) (p_0_c : Nat) (p_0 : List Int) (r : KTx × Bool) (hG : G_regulatorref37_Tx F p_0 = some r) :
  Cn Try.prog 35 [.slice p_0_A p_0.length p_0_c] [RowC p_0_A p_0_c c_i64 tr p_0] (fun q : KTxL => r.1 = q.p) (fun q => .tuple #[.agg #[I q.ID, I q.Ts, .slice q.Reads_A q.Reads.length q.Reads_c, .slice q.Writes_A q.Writes.length q.Writes_c], B r.2]) (fun q => [KTxL.ok q]) := by
 unfold G_regulatorref37_Tx at hG
 try simp only [List.length_map, KLeaderL.n_Open] at hG
 refine fin Try.func35 rfl rfl (mr tr_mv m0) fun S0 w0 hT => sq (rg (l1 (nw 2 vp (KTxL.cells KTxL.z) 26 fun g_1 => ra [] f0 [] (tN (sq ?_)))))
 obtain ⟨o_14, hG, hG_14⟩ := bs hG; refine jn (fun K E a w => ∃ v_15 : Bool, Js S0 w0 143 ([(34, B v_15)] ++ K) (se E [0, 1]) (v_15 = o_14) a w) ?_ ?_
 ·rcases ic hG with ⟨h_2, hG⟩ | ⟨h_2, hG⟩
  ·refine rg (rn 4 [] f0 [(13, B (decide (((p_0.length : Nat) : Int) < 4)))] ?_)
   try simp only [List.length_map, KLeaderL.n_Open] at h_2
   exact sb 13 (bt h_2) (ra [] f0 [(34, B true)] (tN (fun _ _ S k e => ⟨true, S, k.wk, e.sel [0, 1], oi hG⟩)))
  ·obtain ⟨v_3, hy_3, hG⟩ := bs hG; rcases ic hG with ⟨h_6, hG⟩ | ⟨h_6, hG⟩
   ·refine rg (rn 4 [] f0 [(13, B (decide (((p_0.length : Nat) : Int) < 4)))] ?_)
    try simp only [List.length_map, KLeaderL.n_Open] at h_2
    exact sb 13 (bf h_2) (fx inf45 (gd' (RowC p_0_A p_0_c c_i64 tr p_0) 1) hy_3 fun b_4 o_5 hi_3 => rn 6 [(1, 0, 0, 0), (0, 1, 0, 0)] (fc (hi_3 .i64) f0) [(19, B (decide (v_3 < 0)))] (sb 19 (bt h_6) (ra [] f0 [(34, B true)] (tN (fun _ _ S k e => ⟨true, S, k.wk, e.sel [1, 2], oi hG⟩)))))
   ·obtain ⟨v_7, hy_7, hG⟩ := bs hG; rcases ic hG with ⟨h_10, hG⟩ | ⟨h_10, hG⟩
    ·refine rg (rn 4 [] f0 [(13, B (decide (((p_0.length : Nat) : Int) < 4)))] ?_)
     try simp only [List.length_map, KLeaderL.n_Open] at h_2
     exact sb 13 (bf h_2) (fx inf45 (gd' (RowC p_0_A p_0_c c_i64 tr p_0) 1) hy_3 fun b_4 o_5 hi_3 => rn 6 [(1, 0, 0, 0), (0, 1, 0, 0)] (fc (hi_3 .i64) f0) [(19, B (decide (v_3 < 0)))] (sb 19 (bf h_6) (fx inf45 (gd' (RowC p_0_A p_0_c c_i64 tr p_0) 2) hy_7 fun b_8 o_9 hi_7 => rn 6 [(1, 0, 0, 0), (0, 1, 0, 0)] (fc (hi_7 .i64) f0) [(25, B (decide (v_7 > 8)))] (sb 25 (bt h_10) (ra [] f0 [(34, B true)] (tN (fun _ _ S k e => ⟨true, S, k.wk, e.sel [2, 3], oi hG⟩)))))))
    ·obtain ⟨v_11, hy_11, hG⟩ := bs hG; refine rg (rn 4 [] f0 [(13, B (decide (((p_0.length : Nat) : Int) < 4)))] ?_)
     try simp only [List.length_map, KLeaderL.n_Open] at h_2
     exact sb 13 (bf h_2) (fx inf45 (gd' (RowC p_0_A p_0_c c_i64 tr p_0) 1) hy_3 fun b_4 o_5 hi_3 => rn 6 [(1, 0, 0, 0), (0, 1, 0, 0)] (fc (hi_3 .i64) f0) [(19, B (decide (v_3 < 0)))] (sb 19 (bf h_6) (fx inf45 (gd' (RowC p_0_A p_0_c c_i64 tr p_0) 2) hy_7 fun b_8 o_9 hi_7 => rn 6 [(1, 0, 0, 0), (0, 1, 0, 0)] (fc (hi_7 .i64) f0) [(25, B (decide (v_7 > 8)))] (sb 25 (bf h_10) (fx inf45 (gd' (RowC p_0_A p_0_c c_i64 tr p_0) 3) hy_11 fun b_12 o_13 hi_11 => ra [(3, 0, 0, 0), (0, 1, 0, 0)] (fc (hi_11 .i64) f0) [(34, B (decide (((p_0.length : Nat) : Int) < (IntKind.i64.wrap (4 + (IntKind.i64.wrap (2 * v_11)))))))] (tN (fun _ _ S k e => ⟨decide (((p_0.length : Nat) : Int) < (IntKind.i64.wrap (4 + (IntKind.i64.wrap (2 * v_11))))), S, k.wk, e.sel [3, 4], oi hG⟩)))))))
 ·rintro a w ⟨v_15, hJ⟩; refine hJ.go fun ho_ => ?_
  clear hJ; subst ho_; replace hG := hG_14; rcases ic hG with ⟨h_16, hG⟩ | ⟨h_16, hG⟩
  ·refine sb 34 (bt h_16) (ct (sq (rg (rn 1 [] f0 [(35, Aw (KTxL.cells KTxL.z))] (l1 (sr 0 g_1 (ns 0 (KTxL.cells KTxL.z)) (ra [] f0 [(3, B false)] (tN (kR (tR ?_)))))))))); obtain rfl := oi hG; exact rtn [(0, 0, 4)] (⟨0, 0, none, 0, ([] : List KSeen), none, 0, ([] : List KWrite)⟩ : KTxL) rfl ⟨((Fd.two ((gn : Fd _ (RowC none 0 KSeen.cells tr ([] : List KSeen)))) ((gn : Fd _ (RowC none 0 KWrite.cells tr ([] : List KWrite))))).m fun _ _ h => ⟨h.1, h.2⟩), trivial⟩
  ·refine sb 34 (bf h_16) (cf (kS (tN (sq ?_)))); obtain ⟨v_17, hy_17, hG⟩ := bs hG; obtain ⟨v_20, hy_20, hG⟩ := bs hG; refine fx inf45 (gd' (RowC p_0_A p_0_c c_i64 tr p_0) 1) hy_17 fun b_18 o_19 hi_17 => fx inf45 (gd' (RowC p_0_A p_0_c c_i64 tr p_0) 2) hy_20 fun b_21 o_22 hi_20 => hb [0, 1, 2, 3] (ht [0, 1, 2, 3] [0, 1, 2, 3, 4, 5, 6] [(1, 0, 0, 0), (0, 1, 1, 0), (1, 0, 0, 0), (0, 1, 0, 0)] (fc (hi_17 .i64) (fc (hi_20 .i64) f0)) [(42, .agg #[I v_17, I v_20, .slice none 0 0, .slice none 0 0])] (ho [7] ⟨h1 (nw 4 vp (KTxL.cells KTxL.z) 26 fun g_23 => hk [1, 2, 3, 4] (ho [8] ⟨h1 (sr 0 g_23 (ns 0 [I v_17, I v_20, .slice none 0 0, .slice none 0 0]) (hk [1, 2, 3, 4] (he (tN (sq (rg (ra [] f0 [(5, I 3)] (tN ?_)))))))), trivial⟩)), trivial⟩))
   obtain ⟨o_87, hG, hG_87⟩ := bs hG; refine jn (fun K E a w => ∃ (v_88 : List KSeen) (v_89_A : Option Addr) (v_90_c : Nat) (v_91 : Int), Js S0 w0 143 ([(5, I v_91)] ++ K) ([.blk g_23 26 [I v_17, I v_20, .slice v_89_A v_88.length v_90_c, .slice none 0 0], .own 95 2 (.slice v_89_A v_88.length v_90_c) v_88.length (v_88.flatMap KSeen.cells)] ++ se E [3, 4]) ((v_88, v_91) = o_87) a w) ?_ ?_
   ·refine sq (rg (ra [] f0 [(6, I 0)] (tN (bk ?_)))); obtain ⟨e_66, hL, hG_66⟩ := bs hG; clear hG; obtain ⟨stp_66, hs_66, hL⟩ := iter_gen hL; refine lp (fun K E n_ a w => ∃ (v_61 : List KSeen) (v_62_A : Option Addr) (v_63_c : Nat) (v_64 v_65 : Int), Js S0 w0 143 ([(5, I v_64), (6, I v_65)] ++ K) ([.blk g_23 26 [I v_17, I v_20, .slice v_62_A v_61.length v_63_c, .slice none 0 0], .own 95 2 (.slice v_62_A v_61.length v_63_c) v_61.length (v_61.flatMap KSeen.cells)] ++ se E [3, 4]) (iter stp_66 n_ (v_61, v_64, v_65) = some e_66) a w) F ?_ ?_
    ·exact on 95 2 (fun _ _ S k e => ⟨([] : List KSeen), none, 0, 3, 0, S, k.wk, e.sel [1, 0, 4, 5], hL⟩)
    ·clear hL; rintro n_66 a w ⟨v_61, v_62_A, v_63_c, v_64, v_65, hJ⟩; refine hJ.go fun hL => ?_
     clear hJ; obtain ⟨m_66, o_66, rfl, hG, hO1_66, hO2_66⟩ := iter_step hL; clear hL; rw [hs_66] at hG; refine sq (sq ?_); obtain ⟨v_67, hy_67, hG⟩ := bs hG; refine rg (fx inf45 (gd' (RowC p_0_A p_0_c c_i64 tr p_0) 3) hy_67 fun b_68 o_69 hi_67 => ra [(2, 0, 0, 0), (0, 1, 0, 0)] (fc (hi_67 .i64) f0) [(47, B (decide (v_65 < v_67)))] (tN ?_)); rcases ic hG with ⟨h_70, hG⟩ | ⟨h_70, hG⟩
     ·refine sb 47 (bt h_70) (ct (kS (tN (sq (bk ?_))))); obtain ⟨o_79, hG, hG_79⟩ := bs hG; refine jn (fun K E a w => ∃ (v_80 : List KSeen) (v_81_A : Option Addr) (v_82_c : Nat), Js S0 w0 143 (K) ([.blk g_23 26 [I v_17, I v_20, .slice v_81_A v_80.length v_82_c, .slice none 0 0], .own 95 2 (.slice v_81_A v_80.length v_82_c) v_80.length (v_80.flatMap KSeen.cells)] ++ se E [3, 4]) (v_80 = o_79) a w) ?_ ?_
      ·obtain ⟨v_71, hy_71, hG⟩ := bs hG; obtain ⟨v_74, hy_74, hG⟩ := bs hG; obtain ⟨v_78, hy_78, hG⟩ := bs hG; refine fx inf45 (gd' (RowC p_0_A p_0_c c_i64 tr p_0) 4) hy_71 fun b_72 o_73 hi_71 => fx inf45 (gd' (RowC p_0_A p_0_c c_i64 tr p_0) 5) hy_74 fun b_75 o_76 hi_74 => hb [0, 1, 2, 5, 6] (ht [0, 1, 2, 5, 6] [0, 2, 3, 4, 5, 6, 7, 8, 9, 10, 11] [(3, 0, 0, 0), (0, 1, 1, 0), (3, 0, 0, 0), (0, 1, 0, 0)] (fc (hi_71 .i64) (fc (hi_74 .i64) f0)) [(50, Pt g_23 2), (61, .agg #[I v_71, I v_74])] (ho [1, 12] ⟨?_, ?_, trivial⟩))
       ·exact h1 (po 51 (.slice v_62_A v_61.length v_63_c) [(0, 1, 3, 2)] f0 (hk [0, 1, 2, 5, 6] (ho [12] ⟨h1 (nw 62 (vs 1) [I v_71, I v_74] 95 fun g_77 => hk [1, 2, 3, 6, 7] (ho [13] ⟨h1 (ap 5 63 v_62_A v_63_c v_61 ([(⟨v_71, v_74⟩ : KSeen)] : List KSeen) inf23 (bA (f := KSeen.cells) (ok := tr) (l := ([(⟨v_71, v_74⟩ : KSeen)] : List KSeen)) g_77 0 et.a) hy_78 KSeen.one fun v_78_A v_78_c _ => hk [1, 2, 3, 6, 7] (ht [1, 2, 3, 6, 7] [14] [] f0 [(64, Pt g_23 2)] (ho [15] ⟨h1 (sr 4 g_23 [(2, .slice v_78_A v_78.length v_78_c)] (hk [1, 2, 3, 6, 7] (he (tN (fun _ _ S k e => ⟨v_78, v_78_A, v_78_c, S, k.wk, e.sel [4, 5, 6, 7], oi hG⟩))))), trivial⟩))), trivial⟩)), trivial⟩)))
       ·exact h1 (nw 62 (vs 1) [I v_71, I v_74] 95 fun g_77 => hk [1, 2, 3, 6, 7] (ho [1] ⟨h1 (po 51 (.slice v_62_A v_61.length v_63_c) [(0, 1, 4, 2)] f0 (hk [1, 2, 3, 6, 7] (ho [13] ⟨h1 (ap 5 63 v_62_A v_63_c v_61 ([(⟨v_71, v_74⟩ : KSeen)] : List KSeen) inf23 (bA (f := KSeen.cells) (ok := tr) (l := ([(⟨v_71, v_74⟩ : KSeen)] : List KSeen)) g_77 0 et.a) hy_78 KSeen.one fun v_78_A v_78_c _ => hk [1, 2, 3, 6, 7] (ht [1, 2, 3, 6, 7] [14] [] f0 [(64, Pt g_23 2)] (ho [15] ⟨h1 (sr 4 g_23 [(2, .slice v_78_A v_78.length v_78_c)] (hk [1, 2, 3, 6, 7] (he (tN (fun _ _ S k e => ⟨v_78, v_78_A, v_78_c, S, k.wk, e.sel [4, 5, 6, 7], oi hG⟩))))), trivial⟩))), trivial⟩))), trivial⟩))
      ·rintro a w ⟨v_80, v_81_A, v_82_c, hJ⟩; refine hJ.go fun ho_ => ?_
       clear hJ; subst ho_; replace hG := hG_79; exact rg (ra [] f0 [(5, I (IntKind.i64.wrap (v_64 + 2)))] (hN (tN (rg (ra [] f0 [(6, I (IntKind.i64.wrap (v_65 + 1)))] (tN (fun a w S hK hE => ⟨m_66, ⟨v_80, v_81_A, v_82_c, IntKind.i64.wrap (v_64 + 2), IntKind.i64.wrap (v_65 + 1), S, hK.wk, hE.sel [0, 1, 2, 3], hO1_66 _ (oi hG).symm⟩, Nat.lt_succ_self _⟩)))))))
     ·refine sb 47 (bf h_70) (cf (kX (tX (tX ?_)))); have he_ := hO2_66 _ (oi hG).symm; subst he_; replace hG := hG_66; exact hH (tN (fun _ _ S k e => ⟨v_61, v_62_A, v_63_c, v_64, S, k.wk, e.sel [1, 2, 3, 4], oi hG⟩))
   ·rintro a w ⟨v_88, v_89_A, v_90_c, v_91, hJ⟩; refine hJ.go fun ho_ => ?_
    clear hJ; subst ho_; replace hG := hG_87; refine sq ?_; obtain ⟨v_92, hy_92, hG⟩ := bs hG; refine rg (fx inf45 (gd' (RowC p_0_A p_0_c c_i64 tr p_0) 3) hy_92 fun b_93 o_94 hi_92 => ra [(2, 0, 0, 0), (0, 1, 0, 0)] (fc (hi_92 .i64) f0) [(7, I v_92)] (tN (sq (rg (ra [] f0 [(5, I (IntKind.i64.wrap (v_91 + 1)))] (tN (sq ?_))))))); obtain ⟨o_97, hG, hG_97⟩ := bs hG; refine jn (fun K E a w => ∃ v_98 : Bool, Js S0 w0 143 ([(87, B v_98)] ++ K) (se E [1, 2, 3, 4]) (v_98 = o_97) a w) ?_ ?_
    ·rcases ic hG with ⟨h_95, hG⟩ | ⟨h_95, hG⟩
     ·exact rg (rn 3 [] f0 [(75, B (decide (v_92 < 0)))] (sb 75 (bt h_95) (ra [] f0 [(87, B true)] (tN (fun _ _ S k e => ⟨true, S, k.wk, e.sel [1, 2, 3, 4], oi hG⟩)))))
     ·rcases ic hG with ⟨h_96, hG⟩ | ⟨h_96, hG⟩
      ·exact rg (rn 3 [] f0 [(75, B (decide (v_92 < 0)))] (sb 75 (bf h_95) (rn 4 [] f0 [(79, B (decide (v_92 > 8)))] (sb 79 (bt h_96) (ra [] f0 [(87, B true)] (tN (fun _ _ S k e => ⟨true, S, k.wk, e.sel [1, 2, 3, 4], oi hG⟩)))))))
      ·exact rg (rn 3 [] f0 [(75, B (decide (v_92 < 0)))] (sb 75 (bf h_95) (rn 4 [] f0 [(79, B (decide (v_92 > 8)))] (sb 79 (bf h_96) (ra [] f0 [(87, B (!(((p_0.length : Nat) : Int) == (IntKind.i64.wrap ((IntKind.i64.wrap (v_91 + 1)) + (IntKind.i64.wrap (3 * v_92)))))))] (tN (fun _ _ S k e => ⟨!(((p_0.length : Nat) : Int) == (IntKind.i64.wrap ((IntKind.i64.wrap (v_91 + 1)) + (IntKind.i64.wrap (3 * v_92))))), S, k.wk, e.sel [1, 2, 3, 4], oi hG⟩)))))))
    ·rintro a w ⟨v_98, hJ⟩; refine hJ.go fun ho_ => ?_
     clear hJ; subst ho_; replace hG := hG_97; rcases ic hG with ⟨h_99, hG⟩ | ⟨h_99, hG⟩
     ·refine sb 87 (bt h_99) (ct (sq (rg (rn 1 [] f0 [(88, Aw (KTxL.cells KTxL.z))] (l1 (sr 2 g_1 (ns 0 (KTxL.cells KTxL.z)) (ra [] f0 [(3, B false)] (tN (kR (tR ?_)))))))))); obtain rfl := oi hG; exact rtn [(2, 0, 4)] (⟨0, 0, none, 0, ([] : List KSeen), none, 0, ([] : List KWrite)⟩ : KTxL) rfl ⟨((Fd.two ((gn : Fd _ (RowC none 0 KSeen.cells tr ([] : List KSeen)))) ((gn : Fd _ (RowC none 0 KWrite.cells tr ([] : List KWrite))))).m fun _ _ h => ⟨h.1, h.2⟩), trivial⟩
     ·refine sb 87 (bf h_99) (cf (kS (tN ?_))); obtain ⟨o_192, hG, hG_192⟩ := bs hG; refine jn (fun K E a w => ∃ (v_193 : List KWrite) (v_194_A : Option Addr) (v_195_c : Nat), Js S0 w0 143 (dk [5] K) ([.blk g_23 26 [I v_17, I v_20, .slice v_89_A v_88.length v_90_c, .slice v_194_A v_193.length v_195_c], .own 66 3 (.slice v_194_A v_193.length v_195_c) v_193.length (v_193.flatMap KWrite.cells)] ++ se E [1, 2]) (.inl v_193 = o_192) a w) ?_ ?_
      ·refine sq (rg (ra [] f0 [(8, I 0)] (tN (bk ?_)))); obtain ⟨e_162, hL, hG_162⟩ := bs hG; clear hG; obtain ⟨stp_162, hs_162, hL⟩ := iter_gen hL; refine lp (fun K E n_ a w => ∃ (v_157 : List KWrite) (v_158_A : Option Addr) (v_159_c : Nat) (v_160 v_161 : Int), Js S0 w0 143 ([(5, I v_160), (8, I v_161)] ++ K) ([.blk g_23 26 [I v_17, I v_20, .slice v_89_A v_88.length v_90_c, .slice v_158_A v_157.length v_159_c], .own 66 3 (.slice v_158_A v_157.length v_159_c) v_157.length (v_157.flatMap KWrite.cells)] ++ se E [1, 2, 3]) (iter stp_162 n_ (v_157, v_160, v_161) = some e_162) a w) F ?_ ?_
       ·exact on 66 3 (fun _ _ S k e => ⟨([] : List KWrite), none, 0, IntKind.i64.wrap (v_91 + 1), 0, S, k.wk, e.sel [1, 0, 2, 3, 4], hL⟩)
       ·clear hL; rintro n_162 a w ⟨v_157, v_158_A, v_159_c, v_160, v_161, hJ⟩; refine hJ.go fun hL => ?_
        clear hJ; obtain ⟨m_162, o_162, rfl, hG, hO1_162, hO2_162⟩ := iter_step hL; clear hL; rw [hs_162] at hG; refine sq (sq (rg (ra [] f0 [(91, B (decide (v_161 < v_92)))] (tN ?_)))); rcases ic hG with ⟨h_163, hG⟩ | ⟨h_163, hG⟩
        ·refine sb 91 (bt h_163) (ct (kS (tN (sq (bk (sq ?_)))))); obtain ⟨o_171, hG, hG_171⟩ := bs hG; refine jn (fun K E a w => ∃ v_172 : Bool, Js S0 w0 143 ([(107, B v_172)] ++ K) (se E [0, 1, 2, 3, 4]) (v_172 = o_171) a w) ?_ ?_
         ·obtain ⟨v_164, hy_164, hG⟩ := bs hG; rcases ic hG with ⟨h_167, hG⟩ | ⟨h_167, hG⟩
          ·exact rg (fx inf45 (gd' (RowC p_0_A p_0_c c_i64 tr p_0) 4) hy_164 fun b_165 o_166 hi_164 => rn 7 [(3, 0, 0, 0), (0, 1, 0, 0)] (fc (hi_164 .i64) f0) [(100, B (!(v_164 == 0)))] (sb 100 (nt h_167) (ra [] f0 [(107, B false)] (tN (fun _ _ S k e => ⟨false, S, k.wk, e.sel [1, 2, 3, 4, 5], oi hG⟩)))))
          ·obtain ⟨v_168, hy_168, hG⟩ := bs hG; exact rg (fx inf45 (gd' (RowC p_0_A p_0_c c_i64 tr p_0) 4) hy_164 fun b_165 o_166 hi_164 => rn 7 [(3, 0, 0, 0), (0, 1, 0, 0)] (fc (hi_164 .i64) f0) [(100, B (!(v_164 == 0)))] (sb 100 (nf h_167) (fx inf45 (gd' (RowC p_0_A p_0_c c_i64 tr p_0) 5) hy_168 fun b_169 o_170 hi_168 => ra [(3, 0, 0, 0), (0, 1, 0, 0)] (fc (hi_168 .i64) f0) [(107, B (!(v_168 == 1)))] (tN (fun _ _ S k e => ⟨!(v_168 == 1), S, k.wk, e.sel [2, 3, 4, 5, 6], oi hG⟩)))))
         ·rintro a w ⟨v_172, hJ⟩; refine hJ.go fun ho_ => ?_
          clear hJ; subst ho_; replace hG := hG_171; rcases ic hG with ⟨h_173, hG⟩ | ⟨h_173, hG⟩
          ·refine sb 107 (bt h_173) (ct (sq (rg (rn 1 [] f0 [(108, Aw (KTxL.cells KTxL.z))] (l1 (sr 3 g_1 (ns 0 (KTxL.cells KTxL.z)) (ra [] f0 [(3, B false)] (tN (kR (tR (hR (tR (tR ?_))))))))))))); have he_ := hO2_162 _ (oi hG).symm; subst he_; replace hG := hG_162; refine hR (tR ?_); obtain rfl := oi hG; replace hG := hG_192; obtain rfl := oi hG; exact rtn [(3, 0, 4)] (⟨0, 0, none, 0, ([] : List KSeen), none, 0, ([] : List KWrite)⟩ : KTxL) rfl ⟨((Fd.two ((gn : Fd _ (RowC none 0 KSeen.cells tr ([] : List KSeen)))) ((gn : Fd _ (RowC none 0 KWrite.cells tr ([] : List KWrite))))).m fun _ _ h => ⟨h.1, h.2⟩), trivial⟩
          ·refine sb 107 (bf h_173) (cf (kS (tN ?_))); obtain ⟨o_185, hG, hG_185⟩ := bs hG; refine jn (fun K E a w => ∃ (v_186 : List KWrite) (v_187_A : Option Addr) (v_188_c : Nat), Js S0 w0 143 (K) ([.blk g_23 26 [I v_17, I v_20, .slice v_89_A v_88.length v_90_c, .slice v_187_A v_186.length v_188_c], .own 66 3 (.slice v_187_A v_186.length v_188_c) v_186.length (v_186.flatMap KWrite.cells)] ++ se E [2, 3, 4]) (v_186 = o_185) a w) ?_ ?_
           ·obtain ⟨v_174, hy_174, hG⟩ := bs hG; obtain ⟨v_177, hy_177, hG⟩ := bs hG; obtain ⟨v_180, hy_180, hG⟩ := bs hG; obtain ⟨v_184, hy_184, hG⟩ := bs hG; refine fx inf45 (gd' (RowC p_0_A p_0_c c_i64 tr p_0) 4) hy_174 fun b_175 o_176 hi_174 => fx inf45 (gd' (RowC p_0_A p_0_c c_i64 tr p_0) 5) hy_177 fun b_178 o_179 hi_177 => fx inf45 (gd' (RowC p_0_A p_0_c c_i64 tr p_0) 6) hy_180 fun b_181 o_182 hi_180 => hb [0, 1, 2, 5, 6, 7] (ht [0, 1, 2, 5, 6, 7] [0, 2, 3, 4, 5, 6, 7, 8, 9, 10, 11, 12, 13, 14, 15, 16, 17] [(3, 0, 0, 0), (0, 1, 2, 0), (3, 0, 0, 0), (0, 1, 1, 0), (3, 0, 0, 0), (0, 1, 0, 0)] (fc (hi_174 .i64) (fc (hi_177 .i64) (fc (hi_180 .i64) f0))) [(109, Pt g_23 3), (126, .agg #[I v_174, I v_177, B (v_180 == 1)])] (ho [1, 18] ⟨?_, ?_, trivial⟩))
            ·exact h1 (po 110 (.slice v_158_A v_157.length v_159_c) [(0, 1, 3, 3)] f0 (hk [0, 1, 2, 5, 6, 7] (ho [18] ⟨h1 (nw 127 (vs 1) [I v_174, I v_177, B (v_180 == 1)] 66 fun g_183 => hk [1, 2, 3, 6, 7, 8] (ho [19] ⟨h1 (ap 5 128 v_158_A v_159_c v_157 ([(⟨v_174, v_177, (v_180 == 1)⟩ : KWrite)] : List KWrite) inf24 (bA (f := KWrite.cells) (ok := tr) (l := ([(⟨v_174, v_177, (v_180 == 1)⟩ : KWrite)] : List KWrite)) g_183 0 et.a) hy_184 KWrite.one fun v_184_A v_184_c _ => hk [1, 2, 3, 6, 7, 8] (ht [1, 2, 3, 6, 7, 8] [20] [] f0 [(129, Pt g_23 3)] (ho [21] ⟨h1 (sr 4 g_23 [(3, .slice v_184_A v_184.length v_184_c)] (hk [1, 2, 3, 6, 7, 8] (he (tN (fun _ _ S k e => ⟨v_184, v_184_A, v_184_c, S, k.wk, e.sel [4, 5, 6, 7, 8], oi hG⟩))))), trivial⟩))), trivial⟩)), trivial⟩)))
            ·exact h1 (nw 127 (vs 1) [I v_174, I v_177, B (v_180 == 1)] 66 fun g_183 => hk [1, 2, 3, 6, 7, 8] (ho [1] ⟨h1 (po 110 (.slice v_158_A v_157.length v_159_c) [(0, 1, 4, 3)] f0 (hk [1, 2, 3, 6, 7, 8] (ho [19] ⟨h1 (ap 5 128 v_158_A v_159_c v_157 ([(⟨v_174, v_177, (v_180 == 1)⟩ : KWrite)] : List KWrite) inf24 (bA (f := KWrite.cells) (ok := tr) (l := ([(⟨v_174, v_177, (v_180 == 1)⟩ : KWrite)] : List KWrite)) g_183 0 et.a) hy_184 KWrite.one fun v_184_A v_184_c _ => hk [1, 2, 3, 6, 7, 8] (ht [1, 2, 3, 6, 7, 8] [20] [] f0 [(129, Pt g_23 3)] (ho [21] ⟨h1 (sr 4 g_23 [(3, .slice v_184_A v_184.length v_184_c)] (hk [1, 2, 3, 6, 7, 8] (he (tN (fun _ _ S k e => ⟨v_184, v_184_A, v_184_c, S, k.wk, e.sel [4, 5, 6, 7, 8], oi hG⟩))))), trivial⟩))), trivial⟩))), trivial⟩))
           ·rintro a w ⟨v_186, v_187_A, v_188_c, hJ⟩; refine hJ.go fun ho_ => ?_
            clear hJ; subst ho_; replace hG := hG_185; exact rg (ra [] f0 [(5, I (IntKind.i64.wrap (v_160 + 3)))] (hN (tN (rg (ra [] f0 [(8, I (IntKind.i64.wrap (v_161 + 1)))] (tN (fun a w S hK hE => ⟨m_162, ⟨v_186, v_187_A, v_188_c, IntKind.i64.wrap (v_160 + 3), IntKind.i64.wrap (v_161 + 1), S, hK.wk, hE.sel [0, 1, 2, 3, 4], hO1_162 _ (oi hG).symm⟩, Nat.lt_succ_self _⟩)))))))
        ·refine sb 91 (bf h_163) (cf (kX (tX (tX ?_)))); have he_ := hO2_162 _ (oi hG).symm; subst he_; replace hG := hG_162; exact hH (tN (fun _ _ S k e => ⟨v_157, v_158_A, v_159_c, S, k.wk, e.sel [0, 1, 2, 3], oi hG⟩))
      ·rintro a w ⟨v_193, v_194_A, v_195_c, hJ⟩; refine hJ.go fun ho_ => ?_
       clear hJ; subst ho_; replace hG := el hG_192; refine sq ?_; obtain ⟨v_196, hy_196, hG⟩ := bs hG; refine rg (rn 1 [(0, 4, 0, 0)] f0 [(132, .agg #[I v_17, I v_20, .slice v_89_A v_88.length v_90_c, .slice v_194_A v_193.length v_195_c])] (l1 (cl 133 (z_regulatorref34_Tx F (⟨v_17, v_20, v_89_A, v_90_c, v_88, v_194_A, v_195_c, v_193⟩ : KTxL) _ hy_196) hT ⟨Fa.m (Fa.two (oA (f := KSeen.cells) (ok := tr) (l := v_88) v_89_A v_90_c 2 (et.a)) (oA (f := KWrite.cells) (ok := tr) (l := v_193) v_194_A v_195_c 1 (et.a))) fun _ _ h => ⟨h.1, h.2⟩, trivial⟩ (ra [] f0 [(9, B v_196)] (tN (sq ?_)))))); obtain ⟨o_198, hG, hG_198⟩ := bs hG; refine jn (fun K E a w => ∃ v_199 : Bool, Js S0 w0 143 ([(140, B v_199)] ++ K) (se E [0, 1, 2, 3]) (v_199 = o_198) a w) ?_ ?_
       ·rcases ic hG with ⟨h_197, hG⟩ | ⟨h_197, hG⟩
        ·exact rg (rn 3 [] f0 [(136, B (!v_196))] (sb 136 (nt h_197) (ra [(1, 1, 0, 1)] f0 [(140, B (v_20 == 0))] (tN (fun _ _ S k e => ⟨(v_20 == 0), S, k.wk, e.sel [0, 1, 2, 3], oi hG⟩)))))
        ·exact rg (rn 3 [] f0 [(136, B (!v_196))] (sb 136 (nf h_197) (ra [] f0 [(140, B true)] (tN (fun _ _ S k e => ⟨true, S, k.wk, e.sel [0, 1, 2, 3], oi hG⟩)))))
       ·rintro a w ⟨v_199, hJ⟩; refine hJ.go fun ho_ => ?_
        clear hJ; subst ho_; replace hG := hG_198; rcases ic hG with ⟨h_200, hG⟩ | ⟨h_200, hG⟩
        ·refine sb 140 (bt h_200) (ct (sq (rg (rn 1 [] f0 [(141, Aw (KTxL.cells KTxL.z))] (l1 (sr 3 g_1 (ns 0 (KTxL.cells KTxL.z)) (ra [] f0 [(3, B false)] (tN (kR (tR ?_)))))))))); obtain rfl := oi hG; exact rtn [(3, 0, 4)] (⟨0, 0, none, 0, ([] : List KSeen), none, 0, ([] : List KWrite)⟩ : KTxL) rfl ⟨((Fd.two ((gn : Fd _ (RowC none 0 KSeen.cells tr ([] : List KSeen)))) ((gn : Fd _ (RowC none 0 KWrite.cells tr ([] : List KWrite))))).m fun _ _ h => ⟨h.1, h.2⟩), trivial⟩
        ·refine sb 140 (bf h_200) (cf (kS (tN (sq (rg (rn 1 [(0, 4, 0, 0)] f0 [(142, .agg #[I v_17, I v_20, .slice v_89_A v_88.length v_90_c, .slice v_194_A v_193.length v_195_c])] (l1 (sr 3 g_1 (ns 0 [I v_17, I v_20, .slice v_89_A v_88.length v_90_c, .slice v_194_A v_193.length v_195_c]) (ra [] f0 [(3, B true)] (tN (kR ?_))))))))))); obtain rfl := oi hG; exact so (A := v_89_A) (c := v_90_c) 2 KSeen.cells tr v_88 tr_mv et (so (A := v_194_A) (c := v_195_c) 1 KWrite.cells tr v_193 tr_mv et (rtn [(3, 0, 4)] (⟨v_17, v_20, v_89_A, v_90_c, v_88, v_194_A, v_195_c, v_193⟩ : KTxL) rfl ⟨((Fd.two ((gd' (RowC v_89_A v_90_c KSeen.cells tr v_88) 2)) ((gd' (RowC v_194_A v_195_c KWrite.cells tr v_193) 1))).m fun _ _ h => ⟨h.1, h.2⟩), trivial⟩))
end Go.Proofs.Ytlfkgbideknkhaa
namespace Go.Proofs.Ytlfkgbideknkhaa
open Go.RowKit Go.Maps
def G_commit_Valid (F : Nat) (p_0 : KLeader) : Option (Bool) :=
  Option.bind (Option.bind (G_versions_Valid F p_0.Store) (fun v_2 =>
    ifB (v_2)
      (Option.bind (G_commit_between F p_0.Last 0 3000000000000000) (fun v_4 =>
      ifB (v_4)
        (ifB (decide (((p_0.Open.length : Nat) : Int) > 2000))
          (some true)
          (Option.bind (G_commit_size F p_0) (fun v_7 =>
          some (decide (v_7 > 4000)))))
        (some true)))
      (some true)) : Option (Bool)) (fun (v_9 : Bool) => 
    ifB (v_9)
      (some false)
      (Option.bind (Option.bind (iter (σ := Int × Int) (ρ := Int) (un2 fun (v_23 : Int) (v_24 : Int) => 
            (ifB (decide (v_24 < ((p_0.Store.length : Nat) : Int)))
              (Option.bind (ixI p_0.Store v_24) (fun v_27 =>
              some (.inl ((max v_23 v_27.Ts), IntKind.i64.wrap (v_24 + 1)))))
              (some (.inr v_23)) : Option ((Int × Int) ⊕ Int))) F (0, 0)) (fun (v_31 : Int) => 
          some v_31) : Option (Int)) (fun (v_33 : Int) => 
        Option.bind (Option.bind (iter (σ := Int × Int) (ρ := Int ⊕ Unit) (un2 fun (v_56 : Int) (v_57 : Int) => 
              (ifB (decide (v_57 < ((p_0.Open.length : Nat) : Int)))
                (Option.bind (ixI p_0.Open v_57) (fun v_60 =>
                Option.bind (Option.bind (G_commit_work_formed F (⟨v_60⟩ : Kcommit_work)) (fun v_64 =>
                  ifB (v_64)
                    (some (decide (v_60.Ts ≤ v_56)))
                    (some true)) : Option (Bool)) (fun (v_67 : Bool) => 
                  ifB (v_67)
                    (some (.inr (.inr ())))
                    (some (.inl (v_60.Ts, IntKind.i64.wrap (v_57 + 1)))))))
                (some (.inr (.inl v_56))) : Option ((Int × Int) ⊕ (Int ⊕ Unit)))) F (v_33, 0)) (Sum.elim (fun (v_69 : Int) => 
            some (.inl v_69)) (fun (_ : Unit) => 
            some (.inr ()))) : Option (Int ⊕ Unit)) (Sum.elim (fun (v_71 : Int) => 
          some (decide (v_71 ≤ p_0.Last))) (fun (_ : Unit) => 
          some false)))))
set_option maxRecDepth 100000 in
set_option maxHeartbeats 16000000 in
theorem z_commit_Valid (F : Nat) (p_0 : KLeaderL) (r : Bool) (hG : G_commit_Valid F p_0.p = some r) :
  Cf Try.prog 22 [.agg #[I p_0.Last, .slice p_0.Store_A p_0.Store.length p_0.Store_c, .slice p_0.Open_A p_0.Open.length p_0.Open_c]] [KLeaderL.ok p_0] (B r) := by
 unfold G_commit_Valid at hG
 try simp only [List.length_map, KLeaderL.n_Open] at hG
 refine fi Try.func22 rfl rfl (mc KLeaderL.mv m0) fun S0 w0 hT => sq (rg (l1 (nw 1 vp [I p_0.Last, .slice p_0.Store_A p_0.Store.length p_0.Store_c, .slice p_0.Open_A p_0.Open.length p_0.Open_c] 40 fun g_1 => ra [] f0 [] (tN (sq ?_)))))
 obtain ⟨o_8, hG, hG_8⟩ := bs hG; refine jn (fun K E a w => ∃ v_9 : Bool, Js S0 w0 65 ([(28, B v_9)] ++ K) ([.dat (RowC p_0.Store_A p_0.Store_c KVersion.cells tr p_0.Store), .dat (RowC p_0.Open_A p_0.Open_c KTxL.cells KTxL.ok p_0.Open)] ++ se E [0]) (v_9 = o_8) a w) ?_ ?_
 ·obtain ⟨v_2, hy_2, hG⟩ := bs hG; rcases ic hG with ⟨h_3, hG⟩ | ⟨h_3, hG⟩
  ·obtain ⟨v_4, hy_4, hG⟩ := bs hG; rcases ic hG with ⟨h_5, hG⟩ | ⟨h_5, hG⟩
   ·rcases ic hG with ⟨h_6, hG⟩ | ⟨h_6, hG⟩
    ·refine rg (rn 2 [(1, 1, 0, 1)] f0 [(9, .slice p_0.Store_A p_0.Store.length p_0.Store_c)] (l1 (cl 10 (z_versions_Valid F p_0.Store_A p_0.Store_c p_0.Store _ hy_2) hT ⟨(gm (KLeaderL.ok p_0) 1 fun _ _ h => h.f_Store).a, trivial⟩ (rn 2 [] f0 [(12, B (!v_2))] (sb 12 (nt h_3) (rn 2 [(1, 1, 0, 0)] f0 [(14, I p_0.Last)] (l1 (cl 15 (z_commit_between F p_0.Last 0 3000000000000000 _ hy_4) hT trivial (rn 3 [] f0 [(18, B (!v_4))] (sb 18 (nt h_5) (rn 6 [(1, 1, 0, 2)] f0 [(24, B (decide (((p_0.Open.length : Nat) : Int) > 2000)))] ?_)))))))))))
     try simp only [List.length_map, KLeaderL.n_Open] at h_6
     exact sb 24 (bt h_6) (ra [] f0 [(28, B true)] (tN (fg (KLeaderL.ok p_0) 1 (fun _ _ h => h.f_Store) (fg (KLeaderL.ok p_0) 2 (fun _ _ h => h.f_Open) (fun _ _ S k e => ⟨true, S, k.wk, e.sel [1, 0, 2], oi hG⟩)))))
    ·obtain ⟨v_7, hy_7, hG⟩ := bs hG; refine rg (rn 2 [(1, 1, 0, 1)] f0 [(9, .slice p_0.Store_A p_0.Store.length p_0.Store_c)] (l1 (cl 10 (z_versions_Valid F p_0.Store_A p_0.Store_c p_0.Store _ hy_2) hT ⟨(gm (KLeaderL.ok p_0) 1 fun _ _ h => h.f_Store).a, trivial⟩ (rn 2 [] f0 [(12, B (!v_2))] (sb 12 (nt h_3) (rn 2 [(1, 1, 0, 0)] f0 [(14, I p_0.Last)] (l1 (cl 15 (z_commit_between F p_0.Last 0 3000000000000000 _ hy_4) hT trivial (rn 3 [] f0 [(18, B (!v_4))] (sb 18 (nt h_5) (rn 6 [(1, 1, 0, 2)] f0 [(24, B (decide (((p_0.Open.length : Nat) : Int) > 2000)))] ?_)))))))))))
     try simp only [List.length_map, KLeaderL.n_Open] at h_6
     exact sb 24 (bf h_6) (rn 1 [(0, 3, 0, 0)] f0 [(25, .agg #[I p_0.Last, .slice p_0.Store_A p_0.Store.length p_0.Store_c, .slice p_0.Open_A p_0.Open.length p_0.Open_c])] (l1 (cl 26 (z_commit_size F p_0 _ hy_7) hT ⟨(gi 1).a, trivial⟩ (ra [] f0 [(28, B (decide (v_7 > 4000)))] (tN (fg (KLeaderL.ok p_0) 1 (fun _ _ h => h.f_Store) (fg (KLeaderL.ok p_0) 2 (fun _ _ h => h.f_Open) (fun _ _ S k e => ⟨decide (v_7 > 4000), S, k.wk, e.sel [1, 0, 2], oi hG⟩))))))))
   ·exact rg (rn 2 [(1, 1, 0, 1)] f0 [(9, .slice p_0.Store_A p_0.Store.length p_0.Store_c)] (l1 (cl 10 (z_versions_Valid F p_0.Store_A p_0.Store_c p_0.Store _ hy_2) hT ⟨(gm (KLeaderL.ok p_0) 1 fun _ _ h => h.f_Store).a, trivial⟩ (rn 2 [] f0 [(12, B (!v_2))] (sb 12 (nt h_3) (rn 2 [(1, 1, 0, 0)] f0 [(14, I p_0.Last)] (l1 (cl 15 (z_commit_between F p_0.Last 0 3000000000000000 _ hy_4) hT trivial (rn 3 [] f0 [(18, B (!v_4))] (sb 18 (nf h_5) (ra [] f0 [(28, B true)] (tN (fg (KLeaderL.ok p_0) 1 (fun _ _ h => h.f_Store) (fg (KLeaderL.ok p_0) 2 (fun _ _ h => h.f_Open) (fun _ _ S k e => ⟨true, S, k.wk, e.sel [1, 0, 2], oi hG⟩)))))))))))))))
  ·exact rg (rn 2 [(1, 1, 0, 1)] f0 [(9, .slice p_0.Store_A p_0.Store.length p_0.Store_c)] (l1 (cl 10 (z_versions_Valid F p_0.Store_A p_0.Store_c p_0.Store _ hy_2) hT ⟨(gm (KLeaderL.ok p_0) 1 fun _ _ h => h.f_Store).a, trivial⟩ (rn 2 [] f0 [(12, B (!v_2))] (sb 12 (nf h_3) (ra [] f0 [(28, B true)] (tN (fg (KLeaderL.ok p_0) 1 (fun _ _ h => h.f_Store) (fg (KLeaderL.ok p_0) 2 (fun _ _ h => h.f_Open) (fun _ _ S k e => ⟨true, S, k.wk, e.sel [1, 0, 2], oi hG⟩))))))))))
 ·rintro a w ⟨v_9, hJ⟩; refine hJ.go fun ho_ => ?_
  clear hJ; subst ho_; replace hG := hG_8; rcases ic hG with ⟨h_10, hG⟩ | ⟨h_10, hG⟩
  ·refine sb 28 (bt h_10) (ct (sq (rg (ra [] f0 [(2, B false)] (tN (kR (tR ?_))))))); obtain rfl := oi hG; exact rt []
  ·refine sb 28 (bf h_10) (cf (kS (tN (sq (rg (ra [] f0 [(3, I 0)] (tN ?_))))))); obtain ⟨o_32, hG, hG_32⟩ := bs hG; refine jn (fun K E a w => ∃ v_33 : Int, Js S0 w0 65 ([(3, I v_33)] ++ K) (se E [0, 1, 2]) (v_33 = o_32) a w) ?_ ?_
   ·refine sq (rg (ra [(1, 1, 2, 1)] f0 (ns 30 [.slice p_0.Store_A p_0.Store.length p_0.Store_c, I ((p_0.Store.length : Nat) : Int), I 0]) (tN (bk ?_)))); obtain ⟨e_25, hL, hG_25⟩ := bs hG; clear hG; obtain ⟨stp_25, hs_25, hL⟩ := iter_gen hL; refine lp (fun K E n_ a w => ∃ v_23 v_24 : Int, Js S0 w0 65 ([(3, I v_23), (32, I v_24)] ++ K) (se E [0, 1, 2]) (iter stp_25 n_ (v_23, v_24) = some e_25) a w) F ?_ ?_
    ·exact fun _ _ S k e => ⟨0, 0, S, k.wk, e.sel [0, 1, 2], hL⟩
    ·clear hL; rintro n_25 a w ⟨v_23, v_24, hJ⟩; refine hJ.go fun hL => ?_
     clear hJ; obtain ⟨m_25, o_25, rfl, hG, hO1_25, hO2_25⟩ := iter_step hL; clear hL; rw [hs_25] at hG; refine sq (rg (ra [] f0 [(33, B (decide (v_24 < ((p_0.Store.length : Nat) : Int))))] (tN (sq ?_)))); rcases ic hG with ⟨h_26, hG⟩ | ⟨h_26, hG⟩
     ·try simp only [List.length_map, KLeaderL.n_Open] at h_26
      refine sb 33 (bt h_26) (ct (kS (tN (sq (bk (sq ?_)))))); obtain ⟨v_27, hy_27, hG⟩ := bs hG; exact rg (fx inf38 (gd' (RowC p_0.Store_A p_0.Store_c KVersion.cells tr p_0.Store) 0) hy_27 fun b_28 o_29 hi_27 => rn 2 [(0, 0, 0, 0), (0, 4, 0, 0)] (fc (hi_27 .i64) f0) [(35, .agg #[I v_27.Key, I v_27.Ts, I v_27.Value, B v_27.Gone])] (l1 (nw 5 vp [I 0, I 0, I 0, B false] 61 fun g_30 => l1 (sr 0 g_30 (ns 0 [I v_27.Key, I v_27.Ts, I v_27.Value, B v_27.Gone]) (nl (tN (rg (rn 4 [(2, 1, 0, 1)] f0 [(39, I (if v_27.Ts > v_23 then v_27.Ts else v_23))] (sb 39 (v := I (if v_27.Ts > v_23 then v_27.Ts else v_23)) (v' := I (max v_23 v_27.Ts)) (congrArg (Value.int .i64) (by omega)) (ra [] f0 [(3, I (max v_23 v_27.Ts))] (hN (tN (rg (ra [] f0 [(32, I (IntKind.i64.wrap (v_24 + 1)))] (tN (fun a w S hK hE => ⟨m_25, ⟨(max v_23 v_27.Ts), IntKind.i64.wrap (v_24 + 1), S, hK.wk, hE.sel [2, 3, 4], hO1_25 _ (oi hG).symm⟩, Nat.lt_succ_self _⟩))))))))))))))))
     ·try simp only [List.length_map, KLeaderL.n_Open] at h_26
      refine sb 33 (bf h_26) (cf (kX (tX (tX ?_)))); have he_ := hO2_25 _ (oi hG).symm; subst he_; replace hG := hG_25; exact hH (tN (fun _ _ S k e => ⟨v_23, S, k.wk, e.sel [0, 1, 2], oi hG⟩))
   ·rintro a w ⟨v_33, hJ⟩; refine hJ.go fun ho_ => ?_
    clear hJ; subst ho_; replace hG := hG_32; obtain ⟨o_70, hG, hG_70⟩ := bs hG; refine jn (fun K E a w => ∃ v_71 : Int, Js S0 w0 65 ([(3, I v_71)] ++ K) (se E [0, 1, 2]) (.inl v_71 = o_70) a w) ?_ ?_
    ·refine sq (rg (ra [(1, 1, 2, 2)] f0 (ns 42 [.slice p_0.Open_A p_0.Open.length p_0.Open_c, I ((p_0.Open.length : Nat) : Int), I 0]) (tN (bk ?_)))); obtain ⟨e_58, hL, hG_58⟩ := bs hG; clear hG; obtain ⟨stp_58, hs_58, hL⟩ := iter_gen hL; refine lp (fun K E n_ a w => ∃ v_56 v_57 : Int, Js S0 w0 65 ([(3, I v_56), (44, I v_57)] ++ K) (se E [0, 1, 2]) (iter stp_58 n_ (v_56, v_57) = some e_58) a w) F ?_ ?_
     ·exact fun _ _ S k e => ⟨v_33, 0, S, k.wk, e.sel [0, 1, 2], hL⟩
     ·clear hL; rintro n_58 a w ⟨v_56, v_57, hJ⟩; refine hJ.go fun hL => ?_
      clear hJ; obtain ⟨m_58, o_58, rfl, hG, hO1_58, hO2_58⟩ := iter_step hL; clear hL; rw [hs_58] at hG; refine sq (rg (ra [] f0 [(45, B (decide (v_57 < ((p_0.Open.length : Nat) : Int))))] (tN (sq ?_)))); rcases ic hG with ⟨h_59, hG⟩ | ⟨h_59, hG⟩
      ·try simp only [List.length_map, KLeaderL.n_Open] at h_59
       refine sb 45 (bt h_59) (ct (kS (tN (sq (bk (sq ?_)))))); obtain ⟨v_60o, hy_60, hG⟩ := bs hG; refine rg (fxn (p := KTxL.p) inf30 (gd' (RowC p_0.Open_A p_0.Open_c KTxL.cells KTxL.ok p_0.Open) 1) hy_60 fun v_60 b_61 o_62 he_60 hi_60 => ?_); subst he_60
       try simp only [List.length_map, KLeaderL.n_Open] at hG
       refine rn 2 [(0, 0, 0, 0), (0, 4, 0, 0)] (fc (hi_60 .i64) f0) [(47, .agg #[I v_60.ID, I v_60.Ts, .slice v_60.Reads_A v_60.Reads.length v_60.Reads_c, .slice v_60.Writes_A v_60.Writes.length v_60.Writes_c])] (l1 (nw 7 vp (KTxL.cells KTxL.z) 26 fun g_63 => l1 (sr 0 g_63 (ns 0 [I v_60.ID, I v_60.Ts, .slice v_60.Reads_A v_60.Reads.length v_60.Reads_c, .slice v_60.Writes_A v_60.Writes.length v_60.Writes_c]) (nl (tN (sq ?_)))))); obtain ⟨o_66, hG, hG_66⟩ := bs hG; refine jn (fun K E a w => ∃ v_67 : Bool, Js S0 w0 65 ([(57, B v_67)] ++ K) ([.dat (RowC v_60.Reads_A v_60.Reads_c KSeen.cells tr v_60.Reads), .dat (RowC v_60.Writes_A v_60.Writes_c KWrite.cells tr v_60.Writes)] ++ se E [0, 3, 4, 5]) (v_67 = o_66) a w) ?_ ?_
       ·obtain ⟨v_64, hy_64, hG⟩ := bs hG; rcases ic hG with ⟨h_65, hG⟩ | ⟨h_65, hG⟩
        ·exact rg (rn 2 [(0, 4, 0, 0)] f0 [(49, .agg #[I v_60.ID, I v_60.Ts, .slice v_60.Reads_A v_60.Reads.length v_60.Reads_c, .slice v_60.Writes_A v_60.Writes.length v_60.Writes_c])] (l1 (cl 50 (z_commit_work_formed F (⟨v_60⟩ : Kcommit_workL) _ hy_64) hT ⟨(((gm (KTxL.ok v_60) 2 fun _ _ h => h)).m fun _ _ h => ⟨h⟩).a, trivial⟩ (rn 2 [] f0 [(52, B (!v_64))] (sb 52 (nt h_65) (ra [(1, 1, 0, 1)] f0 [(57, B (decide (v_60.Ts ≤ v_56)))] (tN (fg (KTxL.ok v_60) 2 (fun _ _ h => h.f_Reads) (fg (KTxL.ok v_60) 3 (fun _ _ h => h.f_Writes) (fun _ _ S k e => ⟨decide (v_60.Ts ≤ v_56), S, k.wk, e.sel [1, 0, 2, 5, 6, 7], oi hG⟩))))))))))
        ·exact rg (rn 2 [(0, 4, 0, 0)] f0 [(49, .agg #[I v_60.ID, I v_60.Ts, .slice v_60.Reads_A v_60.Reads.length v_60.Reads_c, .slice v_60.Writes_A v_60.Writes.length v_60.Writes_c])] (l1 (cl 50 (z_commit_work_formed F (⟨v_60⟩ : Kcommit_workL) _ hy_64) hT ⟨(((gm (KTxL.ok v_60) 2 fun _ _ h => h)).m fun _ _ h => ⟨h⟩).a, trivial⟩ (rn 2 [] f0 [(52, B (!v_64))] (sb 52 (nf h_65) (ra [] f0 [(57, B true)] (tN (fg (KTxL.ok v_60) 2 (fun _ _ h => h.f_Reads) (fg (KTxL.ok v_60) 3 (fun _ _ h => h.f_Writes) (fun _ _ S k e => ⟨true, S, k.wk, e.sel [1, 0, 2, 5, 6, 7], oi hG⟩))))))))))
       ·rintro a w ⟨v_67, hJ⟩; refine hJ.go fun ho_ => ?_
        clear hJ; subst ho_; replace hG := hG_66; rcases ic hG with ⟨h_68, hG⟩ | ⟨h_68, hG⟩
        ·refine sb 57 (bt h_68) (ct (sq (rg (ra [] f0 [(2, B false)] (tN (kR (tR (hR (tR (tR ?_)))))))))); have he_ := hO2_58 _ (oi hG).symm; subst he_; replace hG := hG_58; refine hR (tR ?_); obtain rfl := oi hG; replace hG := hG_70; obtain rfl := oi hG; exact rt []
        ·exact sb 57 (bf h_68) (cf (kS (tN (rg (ra [(1, 1, 2, 1)] f0 [(3, I v_60.Ts)] (hN (tN (rg (ra [] f0 [(44, I (IntKind.i64.wrap (v_57 + 1)))] (tN (fun a w S hK hE => ⟨m_58, ⟨v_60.Ts, IntKind.i64.wrap (v_57 + 1), S, hK.wk, hE.sel [3, 4, 5], hO1_58 _ (oi hG).symm⟩, Nat.lt_succ_self _⟩)))))))))))
      ·try simp only [List.length_map, KLeaderL.n_Open] at h_59
       refine sb 45 (bf h_59) (cf (kX (tX (tX ?_)))); have he_ := hO2_58 _ (oi hG).symm; subst he_; replace hG := hG_58; exact hH (tN (fun _ _ S k e => ⟨v_56, S, k.wk, e.sel [0, 1, 2], oi hG⟩))
    ·rintro a w ⟨v_71, hJ⟩; refine hJ.go fun ho_ => ?_
     clear hJ; subst ho_; replace hG := el hG_70; refine sq (rg (ra [(2, 1, 2, 0)] f0 [(2, B (decide (v_71 ≤ p_0.Last)))] (tN (kR ?_)))); obtain rfl := oi hG; exact rt []
def G_regulatorref37_Load (F : Nat) (p_0 : List Int) : Option ((List KTx) × Int × Int) :=
  ifB (decide (((p_0.length : Nat) : Int) > 100000))
    (some (([] : List KTx), 0, 2))
    (Option.bind (G_regulatorref04_Frames F p_0) (un3 fun v_2 v_3 v_4 =>
    Option.bind (Option.bind (iter (σ := Int × Int × (List KTx) × Int) (ρ := ((List KTx) × Int) ⊕ ((List KTx) × Int)) (un4 fun (v_39 : Int) (v_40 : Int) (v_41 : (List KTx)) (v_44 : Int) => 
          (ifB (decide (v_40 < ((v_2.length : Nat) : Int)))
            (Option.bind (ixI v_2 v_40) (fun v_47 =>
            Option.bind (G_regulatorref37_Tx F v_47) (un2 fun v_50 v_51 =>
            Option.bind (ifB (v_51)
                (some (decide (v_50.Ts ≤ v_39)))
                (some true) : Option (Bool)) (fun (v_55 : Bool) => 
              ifB (v_55)
                (some (.inr (.inr (v_41, v_44))))
                (Option.bind (apG 64 v_41 ([v_50] : List KTx)) (fun v_58 =>
                Option.bind (G_regulatorref37_Record F v_50) (fun v_59 =>
                some (.inl (v_50.Ts, IntKind.i64.wrap (v_40 + 1), v_58, IntKind.i64.wrap (v_44 + ((v_59.length : Nat) : Int)))))))))))
            (some (.inr (.inl (v_41, v_44)))) : Option ((Int × Int × (List KTx) × Int) ⊕ (((List KTx) × Int) ⊕ ((List KTx) × Int))))) F (0, 0, ([] : List KTx), 0)) (Sum.elim (un2 fun (v_60 : (List KTx)) (v_63 : Int) => 
        some (.inl (v_60, v_63))) (un2 fun (v_64 : (List KTx)) (v_65 : Int) => 
        some (.inr (v_64, v_65)))) : Option (((List KTx) × Int) ⊕ ((List KTx) × Int))) (Sum.elim (un2 fun (v_67 : (List KTx)) (v_70 : Int) => 
      some (v_67, v_70, 0)) (un2 fun (v_71 : (List KTx)) (v_72 : Int) => 
      some (v_71, v_72, 0)))))
set_option maxRecDepth 100000 in
set_option maxHeartbeats 16000000 in
theorem z_regulatorref37_Load (F : Nat) (p_0_A : Option Addr) (p_0_c : Nat) (p_0 : List Int) (r : (List KTx) × Int × Int) (hG : G_regulatorref37_Load F p_0 = some r) :
  Cn Try.prog 15 [.slice p_0_A p_0.length p_0_c] [RowC p_0_A p_0_c c_u8 tr p_0] (fun q : KSapi_TxL => r.1 = (q.l.map KTxL.p)) (fun q => .tuple #[.slice q.A q.l.length q.c, I r.2.1, I r.2.2]) (fun q => [RowC q.A q.c KTxL.cells KTxL.ok q.l]) := by
 unfold G_regulatorref37_Load at hG
 try simp only [List.length_map, KLeaderL.n_Open] at hG
 refine fin Try.func15 rfl rfl (mr tr_mv m0) fun S0 w0 hT => sq (rg (ra [] f0 [] (tN (sq (sq (rg (ra [] f0 [(16, B (decide (((p_0.length : Nat) : Int) > 100000)))] (tN ?_))))))))
 rcases ic hG with ⟨h_1, hG⟩ | ⟨h_1, hG⟩
 ·try simp only [List.length_map, KLeaderL.n_Open] at h_1
  refine sb 16 (bt h_1) (ct (sq (rg (ra [] f0 (ns 2 [.slice none 0 0, I 0, I 2]) (tN (kR (tR ?_))))))); obtain rfl := oi hG; exact rtn [] ⟨none, 0, ([] : List KTxL)⟩ rfl ⟨gn, trivial⟩
 ·try simp only [List.length_map, KLeaderL.n_Open] at h_1
  refine sb 16 (bf h_1) (cf (kS (tN (sq ?_)))); obtain ⟨v_2o, v_3, v_4, hy_2, hG⟩ := b3 hG; refine rg (rn 1 [] f0 [(18, .slice p_0_A p_0.length p_0_c)] (l1 (cn 19 (z_regulatorref04_Frames F p_0_A p_0_c p_0 _ hy_2) hT (fun _ => (mr KSintL.mv m0)) ⟨gi 0, trivial⟩ ?_))); rintro ⟨v_2_A, v_2_c, v_2⟩ hq_2; obtain rfl : (v_2.map KSintL.p) = v_2o := hq_2.symm
  try simp only [List.length_map, KLeaderL.n_Open] at hG
  refine ra [] f0 [(5, .slice v_2_A v_2.length v_2_c)] (tN (sq (rg (ra [] f0 [(8, .slice none 0 0)] (tN (sq (rg (ra [] f0 [(9, I 0)] (tN (sq (rg (ra [] f0 [(10, I 0)] (tN ?_))))))))))))); obtain ⟨o_66, hG, hG_66⟩ := bs hG; refine jn (fun K E a w => ∃ (v_67 : List KTxL) (v_68_A : Option Addr) (v_69_c : Nat) (v_70 : Int), Js S0 w0 60 ([(8, .slice v_68_A v_67.length v_69_c), (9, I v_70)] ++ dk [10] K) ([.own 26 4 (.slice v_68_A v_67.length v_69_c) v_67.length (v_67.flatMap KTxL.cells), .dat (Each KTxL.ok v_67)]) (.inl ((v_67.map KTxL.p), v_70) = o_66) a w) ?_ ?_
  ·refine sq (rg (ra [] f0 [(11, I 0)] (tN (bk ?_)))); obtain ⟨e_45, hL, hG_45⟩ := bs hG; clear hG; obtain ⟨stp_45, hs_45, hL⟩ := iter_gen hL; refine lp (fun K E n_ a w => ∃ (v_39 v_40 : Int) (v_41 : List KTxL) (v_42_A : Option Addr) (v_43_c : Nat) (v_44 : Int), Js S0 w0 60 ((ns 8 [.slice v_42_A v_41.length v_43_c, I v_44, I v_39, I v_40]) ++ K) ([.own 26 4 (.slice v_42_A v_41.length v_43_c) v_41.length (v_41.flatMap KTxL.cells), .dat (Each KTxL.ok v_41)] ++ se E [0]) (iter stp_45 n_ (v_39, v_40, (v_41.map KTxL.p), v_44) = some e_45) a w) F ?_ ?_
   ·exact on 26 4 (fm (Each KTxL.ok ([] : List KTxL)) e0 (fun _ _ S k e => ⟨0, 0, ([] : List KTxL), none, 0, 0, S, k.wk, e.sel [1, 0, 2], hL⟩))
   ·clear hL; rintro n_45 a w ⟨v_39, v_40, v_41, v_42_A, v_43_c, v_44, hJ⟩; refine hJ.go fun hL => ?_
    clear hJ; obtain ⟨m_45, o_45, rfl, hG, hO1_45, hO2_45⟩ := iter_step hL; clear hL; rw [hs_45] at hG
    try simp only [List.length_map, KLeaderL.n_Open] at hG
    refine sq (sq (rg (ra [] f0 [(26, B (decide (v_40 < ((v_2.length : Nat) : Int))))] (tN ?_)))); rcases ic hG with ⟨h_46, hG⟩ | ⟨h_46, hG⟩
    ·try simp only [List.length_map, KLeaderL.n_Open] at h_46
     refine sb 26 (bt h_46) (ct (kS (tN (sq (bk (sq ?_)))))); obtain ⟨v_47o, hy_47, hG⟩ := bs hG; replace hG := b2 hG; obtain ⟨v_50o, v_51, hy_50, hG⟩ := hG; refine rg (fxn (p := KSintL.p) inf71 (gd' (RowC v_2_A v_2_c KSintL.cells KSintL.ok v_2) 2) hy_47 fun v_47 b_48 o_49 he_47 hi_47 => ?_); subst he_47
     try simp only [List.length_map, KLeaderL.n_Open] at hG
     refine rn 4 [(2, 0, 0, 0), (0, 1, 0, 0)] (fc (hi_47 .i64) f0) [(33, .slice v_47.A v_47.l.length v_47.c)] (l1 (cn 34 (z_regulatorref37_Tx F v_47.A v_47.c v_47.l _ hy_50) hT (fun _ => (mc KTxL.mv m0)) ⟨(gm (KSintL.ok v_47) 1 fun _ _ h => h.f_l), trivial⟩ ?_)); rintro v_50 hq_50; obtain rfl : v_50.p = v_50o := hq_50.symm
     try simp only [List.length_map, KLeaderL.n_Open] at hG
     refine rn 3 [] f0 [(35, .agg #[I v_50.ID, I v_50.Ts, .slice v_50.Reads_A v_50.Reads.length v_50.Reads_c, .slice v_50.Writes_A v_50.Writes.length v_50.Writes_c]), (36, B v_51)] (l1 (nw 12 vp (KTxL.cells KTxL.z) 26 fun g_52 => l1 (sr 0 g_52 (ns 0 [I v_50.ID, I v_50.Ts, .slice v_50.Reads_A v_50.Reads.length v_50.Reads_c, .slice v_50.Writes_A v_50.Writes.length v_50.Writes_c]) (ra [] f0 [(13, B v_51)] (tN (sq ?_)))))); obtain ⟨o_54, hG, hG_54⟩ := bs hG; refine jn (fun K E a w => ∃ v_55 : Bool, Js S0 w0 60 ([(44, B v_55)] ++ K) ([.dat (RowC v_50.Reads_A v_50.Reads_c KSeen.cells tr v_50.Reads), .dat (RowC v_50.Writes_A v_50.Writes_c KWrite.cells tr v_50.Writes)] ++ se E [0, 4, 5, 6]) (v_55 = o_54) a w) ?_ ?_
     ·rcases ic hG with ⟨h_53, hG⟩ | ⟨h_53, hG⟩
      ·exact rg (rn 3 [] f0 [(39, B (!v_51))] (sb 39 (nt h_53) (ra [(1, 1, 0, 1)] f0 [(44, B (decide (v_50.Ts ≤ v_39)))] (tN (fg (KTxL.ok v_50) 1 (fun _ _ h => h.f_Reads) (fg (KTxL.ok v_50) 2 (fun _ _ h => h.f_Writes) (fun _ _ S k e => ⟨decide (v_50.Ts ≤ v_39), S, k.wk, e.sel [1, 0, 2, 6, 7, 8], oi hG⟩)))))))
      ·exact rg (rn 3 [] f0 [(39, B (!v_51))] (sb 39 (nf h_53) (ra [] f0 [(44, B true)] (tN (fg (KTxL.ok v_50) 1 (fun _ _ h => h.f_Reads) (fg (KTxL.ok v_50) 2 (fun _ _ h => h.f_Writes) (fun _ _ S k e => ⟨true, S, k.wk, e.sel [1, 0, 2, 6, 7, 8], oi hG⟩)))))))
     ·rintro a w ⟨v_55, hJ⟩; refine hJ.go fun ho_ => ?_
      clear hJ; subst ho_; replace hG := hG_54; rcases ic hG with ⟨h_56, hG⟩ | ⟨h_56, hG⟩
      ·refine sb 44 (bt h_56) (ct (sq (rg (ra [] f0 (ns 2 [.slice v_42_A v_41.length v_43_c, I v_44, I 0]) (tN (kR (tR (hR (tR (tR ?_)))))))))); have he_ := hO2_45 _ (oi hG).symm; subst he_; replace hG := hG_45
       try simp only [List.length_map, KLeaderL.n_Open] at hG
       refine hR (tR ?_); obtain rfl := oi hG; replace hG := hG_66; obtain rfl := oi hG; exact so (A := v_42_A) (c := v_43_c) 3 KTxL.cells KTxL.ok v_41 KTxL.mv (gd' (Each KTxL.ok v_41) 4) (rtn [] ⟨v_42_A, v_43_c, v_41⟩ rfl ⟨gi 3, trivial⟩)
      ·refine sb 44 (bf h_56) (cf (kS (tN (sq ?_)))); obtain ⟨v_58o, hy_58, hG⟩ := bs hG; refine rg (rn 2 [(1, 4, 2, 0)] f0 [(47, .slice v_42_A v_41.length v_43_c), (48, .agg #[I v_50.ID, I v_50.Ts, .slice v_50.Reads_A v_50.Reads.length v_50.Reads_c, .slice v_50.Writes_A v_50.Writes.length v_50.Writes_c])] (l1 (nw 49 (vs 1) [I v_50.ID, I v_50.Ts, .slice v_50.Reads_A v_50.Reads.length v_50.Reads_c, .slice v_50.Writes_A v_50.Writes.length v_50.Writes_c] 26 fun g_57 => l1 (apn (p := KTxL.p) (ok := KTxL.ok) 4 50 v_42_A v_43_c v_41 ([v_50] : List KTxL) inf30 (bA (f := KTxL.cells) (ok := tr) (l := ([v_50] : List KTxL)) g_57 0 et.a) (gd' (Each KTxL.ok v_41) 5) (ec ((Fd.two ((gd' (RowC v_50.Reads_A v_50.Reads_c KSeen.cells tr v_50.Reads) 1)) ((gd' (RowC v_50.Writes_A v_50.Writes_c KWrite.cells tr v_50.Writes) 2))).m fun _ _ h => ⟨h.1, h.2⟩) e0) hy_58 KTxL.one fun v_58 v_58_A v_58_c he_58 _ => ?_)))); subst he_58
       try simp only [List.length_map, KLeaderL.n_Open] at hG
       refine ra [] f0 [(8, .slice v_58_A v_58.length v_58_c)] (tN (sq ?_)); obtain ⟨v_59o, hy_59, hG⟩ := bs hG; refine rg (rn 2 [(1, 4, 4, 0)] f0 [(51, I v_44), (52, .agg #[I v_50.ID, I v_50.Ts, .slice v_50.Reads_A v_50.Reads.length v_50.Reads_c, .slice v_50.Writes_A v_50.Writes.length v_50.Writes_c])] (l1 (cg 53 (z_regulatorref37_Record F v_50 _ hy_59) hT (fun _ => (mr tr_mv m0)) ⟨((Fd.two ((gd' (RowC v_50.Reads_A v_50.Reads_c KSeen.cells tr v_50.Reads) 2)) ((gd' (RowC v_50.Writes_A v_50.Writes_c KWrite.cells tr v_50.Writes) 3))).m fun _ _ h => ⟨h.1, h.2⟩).a, trivial⟩ ?_))); rintro ⟨v_59_A, v_59_c, v_59⟩ hq_59; obtain rfl : v_59 = v_59o := hq_59.symm
       try simp only [List.length_map, KLeaderL.n_Open] at hG
       exact ra [] f0 [(9, I (IntKind.i64.wrap (v_44 + ((v_59.length : Nat) : Int))))] (tN (rg (ra [(1, 1, 5, 1)] f0 [(10, I v_50.Ts)] (hN (tN (rg (ra [] f0 [(11, I (IntKind.i64.wrap (v_40 + 1)))] (tN (fun a w S hK hE => ⟨m_45, ⟨v_50.Ts, IntKind.i64.wrap (v_40 + 1), v_58, v_58_A, v_58_c, IntKind.i64.wrap (v_44 + ((v_59.length : Nat) : Int)), S, hK.wk, hE.sel [6, 1, 8], hO1_45 _ (oi hG).symm⟩, Nat.lt_succ_self _⟩)))))))))
    ·try simp only [List.length_map, KLeaderL.n_Open] at h_46
     refine sb 26 (bf h_46) (cf (kX (tX (tX ?_)))); have he_ := hO2_45 _ (oi hG).symm; subst he_; replace hG := hG_45
     try simp only [List.length_map, KLeaderL.n_Open] at hG
     exact hH (tN (fun _ _ S k e => ⟨v_41, v_42_A, v_43_c, v_44, S, k.wk, e.sel [0, 1], oi hG⟩))
  ·rintro a w ⟨v_67, v_68_A, v_69_c, v_70, hJ⟩; refine hJ.go fun ho_ => ?_
   clear hJ; subst ho_; replace hG := el hG_66
   try simp only [List.length_map, KLeaderL.n_Open] at hG
   refine sq (rg (ra [] f0 (ns 2 [.slice v_68_A v_67.length v_69_c, I v_70, I 0]) (tN (kR ?_)))); obtain rfl := oi hG; exact so (A := v_68_A) (c := v_69_c) 0 KTxL.cells KTxL.ok v_67 KTxL.mv (gd' (Each KTxL.ok v_67) 1) (rtn [] ⟨v_68_A, v_69_c, v_67⟩ rfl ⟨gi 0, trivial⟩)
end Go.Proofs.Ytlfkgbideknkhaa
namespace Go.Proofs.Ytlfkgbideknkhaa
open Go.RowKit Go.Maps
def G_journal_formed (F : Nat) (p_0 : KTx) : Option (Bool) :=
  Option.bind (ifB (decide (p_0.Ts > 0))
      (Option.bind (G_commit_Valid F (⟨p_0.Ts, ([] : List KVersion), ([p_0] : List KTx)⟩ : KLeader)) (fun v_4 =>
      some v_4))
      (some false) : Option (Bool)) (fun (v_6 : Bool) => 
    some v_6)
set_option maxRecDepth 100000 in
set_option maxHeartbeats 16000000 in
theorem z_journal_formed (F : Nat) (p_0 : KTxL) (r : Bool) (hG : G_journal_formed F p_0.p = some r) :
  Cf Try.prog 27 [.agg #[I p_0.ID, I p_0.Ts, .slice p_0.Reads_A p_0.Reads.length p_0.Reads_c, .slice p_0.Writes_A p_0.Writes.length p_0.Writes_c]] [KTxL.ok p_0] (B r) := by
 unfold G_journal_formed at hG
 try simp only [List.length_map, KLeaderL.n_Open] at hG
 refine fi Try.func27 rfl rfl (mc KTxL.mv m0) fun S0 w0 hT => sq (rg (l1 (nw 1 vp [I p_0.ID, I p_0.Ts, .slice p_0.Reads_A p_0.Reads.length p_0.Reads_c, .slice p_0.Writes_A p_0.Writes.length p_0.Writes_c] 26 fun g_1 => ra [] f0 [] (tN ?_))))
 obtain ⟨o_5, hG, hG_5⟩ := bs hG; refine jn (fun K E a w => ∃ v_6 : Bool, Js S0 w0 14 ([(2, B v_6)] ++ K) (se E []) (v_6 = o_5) a w) ?_ ?_
 ·rcases ic hG with ⟨h_2, hG⟩ | ⟨h_2, hG⟩
  ·obtain ⟨v_4, hy_4, hG⟩ := bs hG; exact rg (rn 4 [(1, 1, 0, 1)] f0 [(6, B (decide (p_0.Ts > 0)))] (sb 6 (bt h_2) (rn 3 [(1, 1, 0, 1), (0, 4, 0, 0)] f0 [(8, I p_0.Ts), (9, .agg #[I p_0.ID, I p_0.Ts, .slice p_0.Reads_A p_0.Reads.length p_0.Reads_c, .slice p_0.Writes_A p_0.Writes.length p_0.Writes_c])] (l1 (nw 10 (vs 1) [I p_0.ID, I p_0.Ts, .slice p_0.Reads_A p_0.Reads.length p_0.Reads_c, .slice p_0.Writes_A p_0.Writes.length p_0.Writes_c] 26 fun g_3 => rn 1 [] f0 [(11, .agg #[I p_0.Ts, .slice none 0 0, Sb g_3 1 1])] (l1 (cl 12 (z_commit_Valid F (⟨p_0.Ts, none, 0, ([] : List KVersion), (some ⟨g_3, 0, none⟩), 1, ([p_0] : List KTxL)⟩ : KLeaderL) _ hy_4) hT ⟨Fa.m (Fa.two ((gn : Fd _ (RowC none 0 KVersion.cells tr ([] : List KVersion))).a) (bA (f := KTxL.cells) (ok := KTxL.ok) (l := ([p_0] : List KTxL)) g_3 0 ((ec (gi 2) e0).a))) fun _ _ h => ⟨h.1, h.2⟩, trivial⟩ (ra [] f0 [(2, B v_4)] (tN (fun _ _ S k e => ⟨v_4, S, k.wk, e.sel [], oi hG⟩))))))))))
  ·exact rg (rn 4 [(1, 1, 0, 1)] f0 [(6, B (decide (p_0.Ts > 0)))] (sb 6 (bf h_2) (ra [] f0 [(2, B false)] (tN (fun _ _ S k e => ⟨false, S, k.wk, e.sel [], oi hG⟩)))))
 ·rintro a w ⟨v_6, hJ⟩; refine hJ.go fun ho_ => ?_
  clear hJ; subst ho_; replace hG := hG_5; refine kR ?_; obtain rfl := oi hG; exact rt []
def G_regulatorref37_Append (F : Nat) (p_0 : List Int) (p_1 : KTx) : Option ((List Int) × Int) :=
  Option.bind (G_regulatorref37_Load F p_0) (un3 fun v_2 v_3 v_4 =>
  ifB ((v_4 == 0))
    (Option.bind (G_regulatorref34_Tx F p_1) (fun v_6 =>
    Option.bind (ifB (v_6)
        (some (p_1.Ts == 0))
        (some true) : Option (Bool)) (fun (v_9 : Bool) => 
      ifB (v_9)
        (some (([] : List Int), 1))
        (ifB ((v_3 == ((p_0.length : Nat) : Int)))
          (Option.bind (ifB (decide (((v_2.length : Nat) : Int) > 0))
              (Option.bind (ixI v_2 (IntKind.i64.wrap (((v_2.length : Nat) : Int) - 1))) (fun v_13 =>
              some (decide (v_13.Ts ≥ p_1.Ts))))
              (some false) : Option (Bool)) (fun (v_17 : Bool) => 
            ifB (v_17)
              (some (([] : List Int), 30))
              (Option.bind (G_regulatorref37_Record F p_1) (fun v_19 =>
              ifB (decide ((IntKind.i64.wrap (((p_0.length : Nat) : Int) + ((v_19.length : Nat) : Int))) > 100000))
                (some (([] : List Int), 2))
                (Option.bind (apG 1 ([] : List Int) p_0) (fun v_22 =>
                Option.bind (apG 1 v_22 v_19) (fun v_23 =>
                some (v_23, 0))))))))
          (some (([] : List Int), 6))))))
    (some (([] : List Int), v_4)))
set_option maxRecDepth 100000 in
set_option maxHeartbeats 16000000 in
theorem z_regulatorref37_Append (F : Nat) (p_0_A : Option Addr) (p_0_c : Nat) (p_0 : List Int) (p_1 : KTxL) (r : (List Int) × Int) (hG : G_regulatorref37_Append F p_0 p_1.p = some r) :
  Cg Try.prog 12 [.slice p_0_A p_0.length p_0_c, .agg #[I p_1.ID, I p_1.Ts, .slice p_1.Reads_A p_1.Reads.length p_1.Reads_c, .slice p_1.Writes_A p_1.Writes.length p_1.Writes_c]] [RowC p_0_A p_0_c c_u8 tr p_0, KTxL.ok p_1] (fun q : KSuint8L => r.1 = q.l) (fun q => .tuple #[.slice q.A q.l.length q.c, I r.2]) (fun q => [RowC q.A q.c c_u8 tr q.l]) := by
 unfold G_regulatorref37_Append at hG
 try simp only [List.length_map, KLeaderL.n_Open] at hG
 refine fing Try.func12 rfl rfl (mr tr_mv (mc KTxL.mv m0)) fun S0 w0 hT => sq (rg (l1 (nw 3 vp [I p_1.ID, I p_1.Ts, .slice p_1.Reads_A p_1.Reads.length p_1.Reads_c, .slice p_1.Writes_A p_1.Writes.length p_1.Writes_c] 26 fun g_1 => ra [] f0 [] (tN (sq ?_)))))
 obtain ⟨v_2o, v_3, v_4, hy_2, hG⟩ := b3 hG; refine rg (rn 1 [] f0 [(12, .slice p_0_A p_0.length p_0_c)] (l1 (cn 13 (z_regulatorref37_Load F p_0_A p_0_c p_0 _ hy_2) hT (fun _ => (mr KTxL.mv m0)) ⟨gi 1, trivial⟩ ?_))); rintro ⟨v_2_A, v_2_c, v_2⟩ hq_2; obtain rfl : (v_2.map KTxL.p) = v_2o := hq_2.symm
 try simp only [List.length_map, KLeaderL.n_Open] at hG
 refine ra [] f0 (ns 6 [.slice v_2_A v_2.length v_2_c, I v_3, I v_4]) (tN (sq (sq (rg (ra [] f0 [(18, B (!(v_4 == 0)))] (tN ?_)))))); rcases ic hG with ⟨h_5, hG⟩ | ⟨h_5, hG⟩
 ·refine sb 18 (nt h_5) (cf (kS (tN (sq ?_)))); obtain ⟨v_6, hy_6, hG⟩ := bs hG; refine rg (rn 1 [(0, 4, 1, 0)] f0 [(20, .agg #[I p_1.ID, I p_1.Ts, .slice p_1.Reads_A p_1.Reads.length p_1.Reads_c, .slice p_1.Writes_A p_1.Writes.length p_1.Writes_c])] (l1 (cl 21 (z_regulatorref34_Tx F p_1 _ hy_6) hT ⟨(gi 3).a, trivial⟩ (ra [] f0 [(9, B v_6)] (tN (sq ?_)))))); obtain ⟨o_8, hG, hG_8⟩ := bs hG; refine jn (fun K E a w => ∃ v_9 : Bool, Js S0 w0 61 ([(28, B v_9)] ++ K) ([.dat (RowC p_1.Reads_A p_1.Reads_c KSeen.cells tr p_1.Reads), .dat (RowC p_1.Writes_A p_1.Writes_c KWrite.cells tr p_1.Writes)] ++ se E [0, 1, 2]) (v_9 = o_8) a w) ?_ ?_
  ·rcases ic hG with ⟨h_7, hG⟩ | ⟨h_7, hG⟩
   ·exact rg (rn 3 [] f0 [(24, B (!v_6))] (sb 24 (nt h_7) (ra [(1, 1, 1, 1)] f0 [(28, B (p_1.Ts == 0))] (tN (fg (KTxL.ok p_1) 3 (fun _ _ h => h.f_Reads) (fg (KTxL.ok p_1) 4 (fun _ _ h => h.f_Writes) (fun _ _ S k e => ⟨(p_1.Ts == 0), S, k.wk, e.sel [1, 0, 2, 3, 4], oi hG⟩)))))))
   ·exact rg (rn 3 [] f0 [(24, B (!v_6))] (sb 24 (nf h_7) (ra [] f0 [(28, B true)] (tN (fg (KTxL.ok p_1) 3 (fun _ _ h => h.f_Reads) (fg (KTxL.ok p_1) 4 (fun _ _ h => h.f_Writes) (fun _ _ S k e => ⟨true, S, k.wk, e.sel [1, 0, 2, 3, 4], oi hG⟩)))))))
  ·rintro a w ⟨v_9, hJ⟩; refine hJ.go fun ho_ => ?_
   clear hJ; subst ho_; replace hG := hG_8; rcases ic hG with ⟨h_10, hG⟩ | ⟨h_10, hG⟩
   ·refine sb 28 (bt h_10) (ct (sq (rg (ra [] f0 [(4, .slice none 0 0), (5, I 1)] (tN (kR (tR ?_))))))); obtain rfl := oi hG; exact rtg [] ⟨none, 0, ([] : List Int)⟩ rfl ⟨frN, trivial⟩
   ·refine sb 28 (bf h_10) (cf (kS (tN (sq (sq (rg (ra [] f0 [(32, B (!(v_3 == ((p_0.length : Nat) : Int))))] (tN ?_)))))))); rcases ic hG with ⟨h_11, hG⟩ | ⟨h_11, hG⟩
    ·try simp only [List.length_map, KLeaderL.n_Open] at h_11
     refine sb 32 (nt h_11) (cf (kS (tN (sq ?_)))); obtain ⟨o_16, hG, hG_16⟩ := bs hG; refine jn (fun K E a w => ∃ v_17 : Bool, Js S0 w0 61 ([(47, B v_17)] ++ K) (se E [0, 1, 3, 4]) (v_17 = o_16) a w) ?_ ?_
     ·rcases ic hG with ⟨h_12, hG⟩ | ⟨h_12, hG⟩
      ·obtain ⟨v_13o, hy_13, hG⟩ := bs hG; refine qb (qn 4 [] f0 [(36, B (decide (((v_2.length : Nat) : Int) > 0)))] ?_)
       try simp only [List.length_map, KLeaderL.n_Open] at h_12
       refine sb 36 (bt h_12) (fxn (p := KTxL.p) inf30 (gd' (RowC v_2_A v_2_c KTxL.cells KTxL.ok v_2) 2) hy_13 fun v_13 b_14 o_15 he_13 hi_13 => ?_); subst he_13
       try simp only [List.length_map, KLeaderL.n_Open] at hG
       exact qa [(4, 0, 0, 0), (1, 1, 0, 1), (1, 1, 5, 1)] (fc (hi_13 .i64) f0) [(47, B (decide (v_13.Ts ≥ p_1.Ts)))] (tN (fun _ _ S k e => ⟨decide (v_13.Ts ≥ p_1.Ts), S, k.wk, e.sel [2, 3, 5, 6], oi hG⟩))
      ·refine qb (qn 4 [] f0 [(36, B (decide (((v_2.length : Nat) : Int) > 0)))] ?_)
       try simp only [List.length_map, KLeaderL.n_Open] at h_12
       exact sb 36 (bf h_12) (qa [] f0 [(47, B false)] (tN (fun _ _ S k e => ⟨false, S, k.wk, e.sel [0, 1, 3, 4], oi hG⟩)))
     ·rintro a w ⟨v_17, hJ⟩; refine hJ.go fun ho_ => ?_
      clear hJ; subst ho_; replace hG := hG_16; rcases ic hG with ⟨h_18, hG⟩ | ⟨h_18, hG⟩
      ·refine sb 47 (bt h_18) (ct (sq (rg (ra [] f0 [(4, .slice none 0 0), (5, I 30)] (tN (kR (tR ?_))))))); obtain rfl := oi hG; exact rtg [] ⟨none, 0, ([] : List Int)⟩ rfl ⟨frN, trivial⟩
      ·refine sb 47 (bf h_18) (cf (kS (tN (sq ?_)))); obtain ⟨v_19o, hy_19, hG⟩ := bs hG; refine rg (rn 1 [(0, 4, 2, 0)] f0 [(48, .agg #[I p_1.ID, I p_1.Ts, .slice p_1.Reads_A p_1.Reads.length p_1.Reads_c, .slice p_1.Writes_A p_1.Writes.length p_1.Writes_c])] (l1 (cgn 49 (z_regulatorref37_Record F p_1 _ hy_19) hT (fun _ => (mr tr_mv m0)) ⟨((Fd.two ((gd' (RowC p_1.Reads_A p_1.Reads_c KSeen.cells tr p_1.Reads) 0)) ((gd' (RowC p_1.Writes_A p_1.Writes_c KWrite.cells tr p_1.Writes) 1))).m fun _ _ h => ⟨h.1, h.2⟩).a, trivial⟩ ?_))); rintro ⟨v_19_A, v_19_c, v_19⟩ hq_19; obtain rfl : v_19 = v_19o := hq_19.symm
       try simp only [List.length_map, KLeaderL.n_Open] at hG
       refine ra [] f0 [(10, .slice v_19_A v_19.length v_19_c)] (tN (sq (sq (rg (ra [] f0 [(55, B (decide ((IntKind.i64.wrap (((p_0.length : Nat) : Int) + ((v_19.length : Nat) : Int))) > 100000)))] (tN ?_)))))); rcases ic hG with ⟨h_20, hG⟩ | ⟨h_20, hG⟩
       ·try simp only [List.length_map, KLeaderL.n_Open] at h_20
        refine sb 55 (bt h_20) (ct (sq (rg (ra [] f0 [(4, .slice none 0 0), (5, I 2)] (tN (kR (tR ?_))))))); obtain rfl := oi hG; exact rtg [] ⟨none, 0, ([] : List Int)⟩ rfl ⟨frN, trivial⟩
       ·try simp only [List.length_map, KLeaderL.n_Open] at h_20
        refine sb 55 (bf h_20) (cf (kS (tN (sq ?_)))); obtain ⟨v_22, hy_22, hG⟩ := bs hG; obtain ⟨v_23, hy_23, hG⟩ := bs hG; refine rg (l1 (nw 56 (vs 0) [] 5 fun g_21 => rn 1 [] f0 [(57, .slice p_0_A p_0.length p_0_c)] (bo 0 1 0 g_21 5 [] (l1 (ap 0 58 (some ⟨g_21, 0, none⟩) 0 ([] : List Int) p_0 inf22 ((gd' (RowC p_0_A p_0_c c_u8 tr p_0) 6).a) hy_22 one_u8 fun v_22_A v_22_c _ => rn 1 [] f0 [(59, .slice v_19_A v_19.length v_19_c)] (l1 (ap 0 60 v_22_A v_22_c v_22 v_19 inf22 ((gd' (RowC v_19_A v_19_c c_u8 tr v_19) 2).a) hy_23 one_u8 fun v_23_A v_23_c _ => ra [] f0 [(4, .slice v_23_A v_23.length v_23_c), (5, I 0)] (tN (kR ?_))))))))); obtain rfl := oi hG; exact rtg [] ⟨v_23_A, v_23_c, v_23⟩ rfl ⟨frO 0, trivial⟩
    ·try simp only [List.length_map, KLeaderL.n_Open] at h_11
     refine sb 32 (nf h_11) (ct (sq (rg (ra [] f0 [(4, .slice none 0 0), (5, I 6)] (tN (kR (tR ?_))))))); obtain rfl := oi hG; exact rtg [] ⟨none, 0, ([] : List Int)⟩ rfl ⟨frN, trivial⟩
 ·refine sb 18 (nf h_5) (ct (sq (rg (ra [] f0 [(4, .slice none 0 0), (5, I v_4)] (tN (kR (tR ?_))))))); obtain rfl := oi hG; exact rtg [] ⟨none, 0, ([] : List Int)⟩ rfl ⟨frN, trivial⟩
def G_regulatorref37_Recover (F : Nat) (p_0 : List Int) : Option (KLeader × Int × Int) :=
  Option.bind (G_regulatorref37_Load F p_0) (un3 fun v_2 v_3 v_4 =>
  ifB ((v_4 == 0))
    (Option.bind (Option.bind (iter (σ := Int × (List KVersion) × Int) (ρ := (Int × (List KVersion)) ⊕ Unit) (un3 fun (v_36 : Int) (v_37 : (List KVersion)) (v_40 : Int) => 
          (ifB (decide (v_40 < ((v_2.length : Nat) : Int)))
            (Option.bind (ixI v_2 v_40) (fun v_43 =>
            ifB (decide ((IntKind.i64.wrap (((v_37.length : Nat) : Int) + ((v_43.Writes.length : Nat) : Int))) > 4000))
              (some (.inr (.inr ())))
              (Option.bind (ixI v_2 v_40) (fun v_47 =>
              Option.bind (G_regulatorref34_With F v_37 v_47) (fun v_50 =>
              Option.bind (ixI v_2 v_40) (fun v_51 =>
              some (.inl (v_51.Ts, v_50, IntKind.i64.wrap (v_40 + 1)))))))))
            (some (.inr (.inl (v_36, v_37)))) : Option ((Int × (List KVersion) × Int) ⊕ ((Int × (List KVersion)) ⊕ Unit)))) F (0, ([] : List KVersion), 0)) (Sum.elim (un2 fun (v_54 : Int) (v_55 : (List KVersion)) => 
        some (.inl (v_54, v_55))) (fun (_ : Unit) => 
        some (.inr ()))) : Option ((Int × (List KVersion)) ⊕ Unit)) (Sum.elim (un2 fun (v_59 : Int) (v_60 : (List KVersion)) => 
      some ((⟨v_59, v_60, ([] : List KTx)⟩ : KLeader), v_3, 0)) (fun (_ : Unit) => 
      some ((⟨0, ([] : List KVersion), ([] : List KTx)⟩ : KLeader), 0, 2))))
    (some ((⟨0, ([] : List KVersion), ([] : List KTx)⟩ : KLeader), 0, v_4)))
set_option maxRecDepth 100000 in
set_option maxHeartbeats 16000000 in
theorem z_regulatorref37_Recover (F : Nat) (p_0_A : Option Addr) (p_0_c : Nat) (p_0 : List Int) (r : KLeader × Int × Int) (hG : G_regulatorref37_Recover F p_0 = some r) :
  Cn Try.prog 18 [.slice p_0_A p_0.length p_0_c] [RowC p_0_A p_0_c c_u8 tr p_0] (fun q : KLeaderL => r.1 = q.p) (fun q => .tuple #[.agg #[I q.Last, .slice q.Store_A q.Store.length q.Store_c, .slice q.Open_A q.Open.length q.Open_c], I r.2.1, I r.2.2]) (fun q => [KLeaderL.ok q]) := by
 unfold G_regulatorref37_Recover at hG
 try simp only [List.length_map, KLeaderL.n_Open] at hG
 refine fin Try.func18 rfl rfl (mr tr_mv m0) fun S0 w0 hT => sq (rg (l1 (nw 2 vp [I 0, .slice none 0 0, .slice none 0 0] 40 fun g_1 => ra [] f0 [] (tN (sq ?_)))))
 obtain ⟨v_2o, v_3, v_4, hy_2, hG⟩ := b3 hG; refine rg (rn 1 [] f0 [(11, .slice p_0_A p_0.length p_0_c)] (l1 (cn 12 (z_regulatorref37_Load F p_0_A p_0_c p_0 _ hy_2) hT (fun _ => (mr KTxL.mv m0)) ⟨gi 1, trivial⟩ ?_))); rintro ⟨v_2_A, v_2_c, v_2⟩ hq_2; obtain rfl : (v_2.map KTxL.p) = v_2o := hq_2.symm
 try simp only [List.length_map, KLeaderL.n_Open] at hG
 refine ra [] f0 (ns 5 [.slice v_2_A v_2.length v_2_c, I v_3, I v_4]) (tN (sq (sq (rg (ra [] f0 [(17, B (!(v_4 == 0)))] (tN ?_)))))); rcases ic hG with ⟨h_5, hG⟩ | ⟨h_5, hG⟩
 ·refine sb 17 (nt h_5) (cf (kS (tN (sq (rg (l1 (nw 8 vp [I 0, .slice none 0 0, .slice none 0 0] 40 fun g_6 => nl (tN ?_)))))))); obtain ⟨o_58, hG, hG_58⟩ := bs hG; refine jn (fun K E a w => ∃ (v_59 : Int) (v_60 : List KVersion) (v_61_A : Option Addr) (v_62_c : Nat), Js S0 w0 54 (K) ([.blk g_6 40 [I v_59, .slice v_61_A v_60.length v_62_c, .slice none 0 0], .dat (RowC v_61_A v_62_c KVersion.cells tr v_60)] ++ se E [2]) (.inl (v_59, v_60) = o_58) a w) ?_ ?_
  ·refine sq (rg (ra [] f0 [(9, I 0)] (tN (bk ?_)))); obtain ⟨e_41, hL, hG_41⟩ := bs hG; clear hG; obtain ⟨stp_41, hs_41, hL⟩ := iter_gen hL; refine lp (fun K E n_ a w => ∃ (v_36 : Int) (v_37 : List KVersion) (v_38_A : Option Addr) (v_39_c : Nat) (v_40 : Int), Js S0 w0 54 ([(9, I v_40)] ++ K) ([.blk g_6 40 [I v_36, .slice v_38_A v_37.length v_39_c, .slice none 0 0], .dat (RowC v_38_A v_39_c KVersion.cells tr v_37)] ++ se E [1, 2]) (iter stp_41 n_ (v_36, v_37, v_40) = some e_41) a w) F ?_ ?_
   ·exact fm (RowC none 0 KVersion.cells tr ([] : List KVersion)) gn (fun _ _ S k e => ⟨0, ([] : List KVersion), none, 0, 0, S, k.wk, e.sel [1, 0, 2, 3], hL⟩)
   ·clear hL; rintro n_41 a w ⟨v_36, v_37, v_38_A, v_39_c, v_40, hJ⟩; refine hJ.go fun hL => ?_
    clear hJ; obtain ⟨m_41, o_41, rfl, hG, hO1_41, hO2_41⟩ := iter_step hL; clear hL; rw [hs_41] at hG; refine sq (sq (rg (ra [] f0 [(23, B (decide (v_40 < ((v_2.length : Nat) : Int))))] (tN ?_)))); rcases ic hG with ⟨h_42, hG⟩ | ⟨h_42, hG⟩
    ·try simp only [List.length_map, KLeaderL.n_Open] at h_42
     refine sb 23 (bt h_42) (ct (kS (tN (sq (bk (sq (sq ?_))))))); obtain ⟨v_43o, hy_43, hG⟩ := bs hG; refine qb (fxn (p := KTxL.p) inf30 (gd' (RowC v_2_A v_2_c KTxL.cells KTxL.ok v_2) 2) hy_43 fun v_43 b_44 o_45 he_43 hi_43 => ?_); subst he_43
     try simp only [List.length_map, KLeaderL.n_Open] at hG
     refine qa [(1, 1, 2, 1), (3, 0, 0, 0), (1, 1, 0, 3)] (fc (hi_43 .i64) f0) [(36, B (decide ((IntKind.i64.wrap (((v_37.length : Nat) : Int) + ((v_43.Writes.length : Nat) : Int))) > 4000)))] (tN ?_); rcases ic hG with ⟨h_46, hG⟩ | ⟨h_46, hG⟩
     ·try simp only [List.length_map, KLeaderL.n_Open] at h_46
      refine sb 36 (bt h_46) (ct (sq (rg (rn 1 [] f0 [(37, .agg #[I 0, .slice none 0 0, .slice none 0 0])] (l1 (sr 5 g_1 (ns 0 [I 0, .slice none 0 0, .slice none 0 0]) (ra [] f0 [(3, I 0), (4, I 2)] (tN (kR (tR (hR (tR (tR ?_))))))))))))); have he_ := hO2_41 _ (oi hG).symm; subst he_; replace hG := hG_41; refine hR (tR ?_); obtain rfl := oi hG; replace hG := hG_58; obtain rfl := oi hG; exact rtn [(5, 0, 3)] (⟨0, none, 0, ([] : List KVersion), none, 0, ([] : List KTxL)⟩ : KLeaderL) rfl ⟨((Fd.two ((gn : Fd _ (RowC none 0 KVersion.cells tr ([] : List KVersion)))) ((gn : Fd _ (RowC none 0 KTxL.cells KTxL.ok ([] : List KTxL))))).m fun _ _ h => ⟨h.1, h.2⟩), trivial⟩
     ·try simp only [List.length_map, KLeaderL.n_Open] at h_46
      refine sb 36 (bf h_46) (cf (kS (tN (sq ?_)))); obtain ⟨v_47o, hy_47, hG⟩ := bs hG; replace hG := bs hG; obtain ⟨v_50o, hy_50, hG⟩ := hG; refine fxn (p := KTxL.p) inf30 (gd' (RowC v_2_A v_2_c KTxL.cells KTxL.ok v_2) 4) hy_47 fun v_47 b_48 o_49 he_47 hi_47 => ?_
      subst he_47
      try simp only [List.length_map, KLeaderL.n_Open] at hG
      refine hb [0, 1, 2, 3, 5, 6, 7] (ht [0, 1, 2, 3, 5, 6, 7] [0, 2, 3, 4, 5] [(3, 0, 0, 0), (0, 4, 0, 0)] (fc (hi_47 .i64) f0) [(38, Pt g_6 1), (43, .agg #[I v_47.ID, I v_47.Ts, .slice v_47.Reads_A v_47.Reads.length v_47.Reads_c, .slice v_47.Writes_A v_47.Writes.length v_47.Writes_c])] (ho [1] ⟨h1 (po 39 (.slice v_38_A v_37.length v_39_c) [(0, 1, 4, 1)] f0 (hk [0, 1, 2, 3, 5, 6, 7] (ho [6] ⟨h1 (cn 44 (z_regulatorref34_With F v_38_A v_39_c v_37 v_47 _ hy_50) hT (fun _ => (mr tr_mv m0)) ⟨gi 5, (gi 1), trivial⟩ ?_), trivial⟩))), trivial⟩)); rintro ⟨v_50_A, v_50_c, v_50⟩ hq_50; obtain rfl : v_50 = v_50o := hq_50.symm
      try simp only [List.length_map, KLeaderL.n_Open] at hG
      refine hk [1, 2, 3, 4, 6, 7, 8] (ht [1, 2, 3, 4, 6, 7, 8] [7] [] f0 [(45, Pt g_6 1)] (ho [8] ⟨h1 (sr 5 g_6 [(1, .slice v_50_A v_50.length v_50_c)] (hk [1, 2, 3, 4, 6, 7, 8] (he (tN ?_)))), trivial⟩)); obtain ⟨v_51o, hy_51, hG⟩ := bs hG; refine rg (fxn (p := KTxL.p) inf30 (gd' (RowC v_2_A v_2_c KTxL.cells KTxL.ok v_2) 7) hy_51 fun v_51 b_52 o_53 he_51 hi_51 => ?_); subst he_51
      try simp only [List.length_map, KLeaderL.n_Open] at hG
      exact rn 6 [(2, 0, 0, 0), (1, 1, 0, 1)] (fc (hi_51 .i64) f0) [(50, I v_51.Ts), (51, Pt g_6 0)] (l1 (sr 7 g_6 [(0, I v_51.Ts)] (nl (hN (tN (rg (ra [] f0 [(9, I (IntKind.i64.wrap (v_40 + 1)))] (tN (fun a w S hK hE => ⟨m_41, ⟨v_51.Ts, v_50, v_50_A, v_50_c, IntKind.i64.wrap (v_40 + 1), S, hK.wk, hE.sel [7, 2, 9, 10], hO1_41 _ (oi hG).symm⟩, Nat.lt_succ_self _⟩)))))))))
    ·try simp only [List.length_map, KLeaderL.n_Open] at h_42
     refine sb 23 (bf h_42) (cf (kX (tX (tX ?_)))); have he_ := hO2_41 _ (oi hG).symm; subst he_; replace hG := hG_41; exact hH (tN (fun _ _ S k e => ⟨v_36, v_37, v_38_A, v_39_c, S, k.wk, e.sel [0, 1, 3], oi hG⟩))
  ·rintro a w ⟨v_59, v_60, v_61_A, v_62_c, hJ⟩; refine hJ.go fun ho_ => ?_
   clear hJ; subst ho_; replace hG := el hG_58; refine sq (rg (rn 2 [(0, 3, 0, 0)] f0 [(52, .agg #[I v_59, .slice v_61_A v_60.length v_62_c, .slice none 0 0]), (53, I v_3)] (l1 (sr 2 g_1 (ns 0 [I v_59, .slice v_61_A v_60.length v_62_c, .slice none 0 0]) (ra [] f0 [(3, I v_3), (4, I 0)] (tN (kR ?_))))))); obtain rfl := oi hG; exact rtn [(2, 0, 3)] (⟨v_59, v_61_A, v_62_c, v_60, none, 0, ([] : List KTxL)⟩ : KLeaderL) rfl ⟨((Fd.two ((gd' (RowC v_61_A v_62_c KVersion.cells tr v_60) 1)) ((gn : Fd _ (RowC none 0 KTxL.cells KTxL.ok ([] : List KTxL))))).m fun _ _ h => ⟨h.1, h.2⟩), trivial⟩
 ·refine sb 17 (nf h_5) (ct (sq (rg (rn 2 [] f0 [(18, .agg #[I 0, .slice none 0 0, .slice none 0 0]), (19, I v_4)] (l1 (sr 1 g_1 (ns 0 [I 0, .slice none 0 0, .slice none 0 0]) (ra [] f0 [(3, I 0), (4, I v_4)] (tN (kR (tR ?_)))))))))); obtain rfl := oi hG; exact rtn [(1, 0, 3)] (⟨0, none, 0, ([] : List KVersion), none, 0, ([] : List KTxL)⟩ : KLeaderL) rfl ⟨((Fd.two ((gn : Fd _ (RowC none 0 KVersion.cells tr ([] : List KVersion)))) ((gn : Fd _ (RowC none 0 KTxL.cells KTxL.ok ([] : List KTxL))))).m fun _ _ h => ⟨h.1, h.2⟩), trivial⟩
end Go.Proofs.Ytlfkgbideknkhaa
namespace Go.Proofs.Ytlfkgbideknkhaa
open Go.RowKit Go.Maps
end Go.Proofs.Ytlfkgbideknkhaa
namespace Go.Proofs.Ytlfkgbideknkhaa
open Go.RowKit Go.Maps
end Go.Proofs.Ytlfkgbideknkhaa
