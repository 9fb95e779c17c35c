/-
  Texts joined: Z23, Z24, Za, Ma, OpA, OpR, OpZ, Mb, Mc, Lw24, Md, Me, Mf, Na, Nb, Nc, Ne, Lp, Lq, Pa27, Pb27, Pc27.
-/
import Derived.Test.YtggaodokkcoagaaGreatDoorProg
import Derived.Test.YtggaodokkcoagaaGreatDoorRows
import Derived.ProofKit
import Derived.OpenShut
import Derived.Carry
import Derived.ChangeSame
import Derived.Deep.Slices
import Derived.Lib.SmallJoins
import Derived.KernelRfl
import Derived.Test.YtggaodokkcoagaaGreatDoorL60
import Derived.Test.YtggaodokkcoagaaGreatDoorL61
import Derived.Test.YtggaodokkcoagaaGreatDoorL62
import Derived.Test.YtggaodokkcoagaaGreatDoorL63
import Derived.Test.YtggaodokkcoagaaGreatDoorL64
import Derived.Test.YtggaodokkcoagaaGreatDoorL65
set_option linter.unusedSimpArgs false
set_option linter.unusedVariables false
set_option maxRecDepth 100000
set_option maxHeartbeats 16000000
namespace Go.Proofs.YtggaodokkcoagaaGreatDoor
open Go.RowKit Go.Maps
def Gaw (F : Nat) (p_0 : List Kp) (p_1 : Int) (p_2 : Int) (p_3 : Int) : Option (Bool) :=
  Option.bind (Gx F ) (fun v_1 =>
  ifB (decide ((p_0.length : Int) > 24))
    (some v_1)
    (Option.bind (Gap F p_0 p_1) (fun v_3 =>
    Option.bind (Gaq F v_3 p_2 p_3) (un5 fun v_5 v_6 v_7 v_8 v_9 =>
    Option.bind (ifB (v_3.ok_)
        (some (!v_9))
        (some true) : Option (Bool)) (fun (v_12 : Bool) => 
      ifB (v_12)
        (Option.bind (ifB (v_1)
            (some v_3.ok_)
            (some false) : Option (Bool)) (fun (v_16 : Bool) => 
          some v_16))
        (Option.bind (Option.bind (iter (σ := Int) (ρ := Unit ⊕ Unit) (fun (v_102 : Int) => 
              (ifB (decide (v_102 < (v_3.heads.length : Int)))
                (Option.bind (ixI v_3.heads v_102) (fun v_105 =>
                Option.bind (Gq F v_105) (fun v_109 =>
                Option.bind (Option.bind (slI v_3.heads 0 v_102) (fun v_110 =>
                  Option.bind (iter (σ := Int) (ρ := Unit ⊕ Unit) (fun (v_132 : Int) => 
                      (ifB (decide (v_132 < (v_110.length : Int)))
                        (Option.bind (ixI v_110 v_132) (fun v_135 =>
                        Option.bind (ifB (decide (v_135 = v_105))
                            (some false)
                            (Option.bind (Gq F v_135) (fun v_140 =>
                            some (v_140 == v_109))) : Option (Bool)) (fun (v_142 : Bool) => 
                          ifB (v_142)
                            (some (.inr (.inr ())))
                            (some (.inl (IntKind.i64.wrap (v_132 + 1)))))))
                        (some (.inr (.inl ()))) : Option (Int ⊕ (Unit ⊕ Unit)))) F 0) (Sum.elim (fun (_ : Unit) => 
                    some (.inl ())) (fun (_ : Unit) => 
                    some (.inr ())))) : Option (Unit ⊕ Unit)) (Sum.elim (fun (_ : Unit) => 
                  ifB (decide (v_109 < 4294967296))
                    (some (.inr (.inr ())))
                    (some (.inl (IntKind.i64.wrap (v_102 + 1))))) (fun (_ : Unit) => 
                  some (.inr (.inr ())))))))
                (some (.inr (.inl ()))) : Option (Int ⊕ (Unit ⊕ Unit)))) F 0) (Sum.elim (fun (_ : Unit) => 
            some (.inl ())) (fun (_ : Unit) => 
            some (.inr ()))) : Option (Unit ⊕ Unit)) (Sum.elim (fun (_ : Unit) => 
          Option.bind (Gc F v_3.l v_3.heads (IntKind.i64.wrap (v_5 + 1)) v_6 (IntKind.i64.wrap (v_7 + 1)) v_8) (un3 fun v_147 v_148 v_149 =>
          Option.bind (Gc F v_3.l v_3.heads (IntKind.i64.wrap (v_7 + 1)) v_8 (IntKind.i64.wrap (v_5 + 1)) v_6) (un3 fun v_151 v_152 v_153 =>
          Option.bind (ifB ((v_149 == 0))
              (ifB ((v_153 == 0))
                (ifB (v_148)
                  (some v_152)
                  (some false))
                (some true))
              (some true) : Option (Bool)) (fun (v_159 : Bool) => 
            ifB (v_159)
              (some false)
              (Option.bind (ifB (v_1)
                  (ifB (v_148)
                    (ifB ((v_5 == 0))
                      (Option.bind (ixI v_3.when.f0 v_6) (fun v_164 =>
                      ifB ((v_7 == 0))
                        (Option.bind (ixI v_3.when.f0 v_8) (fun v_168 =>
                        ifB (decide (v_164 < v_168))
                          (ifB (v_152)
                            (Option.bind (ixI v_3.when.f0 v_8) (fun v_173 =>
                            Option.bind (ixI v_3.when.f0 v_6) (fun v_176 =>
                            some (decide (v_173 < v_176)))))
                            (some true))
                          (some false)))
                        (ifB ((v_7 == 1))
                          (Option.bind (ixI v_3.when.f1 v_8) (fun v_180 =>
                          ifB (decide (v_164 < v_180))
                            (ifB (v_152)
                              (Option.bind (ixI v_3.when.f1 v_8) (fun v_185 =>
                              Option.bind (ixI v_3.when.f0 v_6) (fun v_188 =>
                              some (decide (v_185 < v_188)))))
                              (some true))
                            (some false)))
                          (ifB ((v_7 == 2))
                            (Option.bind (ixI v_3.when.f2 v_8) (fun v_192 =>
                            ifB (decide (v_164 < v_192))
                              (ifB (v_152)
                                (Option.bind (ixI v_3.when.f2 v_8) (fun v_197 =>
                                Option.bind (ixI v_3.when.f0 v_6) (fun v_200 =>
                                some (decide (v_197 < v_200)))))
                                (some true))
                              (some false)))
                            (none)))))
                      (ifB ((v_5 == 1))
                        (Option.bind (ixI v_3.when.f1 v_6) (fun v_204 =>
                        ifB ((v_7 == 0))
                          (Option.bind (ixI v_3.when.f0 v_8) (fun v_208 =>
                          ifB (decide (v_204 < v_208))
                            (ifB (v_152)
                              (Option.bind (ixI v_3.when.f0 v_8) (fun v_213 =>
                              Option.bind (ixI v_3.when.f1 v_6) (fun v_216 =>
                              some (decide (v_213 < v_216)))))
                              (some true))
                            (some false)))
                          (ifB ((v_7 == 1))
                            (Option.bind (ixI v_3.when.f1 v_8) (fun v_220 =>
                            ifB (decide (v_204 < v_220))
                              (ifB (v_152)
                                (Option.bind (ixI v_3.when.f1 v_8) (fun v_225 =>
                                Option.bind (ixI v_3.when.f1 v_6) (fun v_228 =>
                                some (decide (v_225 < v_228)))))
                                (some true))
                              (some false)))
                            (ifB ((v_7 == 2))
                              (Option.bind (ixI v_3.when.f2 v_8) (fun v_232 =>
                              ifB (decide (v_204 < v_232))
                                (ifB (v_152)
                                  (Option.bind (ixI v_3.when.f2 v_8) (fun v_237 =>
                                  Option.bind (ixI v_3.when.f1 v_6) (fun v_240 =>
                                  some (decide (v_237 < v_240)))))
                                  (some true))
                                (some false)))
                              (none)))))
                        (ifB ((v_5 == 2))
                          (Option.bind (ixI v_3.when.f2 v_6) (fun v_244 =>
                          ifB ((v_7 == 0))
                            (Option.bind (ixI v_3.when.f0 v_8) (fun v_248 =>
                            ifB (decide (v_244 < v_248))
                              (ifB (v_152)
                                (Option.bind (ixI v_3.when.f0 v_8) (fun v_253 =>
                                Option.bind (ixI v_3.when.f2 v_6) (fun v_256 =>
                                some (decide (v_253 < v_256)))))
                                (some true))
                              (some false)))
                            (ifB ((v_7 == 1))
                              (Option.bind (ixI v_3.when.f1 v_8) (fun v_260 =>
                              ifB (decide (v_244 < v_260))
                                (ifB (v_152)
                                  (Option.bind (ixI v_3.when.f1 v_8) (fun v_265 =>
                                  Option.bind (ixI v_3.when.f2 v_6) (fun v_268 =>
                                  some (decide (v_265 < v_268)))))
                                  (some true))
                                (some false)))
                              (ifB ((v_7 == 2))
                                (Option.bind (ixI v_3.when.f2 v_8) (fun v_272 =>
                                ifB (decide (v_244 < v_272))
                                  (ifB (v_152)
                                    (Option.bind (ixI v_3.when.f2 v_8) (fun v_277 =>
                                    Option.bind (ixI v_3.when.f2 v_6) (fun v_280 =>
                                    some (decide (v_277 < v_280)))))
                                    (some true))
                                  (some false)))
                                (none)))))
                          (none))))
                    (ifB (v_152)
                      (ifB ((v_7 == 0))
                        (Option.bind (ixI v_3.when.f0 v_8) (fun v_285 =>
                        ifB ((v_5 == 0))
                          (Option.bind (ixI v_3.when.f0 v_6) (fun v_289 =>
                          some (decide (v_285 < v_289))))
                          (ifB ((v_5 == 1))
                            (Option.bind (ixI v_3.when.f1 v_6) (fun v_293 =>
                            some (decide (v_285 < v_293))))
                            (ifB ((v_5 == 2))
                              (Option.bind (ixI v_3.when.f2 v_6) (fun v_297 =>
                              some (decide (v_285 < v_297))))
                              (none)))))
                        (ifB ((v_7 == 1))
                          (Option.bind (ixI v_3.when.f1 v_8) (fun v_301 =>
                          ifB ((v_5 == 0))
                            (Option.bind (ixI v_3.when.f0 v_6) (fun v_305 =>
                            some (decide (v_301 < v_305))))
                            (ifB ((v_5 == 1))
                              (Option.bind (ixI v_3.when.f1 v_6) (fun v_309 =>
                              some (decide (v_301 < v_309))))
                              (ifB ((v_5 == 2))
                                (Option.bind (ixI v_3.when.f2 v_6) (fun v_313 =>
                                some (decide (v_301 < v_313))))
                                (none)))))
                          (ifB ((v_7 == 2))
                            (Option.bind (ixI v_3.when.f2 v_8) (fun v_317 =>
                            ifB ((v_5 == 0))
                              (Option.bind (ixI v_3.when.f0 v_6) (fun v_321 =>
                              some (decide (v_317 < v_321))))
                              (ifB ((v_5 == 1))
                                (Option.bind (ixI v_3.when.f1 v_6) (fun v_325 =>
                                some (decide (v_317 < v_325))))
                                (ifB ((v_5 == 2))
                                  (Option.bind (ixI v_3.when.f2 v_6) (fun v_329 =>
                                  some (decide (v_317 < v_329))))
                                  (none)))))
                            (none))))
                      (some true)))
                  (some false) : Option (Bool)) (fun (v_333 : Bool) => 
                some v_333)))))) (fun (_ : Unit) => 
          some v_1))))))))
theorem zaw (F : Nat) (p_0_A : Option Addr) (p_0_c : Nat) (p_0 : List Kp) (p_1 : Int) (p_2 : Int) (p_3 : Int) (r : Bool) (hG : Gaw F p_0 p_1 p_2 p_3 = some r) :
  Cf Tryz.prog 8 [.slice p_0_A p_0.length p_0_c, U p_1, .int .u16 p_2, .int .u16 p_3] [RowC p_0_A p_0_c Kp.cells tr p_0] (B r) := by
 unfold Gaw at hG
 try simp only [lm_, Kd.n_Hops, Kh.n_l] at hG
 refine fi Tryz.func8 rfl rfl (mr tr_mv m0) fun S0 w0 hT => sq (rg (ra [] f0 [] (tN (sq ?_))))
 obtain ⟨v_1, hy_1, hG⟩ := bs hG; refine rg (l1 (cl 27 (zay F  _ hy_1) hT trivial (ra [] f0 [(9, B v_1)] (tN (sq (sq (rg (ra [] f0 [(30, B (decide ((p_0.length : Int) > 24)))] (tN ?_))))))))); rcases ic hG with ⟨h_2, hG⟩ | ⟨h_2, hG⟩
 ·try simp only [lm_, Kd.n_Hops, Kh.n_l] at h_2
  refine sb 30 (bt h_2) (ct (sq (rg (ra [] f0 [(8, B v_1)] (tN (kR (tR ?_))))))); obtain rfl := oi hG; exact rt []
 ·try simp only [lm_, Kd.n_Hops, Kh.n_l] at h_2
  refine sb 30 (bf h_2) (cf (kS (tN (sq ?_)))); obtain ⟨v_3o, hy_3, hG⟩ := bs hG; refine rg (rn 2 [] f0 [(32, .slice p_0_A p_0.length p_0_c), (33, U p_1)] (l1 (cn 34 (zax F p_0_A p_0_c p_0 p_1 _ hy_3) hT (fun _ => (mc Kh.mv m0)) ⟨gi 0, trivial⟩ ?_))); rintro v_3 hq_3; obtain rfl : v_3.p = v_3o := hq_3.symm
  try simp only [lm_, Kd.n_Hops, Kh.n_l] at hG
  refine l1 (nw 10 vp (Kh.cells Kh.z) 71 fun g_4 => l1 (sr 0 g_4 (ns 0 [.slice v_3.l_A v_3.l.length v_3.l_c, .slice v_3.when.f0_A v_3.when.f0.length v_3.when.f0_c, .slice v_3.when.f1_A v_3.when.f1.length v_3.when.f1_c, .slice v_3.when.f2_A v_3.when.f2.length v_3.when.f2_c, .slice v_3.heads_A v_3.heads.length v_3.heads_c, .slice v_3.pubs_A v_3.pubs.length v_3.pubs_c, B v_3.ok_]) (nl (tN (sq ?_))))); obtain ⟨⟨v_5, v_6, v_7, v_8, v_9⟩, hy_5, hG⟩ := bs hG; refine rg (rn 3 [(0, 7, 0, 0)] f0 (ns 36 [.agg #[.slice v_3.l_A v_3.l.length v_3.l_c, .slice v_3.when.f0_A v_3.when.f0.length v_3.when.f0_c, .slice v_3.when.f1_A v_3.when.f1.length v_3.when.f1_c, .slice v_3.when.f2_A v_3.when.f2.length v_3.when.f2_c, .slice v_3.heads_A v_3.heads.length v_3.heads_c, .slice v_3.pubs_A v_3.pubs.length v_3.pubs_c, B v_3.ok_], .int .u16 p_2, .int .u16 p_3]) (l1 (cl 39 (zaz F v_3 p_2 p_3 _ hy_5) hT ⟨(gi 1).a, trivial⟩ (ra [] f0 (ns 11 [I v_5, I v_6, I v_7, I v_8, B v_9]) (tN (sq ?_)))))); obtain ⟨o_11, hG, hG_11⟩ := bs hG; refine jn (fun K E a w => ∃ v_12 : Bool, Js S0 w0 176 ([(51, B v_12)] ++ K) ([.dat (RowC v_3.l_A v_3.l_c Ka.cells Ka.ok v_3.l), .dat (RowC v_3.when.f0_A v_3.when.f0_c c_i64 tr v_3.when.f0), .dat (RowC v_3.when.f1_A v_3.when.f1_c c_i64 tr v_3.when.f1), .dat (RowC v_3.when.f2_A v_3.when.f2_c c_i64 tr v_3.when.f2), .dat (RowC v_3.heads_A v_3.heads_c Kc.cells tr v_3.heads), .dat (RowC v_3.pubs_A v_3.pubs_c c_i64 tr v_3.pubs)] ++ se E [0]) (v_12 = o_11) a w) ?_ ?_
  ·rcases ic hG with ⟨h_10, hG⟩ | ⟨h_10, hG⟩
   ·exact rg (rn 4 [(1, 1, 0, 6)] f0 [(48, B (!v_3.ok_))] (sb 48 (nt h_10) (ra [] f0 [(51, B (!v_9))] (tN (fg (Kh.ok v_3) 1 (fun _ _ h => h.f_l) (fg (Kh.ok v_3) 2 (fun _ _ h => h.b_when.f_f0) (fg (Kh.ok v_3) 3 (fun _ _ h => h.b_when.f_f1) (fg (Kh.ok v_3) 4 (fun _ _ h => h.b_when.f_f2) (fg (Kh.ok v_3) 5 (fun _ _ h => h.f_heads) (fg (Kh.ok v_3) 6 (fun _ _ h => h.f_pubs) (fun _ _ S k e => ⟨!v_9, S, k.wk, e.sel [5, 4, 3, 2, 1, 0, 6], oi hG⟩)))))))))))
   ·exact rg (rn 4 [(1, 1, 0, 6)] f0 [(48, B (!v_3.ok_))] (sb 48 (nf h_10) (ra [] f0 [(51, B true)] (tN (fg (Kh.ok v_3) 1 (fun _ _ h => h.f_l) (fg (Kh.ok v_3) 2 (fun _ _ h => h.b_when.f_f0) (fg (Kh.ok v_3) 3 (fun _ _ h => h.b_when.f_f1) (fg (Kh.ok v_3) 4 (fun _ _ h => h.b_when.f_f2) (fg (Kh.ok v_3) 5 (fun _ _ h => h.f_heads) (fg (Kh.ok v_3) 6 (fun _ _ h => h.f_pubs) (fun _ _ S k e => ⟨true, S, k.wk, e.sel [5, 4, 3, 2, 1, 0, 6], oi hG⟩)))))))))))
  ·rintro a w ⟨v_12, hJ⟩; refine hJ.go ?_; clear hJ; rintro rfl; replace hG := hG_11; rcases ic hG with ⟨h_13, hG⟩ | ⟨h_13, hG⟩
   ·refine sb 51 (bt h_13) (ct ?_); obtain ⟨o_15, hG, hG_15⟩ := bs hG; refine jn (fun K E a w => ∃ v_16 : Bool, Js S0 w0 176 ([(8, B v_16)] ++ K) (se E []) (v_16 = o_15) a w) ?_ ?_
    ·rcases ic hG with ⟨h_14, hG⟩ | ⟨h_14, hG⟩
     ·exact rg (rn 2 [] f0 [(53, B v_1)] (sb 53 (bt h_14) (ra [(1, 1, 6, 6)] f0 [(8, B v_3.ok_)] (tN (fun _ _ S k e => ⟨v_3.ok_, S, k.wk, e.sel [], oi hG⟩)))))
     ·exact rg (rn 2 [] f0 [(53, B v_1)] (sb 53 (bf h_14) (ra [] f0 [(8, B false)] (tN (fun _ _ S k e => ⟨false, S, k.wk, e.sel [], oi hG⟩)))))
    ·rintro a w ⟨v_16, hJ⟩; refine hJ.go ?_; clear hJ; rintro rfl; replace hG := hG_15; refine kR (tR ?_); obtain rfl := oi hG; exact rt []
   ·refine sb 51 (bf h_13) (cf (kS (tN ?_))); obtain ⟨o_146, hG, hG_146⟩ := bs hG; refine jn (fun K E a w => Js S0 w0 176 (K) (se E [0, 1, 2, 3, 4, 5, 6]) (.inl () = o_146) a w) ?_ ?_
    ·refine sq (rg (ra [(1, 1, 6, 4)] f0 (ns 58 [.slice v_3.heads_A v_3.heads.length v_3.heads_c, I (v_3.heads.length : Int), I 0]) (tN (bk ?_)))); obtain ⟨e_103, hL, hG_103⟩ := bs hG; clear hG; obtain ⟨stp_103, hs_103, hL⟩ := iter_gen hL; refine lp (fun K E n_ a w => ∃ v_102 : Int, Js S0 w0 176 ([(60, I v_102)] ++ K) (se E [0, 1, 2, 3, 4, 5, 6]) (iter stp_103 n_ v_102 = some e_103) a w) F ?_ ?_
     ·exact fun _ _ S k e => ⟨0, S, k.wk, e.sel [0, 1, 2, 3, 4, 5, 6], hL⟩
     ·clear hL; rintro n_103 a w ⟨v_102, hJ⟩; refine hJ.go fun hL => ?_
      clear hJ; obtain ⟨m_103, o_103, rfl, hG, hO1_103, hO2_103⟩ := iter_step hL; clear hL; rw [hs_103] at hG; refine sq (rg (ra [] f0 [(61, B (decide (v_102 < (v_3.heads.length : Int))))] (tN (sq ?_)))); rcases ic hG with ⟨h_104, hG⟩ | ⟨h_104, hG⟩
      ·try simp only [lm_, Kd.n_Hops, Kh.n_l] at h_104
       refine sb 61 (bt h_104) (ct (kS (tN (sq (bk (sq ?_)))))); obtain ⟨v_105, hy_105, hG⟩ := bs hG; refine rg (fx inf39 (gd' (RowC v_3.heads_A v_3.heads_c Kc.cells tr v_3.heads) 4) hy_105 fun b_106 o_107 hi_105 => rn 3 [(1, 0, 0, 0), (0, 5, 0, 0)] (fc (hi_105 .i64) f0) [(62, I v_102), (64, .agg #[I v_105.Office, I v_105.Size, U v_105.Root, I v_105.Sig.C, I v_105.Sig.S])] (l1 (nw 17 vp [I 0, I 0, U 0, I 0, I 0] 27 fun g_108 => rn 1 [] f0 [(16, I v_102)] (l1 (sr 0 g_108 (ns 0 [I v_105.Office, I v_105.Size, U v_105.Root, I v_105.Sig.C, I v_105.Sig.S]) (nl (tN (sq ?_)))))))); obtain ⟨v_109, hy_109, hG⟩ := bs hG; refine rg (rn 1 [(0, 5, 0, 0)] f0 [(65, .agg #[I v_105.Office, I v_105.Size, U v_105.Root, I v_105.Sig.C, I v_105.Sig.S])] (l1 (cl 66 (zaf F v_105 _ hy_109) hT trivial (ra [] f0 [(18, U v_109)] (tN ?_))))); obtain ⟨o_144, hG, hG_144⟩ := bs hG; refine jn (fun K E a w => Js S0 w0 176 (K) (se E [2, 3, 4, 5, 6, 7, 8]) (.inl () = o_144) a w) ?_ ?_
       ·refine sq ?_; obtain ⟨v_110, hy_110, hG⟩ := bs hG; refine rg (fp false true inf39 (gd' (RowC v_3.heads_A v_3.heads_c Kc.cells tr v_3.heads) 6) hy_110 fun v_110_A v_110_c hp_110 => ra [(1, 1, 9, 4), (1, 0, 0, 0)] (fc (hp_110 .i64 .i64) f0) (ns 70 [.slice v_110_A v_110.length v_110_c, I (v_110.length : Int), I 0]) (tN (bk ?_))); obtain ⟨e_133, hL, hG_133⟩ := bs hG; clear hG; obtain ⟨stp_133, hs_133, hL⟩ := iter_gen hL; refine lp (fun K E n_ a w => ∃ v_132 : Int, Js S0 w0 176 ([(72, I v_132)] ++ K) (se E [0, 1, 3, 4, 5, 6, 7, 8, 9]) (iter stp_133 n_ v_132 = some e_133) a w) F ?_ ?_
        ·exact fun _ _ S k e => ⟨0, S, k.wk, e.sel [0, 1, 3, 4, 5, 6, 7, 8, 9], hL⟩
        ·clear hL; rintro n_133 a w ⟨v_132, hJ⟩; refine hJ.go fun hL => ?_
         clear hJ; obtain ⟨m_133, o_133, rfl, hG, hO1_133, hO2_133⟩ := iter_step hL; clear hL; rw [hs_133] at hG; refine sq (rg (ra [] f0 [(73, B (decide (v_132 < (v_110.length : Int))))] (tN (sq ?_)))); rcases ic hG with ⟨h_134, hG⟩ | ⟨h_134, hG⟩
         ·try simp only [lm_, Kd.n_Hops, Kh.n_l] at h_134
          refine sb 73 (bt h_134) (ct (kS (tN (sq (bk (sq ?_)))))); obtain ⟨v_135, hy_135, hG⟩ := bs hG; refine rg (fx inf39 (gd' (RowC v_110_A v_110_c Kc.cells tr v_110) 0) hy_135 fun b_136 o_137 hi_135 => rn 2 [(0, 0, 0, 0), (0, 5, 0, 0)] (fc (hi_135 .i64) f0) [(75, .agg #[I v_135.Office, I v_135.Size, U v_135.Root, I v_135.Sig.C, I v_135.Sig.S])] (l1 (nw 20 vp [I 0, I 0, U 0, I 0, I 0] 27 fun g_138 => l1 (sr 0 g_138 (ns 0 [I v_135.Office, I v_135.Size, U v_135.Root, I v_135.Sig.C, I v_135.Sig.S]) (nl (tN ?_)))))); obtain ⟨o_141, hG, hG_141⟩ := bs hG; refine jn (fun K E a w => ∃ v_142 : Bool, Js S0 w0 176 ([(84, B v_142)] ++ K) (se E [2, 3, 4, 5, 6, 7, 8, 9, 10]) (v_142 = o_141) a w) ?_ ?_
          ·rcases ic hG with ⟨h_139, hG⟩ | ⟨h_139, hG⟩
           ·exact rg (rn 4 [(0, 5, 0, 0), (0, 5, 3, 0), (0, 0, 0, 0)] (fc (neq_KHead v_135 v_105) f0) [(79, B (!(decide (v_135 = v_105))))] (sb 79 (nt h_139) (ra [] f0 [(84, B false)] (tN (fun _ _ S k e => ⟨false, S, k.wk, e.sel [2, 3, 4, 5, 6, 7, 8, 9, 10], oi hG⟩)))))
           ·obtain ⟨v_140, hy_140, hG⟩ := bs hG; exact rg (rn 4 [(0, 5, 0, 0), (0, 5, 3, 0), (0, 0, 0, 0)] (fc (neq_KHead v_135 v_105) f0) [(79, B (!(decide (v_135 = v_105))))] (sb 79 (nf h_139) (rn 1 [(0, 5, 0, 0)] f0 [(80, .agg #[I v_135.Office, I v_135.Size, U v_135.Root, I v_135.Sig.C, I v_135.Sig.S])] (l1 (cl 81 (zaf F v_135 _ hy_140) hT trivial (ra [] f0 [(84, B (v_140 == v_109))] (tN (fun _ _ S k e => ⟨(v_140 == v_109), S, k.wk, e.sel [2, 3, 4, 5, 6, 7, 8, 9, 10], oi hG⟩))))))))
          ·rintro a w ⟨v_142, hJ⟩; refine hJ.go ?_; clear hJ; rintro rfl; replace hG := hG_141; rcases ic hG with ⟨h_143, hG⟩ | ⟨h_143, hG⟩
           ·refine sb 84 (bt h_143) (ct (sq (rg (ra [] f0 [(8, B v_1)] (tN (kR (hR (tR (tR ?_))))))))); have he_ := hO2_133 _ (oi hG).symm; subst he_; replace hG := hG_133; refine hR (tR ?_); obtain rfl := oi hG; replace hG := hG_144; refine hR (tR (tR ?_)); have he_ := hO2_103 _ (oi hG).symm; subst he_; replace hG := hG_103; refine hR (tR ?_); obtain rfl := oi hG; replace hG := hG_146; obtain rfl := oi hG; exact rt []
           ·exact sb 84 (bf h_143) (cf (kS (hN (tN (rg (ra [] f0 [(72, I (IntKind.i64.wrap (v_132 + 1)))] (tN (fun a w S hK hE => ⟨m_133, ⟨IntKind.i64.wrap (v_132 + 1), S, hK.wk, hE.sel [0, 1, 2, 3, 4, 5, 6, 7, 8], hO1_133 _ (oi hG).symm⟩, Nat.lt_succ_self _⟩))))))))
         ·try simp only [lm_, Kd.n_Hops, Kh.n_l] at h_134
          refine sb 73 (bf h_134) (cf (kX (tX (tX ?_)))); have he_ := hO2_133 _ (oi hG).symm; subst he_; replace hG := hG_133; exact hH (tN (fun _ _ S k e => ⟨S, k.wk, e.sel [2, 3, 4, 5, 6, 7, 8], oi hG⟩))
       ·rintro a w hJ; refine hJ.go ?_; clear hJ; rintro rfl; replace hG := el hG_144; refine sq (rg (ra [] f0 [(88, B (decide (v_109 < 4294967296)))] (tN ?_))); rcases ic hG with ⟨h_145, hG⟩ | ⟨h_145, hG⟩
        ·refine sb 88 (bt h_145) (ct (sq (rg (ra [] f0 [(8, B v_1)] (tN (kR (hR (tR (tR ?_))))))))); have he_ := hO2_103 _ (oi hG).symm; subst he_; replace hG := hG_103; refine hR (tR ?_); obtain rfl := oi hG; replace hG := hG_146; obtain rfl := oi hG; exact rt []
        ·exact sb 88 (bf h_145) (cf (kS (hN (tN (rg (ra [] f0 [(60, I (IntKind.i64.wrap (v_102 + 1)))] (tN (fun a w S hK hE => ⟨m_103, ⟨IntKind.i64.wrap (v_102 + 1), S, hK.wk, hE.sel [0, 1, 2, 3, 4, 5, 6], hO1_103 _ (oi hG).symm⟩, Nat.lt_succ_self _⟩))))))))
      ·try simp only [lm_, Kd.n_Hops, Kh.n_l] at h_104
       refine sb 61 (bf h_104) (cf (kX (tX (tX ?_)))); have he_ := hO2_103 _ (oi hG).symm; subst he_; replace hG := hG_103; exact hH (tN (fun _ _ S k e => ⟨S, k.wk, e.sel [0, 1, 2, 3, 4, 5, 6], oi hG⟩))
    ·rintro a w hJ; refine hJ.go ?_; clear hJ; rintro rfl; replace hG := el hG_146; refine sq ?_; obtain ⟨v_147o, v_148, v_149, hy_147, hG⟩ := b3 hG; refine rg (rn 10 [(1, 1, 6, 0), (1, 1, 6, 4)] f0 [(93, .slice v_3.l_A v_3.l.length v_3.l_c), (95, .slice v_3.heads_A v_3.heads.length v_3.heads_c), (97, I (IntKind.i64.wrap (v_5 + 1))), (98, I v_6), (100, I (IntKind.i64.wrap (v_7 + 1))), (101, I v_8)] (l1 (cn 102 (zp F v_3.l_A v_3.l_c v_3.l v_3.heads_A v_3.heads_c v_3.heads (IntKind.i64.wrap (v_5 + 1)) v_6 (IntKind.i64.wrap (v_7 + 1)) v_8 _ hy_147) hT (fun _ => (mc Kd.mv m0)) ⟨gi 0, gi 4, trivial⟩ ?_))); rintro v_147 hq_147; obtain rfl : v_147.p = v_147o := hq_147.symm
     try simp only [lm_, Kd.n_Hops, Kh.n_l] at hG
     refine rn 4 [] f0 (ns 103 [.agg #[I v_147.First.Head.Office, I v_147.First.Head.Size, U v_147.First.Head.Root, I v_147.First.Head.Sig.C, I v_147.First.Head.Sig.S, I v_147.First.Index, U v_147.First.Entry.Doc, I v_147.First.Entry.Stamp.Lo, I v_147.First.Entry.Stamp.Hi, .slice v_147.First.Path_A v_147.First.Path.length v_147.First.Path_c, .slice v_147.Hops_A v_147.Hops.length v_147.Hops_c, .slice v_147.Grow_A v_147.Grow.length v_147.Grow_c, I v_147.Last.Head.Office, I v_147.Last.Head.Size, U v_147.Last.Head.Root, I v_147.Last.Head.Sig.C, I v_147.Last.Head.Sig.S, I v_147.Last.Index, U v_147.Last.Entry.Doc, I v_147.Last.Entry.Stamp.Lo, I v_147.Last.Entry.Stamp.Hi, .slice v_147.Last.Path_A v_147.Last.Path.length v_147.Last.Path_c], B v_148, I v_149]) (l1 (nw 21 vp (Kd.cells Kd.z) 37 fun g_150 => l1 (sr 0 g_150 (ns 0 [I v_147.First.Head.Office, I v_147.First.Head.Size, U v_147.First.Head.Root, I v_147.First.Head.Sig.C, I v_147.First.Head.Sig.S, I v_147.First.Index, U v_147.First.Entry.Doc, I v_147.First.Entry.Stamp.Lo, I v_147.First.Entry.Stamp.Hi, .slice v_147.First.Path_A v_147.First.Path.length v_147.First.Path_c, .slice v_147.Hops_A v_147.Hops.length v_147.Hops_c, .slice v_147.Grow_A v_147.Grow.length v_147.Grow_c, I v_147.Last.Head.Office, I v_147.Last.Head.Size, U v_147.Last.Head.Root, I v_147.Last.Head.Sig.C, I v_147.Last.Head.Sig.S, I v_147.Last.Index, U v_147.Last.Entry.Doc, I v_147.Last.Entry.Stamp.Lo, I v_147.Last.Entry.Stamp.Hi, .slice v_147.Last.Path_A v_147.Last.Path.length v_147.Last.Path_c]) (ra [] f0 [(22, B v_148), (23, I v_149)] (tN (sq ?_)))))); obtain ⟨v_151o, v_152, v_153, hy_151, hG⟩ := b3 hG; refine rg (rn 10 [(1, 1, 8, 0), (1, 1, 8, 4)] f0 [(108, .slice v_3.l_A v_3.l.length v_3.l_c), (110, .slice v_3.heads_A v_3.heads.length v_3.heads_c), (112, I (IntKind.i64.wrap (v_7 + 1))), (113, I v_8), (115, I (IntKind.i64.wrap (v_5 + 1))), (116, I v_6)] (l1 (cn 117 (zp F v_3.l_A v_3.l_c v_3.l v_3.heads_A v_3.heads_c v_3.heads (IntKind.i64.wrap (v_7 + 1)) v_8 (IntKind.i64.wrap (v_5 + 1)) v_6 _ hy_151) hT (fun _ => (mc Kd.mv m0)) ⟨gi 2, gi 6, trivial⟩ ?_))); rintro v_151 hq_151; obtain rfl : v_151.p = v_151o := hq_151.symm
     try simp only [lm_, Kd.n_Hops, Kh.n_l] at hG
     refine rn 4 [] f0 (ns 118 [.agg #[I v_151.First.Head.Office, I v_151.First.Head.Size, U v_151.First.Head.Root, I v_151.First.Head.Sig.C, I v_151.First.Head.Sig.S, I v_151.First.Index, U v_151.First.Entry.Doc, I v_151.First.Entry.Stamp.Lo, I v_151.First.Entry.Stamp.Hi, .slice v_151.First.Path_A v_151.First.Path.length v_151.First.Path_c, .slice v_151.Hops_A v_151.Hops.length v_151.Hops_c, .slice v_151.Grow_A v_151.Grow.length v_151.Grow_c, I v_151.Last.Head.Office, I v_151.Last.Head.Size, U v_151.Last.Head.Root, I v_151.Last.Head.Sig.C, I v_151.Last.Head.Sig.S, I v_151.Last.Index, U v_151.Last.Entry.Doc, I v_151.Last.Entry.Stamp.Lo, I v_151.Last.Entry.Stamp.Hi, .slice v_151.Last.Path_A v_151.Last.Path.length v_151.Last.Path_c], B v_152, I v_153]) (l1 (nw 24 vp (Kd.cells Kd.z) 37 fun g_154 => l1 (sr 0 g_154 (ns 0 [I v_151.First.Head.Office, I v_151.First.Head.Size, U v_151.First.Head.Root, I v_151.First.Head.Sig.C, I v_151.First.Head.Sig.S, I v_151.First.Index, U v_151.First.Entry.Doc, I v_151.First.Entry.Stamp.Lo, I v_151.First.Entry.Stamp.Hi, .slice v_151.First.Path_A v_151.First.Path.length v_151.First.Path_c, .slice v_151.Hops_A v_151.Hops.length v_151.Hops_c, .slice v_151.Grow_A v_151.Grow.length v_151.Grow_c, I v_151.Last.Head.Office, I v_151.Last.Head.Size, U v_151.Last.Head.Root, I v_151.Last.Head.Sig.C, I v_151.Last.Head.Sig.S, I v_151.Last.Index, U v_151.Last.Entry.Doc, I v_151.Last.Entry.Stamp.Lo, I v_151.Last.Entry.Stamp.Hi, .slice v_151.Last.Path_A v_151.Last.Path.length v_151.Last.Path_c]) (ra [] f0 [(25, B v_152), (26, I v_153)] (tN (sq ?_)))))); obtain ⟨o_158, hG, hG_158⟩ := bs hG; refine jn (fun K E a w => ∃ v_159 : Bool, Js S0 w0 176 ([(132, B v_159)] ++ K) (se E [4, 5, 6, 7, 8, 9, 10]) (v_159 = o_158) a w) ?_ ?_
     ·rcases ic hG with ⟨h_155, hG⟩ | ⟨h_155, hG⟩
      ·rcases ic hG with ⟨h_156, hG⟩ | ⟨h_156, hG⟩
       ·rcases ic hG with ⟨h_157, hG⟩ | ⟨h_157, hG⟩
        ·exact rg (rn 3 [] f0 [(123, B (!(v_149 == 0)))] (sb 123 (nt h_155) (rn 4 [] f0 [(127, B (!(v_153 == 0)))] (sb 127 (nt h_156) (rn 2 [] f0 [(129, B v_148)] (sb 129 (bt h_157) (ra [] f0 [(132, B v_152)] (tN (fun _ _ S k e => ⟨v_152, S, k.wk, e.sel [4, 5, 6, 7, 8, 9, 10], oi hG⟩)))))))))
        ·exact rg (rn 3 [] f0 [(123, B (!(v_149 == 0)))] (sb 123 (nt h_155) (rn 4 [] f0 [(127, B (!(v_153 == 0)))] (sb 127 (nt h_156) (rn 2 [] f0 [(129, B v_148)] (sb 129 (bf h_157) (ra [] f0 [(132, B false)] (tN (fun _ _ S k e => ⟨false, S, k.wk, e.sel [4, 5, 6, 7, 8, 9, 10], oi hG⟩)))))))))
       ·exact rg (rn 3 [] f0 [(123, B (!(v_149 == 0)))] (sb 123 (nt h_155) (rn 4 [] f0 [(127, B (!(v_153 == 0)))] (sb 127 (nf h_156) (ra [] f0 [(132, B true)] (tN (fun _ _ S k e => ⟨true, S, k.wk, e.sel [4, 5, 6, 7, 8, 9, 10], oi hG⟩)))))))
      ·exact rg (rn 3 [] f0 [(123, B (!(v_149 == 0)))] (sb 123 (nf h_155) (ra [] f0 [(132, B true)] (tN (fun _ _ S k e => ⟨true, S, k.wk, e.sel [4, 5, 6, 7, 8, 9, 10], oi hG⟩)))))
     ·rintro a w ⟨v_159, hJ⟩; refine hJ.go ?_; clear hJ; rintro rfl; replace hG := hG_158; rcases ic hG with ⟨h_160, hG⟩ | ⟨h_160, hG⟩
      ·refine sb 132 (bt h_160) (ct (sq (rg (ra [] f0 [(8, B false)] (tN (kR (tR ?_))))))); obtain rfl := oi hG; exact rt []
      ·refine sb 132 (bf h_160) (cf (kS (tN ?_))); obtain ⟨o_332, hG, hG_332⟩ := bs hG; refine jn (fun K E a w => ∃ v_333 : Bool, Js S0 w0 176 ([(8, B v_333)] ++ K) (se E []) (v_333 = o_332) a w) ?_ ?_
       ·rcases ic hG with ⟨h_161, hG⟩ | ⟨h_161, hG⟩
        ·rcases ic hG with ⟨h_162, hG⟩ | ⟨h_162, hG⟩
         ·rcases ic hG with ⟨h_163, hG⟩ | ⟨h_163, hG⟩
          ·obtain ⟨v_164, hy_164, hG⟩ := bs hG; rcases ic hG with ⟨h_167, hG⟩ | ⟨h_167, hG⟩
           ·obtain ⟨v_168, hy_168, hG⟩ := bs hG; rcases ic hG with ⟨h_171, hG⟩ | ⟨h_171, hG⟩
            ·rcases ic hG with ⟨h_172, hG⟩ | ⟨h_172, hG⟩
             ·obtain ⟨v_173, hy_173, hG⟩ := bs hG; obtain ⟨v_176, hy_176, hG⟩ := bs hG; exact qb (qn 2 [] f0 [(134, B v_1)] (sb 134 (bt h_161) (qn 3 [] f0 [(137, B (!v_148))] (sb 137 (nt h_162) (qn 2 [] f0 [(138, I v_5), (139, Pt g_4 1)] (sb 138 (v := I v_5) (v' := I 0) (iz h_163) (fx inf22 (gd' (RowC v_3.when.f0_A v_3.when.f0_c c_i64 tr v_3.when.f0) 1) hy_164 fun b_165 o_166 hi_164 => qn 7 [(1, 1, 7, 1), (1, 0, 0, 0), (0, 1, 0, 0)] (fc (hi_164 .i64) f0) (ns 144 [I v_164, I v_7, Pt g_4 1]) (sb 145 (v := I v_7) (v' := I 0) (iz h_167) (fx inf22 (gd' (RowC v_3.when.f0_A v_3.when.f0_c c_i64 tr v_3.when.f0) 2) hy_168 fun b_169 o_170 hi_168 => qn 9 [(1, 1, 8, 1), (1, 0, 0, 0), (0, 1, 0, 0)] (fc (hi_168 .i64) f0) [(155, B (decide (v_164 < v_168)))] (sb 155 (bt h_171) (qn 3 [] f0 [(158, B (!v_152))] (sb 158 (nt h_172) (qn 2 [] f0 [(159, I v_7), (160, Pt g_4 1)] (sb 159 (v := I v_7) (v' := I 0) (iz h_167) (fx inf22 (gd' (RowC v_3.when.f0_A v_3.when.f0_c c_i64 tr v_3.when.f0) 3) hy_173 fun b_174 o_175 hi_173 => qn 7 [(1, 1, 9, 1), (1, 0, 0, 0), (0, 1, 0, 0)] (fc (hi_173 .i64) f0) (ns 165 [I v_173, I v_5, Pt g_4 1]) (sb 166 (v := I v_5) (v' := I 0) (iz h_163) (fx inf22 (gd' (RowC v_3.when.f0_A v_3.when.f0_c c_i64 tr v_3.when.f0) 4) hy_176 fun b_177 o_178 hi_176 => qa [(1, 1, 10, 1), (1, 0, 0, 0), (0, 1, 0, 0)] (fc (hi_176 .i64) f0) [(8, B (decide (v_173 < v_176)))] (tN (fun _ _ S k e => ⟨decide (v_173 < v_176), S, k.wk, e.sel [], oi hG⟩)))))))))))))))))))
             ·exact qb (qn 2 [] f0 [(134, B v_1)] (sb 134 (bt h_161) (qn 3 [] f0 [(137, B (!v_148))] (sb 137 (nt h_162) (qn 2 [] f0 [(138, I v_5), (139, Pt g_4 1)] (sb 138 (v := I v_5) (v' := I 0) (iz h_163) (fx inf22 (gd' (RowC v_3.when.f0_A v_3.when.f0_c c_i64 tr v_3.when.f0) 1) hy_164 fun b_165 o_166 hi_164 => qn 7 [(1, 1, 7, 1), (1, 0, 0, 0), (0, 1, 0, 0)] (fc (hi_164 .i64) f0) (ns 144 [I v_164, I v_7, Pt g_4 1]) (sb 145 (v := I v_7) (v' := I 0) (iz h_167) (fx inf22 (gd' (RowC v_3.when.f0_A v_3.when.f0_c c_i64 tr v_3.when.f0) 2) hy_168 fun b_169 o_170 hi_168 => qn 9 [(1, 1, 8, 1), (1, 0, 0, 0), (0, 1, 0, 0)] (fc (hi_168 .i64) f0) [(155, B (decide (v_164 < v_168)))] (sb 155 (bt h_171) (qn 3 [] f0 [(158, B (!v_152))] (sb 158 (nf h_172) (qa [] f0 [(8, B true)] (tN (fun _ _ S k e => ⟨true, S, k.wk, e.sel [], oi hG⟩)))))))))))))))
            ·exact qb (qn 2 [] f0 [(134, B v_1)] (sb 134 (bt h_161) (qn 3 [] f0 [(137, B (!v_148))] (sb 137 (nt h_162) (qn 2 [] f0 [(138, I v_5), (139, Pt g_4 1)] (sb 138 (v := I v_5) (v' := I 0) (iz h_163) (fx inf22 (gd' (RowC v_3.when.f0_A v_3.when.f0_c c_i64 tr v_3.when.f0) 1) hy_164 fun b_165 o_166 hi_164 => qn 7 [(1, 1, 7, 1), (1, 0, 0, 0), (0, 1, 0, 0)] (fc (hi_164 .i64) f0) (ns 144 [I v_164, I v_7, Pt g_4 1]) (sb 145 (v := I v_7) (v' := I 0) (iz h_167) (fx inf22 (gd' (RowC v_3.when.f0_A v_3.when.f0_c c_i64 tr v_3.when.f0) 2) hy_168 fun b_169 o_170 hi_168 => qn 9 [(1, 1, 8, 1), (1, 0, 0, 0), (0, 1, 0, 0)] (fc (hi_168 .i64) f0) [(155, B (decide (v_164 < v_168)))] (sb 155 (bf h_171) (qa [] f0 [(8, B false)] (tN (fun _ _ S k e => ⟨false, S, k.wk, e.sel [], oi hG⟩)))))))))))))
           ·rcases ic hG with ⟨h_179, hG⟩ | ⟨h_179, hG⟩
            ·obtain ⟨v_180, hy_180, hG⟩ := bs hG; rcases ic hG with ⟨h_183, hG⟩ | ⟨h_183, hG⟩
             ·rcases ic hG with ⟨h_184, hG⟩ | ⟨h_184, hG⟩
              ·obtain ⟨v_185, hy_185, hG⟩ := bs hG; obtain ⟨v_188, hy_188, hG⟩ := bs hG; exact qb (qn 2 [] f0 [(134, B v_1)] (sb 134 (bt h_161) (qn 3 [] f0 [(137, B (!v_148))] (sb 137 (nt h_162) (qn 2 [] f0 [(138, I v_5), (139, Pt g_4 1)] (sb 138 (v := I v_5) (v' := I 0) (iz h_163) (fx inf22 (gd' (RowC v_3.when.f0_A v_3.when.f0_c c_i64 tr v_3.when.f0) 1) hy_164 fun b_165 o_166 hi_164 => qn 7 [(1, 1, 7, 1), (1, 0, 0, 0), (0, 1, 0, 0)] (fc (hi_164 .i64) f0) (ns 144 [I v_164, I v_7, Pt g_4 1]) (sb 145 (v := I v_7) (v' := I 1) (iz h_179) (fx inf22 (gd' (RowC v_3.when.f1_A v_3.when.f1_c c_i64 tr v_3.when.f1) 3) hy_180 fun b_181 o_182 hi_180 => qn 9 [(1, 1, 8, 2), (1, 0, 0, 0), (0, 1, 0, 0)] (fc (hi_180 .i64) f0) [(155, B (decide (v_164 < v_180)))] (sb 155 (bt h_183) (qn 3 [] f0 [(158, B (!v_152))] (sb 158 (nt h_184) (qn 2 [] f0 [(159, I v_7), (160, Pt g_4 1)] (sb 159 (v := I v_7) (v' := I 1) (iz h_179) (fx inf22 (gd' (RowC v_3.when.f1_A v_3.when.f1_c c_i64 tr v_3.when.f1) 4) hy_185 fun b_186 o_187 hi_185 => qn 7 [(1, 1, 9, 2), (1, 0, 0, 0), (0, 1, 0, 0)] (fc (hi_185 .i64) f0) (ns 165 [I v_185, I v_5, Pt g_4 1]) (sb 166 (v := I v_5) (v' := I 0) (iz h_163) (fx inf22 (gd' (RowC v_3.when.f0_A v_3.when.f0_c c_i64 tr v_3.when.f0) 4) hy_188 fun b_189 o_190 hi_188 => qa [(1, 1, 10, 1), (1, 0, 0, 0), (0, 1, 0, 0)] (fc (hi_188 .i64) f0) [(8, B (decide (v_185 < v_188)))] (tN (fun _ _ S k e => ⟨decide (v_185 < v_188), S, k.wk, e.sel [], oi hG⟩)))))))))))))))))))
              ·exact qb (qn 2 [] f0 [(134, B v_1)] (sb 134 (bt h_161) (qn 3 [] f0 [(137, B (!v_148))] (sb 137 (nt h_162) (qn 2 [] f0 [(138, I v_5), (139, Pt g_4 1)] (sb 138 (v := I v_5) (v' := I 0) (iz h_163) (fx inf22 (gd' (RowC v_3.when.f0_A v_3.when.f0_c c_i64 tr v_3.when.f0) 1) hy_164 fun b_165 o_166 hi_164 => qn 7 [(1, 1, 7, 1), (1, 0, 0, 0), (0, 1, 0, 0)] (fc (hi_164 .i64) f0) (ns 144 [I v_164, I v_7, Pt g_4 1]) (sb 145 (v := I v_7) (v' := I 1) (iz h_179) (fx inf22 (gd' (RowC v_3.when.f1_A v_3.when.f1_c c_i64 tr v_3.when.f1) 3) hy_180 fun b_181 o_182 hi_180 => qn 9 [(1, 1, 8, 2), (1, 0, 0, 0), (0, 1, 0, 0)] (fc (hi_180 .i64) f0) [(155, B (decide (v_164 < v_180)))] (sb 155 (bt h_183) (qn 3 [] f0 [(158, B (!v_152))] (sb 158 (nf h_184) (qa [] f0 [(8, B true)] (tN (fun _ _ S k e => ⟨true, S, k.wk, e.sel [], oi hG⟩)))))))))))))))
             ·exact qb (qn 2 [] f0 [(134, B v_1)] (sb 134 (bt h_161) (qn 3 [] f0 [(137, B (!v_148))] (sb 137 (nt h_162) (qn 2 [] f0 [(138, I v_5), (139, Pt g_4 1)] (sb 138 (v := I v_5) (v' := I 0) (iz h_163) (fx inf22 (gd' (RowC v_3.when.f0_A v_3.when.f0_c c_i64 tr v_3.when.f0) 1) hy_164 fun b_165 o_166 hi_164 => qn 7 [(1, 1, 7, 1), (1, 0, 0, 0), (0, 1, 0, 0)] (fc (hi_164 .i64) f0) (ns 144 [I v_164, I v_7, Pt g_4 1]) (sb 145 (v := I v_7) (v' := I 1) (iz h_179) (fx inf22 (gd' (RowC v_3.when.f1_A v_3.when.f1_c c_i64 tr v_3.when.f1) 3) hy_180 fun b_181 o_182 hi_180 => qn 9 [(1, 1, 8, 2), (1, 0, 0, 0), (0, 1, 0, 0)] (fc (hi_180 .i64) f0) [(155, B (decide (v_164 < v_180)))] (sb 155 (bf h_183) (qa [] f0 [(8, B false)] (tN (fun _ _ S k e => ⟨false, S, k.wk, e.sel [], oi hG⟩)))))))))))))
            ·rcases ic hG with ⟨h_191, hG⟩ | ⟨h_191, hG⟩
             ·obtain ⟨v_192, hy_192, hG⟩ := bs hG; rcases ic hG with ⟨h_195, hG⟩ | ⟨h_195, hG⟩
              ·rcases ic hG with ⟨h_196, hG⟩ | ⟨h_196, hG⟩
               ·obtain ⟨v_197, hy_197, hG⟩ := bs hG; obtain ⟨v_200, hy_200, hG⟩ := bs hG; exact qb (qn 2 [] f0 [(134, B v_1)] (sb 134 (bt h_161) (qn 3 [] f0 [(137, B (!v_148))] (sb 137 (nt h_162) (qn 2 [] f0 [(138, I v_5), (139, Pt g_4 1)] (sb 138 (v := I v_5) (v' := I 0) (iz h_163) (fx inf22 (gd' (RowC v_3.when.f0_A v_3.when.f0_c c_i64 tr v_3.when.f0) 1) hy_164 fun b_165 o_166 hi_164 => qn 7 [(1, 1, 7, 1), (1, 0, 0, 0), (0, 1, 0, 0)] (fc (hi_164 .i64) f0) (ns 144 [I v_164, I v_7, Pt g_4 1]) (sb 145 (v := I v_7) (v' := I 2) (iz h_191) (fx inf22 (gd' (RowC v_3.when.f2_A v_3.when.f2_c c_i64 tr v_3.when.f2) 4) hy_192 fun b_193 o_194 hi_192 => qn 9 [(1, 1, 8, 3), (1, 0, 0, 0), (0, 1, 0, 0)] (fc (hi_192 .i64) f0) [(155, B (decide (v_164 < v_192)))] (sb 155 (bt h_195) (qn 3 [] f0 [(158, B (!v_152))] (sb 158 (nt h_196) (qn 2 [] f0 [(159, I v_7), (160, Pt g_4 1)] (sb 159 (v := I v_7) (v' := I 2) (iz h_191) (fx inf22 (gd' (RowC v_3.when.f2_A v_3.when.f2_c c_i64 tr v_3.when.f2) 5) hy_197 fun b_198 o_199 hi_197 => qn 7 [(1, 1, 9, 3), (1, 0, 0, 0), (0, 1, 0, 0)] (fc (hi_197 .i64) f0) (ns 165 [I v_197, I v_5, Pt g_4 1]) (sb 166 (v := I v_5) (v' := I 0) (iz h_163) (fx inf22 (gd' (RowC v_3.when.f0_A v_3.when.f0_c c_i64 tr v_3.when.f0) 4) hy_200 fun b_201 o_202 hi_200 => qa [(1, 1, 10, 1), (1, 0, 0, 0), (0, 1, 0, 0)] (fc (hi_200 .i64) f0) [(8, B (decide (v_197 < v_200)))] (tN (fun _ _ S k e => ⟨decide (v_197 < v_200), S, k.wk, e.sel [], oi hG⟩)))))))))))))))))))
               ·exact qb (qn 2 [] f0 [(134, B v_1)] (sb 134 (bt h_161) (qn 3 [] f0 [(137, B (!v_148))] (sb 137 (nt h_162) (qn 2 [] f0 [(138, I v_5), (139, Pt g_4 1)] (sb 138 (v := I v_5) (v' := I 0) (iz h_163) (fx inf22 (gd' (RowC v_3.when.f0_A v_3.when.f0_c c_i64 tr v_3.when.f0) 1) hy_164 fun b_165 o_166 hi_164 => qn 7 [(1, 1, 7, 1), (1, 0, 0, 0), (0, 1, 0, 0)] (fc (hi_164 .i64) f0) (ns 144 [I v_164, I v_7, Pt g_4 1]) (sb 145 (v := I v_7) (v' := I 2) (iz h_191) (fx inf22 (gd' (RowC v_3.when.f2_A v_3.when.f2_c c_i64 tr v_3.when.f2) 4) hy_192 fun b_193 o_194 hi_192 => qn 9 [(1, 1, 8, 3), (1, 0, 0, 0), (0, 1, 0, 0)] (fc (hi_192 .i64) f0) [(155, B (decide (v_164 < v_192)))] (sb 155 (bt h_195) (qn 3 [] f0 [(158, B (!v_152))] (sb 158 (nf h_196) (qa [] f0 [(8, B true)] (tN (fun _ _ S k e => ⟨true, S, k.wk, e.sel [], oi hG⟩)))))))))))))))
              ·exact qb (qn 2 [] f0 [(134, B v_1)] (sb 134 (bt h_161) (qn 3 [] f0 [(137, B (!v_148))] (sb 137 (nt h_162) (qn 2 [] f0 [(138, I v_5), (139, Pt g_4 1)] (sb 138 (v := I v_5) (v' := I 0) (iz h_163) (fx inf22 (gd' (RowC v_3.when.f0_A v_3.when.f0_c c_i64 tr v_3.when.f0) 1) hy_164 fun b_165 o_166 hi_164 => qn 7 [(1, 1, 7, 1), (1, 0, 0, 0), (0, 1, 0, 0)] (fc (hi_164 .i64) f0) (ns 144 [I v_164, I v_7, Pt g_4 1]) (sb 145 (v := I v_7) (v' := I 2) (iz h_191) (fx inf22 (gd' (RowC v_3.when.f2_A v_3.when.f2_c c_i64 tr v_3.when.f2) 4) hy_192 fun b_193 o_194 hi_192 => qn 9 [(1, 1, 8, 3), (1, 0, 0, 0), (0, 1, 0, 0)] (fc (hi_192 .i64) f0) [(155, B (decide (v_164 < v_192)))] (sb 155 (bf h_195) (qa [] f0 [(8, B false)] (tN (fun _ _ S k e => ⟨false, S, k.wk, e.sel [], oi hG⟩)))))))))))))
             ·cases hG
          ·rcases ic hG with ⟨h_203, hG⟩ | ⟨h_203, hG⟩
           ·obtain ⟨v_204, hy_204, hG⟩ := bs hG; rcases ic hG with ⟨h_207, hG⟩ | ⟨h_207, hG⟩
            ·obtain ⟨v_208, hy_208, hG⟩ := bs hG; rcases ic hG with ⟨h_211, hG⟩ | ⟨h_211, hG⟩
             ·rcases ic hG with ⟨h_212, hG⟩ | ⟨h_212, hG⟩
              ·obtain ⟨v_213, hy_213, hG⟩ := bs hG; obtain ⟨v_216, hy_216, hG⟩ := bs hG; exact qb (qn 2 [] f0 [(134, B v_1)] (sb 134 (bt h_161) (qn 3 [] f0 [(137, B (!v_148))] (sb 137 (nt h_162) (qn 2 [] f0 [(138, I v_5), (139, Pt g_4 1)] (sb 138 (v := I v_5) (v' := I 1) (iz h_203) (fx inf22 (gd' (RowC v_3.when.f1_A v_3.when.f1_c c_i64 tr v_3.when.f1) 2) hy_204 fun b_205 o_206 hi_204 => qn 7 [(1, 1, 7, 2), (1, 0, 0, 0), (0, 1, 0, 0)] (fc (hi_204 .i64) f0) (ns 144 [I v_204, I v_7, Pt g_4 1]) (sb 145 (v := I v_7) (v' := I 0) (iz h_207) (fx inf22 (gd' (RowC v_3.when.f0_A v_3.when.f0_c c_i64 tr v_3.when.f0) 2) hy_208 fun b_209 o_210 hi_208 => qn 9 [(1, 1, 8, 1), (1, 0, 0, 0), (0, 1, 0, 0)] (fc (hi_208 .i64) f0) [(155, B (decide (v_204 < v_208)))] (sb 155 (bt h_211) (qn 3 [] f0 [(158, B (!v_152))] (sb 158 (nt h_212) (qn 2 [] f0 [(159, I v_7), (160, Pt g_4 1)] (sb 159 (v := I v_7) (v' := I 0) (iz h_207) (fx inf22 (gd' (RowC v_3.when.f0_A v_3.when.f0_c c_i64 tr v_3.when.f0) 3) hy_213 fun b_214 o_215 hi_213 => qn 7 [(1, 1, 9, 1), (1, 0, 0, 0), (0, 1, 0, 0)] (fc (hi_213 .i64) f0) (ns 165 [I v_213, I v_5, Pt g_4 1]) (sb 166 (v := I v_5) (v' := I 1) (iz h_203) (fx inf22 (gd' (RowC v_3.when.f1_A v_3.when.f1_c c_i64 tr v_3.when.f1) 5) hy_216 fun b_217 o_218 hi_216 => qa [(1, 1, 10, 2), (1, 0, 0, 0), (0, 1, 0, 0)] (fc (hi_216 .i64) f0) [(8, B (decide (v_213 < v_216)))] (tN (fun _ _ S k e => ⟨decide (v_213 < v_216), S, k.wk, e.sel [], oi hG⟩)))))))))))))))))))
              ·exact qb (qn 2 [] f0 [(134, B v_1)] (sb 134 (bt h_161) (qn 3 [] f0 [(137, B (!v_148))] (sb 137 (nt h_162) (qn 2 [] f0 [(138, I v_5), (139, Pt g_4 1)] (sb 138 (v := I v_5) (v' := I 1) (iz h_203) (fx inf22 (gd' (RowC v_3.when.f1_A v_3.when.f1_c c_i64 tr v_3.when.f1) 2) hy_204 fun b_205 o_206 hi_204 => qn 7 [(1, 1, 7, 2), (1, 0, 0, 0), (0, 1, 0, 0)] (fc (hi_204 .i64) f0) (ns 144 [I v_204, I v_7, Pt g_4 1]) (sb 145 (v := I v_7) (v' := I 0) (iz h_207) (fx inf22 (gd' (RowC v_3.when.f0_A v_3.when.f0_c c_i64 tr v_3.when.f0) 2) hy_208 fun b_209 o_210 hi_208 => qn 9 [(1, 1, 8, 1), (1, 0, 0, 0), (0, 1, 0, 0)] (fc (hi_208 .i64) f0) [(155, B (decide (v_204 < v_208)))] (sb 155 (bt h_211) (qn 3 [] f0 [(158, B (!v_152))] (sb 158 (nf h_212) (qa [] f0 [(8, B true)] (tN (fun _ _ S k e => ⟨true, S, k.wk, e.sel [], oi hG⟩)))))))))))))))
             ·exact qb (qn 2 [] f0 [(134, B v_1)] (sb 134 (bt h_161) (qn 3 [] f0 [(137, B (!v_148))] (sb 137 (nt h_162) (qn 2 [] f0 [(138, I v_5), (139, Pt g_4 1)] (sb 138 (v := I v_5) (v' := I 1) (iz h_203) (fx inf22 (gd' (RowC v_3.when.f1_A v_3.when.f1_c c_i64 tr v_3.when.f1) 2) hy_204 fun b_205 o_206 hi_204 => qn 7 [(1, 1, 7, 2), (1, 0, 0, 0), (0, 1, 0, 0)] (fc (hi_204 .i64) f0) (ns 144 [I v_204, I v_7, Pt g_4 1]) (sb 145 (v := I v_7) (v' := I 0) (iz h_207) (fx inf22 (gd' (RowC v_3.when.f0_A v_3.when.f0_c c_i64 tr v_3.when.f0) 2) hy_208 fun b_209 o_210 hi_208 => qn 9 [(1, 1, 8, 1), (1, 0, 0, 0), (0, 1, 0, 0)] (fc (hi_208 .i64) f0) [(155, B (decide (v_204 < v_208)))] (sb 155 (bf h_211) (qa [] f0 [(8, B false)] (tN (fun _ _ S k e => ⟨false, S, k.wk, e.sel [], oi hG⟩)))))))))))))
            ·rcases ic hG with ⟨h_219, hG⟩ | ⟨h_219, hG⟩
             ·obtain ⟨v_220, hy_220, hG⟩ := bs hG; rcases ic hG with ⟨h_223, hG⟩ | ⟨h_223, hG⟩
              ·rcases ic hG with ⟨h_224, hG⟩ | ⟨h_224, hG⟩
               ·obtain ⟨v_225, hy_225, hG⟩ := bs hG; obtain ⟨v_228, hy_228, hG⟩ := bs hG; exact qb (qn 2 [] f0 [(134, B v_1)] (sb 134 (bt h_161) (qn 3 [] f0 [(137, B (!v_148))] (sb 137 (nt h_162) (qn 2 [] f0 [(138, I v_5), (139, Pt g_4 1)] (sb 138 (v := I v_5) (v' := I 1) (iz h_203) (fx inf22 (gd' (RowC v_3.when.f1_A v_3.when.f1_c c_i64 tr v_3.when.f1) 2) hy_204 fun b_205 o_206 hi_204 => qn 7 [(1, 1, 7, 2), (1, 0, 0, 0), (0, 1, 0, 0)] (fc (hi_204 .i64) f0) (ns 144 [I v_204, I v_7, Pt g_4 1]) (sb 145 (v := I v_7) (v' := I 1) (iz h_219) (fx inf22 (gd' (RowC v_3.when.f1_A v_3.when.f1_c c_i64 tr v_3.when.f1) 3) hy_220 fun b_221 o_222 hi_220 => qn 9 [(1, 1, 8, 2), (1, 0, 0, 0), (0, 1, 0, 0)] (fc (hi_220 .i64) f0) [(155, B (decide (v_204 < v_220)))] (sb 155 (bt h_223) (qn 3 [] f0 [(158, B (!v_152))] (sb 158 (nt h_224) (qn 2 [] f0 [(159, I v_7), (160, Pt g_4 1)] (sb 159 (v := I v_7) (v' := I 1) (iz h_219) (fx inf22 (gd' (RowC v_3.when.f1_A v_3.when.f1_c c_i64 tr v_3.when.f1) 4) hy_225 fun b_226 o_227 hi_225 => qn 7 [(1, 1, 9, 2), (1, 0, 0, 0), (0, 1, 0, 0)] (fc (hi_225 .i64) f0) (ns 165 [I v_225, I v_5, Pt g_4 1]) (sb 166 (v := I v_5) (v' := I 1) (iz h_203) (fx inf22 (gd' (RowC v_3.when.f1_A v_3.when.f1_c c_i64 tr v_3.when.f1) 5) hy_228 fun b_229 o_230 hi_228 => qa [(1, 1, 10, 2), (1, 0, 0, 0), (0, 1, 0, 0)] (fc (hi_228 .i64) f0) [(8, B (decide (v_225 < v_228)))] (tN (fun _ _ S k e => ⟨decide (v_225 < v_228), S, k.wk, e.sel [], oi hG⟩)))))))))))))))))))
               ·exact qb (qn 2 [] f0 [(134, B v_1)] (sb 134 (bt h_161) (qn 3 [] f0 [(137, B (!v_148))] (sb 137 (nt h_162) (qn 2 [] f0 [(138, I v_5), (139, Pt g_4 1)] (sb 138 (v := I v_5) (v' := I 1) (iz h_203) (fx inf22 (gd' (RowC v_3.when.f1_A v_3.when.f1_c c_i64 tr v_3.when.f1) 2) hy_204 fun b_205 o_206 hi_204 => qn 7 [(1, 1, 7, 2), (1, 0, 0, 0), (0, 1, 0, 0)] (fc (hi_204 .i64) f0) (ns 144 [I v_204, I v_7, Pt g_4 1]) (sb 145 (v := I v_7) (v' := I 1) (iz h_219) (fx inf22 (gd' (RowC v_3.when.f1_A v_3.when.f1_c c_i64 tr v_3.when.f1) 3) hy_220 fun b_221 o_222 hi_220 => qn 9 [(1, 1, 8, 2), (1, 0, 0, 0), (0, 1, 0, 0)] (fc (hi_220 .i64) f0) [(155, B (decide (v_204 < v_220)))] (sb 155 (bt h_223) (qn 3 [] f0 [(158, B (!v_152))] (sb 158 (nf h_224) (qa [] f0 [(8, B true)] (tN (fun _ _ S k e => ⟨true, S, k.wk, e.sel [], oi hG⟩)))))))))))))))
              ·exact qb (qn 2 [] f0 [(134, B v_1)] (sb 134 (bt h_161) (qn 3 [] f0 [(137, B (!v_148))] (sb 137 (nt h_162) (qn 2 [] f0 [(138, I v_5), (139, Pt g_4 1)] (sb 138 (v := I v_5) (v' := I 1) (iz h_203) (fx inf22 (gd' (RowC v_3.when.f1_A v_3.when.f1_c c_i64 tr v_3.when.f1) 2) hy_204 fun b_205 o_206 hi_204 => qn 7 [(1, 1, 7, 2), (1, 0, 0, 0), (0, 1, 0, 0)] (fc (hi_204 .i64) f0) (ns 144 [I v_204, I v_7, Pt g_4 1]) (sb 145 (v := I v_7) (v' := I 1) (iz h_219) (fx inf22 (gd' (RowC v_3.when.f1_A v_3.when.f1_c c_i64 tr v_3.when.f1) 3) hy_220 fun b_221 o_222 hi_220 => qn 9 [(1, 1, 8, 2), (1, 0, 0, 0), (0, 1, 0, 0)] (fc (hi_220 .i64) f0) [(155, B (decide (v_204 < v_220)))] (sb 155 (bf h_223) (qa [] f0 [(8, B false)] (tN (fun _ _ S k e => ⟨false, S, k.wk, e.sel [], oi hG⟩)))))))))))))
             ·rcases ic hG with ⟨h_231, hG⟩ | ⟨h_231, hG⟩
              ·obtain ⟨v_232, hy_232, hG⟩ := bs hG; rcases ic hG with ⟨h_235, hG⟩ | ⟨h_235, hG⟩
               ·rcases ic hG with ⟨h_236, hG⟩ | ⟨h_236, hG⟩
                ·obtain ⟨v_237, hy_237, hG⟩ := bs hG; obtain ⟨v_240, hy_240, hG⟩ := bs hG; exact qb (qn 2 [] f0 [(134, B v_1)] (sb 134 (bt h_161) (qn 3 [] f0 [(137, B (!v_148))] (sb 137 (nt h_162) (qn 2 [] f0 [(138, I v_5), (139, Pt g_4 1)] (sb 138 (v := I v_5) (v' := I 1) (iz h_203) (fx inf22 (gd' (RowC v_3.when.f1_A v_3.when.f1_c c_i64 tr v_3.when.f1) 2) hy_204 fun b_205 o_206 hi_204 => qn 7 [(1, 1, 7, 2), (1, 0, 0, 0), (0, 1, 0, 0)] (fc (hi_204 .i64) f0) (ns 144 [I v_204, I v_7, Pt g_4 1]) (sb 145 (v := I v_7) (v' := I 2) (iz h_231) (fx inf22 (gd' (RowC v_3.when.f2_A v_3.when.f2_c c_i64 tr v_3.when.f2) 4) hy_232 fun b_233 o_234 hi_232 => qn 9 [(1, 1, 8, 3), (1, 0, 0, 0), (0, 1, 0, 0)] (fc (hi_232 .i64) f0) [(155, B (decide (v_204 < v_232)))] (sb 155 (bt h_235) (qn 3 [] f0 [(158, B (!v_152))] (sb 158 (nt h_236) (qn 2 [] f0 [(159, I v_7), (160, Pt g_4 1)] (sb 159 (v := I v_7) (v' := I 2) (iz h_231) (fx inf22 (gd' (RowC v_3.when.f2_A v_3.when.f2_c c_i64 tr v_3.when.f2) 5) hy_237 fun b_238 o_239 hi_237 => qn 7 [(1, 1, 9, 3), (1, 0, 0, 0), (0, 1, 0, 0)] (fc (hi_237 .i64) f0) (ns 165 [I v_237, I v_5, Pt g_4 1]) (sb 166 (v := I v_5) (v' := I 1) (iz h_203) (fx inf22 (gd' (RowC v_3.when.f1_A v_3.when.f1_c c_i64 tr v_3.when.f1) 5) hy_240 fun b_241 o_242 hi_240 => qa [(1, 1, 10, 2), (1, 0, 0, 0), (0, 1, 0, 0)] (fc (hi_240 .i64) f0) [(8, B (decide (v_237 < v_240)))] (tN (fun _ _ S k e => ⟨decide (v_237 < v_240), S, k.wk, e.sel [], oi hG⟩)))))))))))))))))))
                ·exact qb (qn 2 [] f0 [(134, B v_1)] (sb 134 (bt h_161) (qn 3 [] f0 [(137, B (!v_148))] (sb 137 (nt h_162) (qn 2 [] f0 [(138, I v_5), (139, Pt g_4 1)] (sb 138 (v := I v_5) (v' := I 1) (iz h_203) (fx inf22 (gd' (RowC v_3.when.f1_A v_3.when.f1_c c_i64 tr v_3.when.f1) 2) hy_204 fun b_205 o_206 hi_204 => qn 7 [(1, 1, 7, 2), (1, 0, 0, 0), (0, 1, 0, 0)] (fc (hi_204 .i64) f0) (ns 144 [I v_204, I v_7, Pt g_4 1]) (sb 145 (v := I v_7) (v' := I 2) (iz h_231) (fx inf22 (gd' (RowC v_3.when.f2_A v_3.when.f2_c c_i64 tr v_3.when.f2) 4) hy_232 fun b_233 o_234 hi_232 => qn 9 [(1, 1, 8, 3), (1, 0, 0, 0), (0, 1, 0, 0)] (fc (hi_232 .i64) f0) [(155, B (decide (v_204 < v_232)))] (sb 155 (bt h_235) (qn 3 [] f0 [(158, B (!v_152))] (sb 158 (nf h_236) (qa [] f0 [(8, B true)] (tN (fun _ _ S k e => ⟨true, S, k.wk, e.sel [], oi hG⟩)))))))))))))))
               ·exact qb (qn 2 [] f0 [(134, B v_1)] (sb 134 (bt h_161) (qn 3 [] f0 [(137, B (!v_148))] (sb 137 (nt h_162) (qn 2 [] f0 [(138, I v_5), (139, Pt g_4 1)] (sb 138 (v := I v_5) (v' := I 1) (iz h_203) (fx inf22 (gd' (RowC v_3.when.f1_A v_3.when.f1_c c_i64 tr v_3.when.f1) 2) hy_204 fun b_205 o_206 hi_204 => qn 7 [(1, 1, 7, 2), (1, 0, 0, 0), (0, 1, 0, 0)] (fc (hi_204 .i64) f0) (ns 144 [I v_204, I v_7, Pt g_4 1]) (sb 145 (v := I v_7) (v' := I 2) (iz h_231) (fx inf22 (gd' (RowC v_3.when.f2_A v_3.when.f2_c c_i64 tr v_3.when.f2) 4) hy_232 fun b_233 o_234 hi_232 => qn 9 [(1, 1, 8, 3), (1, 0, 0, 0), (0, 1, 0, 0)] (fc (hi_232 .i64) f0) [(155, B (decide (v_204 < v_232)))] (sb 155 (bf h_235) (qa [] f0 [(8, B false)] (tN (fun _ _ S k e => ⟨false, S, k.wk, e.sel [], oi hG⟩)))))))))))))
              ·cases hG
           ·rcases ic hG with ⟨h_243, hG⟩ | ⟨h_243, hG⟩
            ·obtain ⟨v_244, hy_244, hG⟩ := bs hG; rcases ic hG with ⟨h_247, hG⟩ | ⟨h_247, hG⟩
             ·obtain ⟨v_248, hy_248, hG⟩ := bs hG; rcases ic hG with ⟨h_251, hG⟩ | ⟨h_251, hG⟩
              ·rcases ic hG with ⟨h_252, hG⟩ | ⟨h_252, hG⟩
               ·obtain ⟨v_253, hy_253, hG⟩ := bs hG; obtain ⟨v_256, hy_256, hG⟩ := bs hG; exact qb (qn 2 [] f0 [(134, B v_1)] (sb 134 (bt h_161) (qn 3 [] f0 [(137, B (!v_148))] (sb 137 (nt h_162) (qn 2 [] f0 [(138, I v_5), (139, Pt g_4 1)] (sb 138 (v := I v_5) (v' := I 2) (iz h_243) (fx inf22 (gd' (RowC v_3.when.f2_A v_3.when.f2_c c_i64 tr v_3.when.f2) 3) hy_244 fun b_245 o_246 hi_244 => qn 7 [(1, 1, 7, 3), (1, 0, 0, 0), (0, 1, 0, 0)] (fc (hi_244 .i64) f0) (ns 144 [I v_244, I v_7, Pt g_4 1]) (sb 145 (v := I v_7) (v' := I 0) (iz h_247) (fx inf22 (gd' (RowC v_3.when.f0_A v_3.when.f0_c c_i64 tr v_3.when.f0) 2) hy_248 fun b_249 o_250 hi_248 => qn 9 [(1, 1, 8, 1), (1, 0, 0, 0), (0, 1, 0, 0)] (fc (hi_248 .i64) f0) [(155, B (decide (v_244 < v_248)))] (sb 155 (bt h_251) (qn 3 [] f0 [(158, B (!v_152))] (sb 158 (nt h_252) (qn 2 [] f0 [(159, I v_7), (160, Pt g_4 1)] (sb 159 (v := I v_7) (v' := I 0) (iz h_247) (fx inf22 (gd' (RowC v_3.when.f0_A v_3.when.f0_c c_i64 tr v_3.when.f0) 3) hy_253 fun b_254 o_255 hi_253 => qn 7 [(1, 1, 9, 1), (1, 0, 0, 0), (0, 1, 0, 0)] (fc (hi_253 .i64) f0) (ns 165 [I v_253, I v_5, Pt g_4 1]) (sb 166 (v := I v_5) (v' := I 2) (iz h_243) (fx inf22 (gd' (RowC v_3.when.f2_A v_3.when.f2_c c_i64 tr v_3.when.f2) 6) hy_256 fun b_257 o_258 hi_256 => qa [(1, 1, 10, 3), (1, 0, 0, 0), (0, 1, 0, 0)] (fc (hi_256 .i64) f0) [(8, B (decide (v_253 < v_256)))] (tN (fun _ _ S k e => ⟨decide (v_253 < v_256), S, k.wk, e.sel [], oi hG⟩)))))))))))))))))))
               ·exact qb (qn 2 [] f0 [(134, B v_1)] (sb 134 (bt h_161) (qn 3 [] f0 [(137, B (!v_148))] (sb 137 (nt h_162) (qn 2 [] f0 [(138, I v_5), (139, Pt g_4 1)] (sb 138 (v := I v_5) (v' := I 2) (iz h_243) (fx inf22 (gd' (RowC v_3.when.f2_A v_3.when.f2_c c_i64 tr v_3.when.f2) 3) hy_244 fun b_245 o_246 hi_244 => qn 7 [(1, 1, 7, 3), (1, 0, 0, 0), (0, 1, 0, 0)] (fc (hi_244 .i64) f0) (ns 144 [I v_244, I v_7, Pt g_4 1]) (sb 145 (v := I v_7) (v' := I 0) (iz h_247) (fx inf22 (gd' (RowC v_3.when.f0_A v_3.when.f0_c c_i64 tr v_3.when.f0) 2) hy_248 fun b_249 o_250 hi_248 => qn 9 [(1, 1, 8, 1), (1, 0, 0, 0), (0, 1, 0, 0)] (fc (hi_248 .i64) f0) [(155, B (decide (v_244 < v_248)))] (sb 155 (bt h_251) (qn 3 [] f0 [(158, B (!v_152))] (sb 158 (nf h_252) (qa [] f0 [(8, B true)] (tN (fun _ _ S k e => ⟨true, S, k.wk, e.sel [], oi hG⟩)))))))))))))))
              ·exact qb (qn 2 [] f0 [(134, B v_1)] (sb 134 (bt h_161) (qn 3 [] f0 [(137, B (!v_148))] (sb 137 (nt h_162) (qn 2 [] f0 [(138, I v_5), (139, Pt g_4 1)] (sb 138 (v := I v_5) (v' := I 2) (iz h_243) (fx inf22 (gd' (RowC v_3.when.f2_A v_3.when.f2_c c_i64 tr v_3.when.f2) 3) hy_244 fun b_245 o_246 hi_244 => qn 7 [(1, 1, 7, 3), (1, 0, 0, 0), (0, 1, 0, 0)] (fc (hi_244 .i64) f0) (ns 144 [I v_244, I v_7, Pt g_4 1]) (sb 145 (v := I v_7) (v' := I 0) (iz h_247) (fx inf22 (gd' (RowC v_3.when.f0_A v_3.when.f0_c c_i64 tr v_3.when.f0) 2) hy_248 fun b_249 o_250 hi_248 => qn 9 [(1, 1, 8, 1), (1, 0, 0, 0), (0, 1, 0, 0)] (fc (hi_248 .i64) f0) [(155, B (decide (v_244 < v_248)))] (sb 155 (bf h_251) (qa [] f0 [(8, B false)] (tN (fun _ _ S k e => ⟨false, S, k.wk, e.sel [], oi hG⟩)))))))))))))
             ·rcases ic hG with ⟨h_259, hG⟩ | ⟨h_259, hG⟩
              ·obtain ⟨v_260, hy_260, hG⟩ := bs hG; rcases ic hG with ⟨h_263, hG⟩ | ⟨h_263, hG⟩
               ·rcases ic hG with ⟨h_264, hG⟩ | ⟨h_264, hG⟩
                ·obtain ⟨v_265, hy_265, hG⟩ := bs hG; obtain ⟨v_268, hy_268, hG⟩ := bs hG; exact qb (qn 2 [] f0 [(134, B v_1)] (sb 134 (bt h_161) (qn 3 [] f0 [(137, B (!v_148))] (sb 137 (nt h_162) (qn 2 [] f0 [(138, I v_5), (139, Pt g_4 1)] (sb 138 (v := I v_5) (v' := I 2) (iz h_243) (fx inf22 (gd' (RowC v_3.when.f2_A v_3.when.f2_c c_i64 tr v_3.when.f2) 3) hy_244 fun b_245 o_246 hi_244 => qn 7 [(1, 1, 7, 3), (1, 0, 0, 0), (0, 1, 0, 0)] (fc (hi_244 .i64) f0) (ns 144 [I v_244, I v_7, Pt g_4 1]) (sb 145 (v := I v_7) (v' := I 1) (iz h_259) (fx inf22 (gd' (RowC v_3.when.f1_A v_3.when.f1_c c_i64 tr v_3.when.f1) 3) hy_260 fun b_261 o_262 hi_260 => qn 9 [(1, 1, 8, 2), (1, 0, 0, 0), (0, 1, 0, 0)] (fc (hi_260 .i64) f0) [(155, B (decide (v_244 < v_260)))] (sb 155 (bt h_263) (qn 3 [] f0 [(158, B (!v_152))] (sb 158 (nt h_264) (qn 2 [] f0 [(159, I v_7), (160, Pt g_4 1)] (sb 159 (v := I v_7) (v' := I 1) (iz h_259) (fx inf22 (gd' (RowC v_3.when.f1_A v_3.when.f1_c c_i64 tr v_3.when.f1) 4) hy_265 fun b_266 o_267 hi_265 => qn 7 [(1, 1, 9, 2), (1, 0, 0, 0), (0, 1, 0, 0)] (fc (hi_265 .i64) f0) (ns 165 [I v_265, I v_5, Pt g_4 1]) (sb 166 (v := I v_5) (v' := I 2) (iz h_243) (fx inf22 (gd' (RowC v_3.when.f2_A v_3.when.f2_c c_i64 tr v_3.when.f2) 6) hy_268 fun b_269 o_270 hi_268 => qa [(1, 1, 10, 3), (1, 0, 0, 0), (0, 1, 0, 0)] (fc (hi_268 .i64) f0) [(8, B (decide (v_265 < v_268)))] (tN (fun _ _ S k e => ⟨decide (v_265 < v_268), S, k.wk, e.sel [], oi hG⟩)))))))))))))))))))
                ·exact qb (qn 2 [] f0 [(134, B v_1)] (sb 134 (bt h_161) (qn 3 [] f0 [(137, B (!v_148))] (sb 137 (nt h_162) (qn 2 [] f0 [(138, I v_5), (139, Pt g_4 1)] (sb 138 (v := I v_5) (v' := I 2) (iz h_243) (fx inf22 (gd' (RowC v_3.when.f2_A v_3.when.f2_c c_i64 tr v_3.when.f2) 3) hy_244 fun b_245 o_246 hi_244 => qn 7 [(1, 1, 7, 3), (1, 0, 0, 0), (0, 1, 0, 0)] (fc (hi_244 .i64) f0) (ns 144 [I v_244, I v_7, Pt g_4 1]) (sb 145 (v := I v_7) (v' := I 1) (iz h_259) (fx inf22 (gd' (RowC v_3.when.f1_A v_3.when.f1_c c_i64 tr v_3.when.f1) 3) hy_260 fun b_261 o_262 hi_260 => qn 9 [(1, 1, 8, 2), (1, 0, 0, 0), (0, 1, 0, 0)] (fc (hi_260 .i64) f0) [(155, B (decide (v_244 < v_260)))] (sb 155 (bt h_263) (qn 3 [] f0 [(158, B (!v_152))] (sb 158 (nf h_264) (qa [] f0 [(8, B true)] (tN (fun _ _ S k e => ⟨true, S, k.wk, e.sel [], oi hG⟩)))))))))))))))
               ·exact qb (qn 2 [] f0 [(134, B v_1)] (sb 134 (bt h_161) (qn 3 [] f0 [(137, B (!v_148))] (sb 137 (nt h_162) (qn 2 [] f0 [(138, I v_5), (139, Pt g_4 1)] (sb 138 (v := I v_5) (v' := I 2) (iz h_243) (fx inf22 (gd' (RowC v_3.when.f2_A v_3.when.f2_c c_i64 tr v_3.when.f2) 3) hy_244 fun b_245 o_246 hi_244 => qn 7 [(1, 1, 7, 3), (1, 0, 0, 0), (0, 1, 0, 0)] (fc (hi_244 .i64) f0) (ns 144 [I v_244, I v_7, Pt g_4 1]) (sb 145 (v := I v_7) (v' := I 1) (iz h_259) (fx inf22 (gd' (RowC v_3.when.f1_A v_3.when.f1_c c_i64 tr v_3.when.f1) 3) hy_260 fun b_261 o_262 hi_260 => qn 9 [(1, 1, 8, 2), (1, 0, 0, 0), (0, 1, 0, 0)] (fc (hi_260 .i64) f0) [(155, B (decide (v_244 < v_260)))] (sb 155 (bf h_263) (qa [] f0 [(8, B false)] (tN (fun _ _ S k e => ⟨false, S, k.wk, e.sel [], oi hG⟩)))))))))))))
              ·rcases ic hG with ⟨h_271, hG⟩ | ⟨h_271, hG⟩
               ·obtain ⟨v_272, hy_272, hG⟩ := bs hG; rcases ic hG with ⟨h_275, hG⟩ | ⟨h_275, hG⟩
                ·rcases ic hG with ⟨h_276, hG⟩ | ⟨h_276, hG⟩
                 ·obtain ⟨v_277, hy_277, hG⟩ := bs hG; obtain ⟨v_280, hy_280, hG⟩ := bs hG; exact qb (qn 2 [] f0 [(134, B v_1)] (sb 134 (bt h_161) (qn 3 [] f0 [(137, B (!v_148))] (sb 137 (nt h_162) (qn 2 [] f0 [(138, I v_5), (139, Pt g_4 1)] (sb 138 (v := I v_5) (v' := I 2) (iz h_243) (fx inf22 (gd' (RowC v_3.when.f2_A v_3.when.f2_c c_i64 tr v_3.when.f2) 3) hy_244 fun b_245 o_246 hi_244 => qn 7 [(1, 1, 7, 3), (1, 0, 0, 0), (0, 1, 0, 0)] (fc (hi_244 .i64) f0) (ns 144 [I v_244, I v_7, Pt g_4 1]) (sb 145 (v := I v_7) (v' := I 2) (iz h_271) (fx inf22 (gd' (RowC v_3.when.f2_A v_3.when.f2_c c_i64 tr v_3.when.f2) 4) hy_272 fun b_273 o_274 hi_272 => qn 9 [(1, 1, 8, 3), (1, 0, 0, 0), (0, 1, 0, 0)] (fc (hi_272 .i64) f0) [(155, B (decide (v_244 < v_272)))] (sb 155 (bt h_275) (qn 3 [] f0 [(158, B (!v_152))] (sb 158 (nt h_276) (qn 2 [] f0 [(159, I v_7), (160, Pt g_4 1)] (sb 159 (v := I v_7) (v' := I 2) (iz h_271) (fx inf22 (gd' (RowC v_3.when.f2_A v_3.when.f2_c c_i64 tr v_3.when.f2) 5) hy_277 fun b_278 o_279 hi_277 => qn 7 [(1, 1, 9, 3), (1, 0, 0, 0), (0, 1, 0, 0)] (fc (hi_277 .i64) f0) (ns 165 [I v_277, I v_5, Pt g_4 1]) (sb 166 (v := I v_5) (v' := I 2) (iz h_243) (fx inf22 (gd' (RowC v_3.when.f2_A v_3.when.f2_c c_i64 tr v_3.when.f2) 6) hy_280 fun b_281 o_282 hi_280 => qa [(1, 1, 10, 3), (1, 0, 0, 0), (0, 1, 0, 0)] (fc (hi_280 .i64) f0) [(8, B (decide (v_277 < v_280)))] (tN (fun _ _ S k e => ⟨decide (v_277 < v_280), S, k.wk, e.sel [], oi hG⟩)))))))))))))))))))
                 ·exact qb (qn 2 [] f0 [(134, B v_1)] (sb 134 (bt h_161) (qn 3 [] f0 [(137, B (!v_148))] (sb 137 (nt h_162) (qn 2 [] f0 [(138, I v_5), (139, Pt g_4 1)] (sb 138 (v := I v_5) (v' := I 2) (iz h_243) (fx inf22 (gd' (RowC v_3.when.f2_A v_3.when.f2_c c_i64 tr v_3.when.f2) 3) hy_244 fun b_245 o_246 hi_244 => qn 7 [(1, 1, 7, 3), (1, 0, 0, 0), (0, 1, 0, 0)] (fc (hi_244 .i64) f0) (ns 144 [I v_244, I v_7, Pt g_4 1]) (sb 145 (v := I v_7) (v' := I 2) (iz h_271) (fx inf22 (gd' (RowC v_3.when.f2_A v_3.when.f2_c c_i64 tr v_3.when.f2) 4) hy_272 fun b_273 o_274 hi_272 => qn 9 [(1, 1, 8, 3), (1, 0, 0, 0), (0, 1, 0, 0)] (fc (hi_272 .i64) f0) [(155, B (decide (v_244 < v_272)))] (sb 155 (bt h_275) (qn 3 [] f0 [(158, B (!v_152))] (sb 158 (nf h_276) (qa [] f0 [(8, B true)] (tN (fun _ _ S k e => ⟨true, S, k.wk, e.sel [], oi hG⟩)))))))))))))))
                ·exact qb (qn 2 [] f0 [(134, B v_1)] (sb 134 (bt h_161) (qn 3 [] f0 [(137, B (!v_148))] (sb 137 (nt h_162) (qn 2 [] f0 [(138, I v_5), (139, Pt g_4 1)] (sb 138 (v := I v_5) (v' := I 2) (iz h_243) (fx inf22 (gd' (RowC v_3.when.f2_A v_3.when.f2_c c_i64 tr v_3.when.f2) 3) hy_244 fun b_245 o_246 hi_244 => qn 7 [(1, 1, 7, 3), (1, 0, 0, 0), (0, 1, 0, 0)] (fc (hi_244 .i64) f0) (ns 144 [I v_244, I v_7, Pt g_4 1]) (sb 145 (v := I v_7) (v' := I 2) (iz h_271) (fx inf22 (gd' (RowC v_3.when.f2_A v_3.when.f2_c c_i64 tr v_3.when.f2) 4) hy_272 fun b_273 o_274 hi_272 => qn 9 [(1, 1, 8, 3), (1, 0, 0, 0), (0, 1, 0, 0)] (fc (hi_272 .i64) f0) [(155, B (decide (v_244 < v_272)))] (sb 155 (bf h_275) (qa [] f0 [(8, B false)] (tN (fun _ _ S k e => ⟨false, S, k.wk, e.sel [], oi hG⟩)))))))))))))
               ·cases hG
            ·cases hG
         ·rcases ic hG with ⟨h_283, hG⟩ | ⟨h_283, hG⟩
          ·rcases ic hG with ⟨h_284, hG⟩ | ⟨h_284, hG⟩
           ·obtain ⟨v_285, hy_285, hG⟩ := bs hG; rcases ic hG with ⟨h_288, hG⟩ | ⟨h_288, hG⟩
            ·obtain ⟨v_289, hy_289, hG⟩ := bs hG; exact qb (qn 2 [] f0 [(134, B v_1)] (sb 134 (bt h_161) (qn 3 [] f0 [(137, B (!v_148))] (sb 137 (nf h_162) (qn 21 [] f0 [(155, B true), (158, B (!v_152))] (sb 158 (nt h_283) (qn 2 [] f0 [(159, I v_7), (160, Pt g_4 1)] (sb 159 (v := I v_7) (v' := I 0) (iz h_284) (fx inf22 (gd' (RowC v_3.when.f0_A v_3.when.f0_c c_i64 tr v_3.when.f0) 1) hy_285 fun b_286 o_287 hi_285 => qn 7 [(1, 1, 7, 1), (1, 0, 0, 0), (0, 1, 0, 0)] (fc (hi_285 .i64) f0) (ns 165 [I v_285, I v_5, Pt g_4 1]) (sb 166 (v := I v_5) (v' := I 0) (iz h_288) (fx inf22 (gd' (RowC v_3.when.f0_A v_3.when.f0_c c_i64 tr v_3.when.f0) 2) hy_289 fun b_290 o_291 hi_289 => qa [(1, 1, 8, 1), (1, 0, 0, 0), (0, 1, 0, 0)] (fc (hi_289 .i64) f0) [(8, B (decide (v_285 < v_289)))] (tN (fun _ _ S k e => ⟨decide (v_285 < v_289), S, k.wk, e.sel [], oi hG⟩)))))))))))))
            ·rcases ic hG with ⟨h_292, hG⟩ | ⟨h_292, hG⟩
             ·obtain ⟨v_293, hy_293, hG⟩ := bs hG; exact qb (qn 2 [] f0 [(134, B v_1)] (sb 134 (bt h_161) (qn 3 [] f0 [(137, B (!v_148))] (sb 137 (nf h_162) (qn 21 [] f0 [(155, B true), (158, B (!v_152))] (sb 158 (nt h_283) (qn 2 [] f0 [(159, I v_7), (160, Pt g_4 1)] (sb 159 (v := I v_7) (v' := I 0) (iz h_284) (fx inf22 (gd' (RowC v_3.when.f0_A v_3.when.f0_c c_i64 tr v_3.when.f0) 1) hy_285 fun b_286 o_287 hi_285 => qn 7 [(1, 1, 7, 1), (1, 0, 0, 0), (0, 1, 0, 0)] (fc (hi_285 .i64) f0) (ns 165 [I v_285, I v_5, Pt g_4 1]) (sb 166 (v := I v_5) (v' := I 1) (iz h_292) (fx inf22 (gd' (RowC v_3.when.f1_A v_3.when.f1_c c_i64 tr v_3.when.f1) 3) hy_293 fun b_294 o_295 hi_293 => qa [(1, 1, 8, 2), (1, 0, 0, 0), (0, 1, 0, 0)] (fc (hi_293 .i64) f0) [(8, B (decide (v_285 < v_293)))] (tN (fun _ _ S k e => ⟨decide (v_285 < v_293), S, k.wk, e.sel [], oi hG⟩)))))))))))))
             ·rcases ic hG with ⟨h_296, hG⟩ | ⟨h_296, hG⟩
              ·obtain ⟨v_297, hy_297, hG⟩ := bs hG; exact qb (qn 2 [] f0 [(134, B v_1)] (sb 134 (bt h_161) (qn 3 [] f0 [(137, B (!v_148))] (sb 137 (nf h_162) (qn 21 [] f0 [(155, B true), (158, B (!v_152))] (sb 158 (nt h_283) (qn 2 [] f0 [(159, I v_7), (160, Pt g_4 1)] (sb 159 (v := I v_7) (v' := I 0) (iz h_284) (fx inf22 (gd' (RowC v_3.when.f0_A v_3.when.f0_c c_i64 tr v_3.when.f0) 1) hy_285 fun b_286 o_287 hi_285 => qn 7 [(1, 1, 7, 1), (1, 0, 0, 0), (0, 1, 0, 0)] (fc (hi_285 .i64) f0) (ns 165 [I v_285, I v_5, Pt g_4 1]) (sb 166 (v := I v_5) (v' := I 2) (iz h_296) (fx inf22 (gd' (RowC v_3.when.f2_A v_3.when.f2_c c_i64 tr v_3.when.f2) 4) hy_297 fun b_298 o_299 hi_297 => qa [(1, 1, 8, 3), (1, 0, 0, 0), (0, 1, 0, 0)] (fc (hi_297 .i64) f0) [(8, B (decide (v_285 < v_297)))] (tN (fun _ _ S k e => ⟨decide (v_285 < v_297), S, k.wk, e.sel [], oi hG⟩)))))))))))))
              ·cases hG
           ·rcases ic hG with ⟨h_300, hG⟩ | ⟨h_300, hG⟩
            ·obtain ⟨v_301, hy_301, hG⟩ := bs hG; rcases ic hG with ⟨h_304, hG⟩ | ⟨h_304, hG⟩
             ·obtain ⟨v_305, hy_305, hG⟩ := bs hG; exact qb (qn 2 [] f0 [(134, B v_1)] (sb 134 (bt h_161) (qn 3 [] f0 [(137, B (!v_148))] (sb 137 (nf h_162) (qn 21 [] f0 [(155, B true), (158, B (!v_152))] (sb 158 (nt h_283) (qn 2 [] f0 [(159, I v_7), (160, Pt g_4 1)] (sb 159 (v := I v_7) (v' := I 1) (iz h_300) (fx inf22 (gd' (RowC v_3.when.f1_A v_3.when.f1_c c_i64 tr v_3.when.f1) 2) hy_301 fun b_302 o_303 hi_301 => qn 7 [(1, 1, 7, 2), (1, 0, 0, 0), (0, 1, 0, 0)] (fc (hi_301 .i64) f0) (ns 165 [I v_301, I v_5, Pt g_4 1]) (sb 166 (v := I v_5) (v' := I 0) (iz h_304) (fx inf22 (gd' (RowC v_3.when.f0_A v_3.when.f0_c c_i64 tr v_3.when.f0) 2) hy_305 fun b_306 o_307 hi_305 => qa [(1, 1, 8, 1), (1, 0, 0, 0), (0, 1, 0, 0)] (fc (hi_305 .i64) f0) [(8, B (decide (v_301 < v_305)))] (tN (fun _ _ S k e => ⟨decide (v_301 < v_305), S, k.wk, e.sel [], oi hG⟩)))))))))))))
             ·rcases ic hG with ⟨h_308, hG⟩ | ⟨h_308, hG⟩
              ·obtain ⟨v_309, hy_309, hG⟩ := bs hG; exact qb (qn 2 [] f0 [(134, B v_1)] (sb 134 (bt h_161) (qn 3 [] f0 [(137, B (!v_148))] (sb 137 (nf h_162) (qn 21 [] f0 [(155, B true), (158, B (!v_152))] (sb 158 (nt h_283) (qn 2 [] f0 [(159, I v_7), (160, Pt g_4 1)] (sb 159 (v := I v_7) (v' := I 1) (iz h_300) (fx inf22 (gd' (RowC v_3.when.f1_A v_3.when.f1_c c_i64 tr v_3.when.f1) 2) hy_301 fun b_302 o_303 hi_301 => qn 7 [(1, 1, 7, 2), (1, 0, 0, 0), (0, 1, 0, 0)] (fc (hi_301 .i64) f0) (ns 165 [I v_301, I v_5, Pt g_4 1]) (sb 166 (v := I v_5) (v' := I 1) (iz h_308) (fx inf22 (gd' (RowC v_3.when.f1_A v_3.when.f1_c c_i64 tr v_3.when.f1) 3) hy_309 fun b_310 o_311 hi_309 => qa [(1, 1, 8, 2), (1, 0, 0, 0), (0, 1, 0, 0)] (fc (hi_309 .i64) f0) [(8, B (decide (v_301 < v_309)))] (tN (fun _ _ S k e => ⟨decide (v_301 < v_309), S, k.wk, e.sel [], oi hG⟩)))))))))))))
              ·rcases ic hG with ⟨h_312, hG⟩ | ⟨h_312, hG⟩
               ·obtain ⟨v_313, hy_313, hG⟩ := bs hG; exact qb (qn 2 [] f0 [(134, B v_1)] (sb 134 (bt h_161) (qn 3 [] f0 [(137, B (!v_148))] (sb 137 (nf h_162) (qn 21 [] f0 [(155, B true), (158, B (!v_152))] (sb 158 (nt h_283) (qn 2 [] f0 [(159, I v_7), (160, Pt g_4 1)] (sb 159 (v := I v_7) (v' := I 1) (iz h_300) (fx inf22 (gd' (RowC v_3.when.f1_A v_3.when.f1_c c_i64 tr v_3.when.f1) 2) hy_301 fun b_302 o_303 hi_301 => qn 7 [(1, 1, 7, 2), (1, 0, 0, 0), (0, 1, 0, 0)] (fc (hi_301 .i64) f0) (ns 165 [I v_301, I v_5, Pt g_4 1]) (sb 166 (v := I v_5) (v' := I 2) (iz h_312) (fx inf22 (gd' (RowC v_3.when.f2_A v_3.when.f2_c c_i64 tr v_3.when.f2) 4) hy_313 fun b_314 o_315 hi_313 => qa [(1, 1, 8, 3), (1, 0, 0, 0), (0, 1, 0, 0)] (fc (hi_313 .i64) f0) [(8, B (decide (v_301 < v_313)))] (tN (fun _ _ S k e => ⟨decide (v_301 < v_313), S, k.wk, e.sel [], oi hG⟩)))))))))))))
               ·cases hG
            ·rcases ic hG with ⟨h_316, hG⟩ | ⟨h_316, hG⟩
             ·obtain ⟨v_317, hy_317, hG⟩ := bs hG; rcases ic hG with ⟨h_320, hG⟩ | ⟨h_320, hG⟩
              ·obtain ⟨v_321, hy_321, hG⟩ := bs hG; exact qb (qn 2 [] f0 [(134, B v_1)] (sb 134 (bt h_161) (qn 3 [] f0 [(137, B (!v_148))] (sb 137 (nf h_162) (qn 21 [] f0 [(155, B true), (158, B (!v_152))] (sb 158 (nt h_283) (qn 2 [] f0 [(159, I v_7), (160, Pt g_4 1)] (sb 159 (v := I v_7) (v' := I 2) (iz h_316) (fx inf22 (gd' (RowC v_3.when.f2_A v_3.when.f2_c c_i64 tr v_3.when.f2) 3) hy_317 fun b_318 o_319 hi_317 => qn 7 [(1, 1, 7, 3), (1, 0, 0, 0), (0, 1, 0, 0)] (fc (hi_317 .i64) f0) (ns 165 [I v_317, I v_5, Pt g_4 1]) (sb 166 (v := I v_5) (v' := I 0) (iz h_320) (fx inf22 (gd' (RowC v_3.when.f0_A v_3.when.f0_c c_i64 tr v_3.when.f0) 2) hy_321 fun b_322 o_323 hi_321 => qa [(1, 1, 8, 1), (1, 0, 0, 0), (0, 1, 0, 0)] (fc (hi_321 .i64) f0) [(8, B (decide (v_317 < v_321)))] (tN (fun _ _ S k e => ⟨decide (v_317 < v_321), S, k.wk, e.sel [], oi hG⟩)))))))))))))
              ·rcases ic hG with ⟨h_324, hG⟩ | ⟨h_324, hG⟩
               ·obtain ⟨v_325, hy_325, hG⟩ := bs hG; exact qb (qn 2 [] f0 [(134, B v_1)] (sb 134 (bt h_161) (qn 3 [] f0 [(137, B (!v_148))] (sb 137 (nf h_162) (qn 21 [] f0 [(155, B true), (158, B (!v_152))] (sb 158 (nt h_283) (qn 2 [] f0 [(159, I v_7), (160, Pt g_4 1)] (sb 159 (v := I v_7) (v' := I 2) (iz h_316) (fx inf22 (gd' (RowC v_3.when.f2_A v_3.when.f2_c c_i64 tr v_3.when.f2) 3) hy_317 fun b_318 o_319 hi_317 => qn 7 [(1, 1, 7, 3), (1, 0, 0, 0), (0, 1, 0, 0)] (fc (hi_317 .i64) f0) (ns 165 [I v_317, I v_5, Pt g_4 1]) (sb 166 (v := I v_5) (v' := I 1) (iz h_324) (fx inf22 (gd' (RowC v_3.when.f1_A v_3.when.f1_c c_i64 tr v_3.when.f1) 3) hy_325 fun b_326 o_327 hi_325 => qa [(1, 1, 8, 2), (1, 0, 0, 0), (0, 1, 0, 0)] (fc (hi_325 .i64) f0) [(8, B (decide (v_317 < v_325)))] (tN (fun _ _ S k e => ⟨decide (v_317 < v_325), S, k.wk, e.sel [], oi hG⟩)))))))))))))
               ·rcases ic hG with ⟨h_328, hG⟩ | ⟨h_328, hG⟩
                ·obtain ⟨v_329, hy_329, hG⟩ := bs hG; exact qb (qn 2 [] f0 [(134, B v_1)] (sb 134 (bt h_161) (qn 3 [] f0 [(137, B (!v_148))] (sb 137 (nf h_162) (qn 21 [] f0 [(155, B true), (158, B (!v_152))] (sb 158 (nt h_283) (qn 2 [] f0 [(159, I v_7), (160, Pt g_4 1)] (sb 159 (v := I v_7) (v' := I 2) (iz h_316) (fx inf22 (gd' (RowC v_3.when.f2_A v_3.when.f2_c c_i64 tr v_3.when.f2) 3) hy_317 fun b_318 o_319 hi_317 => qn 7 [(1, 1, 7, 3), (1, 0, 0, 0), (0, 1, 0, 0)] (fc (hi_317 .i64) f0) (ns 165 [I v_317, I v_5, Pt g_4 1]) (sb 166 (v := I v_5) (v' := I 2) (iz h_328) (fx inf22 (gd' (RowC v_3.when.f2_A v_3.when.f2_c c_i64 tr v_3.when.f2) 4) hy_329 fun b_330 o_331 hi_329 => qa [(1, 1, 8, 3), (1, 0, 0, 0), (0, 1, 0, 0)] (fc (hi_329 .i64) f0) [(8, B (decide (v_317 < v_329)))] (tN (fun _ _ S k e => ⟨decide (v_317 < v_329), S, k.wk, e.sel [], oi hG⟩)))))))))))))
                ·cases hG
             ·cases hG
          ·exact qb (qn 2 [] f0 [(134, B v_1)] (sb 134 (bt h_161) (qn 3 [] f0 [(137, B (!v_148))] (sb 137 (nf h_162) (qn 21 [] f0 [(155, B true), (158, B (!v_152))] (sb 158 (nf h_283) (qa [] f0 [(8, B true)] (tN (fun _ _ S k e => ⟨true, S, k.wk, e.sel [], oi hG⟩)))))))))
        ·exact qb (qn 2 [] f0 [(134, B v_1)] (sb 134 (bf h_161) (qa [] f0 [(8, B false)] (tN (fun _ _ S k e => ⟨false, S, k.wk, e.sel [], oi hG⟩)))))
       ·rintro a w ⟨v_333, hJ⟩; refine hJ.go ?_; clear hJ; rintro rfl; replace hG := hG_332; refine kR ?_; obtain rfl := oi hG; exact rt []
end Go.Proofs.YtggaodokkcoagaaGreatDoor
namespace Go.Proofs.YtggaodokkcoagaaGreatDoor
open Go.RowKit
def vI (i : Ke) : Bool := decide (0 ≤ i.Lo ∧ i.Lo ≤ i.Hi ∧ i.Hi ≤ 3000000000000000)
theorem vI_p (F : Nat) (i : Ke) : Gag F i = some (vI i) := by
 unfold Gag vI
 by_cases h1 : 0 ≤ i.Lo <;> by_cases h2 : i.Lo ≤ i.Hi <;> by_cases h3 : i.Hi ≤ 3000000000000000 <;> simp [ifB, h1, h2, h3]
theorem logged_p (F : Nat) (e : Kb) : Gu F ⟨e⟩ = some (vI e.Stamp) := by unfold Gu; rw [vI_p]; rfl
theorem btw_p (F : Nat) (n a b : Int) : Gb F n a b = some (decide (a ≤ n ∧ n ≤ b)) := by
 unfold Gb
 by_cases h1 : a ≤ n <;> by_cases h2 : n ≤ b <;> simp [ifB, h1, h2]
theorem within_p (F : Nat) (n a : Int) : Gp F n a = some (decide (a ≤ n ∧ n < 1073741789)) := by
 unfold Gp
 by_cases h1 : a ≤ n <;> by_cases h2 : n < 1073741789 <;> simp [ifB, h1, h2]
def fH (h : Kc) : Bool := decide ((1 ≤ h.Office ∧ h.Office ≤ 16) ∧ (1 ≤ h.Size ∧ h.Size ≤ 4096) ∧ (0 ≤ h.Sig.C ∧ h.Sig.C < 1073741789) ∧ (0 ≤ h.Sig.S ∧ h.Sig.S < 1073741789))
theorem fH_p (F : Nat) (h : Kc) : Gt F h = some (fH h) := by
 unfold Gt fH; simp only [btw_p, ob_some]
 by_cases h1 : 1 ≤ h.Office ∧ h.Office ≤ 16 <;> by_cases h2 : 1 ≤ h.Size ∧ h.Size ≤ 4096 <;> by_cases h3 : 0 ≤ h.Sig.C ∧ h.Sig.C ≤ 1073741788 <;> by_cases h4 : 0 ≤ h.Sig.S ∧ h.Sig.S ≤ 1073741788 <;> simp [ifB, h1, h2, h3, h4] <;> omega
def msgF (h : Kc) : List Int := [h.Office, h.Size, IntKind.i64.wrap (Int.fdiv h.Root (2 ^ 32)), IntKind.i64.wrap (IntKind.u32.wrap h.Root)]
theorem msg_p (F : Nat) (h : Kc) : Gah F h = some (msgF h) := rfl
theorem low32 {n : Int} (h0 : 0 ≤ n) (h1 : n ≤ 18446744073709551615) : bits BinOp.and IntKind.u64 n 4294967295 = IntKind.u32.wrap n := by
 obtain ⟨k, rfl⟩ : ∃ k : Nat, n = k := ⟨n.toNat, by omega⟩; rw [IntKind.wrap_u32, show (4294967295 : Int) = ((4294967295 : Nat) : Int) from rfl, bits_and_u64_nat k 4294967295 (by omega) (by omega)]; have e : (k : Nat) &&& 4294967295 = k % 4294967296 := Nat.and_two_pow_sub_one_eq_mod k 32; rw [e]; omega
theorem xAt_le (X : Nat) : ∀ k, xAt X k ≤ X
 | 0 => Nat.le_refl _
 | k + 1 => by have := xAt_le X k; show xAt X k / 2 ≤ X; omega
theorem xAt_pow (X : Nat) : ∀ k, xAt X k = X / 2 ^ k
 | 0 => by show X = X / 1; omega
 | k + 1 => by
  show xAt X k / 2 = _
  rw [xAt_pow X k, Nat.div_div_eq_div_mul, Nat.pow_succ]
theorem xAt_end {X e : Nat} (h : X < 2 ^ e) : ∃ n, n ≤ e ∧ xAt X n = 0 ∧ ∀ k, k < n → 0 < xAt X k := by
 induction e with
 | zero => exact ⟨0, Nat.le_refl _, by show X = 0; simp at h; omega, fun k hk => absurd hk (Nat.not_lt_zero _)⟩
 | succ e ih =>
  rcases Nat.lt_or_ge X (2 ^ e) with h1 | h1
  ·obtain ⟨n, h2, h3, h4⟩ := ih h1; exact ⟨n, by omega, h3, h4⟩
  ·refine ⟨e + 1, Nat.le_refl _, by rw [xAt_pow, Nat.div_eq_of_lt h], fun k hk => ?_⟩; rw [xAt_pow]; exact Nat.div_pos (Nat.le_trans (Nat.pow_le_pow_right (by omega) (by omega)) h1) (Nat.two_pow_pos k)
theorem odd_test (n : Nat) (h : n < 9223372036854775808) : (bits BinOp.and IntKind.i64 ((n : Nat) : Int) 1 == 1) = decide (n % 2 = 1) := by
 rw [and_in h]
 by_cases hn : n % 2 = 1
 ·rw [hn]; rfl
 ·rw [show n % 2 = 0 by omega]; rfl
theorem pow_pn (A X : Nat) (hA : A < 2147483579) (hX : X < 2 ^ 62) {F : Nat} (hF : 64 ≤ F) : Gf F (A : Int) (X : Int) = some ((pw A X : Nat) : Int) := by
 obtain ⟨n, hn, h0, hp⟩ := xAt_end hX; unfold Gf; rw [show ((X : Int), (A : Int), (1 : Int)) = (fun k => (((xAt X k : Nat) : Int), ((aAt A k : Nat) : Int), ((oAt A X k : Nat) : Int))) 0 from rfl]; rw [iter_seq (fun k => (((xAt X k : Nat) : Int), ((aAt A k : Nat) : Int), ((oAt A X k : Nat) : Int))) n ((oAt A X n : Nat) : Int) ?_ ?_ (by omega)]
 ·simp only [ob_some]; rw [at_end h0]
 ·intro k hk; have hx := xAt_le X k; have hx2 : X < 9223372036854775808 := Nat.lt_of_lt_of_le hX (by decide); simp only [un3]; rw [show decide (((xAt X k : Nat) : Int) > 0) = true from decide_eq_true (by have := hp k hk; omega), ifB_t, odd_test _ (by omega), mul_in (aAt_lt hA k) (aAt_lt hA k), mod_in, shr_in]
  by_cases ho : xAt X k % 2 = 1
  ·rw [show decide (xAt X k % 2 = 1) = true from decide_eq_true ho, ifB_t, mul_in (oAt_lt A X k) (aAt_lt hA k), mod_in]; simp only [ob_some]; rw [oAt_odd ho]; rfl
  ·rw [show decide (xAt X k % 2 = 1) = false from decide_eq_false ho, ifB_f]; simp only [ob_some]; rw [oAt_even ho]; rfl
 ·simp only [un3]; rw [h0]; rfl
theorem pow_rn (A X : Nat) (hA : A < 2147483579) (hX : X < 2 ^ 62) {F : Nat} (hF : 64 ≤ F) : G7 F (A : Int) (X : Int) 2147483579 = some ((pw A X : Nat) : Int) := by
 obtain ⟨n, hn, h0, hp⟩ := xAt_end hX; unfold G7; rw [show ((A : Int), (X : Int), (2147483579 : Int), (1 : Int)) = (fun k => (((aAt A k : Nat) : Int), ((xAt X k : Nat) : Int), (2147483579 : Int), ((oAt A X k : Nat) : Int))) 0 from rfl]; rw [iter_seq (fun k => (((aAt A k : Nat) : Int), ((xAt X k : Nat) : Int), (2147483579 : Int), ((oAt A X k : Nat) : Int))) n ((oAt A X n : Nat) : Int) ?_ ?_ (by omega)]
 ·simp only [ob_some]; rw [at_end h0]
 ·intro k hk; have hx := xAt_le X k; have hx2 : X < 9223372036854775808 := Nat.lt_of_lt_of_le hX (by decide); simp only [un4]; have hz : whenG (!((2147483579 : Int) == 0)) () = some () := rfl; have hodd : (Int.tmod ((xAt X k : Nat) : Int) 2 == 1) = decide (xAt X k % 2 = 1) := by
   rw [show Int.tmod ((xAt X k : Nat) : Int) 2 = ((xAt X k % 2 : Nat) : Int) from rfl]
   by_cases hn : xAt X k % 2 = 1
   ·rw [hn]; rfl
   ·rw [show xAt X k % 2 = 0 by omega]; rfl
  have hhalf : IntKind.i64.wrap (Int.tdiv ((xAt X k : Nat) : Int) 2) = ((xAt X k / 2 : Nat) : Int) := by
   rw [show Int.tdiv ((xAt X k : Nat) : Int) 2 = ((xAt X k / 2 : Nat) : Int) from rfl, IntKind.wrap_i64]; omega
  rw [show decide (((xAt X k : Nat) : Int) > 0) = true from decide_eq_true (by have := hp k hk; omega), ifB_t, hodd, hz, mul_in (aAt_lt hA k) (aAt_lt hA k), mod_in, hhalf]
  by_cases ho : xAt X k % 2 = 1
  ·rw [show decide (xAt X k % 2 = 1) = true from decide_eq_true ho, ifB_t, mul_in (oAt_lt A X k) (aAt_lt hA k), mod_in]; simp only [ob_some]; rw [oAt_odd ho]; rfl
  ·rw [show decide (xAt X k % 2 = 1) = false from decide_eq_false ho, ifB_f]; simp only [ob_some]; rw [oAt_even ho]; rfl
 ·simp only [un4]; rw [h0]; rfl
def memB (a : Int) : Bool := decide (0 < a ∧ a < 2147483579 ∧ pw a.toNat 1073741789 = 1)
theorem mem_p (a : Int) {F : Nat} (hF : 64 ≤ F) : Gz F a = some (memB a) := by
 unfold Gz memB
 by_cases h1 : 0 < a
 ·by_cases h2 : a < 2147483579
  ·have hp := pow_pn a.toNat 1073741789 (by omega) (by decide) hF; rw [show ((a.toNat : Nat) : Int) = a by omega, show ((1073741789 : Nat) : Int) = 1073741789 from rfl] at hp; rw [hp]
   by_cases h3 : pw a.toNat 1073741789 = 1 <;> simp [ifB, h1, h2, h3] <;> omega
  ·simp [ifB, h1, h2]
 ·simp [ifB, h1]
def pubB (a : Int) : Bool := memB a && !(a == 1)
theorem pub_p (a : Int) {F : Nat} (hF : 64 ≤ F) : G2 F a = some (pubB a) := by
 unfold G2 pubB; rw [mem_p a hF]; cases h : (a == 1) <;> simp [ifB]
end Go.Proofs.YtggaodokkcoagaaGreatDoor
namespace Go.Proofs.YtggaodokkcoagaaGreatDoor
open Go.ChangeShapes Go.WideShapes Go.ChangeAt Go.RowKit Go.Deep
theorem own : ownKnob Tryz.prog.godebug = none := by kernel_rfl
theorem laidOut : laidOutB Tryz.prog = true := by kernel_rfl
section
variable {H : Type} {enc : TypeId × Value → H}
theorem trodAll_below {P : Program} (hl : laidOutB P = true) {W W' : World} (hb : Below W.heap.size W W') : ∀ {ts : List TypeId} {vs : List Value} {ds : List (DataW H)} {ps : List MemPlace},
  (∀ t ∈ ts, P.readableRec t = true ∧ t < P.types.size) → DataW.TrodAll enc P W 0 (fun _ => true) true ts vs ds ps → (∀ x ∈ ps, x.block < W.heap.size) →
  DataW.TrodAll enc P W' 0 (fun b => decide (b < W.heap.size)) true ts vs ds ps
 | [], vs, ds, ps, _, h, _ => by
  obtain ⟨rfl, rfl, rfl⟩ := trodAll_nil h; rfl
 | t :: ts, vs, ds, ps, hr, h, hlt => by
  obtain ⟨v, vs', d, ds', p, q, rfl, rfl, rfl, h1, h2⟩ := trodAll_cons h; have h0 := hr t (by simp); exact trodAll_cons_mk (Below.trod hl h0.1 h0.2 h1 hb (fun x hx => hlt x (by simp [hx]))) (trodAll_below hl hb (fun t ht => hr t (by simp [ht])) h2 (fun x hx => hlt x (by simp [hx])))
theorem post_true {P : Program} {fn : Func} {s : ChangeSpec} {W W' : World} {args : Array Value} {ds gs : List (DataW H)} {before : List MemPlace} {b : TypeId} (hl : laidOutB P = true)
  (hr : ∀ t ∈ fn.params.toList, P.readableRec t = true ∧ t < P.types.size) (hb4 : P.underlying b = some .bool) (hrt : fn.resultTypes = #[b]) (hs : s.vars = [])
  (hW : DataW.Whole enc P fn.params.toList s.vars false W args.toList ds gs before) (hres : (s.fn H (ds ++ gs)).results = [.lit (.bool true)]) (hargs : (s.fn H (ds ++ gs)).args = ds) (hvs : (s.fn H (ds ++ gs)).vars = [])
  (hb : Below W.heap.size W W') : s.post enc P fn false true false false W args (.bool true) W' := by
 have hW' := hW; obtain ⟨p, q, hA, hV, rfl, _, _⟩ := hW; rw [hs] at hV; obtain ⟨rfl, rfl⟩ := trodVars_none hV; refine ⟨_, _, _, [], p, [], hW', ?_, ?_, ?_, hb.frame _, fun h => by cases h⟩
 ·rw [hres, hrt]; exact trodAll_mk1 (shut_bool hb4 true)
 ·rw [hargs]; exact trodAll_below hl hb hr hA (fun x hx => by simpa using hW'.lt x (by simp [hx]))
 ·rw [hvs, hs]; rfl
end
def inKd (k : IntKind) (n : Int) : Prop := (Lit.int k n).wf = true
theorem inKd_i64 {n : Int} (h : inKd .i64 n) : -9223372036854775808 ≤ n ∧ n ≤ 9223372036854775807 := by
 have : IntKind.i64.min ≤ n ∧ n ≤ IntKind.i64.max := by simpa [inKd, Lit.wf] using h
 rwa [show IntKind.i64.min = -9223372036854775808 by decide, show IntKind.i64.max = 9223372036854775807 by decide] at this
theorem inKd_u64 {n : Int} (h : inKd .u64 n) : 0 ≤ n ∧ n ≤ 18446744073709551615 := by
 have : IntKind.u64.min ≤ n ∧ n ≤ IntKind.u64.max := by simpa [inKd, Lit.wf] using h
 rwa [show IntKind.u64.min = 0 by decide, show IntKind.u64.max = 18446744073709551615 by decide] at this
theorem inKd_u32 {n : Int} (h : inKd .u32 n) : 0 ≤ n ∧ n ≤ 4294967295 := by
 have : IntKind.u32.min ≤ n ∧ n ≤ IntKind.u32.max := by simpa [inKd, Lit.wf] using h
 rwa [show IntKind.u32.min = 0 by decide, show IntKind.u32.max = 4294967295 by decide] at this
theorem inKd_u16 {n : Int} (h : inKd .u16 n) : 0 ≤ n ∧ n ≤ 65535 := by
 have : IntKind.u16.min ≤ n ∧ n ≤ IntKind.u16.max := by simpa [inKd, Lit.wf] using h
 rwa [show IntKind.u16.min = 0 by decide, show IntKind.u16.max = 65535 by decide] at this
theorem inKd_u8 {n : Int} (h : inKd .u8 n) : 0 ≤ n ∧ n ≤ 255 := by
 have : IntKind.u8.min ≤ n ∧ n ≤ IntKind.u8.max := by simpa [inKd, Lit.wf] using h
 rwa [show IntKind.u8.min = 0 by decide, show IntKind.u8.max = 255 by decide] at this
theorem rowS_all {w : World} {A : Option Addr} {xs : List Value} (h : Rd w A xs) : RowS (fun g => g < w.heap.size) w A xs := ⟨h, fun hn => by obtain ⟨b, o, e, hb, _⟩ := h hn; exact ⟨b, o, e, hb⟩⟩
theorem choose_ltK {α : Type} [Inhabited α] {n : Nat} {p : Nat → α → Prop} (h : ∀ i, i < n → ∃ v, p i v) : ∃ V : Nat → α, ∀ i, i < n → p i (V i) := by
 have h' : ∀ i, ∃ v, i < n → p i v := fun i => by
  rcases Nat.lt_or_ge i n with hi | hi
  ·obtain ⟨v, hv⟩ := h i hi; exact ⟨v, fun _ => hv⟩
  ·exact ⟨default, fun h => absurd h (Nat.not_lt.2 hi)⟩
 exact ⟨fun i => Classical.choose (h' i), fun i => Classical.choose_spec (h' i)⟩
theorem flr_get {α : Type} (f : α → List Value) (m : Nat) (hm : ∀ x, (f x).length = m) : ∀ (l : List α) (k j : Nat) (hk : k < l.length), j < m → (l.flatMap f)[k * m + j]? = (f l[k])[j]?
 | [], k, j, hk, _ => absurd hk (Nat.not_lt_zero _)
 | x :: l, 0, j, _, hj => by
  rw [List.flatMap_cons, Nat.zero_mul, Nat.zero_add, List.getElem?_append_left (by rw [hm]; exact hj)]; rfl
 | x :: l, k + 1, j, hk, hj => by
  rw [List.flatMap_cons, List.getElem?_append_right (by rw [hm, Nat.add_mul]; omega), hm]; have := flr_get f m hm l k j (by simpa using hk) hj; rw [← show (k + 1) * m + j - m = k * m + j from by rw [Nat.add_mul]; omega] at this; exact this
theorem cell_ltK {w : World} {b o : Nat} {u : Value} (h : w.cell? ⟨b, o, none⟩ = some u) : b < w.heap.size := World.block_lt_of_cell? w ⟨b, o, none⟩ h
section
variable {α : Type} {f : α → List Value} {m : Nat} {w : World}
theorem rd_mk {b o : Nat} {l : List α} (hm : ∀ x, (f x).length = m) (h0 : 0 < m) (h : ∀ i (hi : i < l.length) j, j < m → w.cell? ⟨b, o + i * m + j, none⟩ = (f l[i])[j]?) : Rd w (some ⟨b, o, none⟩) (l.flatMap f) := fun hne => by
 have hl : 0 < l.length := by
  cases l with
  | nil => exact absurd rfl hne
  | cons _ _ => simp
 have hlen := fl_len f m hm l; refine ⟨b, o, rfl, ?_, fun j u hu => ?_⟩
 ·have h1 := h 0 hl 0 h0; have h2 : (f l[0])[0]? = some ((f l[0])[0]'(by rw [hm]; exact h0)) := List.getElem?_eq_getElem _; rw [h2] at h1; exact cell_ltK h1
 ·have hj : j < l.length * m := by
   have := (List.getElem?_eq_some_iff.1 hu).1
   rwa [hlen] at this
  have hi : j / m < l.length := Nat.div_lt_of_lt_mul (by rw [Nat.mul_comm]; exact hj); have hr : j % m < m := Nat.mod_lt _ h0; have he : j / m * m + j % m = j := by rw [Nat.mul_comm]; exact Nat.div_add_mod _ _
  have hg := flr_get f m hm l (j / m) (j % m) hi hr; rw [he] at hg; rw [hg] at hu; have := h (j / m) hi (j % m) hr; rw [Nat.add_assoc, he] at this; rw [this]; exact hu
end
section
variable {H : Type} {enc : TypeId × Value → H} {w : World} {base : Nat} {spare : Nat → Bool} {held : Bool}
theorem trod_rowS {α : Type} [Inhabited α] (f : α → List Value) {m : Nat} (h0 : 0 < m) (hm : ∀ x, (f x).length = m) {T E : TypeId} (hu : Tryz.prog.underlying T = some (.slice E)) (hc : Tryz.prog.cellsOf E = m) (Q : α → Prop)
  (hE : ∀ n cs x, DataW.trod enc Tryz.prog w base spare held n E cs = some x → ∃ v, cs = f v ∧ Q v) {fuel : Nat} {cs : List Value} {x : DataW H × List MemPlace} (h : DataW.trod enc Tryz.prog w base spare held fuel T cs = some x) :
  ∃ (A : Option Addr) (c : Nat) (l : List α), cs = [.slice A l.length c] ∧ l.length ≤ c ∧ c ≤ maxLen ∧ Rd w A (l.flatMap f) ∧ ∀ v ∈ l, Q v := by
 obtain ⟨d, p⟩ := x; rcases open_slice hu h with ⟨hcs, _⟩ | ⟨a, len, cap, mm, n, D, Pl, hcs, _, hl, hmx, hmm, _, hx⟩
 ·exact ⟨none, 0, [], hcs, Nat.le_refl _, Nat.zero_le _, Rd.nil _ _, fun v hv => by cases hv⟩
 ·have hlm : len ≤ mm := by rw [hmm]; split <;> omega
  have hex : ∀ i, i < len → ∃ v : α, (∀ j, j < m → w.cell? ((a.add (i * m)).add j) = (f v)[j]?) ∧ Q v := fun i hi => by
   obtain ⟨cs', h1, h2⟩ := hx i (by omega); rw [hc] at h1; obtain ⟨v, rfl, hq⟩ := hE _ _ _ h2; exact ⟨v, (World.cells?_some h1).2.2, hq⟩
  obtain ⟨V, hV⟩ := choose_ltK hex; refine ⟨some a, cap, (List.range len).map V, by rw [hcs]; simp, by simpa using hl, hmx, ?_, ?_⟩
  ·rcases Nat.eq_zero_or_pos len with h00 | h00
   ·subst h00; exact Rd.nil _ _
   obtain ⟨b, o, spot⟩ := a; have hs : spot = none := by
    have := (hV 0 h00).1 0 h0; simp only [Nat.zero_mul, Addr.add, if_true] at this; have h2 : (f (V 0))[0]? = some ((f (V 0))[0]'(by rw [hm]; exact h0)) := List.getElem?_eq_getElem _; rw [h2] at this; exact World.cell?_spot this
   subst hs; refine rd_mk hm h0 fun i hi j hj => ?_
   have hi' : i < len := by simpa using hi
   have e : ∀ j, (((⟨b, o, none⟩ : Addr).add (i * m)).add j) = ⟨b, o + i * m + j, none⟩ := fun j => by rw [add_addr, add_addr]
   have hcc := (hV i hi').1 j hj; rw [e] at hcc; simp only [List.getElem_map, List.getElem_range]; exact hcc
  ·intro v hv; obtain ⟨i, hi, rfl⟩ := List.mem_map.1 hv; exact (hV i (List.mem_range.1 hi)).2
end
section
variable {H : Type} {enc : TypeId × Value → H} {w : World} {base : Nat} {spare : Nat → Bool} {held : Bool}
set_option maxRecDepth 10000
structure KSig.rng (x : KSig) : Prop where
 r_C : inKd .i64 x.C
 r_S : inKd .i64 x.S
structure Kc.rng (x : Kc) : Prop where
 r_Office : inKd .i64 x.Office
 r_Size : inKd .i64 x.Size
 r_Root : inKd .u64 x.Root
 r_Sig : KSig.rng x.Sig
structure Ke.rng (x : Ke) : Prop where
 r_Lo : inKd .i64 x.Lo
 r_Hi : inKd .i64 x.Hi
structure Kb.rng (x : Kb) : Prop where
 r_Doc : inKd .u64 x.Doc
 r_Stamp : Ke.rng x.Stamp
structure Km.rng (x : Km) : Prop where
 r_Head : Kc.rng x.Head
 r_Index : inKd .i64 x.Index
 r_Entry : Kb.rng x.Entry
 r_Path : (fun l : List Int => ∀ y ∈ l, inKd .u64 y) x.Path
structure KHop.rng (x : KHop) : Prop where
 r_Of : Kc.rng x.Of
 r_Grow : (fun l : List Int => ∀ y ∈ l, inKd .u64 y) x.Grow
 r_By : Km.rng x.By
instance : Inhabited Kg := ⟨⟨⟨0, 0, 0, ⟨0, 0⟩⟩, none, 0, [], ⟨⟨0, 0, 0, ⟨0, 0⟩⟩, 0, ⟨0, ⟨0, 0⟩⟩, none, 0, []⟩⟩⟩
structure Kq.rng (x : Kq) : Prop where
 r_First : Km.rng x.First
 r_Hops : (fun l : List KHop => ∀ y ∈ l, KHop.rng y) x.Hops
 r_Grow : (fun l : List Int => ∀ y ∈ l, inKd .u64 y) x.Grow
 r_Last : Km.rng x.Last
instance : Inhabited Kb := ⟨⟨0, ⟨0, 0⟩⟩⟩
structure Kf.rng (x : Kf) : Prop where
 r_ID : inKd .i64 x.ID
 r_Entries : (fun l : List Kb => ∀ y ∈ l, Kb.rng y) x.Entries
instance : Inhabited Ka := ⟨⟨0, none, 0, []⟩⟩
instance : Inhabited Kc := ⟨⟨0, 0, 0, ⟨0, 0⟩⟩⟩
theorem trod_uint8 {n : Nat} {cs : List Value} {x : DataW H × List MemPlace} (h : DataW.trod enc Tryz.prog w base spare held n 5 cs = some x) : ∃ v : Int, cs = c_u8 v ∧ inKd .u8 v := by
 obtain ⟨a, e, _, hw⟩ := DataW.trod_int Tryz.underlying5 h; exact ⟨a, e, hw⟩
theorem opn_uint64 {r : Reach} {b0 : Nat} {v : Value} {d : DataW H} {p : List MemPlace} (hv : Value.okWide Tryz.prog w r b0 23 v) (h : DataW.Trod enc Tryz.prog w base spare held 23 v d p) : ∃ x : Int, v = .int .u64 x ∧ inKd .u64 x := by
 obtain ⟨x, rfl, _, _, hw⟩ := open_int Tryz.underlying23 hv h; exact ⟨x, rfl, hw⟩
theorem cl_uint8 : Tryz.prog.cellsOf 5 = 1 := by kernel_rfl
theorem trod_uint32 {n : Nat} {cs : List Value} {x : DataW H × List MemPlace} (h : DataW.trod enc Tryz.prog w base spare held n 129 cs = some x) : ∃ v : Int, cs = c_u32 v ∧ inKd .u32 v := by
 obtain ⟨a, e, _, hw⟩ := DataW.trod_int Tryz.underlying129 h; exact ⟨a, e, hw⟩
theorem cl_uint32 : Tryz.prog.cellsOf 129 = 1 := by kernel_rfl
theorem cl_regulatorlaw27_Act : Tryz.prog.cellsOf 131 = 4 := by kernel_rfl
structure Kp.rng (x : Kp) : Prop where
 r_Do : inKd .u8 x.Do
 r_Who : inKd .u8 x.Who
 r_Which : inKd .u8 x.Which
 r_Doc : inKd .u32 x.Doc
theorem tf_regulatorlaw27_Act : ∃ f0 f1 f2 f3 : Field, Tryz.prog.underlying 131 = some (.struct #[f0, f1, f2, f3]) ∧ (f0.offset = 0 ∧ f0.type = 5) ∧ (f1.offset = 1 ∧ f1.type = 5) ∧ (f2.offset = 2 ∧ f2.type = 5) ∧ (f3.offset = 3 ∧ f3.type = 129) := ⟨_, _, _, _, Tryz.underlying131, ⟨by kernel_rfl, by kernel_rfl⟩, ⟨by kernel_rfl, by kernel_rfl⟩, ⟨by kernel_rfl, by kernel_rfl⟩, ⟨by kernel_rfl, by kernel_rfl⟩⟩
theorem trod_regulatorlaw27_Act {n : Nat} {cs : List Value} {x : DataW H × List MemPlace} (h : DataW.trod enc Tryz.prog w base spare held n 131 cs = some x) : ∃ v : Kp, cs = v.cells ∧ Kp.rng v := by
 obtain ⟨f0, f1, f2, f3, hu, ⟨o0, t0⟩, ⟨o1, t1⟩, ⟨o2, t2⟩, ⟨o3, t3⟩⟩ := tf_regulatorlaw27_Act; obtain ⟨xs, n', _, _, hlen, hxl, hf⟩ := DataW.trod_struct hu h; rw [cl_regulatorlaw27_Act] at hlen
 match cs, hlen with
 | [c0, c1, c2, c3], _ =>
  have q0 := hf 0 f0 rfl; obtain ⟨y0, hy0⟩ : ∃ y, xs[0]? = some y := ⟨_, List.getElem?_eq_getElem (by rw [hxl]; exact (by decide : 0 < 4))⟩; rw [hy0, o0, t0, cl_uint8] at q0; obtain ⟨v0, e0, hg0⟩ := trod_uint8 q0; replace e0 : [c0] = [Y v0] := e0; simp only [List.cons.injEq, and_true] at e0; obtain rfl := e0; have q1 := hf 1 f1 rfl; obtain ⟨y1, hy1⟩ : ∃ y, xs[1]? = some y := ⟨_, List.getElem?_eq_getElem (by rw [hxl]; exact (by decide : 1 < 4))⟩; rw [hy1, o1, t1, cl_uint8] at q1; obtain ⟨v1, e1, hg1⟩ := trod_uint8 q1; replace e1 : [c1] = [Y v1] := e1; simp only [List.cons.injEq, and_true] at e1; obtain rfl := e1; have q2 := hf 2 f2 rfl; obtain ⟨y2, hy2⟩ : ∃ y, xs[2]? = some y := ⟨_, List.getElem?_eq_getElem (by rw [hxl]; exact (by decide : 2 < 4))⟩; rw [hy2, o2, t2, cl_uint8] at q2; obtain ⟨v2, e2, hg2⟩ := trod_uint8 q2; replace e2 : [c2] = [Y v2] := e2; simp only [List.cons.injEq, and_true] at e2; obtain rfl := e2; have q3 := hf 3 f3 rfl; obtain ⟨y3, hy3⟩ : ∃ y, xs[3]? = some y := ⟨_, List.getElem?_eq_getElem (by rw [hxl]; exact (by decide : 3 < 4))⟩; rw [hy3, o3, t3, cl_uint32] at q3; obtain ⟨v3, e3, hg3⟩ := trod_uint32 q3; replace e3 : [c3] = [.int .u32 v3] := e3; simp only [List.cons.injEq, and_true] at e3; obtain rfl := e3; exact ⟨⟨v0, v1, v2, v3⟩, rfl, ⟨hg0, hg1, hg2, hg3⟩⟩
instance : Inhabited Kp := ⟨⟨0, 0, 0, 0⟩⟩
theorem trod_Sl_regulatorlaw27_Act {n : Nat} {cs : List Value} {x : DataW H × List MemPlace} (h : DataW.trod enc Tryz.prog w base spare held n 67 cs = some x) :
  ∃ (A : Option Addr) (c : Nat) (l : List Kp), cs = [.slice A l.length c] ∧ RowC A c Kp.cells tr l (fun g => g < w.heap.size) w ∧ (∀ y ∈ l, Kp.rng y) := by
 obtain ⟨A, c, l, h1, h2, h3, h4, h5⟩ := trod_rowS Kp.cells (m := 4) (by decide) (fun _ => rfl) Tryz.underlying67 cl_regulatorlaw27_Act (fun v : Kp => Kp.rng v) (fun _ _ _ hx => trod_regulatorlaw27_Act hx) h; exact ⟨A, c, l, h1, ⟨rowS_all h4, h2, fun _ _ => trivial⟩, h5⟩
theorem opn_Sl_regulatorlaw27_Act {r : Reach} {b0 : Nat} {v : Value} {d : DataW H} {p : List MemPlace} (hv : Value.okWide Tryz.prog w r b0 67 v) (h : DataW.Trod enc Tryz.prog w base spare held 67 v d p) : ∃ (A : Option Addr) (c : Nat) (l : List Kp), v = .slice A l.length c ∧ RowC A c Kp.cells tr l (fun g => g < w.heap.size) w ∧ (∀ y ∈ l, Kp.rng y) := by
 obtain ⟨a0, len0, cap0, rfl⟩ := okWide_slice Tryz.underlying67 hv; obtain ⟨fuel, hf⟩ := h; obtain ⟨A, c, l, e, h1, h2⟩ := trod_Sl_regulatorlaw27_Act hf; simp only [Value.cells, List.cons.injEq, and_true] at e; exact ⟨A, c, l, e, h1, h2⟩
theorem opn_uint16 {r : Reach} {b0 : Nat} {v : Value} {d : DataW H} {p : List MemPlace} (hv : Value.okWide Tryz.prog w r b0 68 v) (h : DataW.Trod enc Tryz.prog w base spare held 68 v d p) : ∃ x : Int, v = .int .u16 x ∧ inKd .u16 x := by
 obtain ⟨x, rfl, _, _, hw⟩ := open_int Tryz.underlying68 hv h; exact ⟨x, rfl, hw⟩
end
end Go.Proofs.YtggaodokkcoagaaGreatDoor
namespace Go.Proofs.YtggaodokkcoagaaGreatDoor
open Go.RowKit
theorem wrap_i64_rng (n : Int) : -9223372036854775808 ≤ IntKind.i64.wrap n ∧ IntKind.i64.wrap n ≤ 9223372036854775807 := by rw [IntKind.wrap_i64]; omega
theorem wrap_u64_rng (n : Int) : 0 ≤ IntKind.u64.wrap n ∧ IntKind.u64.wrap n ≤ 18446744073709551615 := by rw [IntKind.wrap_u64]; omega
theorem sumB_rng (l : List Int) : 0 ≤ sumB l ∧ sumB l ≤ 18446744073709551615 := by
 unfold sumB; have key : ∀ (l : List Int) (b : Int), 0 ≤ b ∧ b ≤ 18446744073709551615 → 0 ≤ l.foldl sumF b ∧ l.foldl sumF b ≤ 18446744073709551615 := by
  intro l
  induction l with
  | nil => intro b h; exact h
  | cons x l ih => intro b _; exact ih _ (wrap_u64_rng _)
 exact key l _ (by omega)
theorem rootF_rng (l : List Int) : 0 ≤ rootF l ∧ rootF l ≤ 18446744073709551615 := by
 rcases Classical.em (2 ≤ l.length) with h | h
 ·rw [rootF, rootT_split h]; exact sumB_rng _
 ·rw [rootF, rootT_one h]; exact sumB_rng _
theorem dnext {d : Int} {l : List Int} (h : inI l) (h1 : 1 ≤ l.length) (h2 : l.length ≤ 10000) {F : Nat} (hF : 64 ≤ F) : Gau F d l = some (nextF d l) := by
 obtain ⟨F', rfl⟩ : ∃ F', F = F' + 1 := ⟨F - 1, by omega⟩; exact whenG_t (decide_eq_true ⟨h, h2, h1⟩)
theorem dints {l : List Int} (h : inI l) (h2 : l.length ≤ 10000) {F : Nat} (hF : 64 ≤ F) : Gad F l = some (intsF l) := by
 obtain ⟨F', rfl⟩ : ∃ F', F = F' + 1 := ⟨F - 1, by omega⟩; exact whenG_t (decide_eq_true ⟨h, by omega⟩)
theorem rints {l : List Int} (h : inI l) (h2 : l.length ≤ 10000) {F : Nat} (hF : 64 ≤ F) : Gax F l = some (intsF l) := by
 obtain ⟨F', rfl⟩ : ∃ F', F = F' + 1 := ⟨F - 1, by omega⟩; exact whenG_t (decide_eq_true ⟨h, by omega⟩)
def leafE (e : Kb) : Int := nextF e.Doc [e.Stamp.Lo, e.Stamp.Hi]
theorem inI_two {a b : Int} (ha : inKd .i64 a) (hb : inKd .i64 b) : inI [a, b] := by
 intro z hz; rcases List.mem_cons.1 hz with rfl | hz
 ·exact inKd_i64 ha
 ·rcases List.mem_cons.1 hz with rfl | hz
  ·exact inKd_i64 hb
  ·cases hz
theorem leaf_p {e : Kb} (h : e.rng) {F : Nat} (hF : 64 ≤ F) : Gk F e = some (leafE e) := by
 unfold Gk Gav; rw [dnext (inI_two h.r_Stamp.r_Lo h.r_Stamp.r_Hi) (by simp) (by simp) hF]; rfl
def eAt (l : List Kb) (k : Nat) : Kb := l.getD k ⟨0, ⟨0, 0⟩⟩
theorem eAt_get {l : List Kb} {k : Nat} (h : k < l.length) : l[k]? = some (eAt l k) := by
 unfold eAt; rw [List.getD_eq_getElem?_getD, List.getElem?_eq_getElem h]; rfl
def okAt (l : List Kb) (k : Nat) : Bool := vI (eAt l k).Stamp && !(decide (0 < k) && decide ((eAt l k).Stamp.Lo < (eAt l (k - 1)).Stamp.Lo))
def ordB (l : List Kb) : Bool := frB (okAt l) l.length 0
def vO (o : Kf) : Bool := ordB o.Entries && (decide (1 ≤ o.ID ∧ o.ID ≤ 16) && decide (o.Entries.length ≤ 4096))
theorem pred_w {k : Nat} (h : 0 < k) (h2 : k < 1000000) : IntKind.i64.wrap ((k : Int) - 1) = ((k - 1 : Nat) : Int) := by rw [IntKind.wrap_i64]; omega
theorem valid_p {o : Kf} (hl : o.Entries.length ≤ 50) {F : Nat} (hF : 64 ≤ F) : Gh F o = some (vO o) := by
 unfold Gh; rw [iter_all o.Entries.length (okAt o.Entries) (.inl ()) (.inr ()) ?_ ?_ (by omega)]
 ·unfold vO; rw [btw_p]
  show _ = some (ordB o.Entries && _)
  unfold ordB; cases frB (okAt o.Entries) o.Entries.length 0 with
  | true =>
   simp only [if_true, ob_some, Sum.elim_inl, Bool.true_and]
   by_cases h1 : 1 ≤ o.ID ∧ o.ID ≤ 16 <;> by_cases h2 : o.Entries.length ≤ 4096 <;> simp [ifB, h1, h2] <;> omega
  | false => rfl
 ·rw [show decide ((o.Entries.length : Int) < (o.Entries.length : Int)) = false from decide_eq_false (by omega)]; rfl
 ·intro k hk; rw [show decide ((k : Int) < (o.Entries.length : Int)) = true from decide_eq_true (by omega), ifB_t, ixI_nat, eAt_get hk]; simp only [ob_some, logged_p]; unfold okAt; rw [w64_nat (by omega)]; cases hv : vI (eAt o.Entries k).Stamp with
  | false => rfl
  | true =>
   rw [ifB_t]
   by_cases h0 : 0 < k
   ·rw [show decide ((k : Int) > 0) = true from decide_eq_true (by omega), ifB_t, pred_w h0 (by omega), ixI_nat, eAt_get (by omega)]; simp only [ob_some]; rw [show decide (0 < k) = true from decide_eq_true h0]; cases decide ((eAt o.Entries k).Stamp.Lo < (eAt o.Entries (k - 1)).Stamp.Lo) <;> rfl
   ·rw [show decide ((k : Int) > 0) = false from decide_eq_false (by omega), ifB_f, show decide (0 < k) = false from decide_eq_false h0]; rfl
def appS (o : Kf) (e : Kb) : Kf × Int :=
 if !(vO o && vI e.Stamp) then (⟨0, []⟩, 1) else if decide (0 < o.Entries.length) && decide (e.Stamp.Lo < (eAt o.Entries (o.Entries.length - 1)).Stamp.Lo) then (⟨0, []⟩, 30) else (⟨o.ID, o.Entries ++ [e]⟩, 0)
theorem app_p {o : Kf} {e : Kb} (hl : o.Entries.length ≤ 50) {F : Nat} (hF : 64 ≤ F) : G1 F o e = some (appS o e) := by
 unfold G1 appS; rw [valid_p hl hF, logged_p]; simp only [ob_some]; cases vO o with
 | false => rfl
 | true =>
  cases vI e.Stamp with
  | false => rfl
  | true =>
   simp only [ifB_t, ob_some, Bool.not_true, ifB_f, Bool.and_self, Bool.false_eq_true, if_false]; rw [show ((o.Entries.length : Int) == 4096) = false from beq_eq_false_iff_ne.2 (by omega), ifB_f]
   by_cases h0 : 0 < o.Entries.length
   ·rw [show decide ((o.Entries.length : Int) > 0) = true from decide_eq_true (by omega), ifB_t, pred_w h0 (by omega), ixI_nat, eAt_get (by omega), show decide (0 < o.Entries.length) = true from decide_eq_true h0]; simp only [ob_some, Bool.true_and]; cases decide (e.Stamp.Lo < (eAt o.Entries (o.Entries.length - 1)).Stamp.Lo) with
    | true => rfl
    | false =>
     rw [ifB_f, whenG_t (decide_eq_true (by rw [w64_nat (by omega)]; omega))]; simp only [ob_some]; rw [apG_ok (by simp; omega)]; simp only [ob_some, List.nil_append]; rw [apG_ok (by simp; omega)]; rfl
   ·rw [show decide ((o.Entries.length : Int) > 0) = false from decide_eq_false (by omega), ifB_f, show decide (0 < o.Entries.length) = false from decide_eq_false h0]; simp only [ob_some]; rw [ifB_f, whenG_t (decide_eq_true (by rw [w64_nat (by omega)]; omega))]; simp only [ob_some]; rw [apG_ok (by simp; omega)]; simp only [ob_some, List.nil_append]; rw [apG_ok (by simp; omega)]; rfl
def valsF (o : Kf) (n : Nat) : List Int := (o.Entries.take n).map leafE
theorem take_map_succ {l : List Kb} {k : Nat} (h : k < l.length) : (l.take (k + 1)).map leafE = (l.take k).map leafE ++ [leafE (eAt l k)] := by
 rw [List.take_add_one, eAt_get h]
 simp
theorem coll_p {l : List Kb} (hr : ∀ e ∈ l, e.rng) (hl : l.length ≤ 60) {F : Nat} (hF : 64 ≤ F) : iter (σ := Int × (List Int)) (ρ := (List Int)) (un2 fun (v_43 : Int) (v_44 : (List Int)) => 
          (ifB (decide (v_43 < (l.length : Int)))
            (Option.bind (ixI l v_43) (fun v_52 =>
            Option.bind (Gk F v_52) (fun v_59 =>
            Option.bind (apG 8 v_44 ([v_59] : List Int)) (fun v_61 =>
            some (.inl (IntKind.i64.wrap (v_43 + 1), v_61))))))
            (some (.inr v_44)) : Option ((Int × (List Int)) ⊕ (List Int)))) F (0, ([] : List Int)) = some (l.map leafE) := by
  rw [show ((0 : Int), ([] : List Int)) = (fun k : Nat => ((k : Int), (l.take k).map leafE)) 0 from rfl]
  rw [iter_seq (fun k : Nat => ((k : Int), (l.take k).map leafE)) l.length (l.map leafE) ?_ ?_ (by omega)]
  · intro k hk
    simp only [un2]
    rw [show decide ((k : Int) < (l.length : Int)) = true from decide_eq_true (by omega), ifB_t, ixI_nat, eAt_get hk]
    simp only [ob_some]
    rw [leaf_p (hr _ (List.mem_of_getElem? (eAt_get hk))) hF]
    simp only [ob_some]
    rw [apG_ok (by simp only [lm_, List.length_take, List.length_cons, List.length_nil]; omega), w64_nat (by omega), take_map_succ hk]
    rfl
  · simp only [un2]
    rw [show decide ((l.length : Int) < (l.length : Int)) = false from decide_eq_false (by omega), List.take_length]
    rfl
theorem root_p {o : Kf} (hr : o.rng) {n : Nat} (hn : n ≤ o.Entries.length) (hl : n ≤ 60) {F : Nat} (hF : 64 ≤ F) : G3 F o (n : Int) = some (rootS (valsF o n)) := by
 obtain ⟨F', rfl⟩ : ∃ F', F = F' + 1 := ⟨F - 1, by omega⟩; unfold G3; rw [show (0 : Int) = ((0 : Nat) : Int) from rfl, slI_ok (Nat.zero_le n) hn]; simp only [ob_some, List.drop_zero]; rw [show ((0 : Nat) : Int) = 0 from rfl, coll_p (fun e he => hr.r_Entries e (List.mem_of_mem_take he)) (by rw [List.length_take]; omega) hF]; rfl
theorem valsF_len {o : Kf} {n : Nat} (hn : n ≤ o.Entries.length) : (valsF o n).length = n := by unfold valsF; rw [lm_, List.length_take]; omega
def chF (b p : Int) (m : List Int) : Int := intsF ([b, p] ++ m) % 1073741789
theorem chF_rng (b p : Int) (m : List Int) : 0 ≤ chF b p m ∧ chF b p m < 1073741789 := by unfold chF; omega
theorem ch_w (l : List Int) : IntKind.i64.wrap (Int.tmod (intsF l) 1073741789) = intsF l % 1073741789 := by
 have := sumB_rng (textL l); unfold intsF; rw [Int.tmod_eq_emod_of_nonneg this.1, w64_id (by omega) (by omega)]
theorem ch_p {b p : Int} {m : List Int} (h : inI ([b, p] ++ m)) (hl : m.length ≤ 100) {F : Nat} (hF : 64 ≤ F) : G0 F b p m = some (chF b p m) := by
 unfold G0; rw [apG_ok (by simp; omega)]; simp only [ob_some]; rw [dints h (by simp; omega) hF]; simp only [ob_some]; rw [ch_w]; rfl
theorem inI_app {a b : List Int} (ha : inI a) (hb : inI b) : inI (a ++ b) := fun z hz => by
 rcases List.mem_append.1 hz with hz | hz
 ·exact ha z hz
 ·exact hb z hz
theorem inI_pair {a b : Int} (ha : -9223372036854775808 ≤ a ∧ a ≤ 9223372036854775807) (hb : -9223372036854775808 ≤ b ∧ b ≤ 9223372036854775807) : inI [a, b] := by
 intro z hz; rcases List.mem_cons.1 hz with rfl | hz
 ·exact ha
 ·rcases List.mem_cons.1 hz with rfl | hz
  ·exact hb
  ·cases hz
theorem inI_msg {h : Kc} (h1 : inKd .i64 h.Office) (h2 : inKd .i64 h.Size) : inI (msgF h) := by
 show inI ([h.Office, h.Size] ++ [_, _])
 exact inI_app (inI_pair (inKd_i64 h1) (inKd_i64 h2)) (inI_pair (wrap_i64_rng _) (wrap_i64_rng _))
theorem pw_rng (a x : Nat) : -9223372036854775808 ≤ ((pw a x : Nat) : Int) ∧ ((pw a x : Nat) : Int) ≤ 9223372036854775807 := by have := pw_lt a x; omega
def isK (n : Int) : Bool := decide (1 ≤ n ∧ n < 1073741789)
def sigS (key once : Int) (m : List Int) : KSig × Int :=
 if isK key && isK once then (⟨chF ((pw 4 once.toNat : Nat) : Int) ((pw 4 key.toNat : Nat) : Int) m, (once + chF ((pw 4 once.toNat : Nat) : Int) ((pw 4 key.toNat : Nat) : Int) m * key) % 1073741789⟩, 0) else (⟨0, 0⟩, 1)
theorem pow4 (n : Int) (h0 : 0 ≤ n) (h1 : n ≤ 1073741789) {F : Nat} (hF : 64 ≤ F) : Gf F 4 n = some ((pw 4 n.toNat : Nat) : Int) ∧ G7 F 4 n 2147483579 = some ((pw 4 n.toNat : Nat) : Int) := by
  have hX : n.toNat < 2 ^ 62 := by have : (2 : Nat) ^ 62 = 4611686018427387904 := by decide
                                   omega
  have h1' := pow_pn 4 n.toNat (by decide) hX hF
  have h2' := pow_rn 4 n.toNat (by decide) hX hF
  rw [show ((n.toNat : Nat) : Int) = n by omega] at h1' h2'
  exact ⟨h1', h2'⟩
theorem sum_w {o c k : Int} (ho : 0 ≤ o ∧ o < 1073741789) (hc : 0 ≤ c ∧ c < 1073741789) (hk : 0 ≤ k ∧ k < 1073741789) : Int.tmod (IntKind.i64.wrap (o + IntKind.i64.wrap (c * k))) 1073741789 = (o + c * k) % 1073741789 := by
 have h1 : 0 ≤ c * k := Int.mul_nonneg hc.1 hk.1; have h2 : c * k ≤ 1073741789 * 1073741789 := Int.mul_le_mul (by omega) (by omega) hk.1 (by omega); rw [w64_id (n := c * k) (by omega) (by omega), w64_id (by omega) (by omega), Int.tmod_eq_emod_of_nonneg (by omega)]
theorem sig_p {key once : Int} {m : List Int} (hm : inI m) (hl : m.length ≤ 100) {F : Nat} (hF : 64 ≤ F) : Gae F key once m = some (sigS key once m) := by
 unfold Gae sigS isK; simp only [within_p, ob_some]
 by_cases h1 : 1 ≤ key ∧ key < 1073741789
 ·by_cases h2 : 1 ≤ once ∧ once < 1073741789
  ·simp only [h1, h2, and_self, decide_true, ifB_t, ob_some, Bool.not_true, ifB_f, Bool.and_self, if_true]; rw [(pow4 once (by omega) (by omega) hF).1, (pow4 key (by omega) (by omega) hF).1]; simp only [ob_some]; rw [ch_p (inI_app (inI_pair (pw_rng _ _) (pw_rng _ _)) hm) hl hF]; simp only [ob_some]; rw [sum_w ⟨by omega, h2.2⟩ (chF_rng _ _ _) ⟨by omega, h1.2⟩]
  ·simp only [h1, h2, and_self, decide_true, decide_false, ifB_t, ob_some, Bool.not_false, Bool.and_false, Bool.false_eq_true, if_false]
 ·simp only [h1, decide_false, ifB_f, ob_some, ifB_t, Bool.false_and, Bool.false_eq_true, if_false]
def begS (pub : Int) (s : KSig) : Nat := pw 4 s.S.toNat * pw pub.toNat (1073741789 - s.C.toNat) % 2147483579
def expB (s : KSig) : Bool := decide ((0 ≤ s.C ∧ s.C < 1073741789) ∧ (0 ≤ s.S ∧ s.S < 1073741789))
def verS (pub : Int) (s : KSig) (m : List Int) : Bool × Int :=
 if memB pub && expB s then (decide (chF (begS pub s : Int) pub m = s.C), 0) else (false, 1)
theorem memB_spec {a : Int} (h : memB a = true) : 0 < a ∧ a < 2147483579 ∧ pw a.toNat 1073741789 = 1 := of_decide_eq_true h
theorem mem_rng {a : Int} (h : memB a = true) : -9223372036854775808 ≤ a ∧ a ≤ 9223372036854775807 := by have := memB_spec h; omega
theorem beg_w (x y : Nat) (hx : x < 2147483579) (hy : y < 2147483579) : Int.tmod (IntKind.i64.wrap ((x : Int) * (y : Int))) 2147483579 = ((x * y % 2147483579 : Nat) : Int) := by rw [mul_in hx hy, mod_in]
theorem ver_p {pub : Int} {s : KSig} {m : List Int} (hm : inI m) (hl : m.length ≤ 100) {F : Nat} (hF : 64 ≤ F) : Gaf F pub s m = some (verS pub s m) := by
  unfold Gaf verS expB
  rw [mem_p pub hF]
  simp only [within_p, ob_some]
  cases hb : memB pub with
  | false => simp only [ifB_f, ifB_t, ob_some, Bool.false_and, Bool.false_eq_true, if_false]
  | true =>
    obtain ⟨m1, m2, m3⟩ := memB_spec hb
    by_cases h1 : 0 ≤ s.C ∧ s.C < 1073741789
    · by_cases h2 : 0 ≤ s.S ∧ s.S < 1073741789
      · simp only [h1, h2, and_self, decide_true, ifB_t, ob_some, Bool.not_true, ifB_f, Bool.and_self, if_true]
        have hp := pow_pn pub.toNat (1073741789 - s.C.toNat) (by omega) (by have : (2 : Nat) ^ 62 = 4611686018427387904 := by decide
                                                                            omega) hF
        rw [show ((pub.toNat : Nat) : Int) = pub by omega, show (((1073741789 - s.C.toNat : Nat)) : Int) = IntKind.i64.wrap (1073741789 - s.C) by rw [w64_id (by omega) (by omega)]; omega] at hp
        rw [(pow4 s.S (by omega) (by omega) hF).1, hp]
        simp only [ob_some]
        rw [beg_w _ _ (pw_lt _ _) (pw_lt _ _), ch_p (inI_app (inI_pair (by have := Nat.mod_lt (pw 4 s.S.toNat * pw pub.toNat (1073741789 - s.C.toNat)) (show 0 < 2147483579 by decide); omega) (mem_rng hb)) hm) hl hF]
        simp only [ob_some]
        congr 2
        rw [decide_eq_decide]
        constructor
        · intro h
          have := congrArg KSig.C h
          exact this.symm
        · intro h
          cases s
          simp only [KSig.mk.injEq, and_true]
          exact h.symm
      · simp only [h1, h2, and_self, and_false, decide_true, decide_false, ifB_t, ob_some, Bool.not_false, Bool.and_false, Bool.false_eq_true, if_false]
    · simp only [h1, false_and, decide_false, ifB_t, ifB_f, ob_some, Bool.and_false, Bool.false_eq_true, if_false]
def rightS (pub : Int) (h : Kc) : Bool × Int := if pubB pub && fH h then ((verS pub h.Sig (msgF h)).1, 0) else (false, 1)
theorem pub_mem' {a : Int} (h : pubB a = true) : memB a = true := by unfold pubB at h; simp at h; exact h.1
theorem fH_exp {h : Kc} (hh : fH h = true) : expB h.Sig = true := by
 have := of_decide_eq_true hh; exact decide_eq_true ⟨this.2.2.1, this.2.2.2⟩
theorem verS_ok {pub : Int} {s : KSig} {m : List Int} (h1 : memB pub = true) (h2 : expB s = true) : verS pub s m = (decide (chF (begS pub s : Int) pub m = s.C), 0) := by unfold verS; rw [h1, h2]; rfl
theorem right_p {pub : Int} {h : Kc} (h1 : inKd .i64 h.Office) (h2 : inKd .i64 h.Size) {F : Nat} (hF : 64 ≤ F) : Gg F pub h = some (rightS pub h) := by
 unfold Gg rightS; rw [pub_p pub hF]; simp only [fH_p, ob_some]; cases hp : pubB pub with
 | false => simp only [ifB_f, ifB_t, ob_some, Bool.false_and, Bool.false_eq_true, if_false]
 | true =>
  cases hh : fH h with
  | false => simp only [ifB_t, ob_some, Bool.not_false, Bool.and_false, Bool.false_eq_true, if_false]
  | true =>
   simp only [ifB_t, ob_some, Bool.not_true, ifB_f, Bool.and_self, if_true, msg_p]; rw [ver_p (inI_msg h1 h2) (by simp [msgF]) hF, verS_ok (pub_mem' hp) (fH_exp hh)]; rfl
theorem rootS_ok {l : List Int} (h1 : 1 ≤ l.length) (h2 : l.length ≤ 4096) : rootS l = (rootF l, 0) := by
 have hc : checkS l = 0 := by unfold checkS; rw [if_neg (by omega), if_neg (by omega)]
 unfold rootS; rw [if_neg (by simp [hc])]
theorem incS_ok {l : List Int} {i : Nat} (h : i < l.length) (h2 : l.length ≤ 4096) : incS l i = (inclF l i, 0) := by
 have hc : checkS l = 0 := by unfold checkS; rw [if_neg (by omega), if_neg (by omega)]
 unfold incS; rw [if_neg (by simp [hc]), if_neg (by omega), Int.toNat_natCast]
theorem extS_ok {l : List Int} {m : Nat} (h1 : 1 ≤ m) (h : m ≤ l.length) (h2 : l.length ≤ 4096) : extS l m = (extF l m true, 0) := by
 have hc : checkS l = 0 := by unfold checkS; rw [if_neg (by omega), if_neg (by omega)]
 unfold extS; rw [if_neg (by simp [hc]), if_neg (by omega), Int.toNat_natCast]
theorem inKd_w {n : Int} (h0 : -9223372036854775808 ≤ n) (h1 : n ≤ 9223372036854775807) : inKd .i64 n := by
 have : IntKind.i64.min ≤ n ∧ n ≤ IntKind.i64.max := by
  rw [show IntKind.i64.min = -9223372036854775808 by decide, show IntKind.i64.max = 9223372036854775807 by decide]; exact ⟨h0, h1⟩
 simpa [inKd, Lit.wf] using this
theorem inKd_wu {n : Int} (h0 : 0 ≤ n) (h1 : n ≤ 18446744073709551615) : inKd .u64 n := by
 have : IntKind.u64.min ≤ n ∧ n ≤ IntKind.u64.max := by
  rw [show IntKind.u64.min = 0 by decide, show IntKind.u64.max = 18446744073709551615 by decide]; exact ⟨h0, h1⟩
 simpa [inKd, Lit.wf] using this
def bareF (o : Kf) (n : Nat) : Kc := ⟨o.ID, n, rootF (valsF o n), ⟨0, 0⟩⟩
def signS (o : Kf) (n key once : Int) : Kc × Int :=
 if vO o && decide (1 ≤ n ∧ n ≤ o.Entries.length) && (isK key && isK once) then
  (⟨o.ID, n, rootF (valsF o n.toNat), (sigS key once (msgF (bareF o n.toNat))).1⟩, 0)
 else (⟨0, 0, 0, ⟨0, 0⟩⟩, 1)
theorem sigS_ok {k o : Int} {m : List Int} (h : (isK k && isK o) = true) : sigS k o m = ((sigS k o m).1, 0) := by unfold sigS; rw [h]; rfl
theorem sigS_no {k o : Int} {m : List Int} (h : (isK k && isK o) = false) : sigS k o m = (⟨0, 0⟩, 1) := by unfold sigS; rw [h]; rfl
theorem inI_bare {o : Kf} (hr : o.rng) {k : Nat} (hk : k ≤ 1000) : inI (msgF (bareF o k)) := inI_msg hr.r_ID (show inKd .i64 (k : Int) from inKd_w (by omega) (by omega))
theorem sign_p {o : Kf} (hr : o.rng) (hl : o.Entries.length ≤ 50) {n key once : Int} {F : Nat} (hF : 64 ≤ F) : Ga F o n key once = some (signS o n key once) := by
 unfold Ga signS; rw [valid_p hl hF]; simp only [ob_some]; cases hv : vO o with
 | false => simp only [ifB_f, ifB_t, ob_some, Bool.false_and, Bool.false_eq_true, if_false]
 | true =>
  rw [ifB_t, btw_p]; simp only [ob_some]
  by_cases hn : 1 ≤ n ∧ n ≤ (o.Entries.length : Int)
  ·rw [show decide (1 ≤ n ∧ n ≤ (o.Entries.length : Int)) = true from decide_eq_true hn]; obtain ⟨k, rfl⟩ : ∃ k : Nat, n = k := ⟨n.toNat, by omega⟩; simp only [Bool.not_true, ifB_f, Bool.true_and]; rw [root_p hr (by omega) (by omega) hF, rootS_ok (by rw [valsF_len (by omega)]; omega) (by rw [valsF_len (by omega)]; omega)]; simp only [un2, msg_p, ob_some, beq_self_eq_true, ifB_t, Int.toNat_natCast]; rw [show (⟨o.ID, (k : Int), rootF (valsF o k), ⟨0, 0⟩⟩ : Kc) = bareF o k from rfl, sig_p (inI_bare hr (by omega)) (by simp [msgF]) hF]; cases hk : (isK key && isK once) with
   | true =>
    rw [sigS_ok hk]; rfl
   | false =>
    rw [sigS_no hk]; rfl
  ·rw [show decide (1 ≤ n ∧ n ≤ (o.Entries.length : Int)) = false from decide_eq_false hn]; simp only [ifB_t, Bool.not_false, Bool.true_and, Bool.false_and, Bool.false_eq_true, if_false]
def zR : Km := ⟨⟨0, 0, 0, ⟨0, 0⟩⟩, 0, ⟨0, ⟨0, 0⟩⟩, []⟩
def provS (o : Kf) (h : Kc) (i : Int) : Km × Int :=
 if vO o && (fH h && decide (h.Size ≤ o.Entries.length ∧ 0 ≤ i ∧ i < h.Size)) then
  (if decide (h.Office = o.ID ∧ h.Root = rootF (valsF o h.Size.toNat)) then (⟨h, i, eAt o.Entries i.toNat, inclF (valsF o h.Size.toNat) i.toNat⟩, 0) else (zR, 33))
 else (zR, 1)
theorem fH_size {h : Kc} (hh : fH h = true) : 1 ≤ h.Size ∧ h.Size ≤ 4096 := (of_decide_eq_true hh).2.1
theorem pinc_p (l : List Int) (i : Int) {F : Nat} (hF : 64 ≤ F) : Gaz F l i = some (incS l i) := by
 obtain ⟨F', rfl⟩ : ∃ F', F = F' + 1 := ⟨F - 1, by omega⟩; rfl
theorem prove_p {o : Kf} (hr : o.rng) (hl : o.Entries.length ≤ 50) {h : Kc} {i : Int} {F : Nat} (hF : 64 ≤ F) : Gl F o h i = some (provS o h i) := by
 unfold Gl provS; rw [valid_p hl hF]; simp only [ob_some, fH_p]; cases hv : vO o with
 | false => simp only [ifB_f, ifB_t, ob_some, Bool.false_and, Bool.false_eq_true, if_false]; rfl
 | true =>
  cases hf : fH h with
  | false => simp only [ifB_f, ifB_t, ob_some, Bool.false_and, Bool.and_false, Bool.false_eq_true, if_false]; rfl
  | true =>
   obtain ⟨s1, s2⟩ := fH_size hf; obtain ⟨k, hk⟩ : ∃ k : Nat, h.Size = k := ⟨h.Size.toNat, by omega⟩; simp only [ifB_t, ob_some, Bool.true_and, hk]; rw [hk] at s1 s2
   by_cases h1 : (k : Int) ≤ (o.Entries.length : Int)
   ·rw [show decide ((k : Int) > (o.Entries.length : Int)) = false from decide_eq_false (by omega), ifB_f, btw_p, w64_id (n := (k : Int) - 1) (by omega) (by omega)]; simp only [ob_some]
    by_cases h2 : 0 ≤ i ∧ i ≤ (k : Int) - 1
    ·rw [show decide (0 ≤ i ∧ i ≤ (k : Int) - 1) = true from decide_eq_true h2, show decide ((k : Int) ≤ (o.Entries.length : Int) ∧ 0 ≤ i ∧ i < (k : Int)) = true from decide_eq_true (by omega)]; obtain ⟨j, rfl⟩ : ∃ j : Nat, i = j := ⟨i.toNat, by omega⟩; have hL : (valsF o k).length = k := valsF_len (by omega); simp only [Bool.not_true, ifB_f]; rw [root_p hr (by omega) (by omega) hF, rootS_ok (by rw [hL]; omega) (by rw [hL]; omega)]; simp only [un2, ob_some, beq_self_eq_true, ifB_t, Int.toNat_natCast, if_true]
     by_cases h3 : h.Office = o.ID
     ·by_cases h4 : h.Root = rootF (valsF o k)
      ·rw [show (h.Office == o.ID) = true from beq_iff_eq.2 h3, show (rootF (valsF o k) == h.Root) = true from beq_iff_eq.2 h4.symm, show decide (h.Office = o.ID ∧ h.Root = rootF (valsF o k)) = true from decide_eq_true ⟨h3, h4⟩]; simp only [ifB_t, ob_some, Bool.not_true, ifB_f, if_true]; rw [show (0 : Int) = ((0 : Nat) : Int) from rfl, slI_ok (Nat.zero_le k) (by omega)]; simp only [ob_some, List.drop_zero]; rw [show ((0 : Nat) : Int) = 0 from rfl, coll_p (fun e he => hr.r_Entries e (List.mem_of_mem_take he)) (by rw [List.length_take]; omega) hF]; simp only [ob_some]; rw [pinc_p _ _ hF, show (List.map leafE (o.Entries.take k)) = valsF o k from rfl, incS_ok (by rw [hL]; omega) (by rw [hL]; omega)]; simp only [ob_some, un2, beq_self_eq_true, ifB_t]; rw [ixI_nat, eAt_get (by omega)]; rfl
      ·rw [show (h.Office == o.ID) = true from beq_iff_eq.2 h3, show (rootF (valsF o k) == h.Root) = false from beq_eq_false_iff_ne.2 fun e => h4 e.symm, show decide (h.Office = o.ID ∧ h.Root = rootF (valsF o k)) = false from decide_eq_false fun e => h4 e.2]; rfl
     ·rw [show (h.Office == o.ID) = false from beq_eq_false_iff_ne.2 h3, show decide (h.Office = o.ID ∧ h.Root = rootF (valsF o k)) = false from decide_eq_false fun e => h3 e.1]; rfl
    ·rw [show decide (0 ≤ i ∧ i ≤ (k : Int) - 1) = false from decide_eq_false h2, show decide ((k : Int) ≤ (o.Entries.length : Int) ∧ 0 ≤ i ∧ i < (k : Int)) = false from decide_eq_false (by omega)]; rfl
   ·rw [show decide ((k : Int) > (o.Entries.length : Int)) = true from decide_eq_true (by omega), show decide ((k : Int) ≤ (o.Entries.length : Int) ∧ 0 ≤ i ∧ i < (k : Int)) = false from decide_eq_false (by omega)]; rfl
def chkB (pub : Int) (r : Km) : Bool := pubB pub && (fH r.Head && (vI r.Entry.Stamp && decide ((0 ≤ r.Index ∧ r.Index < r.Head.Size) ∧ r.Path.length ≤ 20)))
def chkS (pub : Int) (r : Km) : Bool × Int :=
 if chkB pub r then ((verS pub r.Head.Sig (msgF r.Head)).1 && inclS r.Head.Root (leafE r.Entry) r.Index r.Head.Size r.Path, 0) else (false, 1)
theorem rightS_ok {pub : Int} {h : Kc} (h1 : pubB pub = true) (h2 : fH h = true) : rightS pub h = ((verS pub h.Sig (msgF h)).1, 0) := by unfold rightS; rw [h1, h2]; rfl
theorem pincl_p (a b i n : Int) (l : List Int) (hl : l.length ≤ 100) {F : Nat} (hF : 64 ≤ F) : Ga0 F a b i n l = some (inclS a b i n l) := by
 obtain ⟨F', rfl⟩ : ∃ F', F = F' + 1 := ⟨F - 1, by omega⟩; exact whenG_t (decide_eq_true (by omega))
theorem check_p {pub : Int} {r : Km} (q1 : inKd .i64 r.Head.Office) (q2 : inKd .i64 r.Head.Size) (q3 : r.Entry.rng) {F : Nat} (hF : 64 ≤ F) : Gj F pub r = some (chkS pub r) := by
 unfold Gj chkS chkB; rw [pub_p pub hF]; simp only [ob_some, fH_p, logged_p]; cases hp : pubB pub with
 | false => rfl
 | true =>
  cases hf : fH r.Head with
  | false => rfl
  | true =>
   cases hv : vI r.Entry.Stamp with
   | false => rfl
   | true =>
    obtain ⟨s1, s2⟩ := fH_size hf; simp only [ifB_t, ob_some, Bool.true_and, btw_p]; rw [w64_id (n := r.Head.Size - 1) (by omega) (by omega)]
    by_cases h1 : 0 ≤ r.Index ∧ r.Index < r.Head.Size
    ·rw [show decide (0 ≤ r.Index ∧ r.Index ≤ r.Head.Size - 1) = true from decide_eq_true (by omega)]
     by_cases h2 : r.Path.length ≤ 20
     ·rw [show decide ((r.Path.length : Int) > 20) = false from decide_eq_false (by omega), show decide ((0 ≤ r.Index ∧ r.Index < r.Head.Size) ∧ r.Path.length ≤ 20) = true from decide_eq_true ⟨h1, h2⟩]; simp only [ifB_t, ob_some, ifB_f, if_true]; rw [right_p q1 q2 hF, rightS_ok hp hf]; simp only [un2, ob_some]; rw [leaf_p q3 hF]; simp only [ob_some]; rw [pincl_p _ _ _ _ _ (by omega) hF]; cases (verS pub r.Head.Sig (msgF r.Head)).1 <;> rfl
     ·rw [show decide ((r.Path.length : Int) > 20) = true from decide_eq_true (by omega), show decide ((0 ≤ r.Index ∧ r.Index < r.Head.Size) ∧ r.Path.length ≤ 20) = false from decide_eq_false fun e => h2 e.2]; rfl
    ·rw [show decide (0 ≤ r.Index ∧ r.Index ≤ r.Head.Size - 1) = false from decide_eq_false (by omega), show decide ((0 ≤ r.Index ∧ r.Index < r.Head.Size) ∧ r.Path.length ≤ 20) = false from decide_eq_false fun e => h1 e.1]; rfl
theorem vO_iff {o : Kf} : vO o = true ↔ (∀ j, j < o.Entries.length → okAt o.Entries j = true) ∧ (1 ≤ o.ID ∧ o.ID ≤ 16) ∧ o.Entries.length ≤ 4096 := by
 unfold vO ordB; simp only [Bool.and_eq_true, decide_eq_true_eq, frB_iff]; constructor
 ·rintro ⟨h1, h2, h3⟩; exact ⟨fun j hj => h1 j (Nat.zero_le _) (by omega), h2, h3⟩
 ·rintro ⟨h1, h2, h3⟩; exact ⟨fun j _ hj => h1 j (by omega), h2, h3⟩
theorem okAt_iff {l : List Kb} {j : Nat} : okAt l j = true ↔ vI (eAt l j).Stamp = true ∧ (0 < j → (eAt l (j - 1)).Stamp.Lo ≤ (eAt l j).Stamp.Lo) := by
 unfold okAt
 by_cases h0 : 0 < j <;> by_cases h1 : (eAt l j).Stamp.Lo < (eAt l (j - 1)).Stamp.Lo <;> simp [h0, h1] <;> omega
theorem modL {s L : Nat} (hs : s ≤ 65535) : Int.tmod (IntKind.i64.wrap ((s : Nat) : Int)) ((L : Nat) : Int) = ((s % L : Nat) : Int) := by rw [w64_id (by omega) (by omega)]; rfl
theorem inKd_nat8 {n : Int} (h : inKd .u8 n) : ∃ s : Nat, n = s ∧ s ≤ 65535 := by have := inKd_u8 h; exact ⟨n.toNat, by omega, by omega⟩
theorem inKd_nat16 {n : Int} (h : inKd .u16 n) : ∃ s : Nat, n = s ∧ s ≤ 65535 := by have := inKd_u16 h; exact ⟨n.toNat, by omega, by omega⟩
def secF (n : Int) : Int := n % 1073741788 + 1
theorem sec_eq {n : Int} (h : inKd .u64 n) (F : Nat) : Gn F n = some (secF n) := by
 have := inKd_u64 h; unfold Gn secF; rw [Int.tmod_eq_emod_of_nonneg this.1, w64_id (n := n % 1073741788) (by omega) (by omega), w64_id (by omega) (by omega), Int.add_comm]
theorem sec_isK (n : Int) : isK (secF n) = true := decide_eq_true (by unfold secF; omega)
theorem isK_spec {k : Int} (h : isK k = true) : 1 ≤ k ∧ k < 1073741789 := of_decide_eq_true h
def pubF (k : Int) : Int := ((pw 4 k.toNat : Nat) : Int)
theorem pubF_eq {k : Int} (h : isK k = true) {F : Nat} (hF : 64 ≤ F) : Gm F k = some (pubF k) := by
 have := isK_spec h; unfold Gm; rw [(pow4 k (by omega) (by omega) hF).2]; rfl
theorem pubF_mem (k : Int) : memB (pubF k) = true := by
 have h1 := pub_pos k.toNat; have h2 := pw_lt 4 k.toNat; exact decide_eq_true ⟨by unfold pubF; omega, by unfold pubF; omega, by unfold pubF; rw [Int.toNat_natCast]; exact pub_mem _⟩
theorem pubF_pub {k : Int} (h : isK k = true) : pubB (pubF k) = true := by
 have hk := isK_spec h; have h1 := pub_ne (k := k.toNat) (by omega) (by omega); unfold pubB; rw [pubF_mem, show (pubF k == 1) = false from beq_eq_false_iff_ne.2 (by unfold pubF; omega)]; rfl
theorem sig_C {k m : Int} {l : List Int} (h : (isK k && isK m) = true) : (sigS k m l).1 = ⟨chF (pubF m) (pubF k) l, (m + chF (pubF m) (pubF k) l * k) % 1073741789⟩ := by unfold sigS; rw [h]; rfl
theorem sig_exp {k m : Int} {l : List Int} (h : (isK k && isK m) = true) : expB (sigS k m l).1 = true := by
 rw [sig_C h]; have := chF_rng (pubF m) (pubF k) l; refine decide_eq_true ⟨this, ?_⟩; constructor <;> simp only <;> omega
theorem sig_beg {k m : Int} {l : List Int} (h : (isK k && isK m) = true) : (begS (pubF k) (sigS k m l).1 : Int) = pubF m := by
 rw [sig_C h]; have hk : isK k = true ∧ isK m = true := by simpa using h
 have h1 := isK_spec hk.1; have h2 := isK_spec hk.2; have hc := chF_rng (pubF m) (pubF k) l; generalize chF (pubF m) (pubF k) l = c at hc; obtain ⟨C, rfl⟩ : ∃ C : Nat, c = C := ⟨c.toNat, by omega⟩; obtain ⟨K, rfl⟩ : ∃ K : Nat, k = K := ⟨k.toNat, by omega⟩; obtain ⟨M, rfl⟩ : ∃ M : Nat, m = M := ⟨m.toNat, by omega⟩; unfold begS pubF; simp only [Int.toNat_natCast]; have e : (((M : Int) + (C : Int) * (K : Int)) % 1073741789).toNat = (M + C * K) % 1073741789 := by
  rw [show ((M : Int) + (C : Int) * (K : Int)) % 1073741789 = (((M + C * K) % 1073741789 : Nat) : Int) by rw [Int.natCast_emod, Int.natCast_add, Int.natCast_mul]; rfl, Int.toNat_natCast]
 rw [e, sig_back K M C (by omega)]
theorem ver_own {k m : Int} {l : List Int} (h : (isK k && isK m) = true) : verS (pubF k) (sigS k m l).1 l = (true, 0) := by
 rw [verS_ok (pubF_mem k) (sig_exp h), sig_beg h]; rw [sig_C h]
 simp
def headF (o : Kf) (n : Nat) (k m : Int) : Kc := ⟨o.ID, n, rootF (valsF o n), (sigS k m (msgF (bareF o n))).1⟩
theorem sign_ok {o : Kf} {n : Nat} {k m : Int} (hv : vO o = true) (h1 : 1 ≤ n) (h2 : n ≤ o.Entries.length) (h : (isK k && isK m) = true) : signS o n k m = (headF o n k m, 0) := by
 unfold signS; rw [hv, h, show decide (1 ≤ (n : Int) ∧ (n : Int) ≤ (o.Entries.length : Int)) = true from decide_eq_true (by omega)]; rfl
theorem msg_head (o : Kf) (n : Nat) (k m : Int) : msgF (headF o n k m) = msgF (bareF o n) := rfl
theorem headF_fH {o : Kf} {n : Nat} {k m : Int} (hv : vO o = true) (h1 : 1 ≤ n) (h2 : n ≤ 4096) (h : (isK k && isK m) = true) : fH (headF o n k m) = true := by
 have hi := (vO_iff.1 hv).2.1; have he : expB (headF o n k m).Sig = true := sig_exp h; have he := of_decide_eq_true he; exact decide_eq_true ⟨hi, ⟨by show 1 ≤ (n : Int); omega, by show (n : Int) ≤ 4096; omega⟩, he.1, he.2⟩
theorem eAt_rng {o : Kf} (hr : o.rng) {i : Nat} (hi : i < o.Entries.length) : (eAt o.Entries i).rng := hr.r_Entries _ (List.mem_of_getElem? (eAt_get hi))
theorem eAt_app {l : List Kb} {e : Kb} {i : Nat} (h : i < l.length) : eAt (l ++ [e]) i = eAt l i := by
 unfold eAt; rw [List.getD_eq_getElem?_getD, List.getD_eq_getElem?_getD, List.getElem?_append_left h]
theorem eAt_last {l : List Kb} {e : Kb} : eAt (l ++ [e]) l.length = e := by
 unfold eAt; rw [List.getD_eq_getElem?_getD, List.getElem?_append_right (Nat.le_refl _)]
 simp
theorem vO_app {o : Kf} {e : Kb} (hl : o.Entries.length ≤ 4000) : vO ⟨o.ID, o.Entries ++ [e]⟩ = (vO o && (vI e.Stamp && !(decide (0 < o.Entries.length) && decide (e.Stamp.Lo < (eAt o.Entries (o.Entries.length - 1)).Stamp.Lo)))) := by
 rw [Bool.eq_iff_iff, Bool.and_eq_true, vO_iff, vO_iff]; have hlast : okAt (o.Entries ++ [e]) o.Entries.length = (vI e.Stamp && !(decide (0 < o.Entries.length) && decide (e.Stamp.Lo < (eAt o.Entries (o.Entries.length - 1)).Stamp.Lo))) := by
  unfold okAt; rw [eAt_last]
  by_cases h0 : 0 < o.Entries.length
  ·rw [eAt_app (i := o.Entries.length - 1) (by omega)]
  ·rw [show decide (0 < o.Entries.length) = false from decide_eq_false h0]; simp
 have hother : ∀ j, j < o.Entries.length → okAt (o.Entries ++ [e]) j = okAt o.Entries j := by
  intro j hj; unfold okAt; rw [eAt_app hj, eAt_app (i := j - 1) (by omega)]
 rw [← hlast]; simp only [List.length_append, List.length_cons, List.length_nil]; constructor
 ·rintro ⟨h1, h2, h3⟩; exact ⟨⟨fun j hj => by rw [← hother j hj]; exact h1 j (by omega), h2, by omega⟩, h1 _ (by omega)⟩
 ·rintro ⟨⟨h1, h2, h3⟩, h4⟩; refine ⟨fun j hj => ?_, h2, by omega⟩; rcases Nat.lt_or_ge j o.Entries.length with hj' | hj'
  ·rw [hother j hj']; exact h1 j hj'
  ·have : j = o.Entries.length := by omega
   subst this; exact h4
theorem app_cases {o : Kf} {e : Kb} (hl : o.Entries.length ≤ 4000) :
  (vO ⟨o.ID, o.Entries ++ [e]⟩ = true ∧ appS o e = (⟨o.ID, o.Entries ++ [e]⟩, 0)) ∨ (vO ⟨o.ID, o.Entries ++ [e]⟩ = false ∧ (appS o e = (⟨0, []⟩, 1) ∨ appS o e = (⟨0, []⟩, 30))) := by
 rw [vO_app hl]; unfold appS; cases vO o with
 | false => exact .inr ⟨rfl, .inl rfl⟩
 | true =>
  cases vI e.Stamp with
  | false => exact .inr ⟨rfl, .inl rfl⟩
  | true =>
   cases (decide (0 < o.Entries.length) && decide (e.Stamp.Lo < (eAt o.Entries (o.Entries.length - 1)).Stamp.Lo)) with
   | true => exact .inr ⟨rfl, .inr rfl⟩
   | false => exact .inl ⟨rfl, rfl⟩
theorem un2_p {a b c : Type} (f : a → b → c) (p : a × b) : un2 f p = f p.1 p.2 := rfl
theorem both {k m : Int} (h1 : isK k = true) (h2 : isK m = true) : (isK k && isK m) = true := by rw [h1, h2]; rfl
theorem pext (l : List Int) (i : Int) {F : Nat} (hF : 64 ≤ F) : Gay F l i = some (extS l i) := by
 obtain ⟨F', rfl⟩ : ∃ F', F = F' + 1 := ⟨F - 1, by omega⟩; rfl
theorem pgrow (a b m n : Int) (l : List Int) (hl : l.length ≤ 1000) {F : Nat} (hF : 64 ≤ F) : Gas F a b m n l = some (growS a b m n l) := by
 obtain ⟨F', rfl⟩ : ∃ F', F = F' + 1 := ⟨F - 1, by omega⟩; exact whenG_t (decide_eq_true hl)
theorem valsF_app {o : Kf} {e : Kb} {n : Nat} (h : n ≤ o.Entries.length) : valsF ⟨o.ID, o.Entries ++ [e]⟩ n = valsF o n := by
 unfold valsF; simp only; rw [List.take_append_of_le_length h]
theorem headF_app {o : Kf} {e : Kb} {n : Nat} {k m : Int} (h : n ≤ o.Entries.length) : headF ⟨o.ID, o.Entries ++ [e]⟩ n k m = headF o n k m := by
 unfold headF bareF; rw [valsF_app h]
section
variable {ρ : Type}
def fdN (p : Nat → Bool) : Nat → Nat → Option Nat
 | 0, _ => none
 | m + 1, k => if p k = true then some k else fdN p m (k + 1)
theorem fdN_some {p : Nat → Bool} : ∀ {m k j : Nat}, fdN p m k = some j → (k ≤ j ∧ j < k + m) ∧ p j = true ∧ ∀ i, k ≤ i → i < j → p i = false
 | m + 1, k, j, h => by
  unfold fdN at h
  split at h
  ·next hp => cases h; exact ⟨⟨Nat.le_refl _, by omega⟩, hp, fun i h1 h2 => absurd h2 (by omega)⟩
  ·next hp =>
   obtain ⟨h1, h2, h3⟩ := fdN_some h; refine ⟨⟨by omega, by omega⟩, h2, fun i h4 h5 => ?_⟩; rcases Nat.eq_or_lt_of_le h4 with rfl | h4
   ·simpa using hp
   ·exact h3 i h4 h5
theorem iter_fd {f : Int → Option (Int ⊕ ρ)} (n : Nat) (p : Nat → Bool) (a : ρ) (b : Nat → ρ) (hn : f (n : Int) = some (.inr a)) (hk : ∀ k, k < n → f (k : Int) = some (if p k = true then .inr (b k) else .inl ((k + 1 : Nat) : Int))) {F : Nat} (hF : n < F) :
  iter f F 0 = some (match fdN p n 0 with | some k => b k | none => a) := by
 have key : ∀ (m k F : Nat), k + m = n → m < F → iter f F (k : Int) = some (match fdN p m k with | some k => b k | none => a) := by
  intro m
  induction m with
  | zero =>
   intro k F hm hF; obtain ⟨F', rfl⟩ : ∃ F', F = F' + 1 := ⟨F - 1, by omega⟩; have : k = n := by omega
   subst this; unfold iter; rw [hn]; rfl
  | succ m ih =>
   intro k F hm hF; obtain ⟨F', rfl⟩ : ∃ F', F = F' + 1 := ⟨F - 1, by omega⟩; unfold iter fdN; rw [hk k (by omega)]; cases hp : p k with
   | true => simp
   | false =>
    simp only [Bool.false_eq_true, if_false]; exact ih (k + 1) F' (by omega) (by omega)
 exact key n 0 F (by omega) hF
end
theorem pub4 : pubB 4 = true := by
 have := pubF_pub (k := 1) rfl
 rwa [show pubF 1 = 4 by unfold pubF; rw [show (1 : Int).toNat = 1 from rfl, pw_m]; rfl] at this
def digF (h : Kc) : Int := intsF (msgF h ++ [h.Sig.C, h.Sig.S])
theorem inI_dig {h : Kc} (hr : h.rng) : inI (msgF h ++ [h.Sig.C, h.Sig.S]) := inI_app (inI_msg hr.r_Office hr.r_Size) (inI_pair (inKd_i64 hr.r_Sig.r_C) (inKd_i64 hr.r_Sig.r_S))
theorem dig_p {h : Kc} (hr : h.rng) {F : Nat} (hF : 64 ≤ F) : Gd F h = some (digF h) := by
 unfold Gd; rw [low32 (inKd_u64 hr.r_Root).1 (inKd_u64 hr.r_Root).2]; have h := dints (inI_dig hr) (by simp [msgF]) hF; unfold msgF at h; simp only [List.cons_append, List.nil_append] at h; rw [h]; rfl
theorem dig_r {h : Kc} (hr : h.rng) {F : Nat} (hF : 64 ≤ F) : Gq F h = some (digF h) := by
 unfold Gq; rw [low32 (inKd_u64 hr.r_Root).1 (inKd_u64 hr.r_Root).2]; have h := rints (inI_dig hr) (by simp [msgF]) hF; unfold msgF at h; simp only [List.cons_append, List.nil_append] at h; rw [h]; rfl
theorem rightS_e {pub : Int} {h : Kc} : ((rightS pub h).2 == 0) = (pubB pub && fH h) := by
 unfold rightS; cases pubB pub && fH h <;> rfl
theorem formed_p {h : Kc} (h1 : inKd .i64 h.Office) (h2 : inKd .i64 h.Size) {F : Nat} (hF : 64 ≤ F) : Gi F h = some (fH h) := by
 unfold Gi; rw [right_p h1 h2 hF]; rw [ob_some, un2_p]; rw [rightS_e, pub4]; rfl
theorem vals_c {o : Kf} (hr : o.rng) {n : Nat} (hn : n ≤ o.Entries.length) (hl : n ≤ 60) {F : Nat} (hF : 64 ≤ F) : Gy F o (n : Int) = some (valsF o n) := by
 unfold Gy; rw [show (0 : Int) = ((0 : Nat) : Int) from rfl, slI_ok (Nat.zero_le n) hn]; simp only [ob_some, List.drop_zero]; rw [show ((0 : Nat) : Int) = 0 from rfl, coll_p (fun e he => hr.r_Entries e (List.mem_of_mem_take he)) (by rw [List.length_take]; omega) hF]; rfl
def hasS (o : Kf) (h : Kc) : Bool := decide (h.Office = o.ID) && (decide (h.Size ≤ (o.Entries.length : Int)) && decide (rootF (valsF o h.Size.toNat) = h.Root))
theorem pRoot (l : List Int) {F : Nat} (hF : 64 ≤ F) : Gat F l = some (rootS l) := by
 obtain ⟨F', rfl⟩ : ∃ F', F = F' + 1 := ⟨F - 1, by omega⟩; rfl
theorem has_p {o : Kf} (hr : o.rng) (hl : o.Entries.length ≤ 50) {h : Kc} (h1 : 1 ≤ h.Size) {F : Nat} (hF : 64 ≤ F) : Gr F o h = some (hasS o h) := by
 unfold Gr hasS
 by_cases ho : h.Office = o.ID
 ·rw [show (h.Office == o.ID) = true from beq_iff_eq.2 ho, show decide (h.Office = o.ID) = true from decide_eq_true ho]; obtain ⟨k, hk⟩ : ∃ k : Nat, h.Size = k := ⟨h.Size.toNat, by omega⟩; simp only [ifB_t, ob_some, hk]; rw [hk] at h1
  by_cases hs : (k : Int) ≤ (o.Entries.length : Int)
  ·rw [show decide ((k : Int) > (o.Entries.length : Int)) = false from decide_eq_false (by omega), show decide ((k : Int) ≤ (o.Entries.length : Int)) = true from decide_eq_true hs, ifB_f, vals_c hr (by omega) (by omega) hF]; have hL : (valsF o k).length = k := valsF_len (by omega); simp only [ob_some]; rw [pRoot _ hF, rootS_ok (by rw [hL]; omega) (by rw [hL]; omega)]; simp only [un2, ob_some, beq_self_eq_true, ifB_t, Int.toNat_natCast, Bool.true_and]; rfl
  ·rw [show decide ((k : Int) > (o.Entries.length : Int)) = true from decide_eq_true (by omega), show decide ((k : Int) ≤ (o.Entries.length : Int)) = false from decide_eq_false hs]; rfl
 ·rw [show (h.Office == o.ID) = false from beq_eq_false_iff_ne.2 ho, show decide (h.Office = o.ID) = false from decide_eq_false ho]; rfl
def zH : KHop := ⟨⟨0, 0, 0, ⟨0, 0⟩⟩, [], zR⟩
def fndS (l : List Kb) (n : Nat) (d : Int) : Option Nat := fdN (fun k => (eAt l k).Doc == d) n 0
def witC (a : Kf) (f o : Kc) (b : Kf) (h : Kc) : Bool := vO a && (vO b && (fH f && (fH o && (fH h && (!(a.ID == b.ID) && !decide (f.Size > o.Size))))))
def witS (a : Kf) (f o : Kc) (b : Kf) (h : Kc) : KHop × Int :=
 if witC a f o b h then
  (if hasS a f && (hasS a o && hasS b h) then
   (match fndS b.Entries h.Size.toNat (digF o) with
   | none => (zH, 4)
   | some i => (⟨o, extF (valsF a o.Size.toNat) f.Size.toNat true, ⟨h, i, eAt b.Entries i, inclF (valsF b h.Size.toNat) i⟩⟩, 0))
  else (zH, 33))
 else (zH, 1)
theorem hasS_spec {o : Kf} {h : Kc} (hh : hasS o h = true) : h.Office = o.ID ∧ h.Size ≤ (o.Entries.length : Int) ∧ rootF (valsF o h.Size.toNat) = h.Root := by
 simp only [hasS, Bool.and_eq_true, decide_eq_true_eq] at hh; exact hh
theorem provS_has {o : Kf} {h : Kc} {i : Nat} (hv : vO o = true) (hf : fH h = true) (hh : hasS o h = true) (hi : (i : Int) < h.Size) : provS o h i = (⟨h, i, eAt o.Entries i, inclF (valsF o h.Size.toNat) i⟩, 0) := by
 obtain ⟨h1, h2, h3⟩ := hasS_spec hh; unfold provS; rw [hv, hf, show decide (h.Size ≤ (o.Entries.length : Int) ∧ 0 ≤ (i : Int) ∧ (i : Int) < h.Size) = true from decide_eq_true ⟨h2, by omega, hi⟩, show decide (h.Office = o.ID ∧ h.Root = rootF (valsF o h.Size.toNat)) = true from decide_eq_true ⟨h1, h3.symm⟩]; rfl
theorem wit_p {a b : Kf} (ha : a.rng) (hb : b.rng) (la : a.Entries.length ≤ 50) (lb : b.Entries.length ≤ 50) {f o h : Kc} (hf : f.rng) (ho : o.rng) (hh : h.rng) {F : Nat} (hF : 64 ≤ F) : Gaa F a f o b h = some (witS a f o b h) := by
 unfold Gaa witS witC; rw [valid_p la hF, valid_p lb hF, formed_p hf.r_Office hf.r_Size hF, formed_p ho.r_Office ho.r_Size hF, formed_p hh.r_Office hh.r_Size hF]; simp only [ob_some]; cases h1 : vO a with
 | false => rfl
 | true =>
 cases h2 : vO b with
 | false => rfl
 | true =>
 cases h3 : fH f with
 | false => rfl
 | true =>
 cases h4 : fH o with
 | false => rfl
 | true =>
 cases h5 : fH h with
 | false => rfl
 | true =>
 cases h6 : (a.ID == b.ID) with
 | true => rfl
 | false =>
 cases h7 : decide (f.Size > o.Size) with
 | true => rfl
 | false =>
  simp only [ifB_t, ifB_f, ob_some, Bool.true_and, Bool.not_false, if_true]; obtain ⟨s1, s2⟩ := fH_size h3; obtain ⟨t1, t2⟩ := fH_size h4; obtain ⟨u1, u2⟩ := fH_size h5; rw [has_p ha la s1 hF, has_p ha la t1 hF, has_p hb lb u1 hF]; simp only [ob_some]; cases h8 : hasS a f with
  | false => rfl
  | true =>
  cases h9 : hasS a o with
  | false => rfl
  | true =>
  cases h10 : hasS b h with
  | false => rfl
  | true =>
   simp only [ifB_t, ifB_f, ob_some, Bool.not_true, Bool.and_self, if_true]; obtain ⟨_, q1, _⟩ := hasS_spec h10; obtain ⟨_, q2, _⟩ := hasS_spec h9; obtain ⟨k, hk⟩ : ∃ k : Nat, h.Size = k := ⟨h.Size.toNat, by omega⟩; obtain ⟨n, hn⟩ : ∃ n : Nat, o.Size = n := ⟨o.Size.toNat, by omega⟩; obtain ⟨m, hm⟩ : ∃ m : Nat, f.Size = m := ⟨f.Size.toNat, by omega⟩; have h7' := of_decide_eq_false h7; rw [dig_p ho hF]; simp only [ob_some]; have hrec : ∀ i : Nat, i < k → Gl F b h i = some (⟨h, i, eAt b.Entries i, inclF (valsF b k) i⟩, 0) := fun i hi => by
    have := provS_has (i := i) h2 h5 h10 (by omega); rw [prove_p hb lb hF, this, hk]; rfl
   rw [hk] at q1 u1; rw [hn] at q2 t1; rw [hk, show (0 : Int) = ((0 : Nat) : Int) from rfl, slI_ok (Nat.zero_le k) (by omega)]; simp only [ob_some, List.drop_zero, Int.toNat_natCast]; have hlen : (b.Entries.take k).length = k := by rw [List.length_take]; omega
   rw [show ((0 : Nat) : Int) = 0 from rfl, iter_fd k (fun j => (eAt b.Entries j).Doc == digF o) (.inl ()) (fun j => .inr (j : Int)) ?_ ?_ (by omega)]
   ·show _ = some (match fndS b.Entries k (digF o) with | none => _ | some i => _)
    unfold fndS; cases hfd : fdN (fun j => (eAt b.Entries j).Doc == digF o) k 0 with
    | none => rfl
    | some i =>
     obtain ⟨⟨_, hi⟩, _⟩ := fdN_some hfd; simp only [ob_some, Sum.elim_inr]; rw [show decide ((i : Int) < 0) = false from decide_eq_false (by omega), ifB_f, hn, vals_c ha (by omega) (by omega) hF]; simp only [ob_some]; have hL : (valsF a n).length = n := valsF_len (by omega); rw [hm] at h7' s1 ⊢; rw [hn] at h7'; rw [pext _ _ hF, extS_ok (by omega) (by rw [hL]; omega) (by rw [hL]; omega), hrec i (by omega)]; rfl
   ·rw [hlen, show decide ((k : Int) < ((k : Nat) : Int)) = false from decide_eq_false (by omega)]; rfl
   ·intro j hj; rw [hlen, show decide ((j : Int) < ((k : Nat) : Int)) = true from decide_eq_true (by omega), ifB_t, ixI_nat, List.getElem?_take, if_pos hj, eAt_get (by omega)]; simp only [ob_some]; rw [w64_nat (by omega)]; cases (eAt b.Entries j).Doc == digF o <;> rfl
def kAt (l : List Int) (k : Nat) : Int := l.getD k 0
theorem kAt_get {l : List Int} {k : Nat} (h : k < l.length) : l[k]? = some (kAt l k) := by
 unfold kAt; rw [List.getD_eq_getElem?_getD, List.getElem?_eq_getElem h]; rfl
def sgnS (l : List Int) (h : Kc) : Bool := decide (1 ≤ h.Office ∧ h.Office ≤ (l.length : Int)) && (!(kAt l (h.Office - 1).toNat == 0) && (rightS (kAt l (h.Office - 1).toNat) h).1)
theorem sgn_p {l : List Int} {h : Kc} (h1 : inKd .i64 h.Office) (h2 : inKd .i64 h.Size) {F : Nat} (hF : 64 ≤ F) : Gs F l h = some (sgnS l h) := by
 unfold Gs sgnS
 by_cases ho : 1 ≤ h.Office
 ·by_cases hl : h.Office ≤ (l.length : Int)
  ·rw [show decide (h.Office < 1) = false from decide_eq_false (by omega), show decide (h.Office > (l.length : Int)) = false from decide_eq_false (by omega), show decide (1 ≤ h.Office ∧ h.Office ≤ (l.length : Int)) = true from decide_eq_true ⟨ho, hl⟩]; have hi := inKd_i64 h1; rw [w64_id (n := h.Office - 1) (by omega) (by omega), show h.Office - 1 = (((h.Office - 1).toNat : Nat) : Int) by omega, ixI_nat, kAt_get (by omega)]; simp only [ifB_f, ob_some, Int.toNat_natCast, Bool.true_and]; cases (kAt l (h.Office - 1).toNat == 0) with
   | true => rfl
   | false =>
    rw [right_p h1 h2 hF]; rfl
  ·rw [show decide (h.Office < 1) = false from decide_eq_false (by omega), show decide (h.Office > (l.length : Int)) = true from decide_eq_true (by omega), show decide (1 ≤ h.Office ∧ h.Office ≤ (l.length : Int)) = false from decide_eq_false fun e => hl e.2]; rfl
 ·rw [show decide (h.Office < 1) = true from decide_eq_true (by omega), show decide (1 ≤ h.Office ∧ h.Office ≤ (l.length : Int)) = false from decide_eq_false fun e => ho e.1]; rfl
def okK (k : Int) : Bool := (k == 0) || pubB k
def rgtS (l : List Int) : Bool := decide (l.length ≤ 16) && frB (fun j => okK (kAt l j)) l.length 0
theorem bad_p (k : Int) {F : Nat} (hF : 64 ≤ F) : Gac F k = some (!okK k) := by
 unfold Gac okK; rw [right_p (inKd_w (by decide) (by decide)) (inKd_w (by decide) (by decide)) hF]; rw [ob_some, un2_p]; rw [rightS_e, show fH ⟨1, 1, 0, ⟨0, 0⟩⟩ = true from rfl]; cases (k == 0) <;> cases pubB k <;> rfl
theorem fd_fr {p : Nat → Bool} : ∀ {m k : Nat}, frB p m k = (fdN (fun j => !p j) m k).isNone
 | 0, _ => rfl
 | m + 1, k => by
  unfold frB fdN; cases p k with
  | true => simp [fd_fr]
  | false => simp
theorem rgt_p {l : List Int} (hl : l.length ≤ 40) {F : Nat} (hF : 64 ≤ F) : Gab F l = some (rgtS l) := by
 unfold Gab rgtS
 by_cases h16 : l.length ≤ 16
 ·rw [show decide ((l.length : Int) ≤ 16) = true from decide_eq_true (by omega), show decide (l.length ≤ 16) = true from decide_eq_true h16, ifB_t]; rw [iter_fd l.length (fun j => !okK (kAt l j)) (.inl ()) (fun j => .inr (j : Int)) ?_ ?_ (by omega)]
  ·rw [fd_fr]; cases hfd : fdN (fun j => !okK (kAt l j)) l.length 0 with
   | none => rfl
   | some i =>
    simp only [ob_some, Sum.elim_inr]; rw [show decide ((i : Int) ≥ 0) = true from decide_eq_true (by omega)]; rfl
  ·rw [show decide ((l.length : Int) < (l.length : Int)) = false from decide_eq_false (by omega)]; rfl
  ·intro j hj; rw [show decide ((j : Int) < (l.length : Int)) = true from decide_eq_true (by omega), ifB_t, ixI_nat, kAt_get hj]; simp only [ob_some]; rw [bad_p _ hF, w64_nat (by omega)]; cases okK (kAt l j) <;> rfl
 ·rw [show decide ((l.length : Int) ≤ 16) = false from decide_eq_false (by omega), show decide (l.length ≤ 16) = false from decide_eq_false h16]; rfl
def recB (r : Km) : Bool := fH r.Head && (vI r.Entry.Stamp && decide ((0 ≤ r.Index ∧ r.Index < r.Head.Size) ∧ r.Path.length ≤ 20))
theorem chkS_e {pub : Int} {r : Km} : ((chkS pub r).2 == 0) = (pubB pub && recB r) := by
 unfold chkS chkB recB; cases pubB pub && (fH r.Head && (vI r.Entry.Stamp && decide ((0 ≤ r.Index ∧ r.Index < r.Head.Size) ∧ r.Path.length ≤ 20))) <;> rfl
def hopC (l : List Int) (f : Kc) (h : KHop) : Bool := recB h.By && (rgtS l && (fH f && (fH h.Of && decide (h.Grow.length ≤ 20))))
def hopB (l : List Int) (f : Kc) (h : KHop) : Bool :=
 (sgnS l f && (sgnS l h.Of && sgnS l h.By.Head)) && ((decide (h.Of.Office = f.Office) && !(h.By.Head.Office == f.Office)) && (growS f.Root h.Of.Root f.Size h.Of.Size h.Grow && ((h.By.Entry.Doc == digF h.Of) && inclS h.By.Head.Root (leafE h.By.Entry) h.By.Index h.By.Head.Size h.By.Path)))
def hopS (l : List Int) (f : Kc) (h : KHop) : Bool × Int := if hopC l f h then (hopB l f h, 0) else (false, 1)
theorem hop_p {l : List Int} {f : Kc} {h : KHop} (hl : l.length ≤ 40) (hf : f.rng) (ho : h.Of.rng) (hb : h.By.Head.rng) (he : h.By.Entry.rng) {F : Nat} (hF : 64 ≤ F) : G9 F l f h = some (hopS l f h) := by
 unfold G9 hopS hopC; rw [check_p hb.r_Office hb.r_Size he hF]; rw [ob_some, un2_p]; rw [chkS_e, pub4, Bool.true_and]; cases h1 : recB h.By with
 | false => rfl
 | true =>
 rw [ifB_t, rgt_p hl hF, formed_p hf.r_Office hf.r_Size hF, formed_p ho.r_Office ho.r_Size hF]; simp only [ob_some]; cases h2 : rgtS l with
 | false => rfl
 | true =>
 cases h3 : fH f with
 | false => rfl
 | true =>
 cases h4 : fH h.Of with
 | false => rfl
 | true =>
 by_cases h5 : h.Grow.length ≤ 20
 ·rw [show decide ((h.Grow.length : Int) > 20) = false from decide_eq_false (by omega), show decide (h.Grow.length ≤ 20) = true from decide_eq_true h5]; simp only [ifB_t, ifB_f, ob_some, Bool.and_self, if_true]; unfold hopB; rw [sgn_p hf.r_Office hf.r_Size hF, sgn_p ho.r_Office ho.r_Size hF, sgn_p hb.r_Office hb.r_Size hF]; simp only [ob_some]; cases h6 : sgnS l f with
  | false => rfl
  | true =>
  cases h7 : sgnS l h.Of with
  | false => rfl
  | true =>
  cases h8 : sgnS l h.By.Head with
  | false => rfl
  | true =>
  by_cases h9 : h.Of.Office = f.Office
  ·cases h10 : (h.By.Head.Office == f.Office) with
   | true => rw [show (h.Of.Office == f.Office) = true from beq_iff_eq.2 h9, show decide (h.Of.Office = f.Office) = true from decide_eq_true h9]; rfl
   | false =>
    rw [show (h.Of.Office == f.Office) = true from beq_iff_eq.2 h9, show decide (h.Of.Office = f.Office) = true from decide_eq_true h9]; simp only [ifB_t, ob_some, Bool.not_false, Bool.and_self, Bool.true_and]; rw [pgrow _ _ _ _ _ (by omega) hF]; simp only [ob_some]; cases growS f.Root h.Of.Root f.Size h.Of.Size h.Grow with
    | false => rfl
    | true =>
     simp only [ifB_t, ob_some, Bool.true_and]; rw [dig_p ho hF]; simp only [ob_some]; cases (h.By.Entry.Doc == digF h.Of) with
     | false => rfl
     | true =>
      have h8' := h8; simp only [sgnS, Bool.and_eq_true, decide_eq_true_eq] at h8'; obtain ⟨⟨o1, o2⟩, _, o4⟩ := h8'; have hi := inKd_i64 hb.r_Office; rw [ifB_t, w64_id (n := h.By.Head.Office - 1) (by omega) (by omega), show h.By.Head.Office - 1 = (((h.By.Head.Office - 1).toNat : Nat) : Int) by omega, ixI_nat, kAt_get (by omega)]; simp only [ob_some]; rw [check_p hb.r_Office hb.r_Size he hF]; rw [ob_some, un2_p]; have hpub : pubB (kAt l (h.By.Head.Office - 1).toNat) = true ∧ (verS (kAt l (h.By.Head.Office - 1).toNat) h.By.Head.Sig (msgF h.By.Head)).1 = true := by
       unfold rightS at o4
       split at o4
       ·next hc => simp only [Bool.and_eq_true] at hc; exact ⟨hc.1, o4⟩
       ·cases o4
      have hch : chkS (kAt l (h.By.Head.Office - 1).toNat) h.By = ((verS (kAt l (h.By.Head.Office - 1).toNat) h.By.Head.Sig (msgF h.By.Head)).1 && inclS h.By.Head.Root (leafE h.By.Entry) h.By.Index h.By.Head.Size h.By.Path, 0) := by
       unfold chkS chkB; rw [hpub.1]; unfold recB at h1; rw [h1]; rfl
      rw [hch, hpub.2]; simp only [Bool.true_and]; cases inclS h.By.Head.Root (leafE h.By.Entry) h.By.Index h.By.Head.Size h.By.Path <;> rfl
  ·rw [show (h.Of.Office == f.Office) = false from beq_eq_false_iff_ne.2 h9, show decide (h.Of.Office = f.Office) = false from decide_eq_false h9]; rfl
 ·rw [show decide ((h.Grow.length : Int) > 20) = true from decide_eq_true (by omega), show decide (h.Grow.length ≤ 20) = false from decide_eq_false h5]; rfl
theorem headF_rng {o : Kf} (hr : o.rng) {n : Nat} (hn : n ≤ 5000) {k m : Int} (h : (isK k && isK m) = true) : (headF o n k m).rng := by
 have he := of_decide_eq_true (sig_exp (l := msgF (bareF o n)) h); have hR := rootF_rng (valsF o n); exact ⟨hr.r_ID, inKd_w (by show -9223372036854775808 ≤ (n : Int); omega) (by show (n : Int) ≤ 9223372036854775807; omega), inKd_wu hR.1 hR.2, ⟨inKd_w (by show -9223372036854775808 ≤ (sigS k m (msgF (bareF o n))).1.C; omega) (by show (sigS k m (msgF (bareF o n))).1.C ≤ 9223372036854775807; omega), inKd_w (by show -9223372036854775808 ≤ (sigS k m (msgF (bareF o n))).1.S; omega) (by show (sigS k m (msgF (bareF o n))).1.S ≤ 9223372036854775807; omega)⟩⟩
theorem right_own {o : Kf} {n : Nat} {k m : Int} (hv : vO o = true) (h1 : 1 ≤ n) (h2 : n ≤ 4096) (h : (isK k && isK m) = true) : rightS (pubF k) (headF o n k m) = (true, 0) := by
 have hk : isK k = true := by simp only [Bool.and_eq_true] at h; exact h.1
 rw [rightS_ok (pubF_pub hk) (headF_fH hv h1 h2 h), msg_head, show (headF o n k m).Sig = (sigS k m (msgF (bareF o n))).1 from rfl, ver_own h]
theorem has_own {o : Kf} {n : Nat} {k m : Int} (hn : n ≤ o.Entries.length) : hasS o (headF o n k m) = true := by
 unfold hasS; rw [show decide ((headF o n k m).Office = o.ID) = true from decide_eq_true rfl, show decide ((headF o n k m).Size ≤ (o.Entries.length : Int)) = true from decide_eq_true (by show (n : Int) ≤ _; omega), show decide (rootF (valsF o (headF o n k m).Size.toNat) = (headF o n k m).Root) = true from decide_eq_true rfl]; rfl
end Go.Proofs.YtggaodokkcoagaaGreatDoor
namespace Go.Proofs.YtggaodokkcoagaaGreatDoor
section
variable {σ ρ α β : Type}
theorem iter_from {f : σ → Option (σ ⊕ ρ)} (l : List α) (e : β → Nat → σ) (g : β → Nat → α → β ⊕ ρ) (fin : β → ρ) (I : Nat → β → Prop) (run : List α → Nat → β → ρ)
  (r0 : ∀ k b, run [] k b = fin b) (r1 : ∀ x xs k b, run (x :: xs) k b = match g b k x with | .inl b' => run xs (k + 1) b' | .inr r => r)
  (hn : ∀ b, I l.length b → f (e b l.length) = some (.inr (fin b)))
  (hk : ∀ b k (h : k < l.length), I k b → f (e b k) = some (match g b k l[k] with | .inl b' => .inl (e b' (k + 1)) | .inr r => .inr r) ∧ ∀ b', g b k l[k] = .inl b' → I (k + 1) b') {F : Nat} (hF : l.length < F) (b : β) (hb : I 0 b) :
  iter f F (e b 0) = some (run l 0 b) := by
 have key : ∀ (m k F : Nat) (b : β), k + m = l.length → m < F → I k b → iter f F (e b k) = some (run (l.drop k) k b) := by
  intro m
  induction m with
  | zero =>
   intro k F b hm hF hb; obtain ⟨F', rfl⟩ : ∃ F', F = F' + 1 := ⟨F - 1, by omega⟩; obtain rfl : k = l.length := by omega
   unfold iter; rw [hn b hb, List.drop_length, r0]
  | succ m ih =>
   intro k F b hm hF hb; obtain ⟨F', rfl⟩ : ∃ F', F = F' + 1 := ⟨F - 1, by omega⟩; have hlt : k < l.length := by omega
   obtain ⟨h1, h2⟩ := hk b k hlt hb; unfold iter; rw [h1, List.drop_eq_getElem_cons hlt, r1]; cases hg : g b k l[k] with
   | inl b' => exact ih (k + 1) F' b' (by omega) (by omega) (h2 b' hg)
   | inr r => rfl
 have := key l.length 0 F b (by omega) hF hb
 rwa [List.drop_zero] at this
theorem iter_allL {f : Int → Option (Int ⊕ ρ)} (l : List α) (p : α → Bool) (a b : ρ) (hn : f (l.length : Int) = some (.inr a)) (hk : ∀ k (h : k < l.length), f (k : Int) = some (if p l[k] = true then .inl ((k : Int) + 1) else .inr b)) {F : Nat} (hF : l.length < F) :
  iter f F 0 = some (if l.all p = true then a else b) := by
 refine iter_from (β := Unit) l (fun _ k => (k : Int)) (fun _ _ x => if p x = true then .inl () else .inr b) (fun _ => a) (fun _ _ => True) (fun l _ _ => if l.all p = true then a else b) (fun _ _ => rfl) (fun x xs k _ => ?_) (fun _ _ => hn) (fun _ k h _ => ⟨?_, fun _ _ => trivial⟩) hF () trivial
 ·rw [List.all_cons]; cases p x <;> simp
 ·rw [hk k h]; cases p l[k] <;> rfl
theorem iter_fdL {f : Int → Option (Int ⊕ ρ)} (l : List α) (p : α → Bool) (a : ρ) (b : Nat → ρ) (hn : f (l.length : Int) = some (.inr a)) (hk : ∀ k (h : k < l.length), f (k : Int) = some (if p l[k] = true then .inr (b k) else .inl ((k : Int) + 1))) {F : Nat} (hF : l.length < F) :
  iter f F 0 = some (match l.findIdx? p with | none => a | some k => b k) := by
 have h := iter_from (f := f) (β := Unit) l (fun _ k => (k : Int)) (fun _ k x => if p x = true then .inr (b k) else .inl ()) (fun _ => a) (fun _ _ => True) (fun l k _ => match l.findIdx? p with | none => a | some j => b (k + j)) (fun _ _ => rfl) (fun x xs k _ => ?_) (fun _ _ => hn) (fun _ k h _ => ⟨?_, fun _ _ => trivial⟩) hF () trivial
 ·simp only [Nat.zero_add] at h; exact h
 ·rw [List.findIdx?_cons]; cases p x
  ·simp only [Bool.false_eq_true, if_false]; cases xs.findIdx? p with
   | none => rfl
   | some j => simp only [Option.map_some]; congr 1; omega
  ·simp
 ·rw [hk k h]; cases p l[k] <;> rfl
theorem iter_fold {f : σ → Option (σ ⊕ ρ)} (e : β → Int → σ) (l : List α) (g : β → α → β) (fin : β → ρ) (I : Nat → β → Prop) (hn : ∀ b, I l.length b → f (e b (l.length : Int)) = some (.inr (fin b)))
  (hk : ∀ b k (h : k < l.length), I k b → f (e b (k : Int)) = some (.inl (e (g b l[k]) ((k : Int) + 1))) ∧ I (k + 1) (g b l[k])) {F : Nat} (hF : l.length < F) (b : β) (hb : I 0 b) :
  iter f F (e b 0) = some (fin (l.foldl g b)) := by
 refine iter_from l (fun b k => e b (k : Int)) (fun b _ x => .inl (g b x)) fin I (fun l _ b => fin (l.foldl g b)) (fun _ _ => rfl) (fun _ _ _ _ => rfl) hn (fun b k h hb => ⟨(hk b k h hb).1, fun b' h' => ?_⟩) hF b hb; cases h'; exact (hk b k h hb).2
theorem iter_foldX {τ : Type} {f : σ → Option (σ ⊕ ρ)} (e : β → Int → σ) (l : List α) (g : β → α → β ⊕ τ) (fin : β → ρ) (fx : τ → ρ) (I : Nat → β → Prop) (run : List α → β → ρ) (r0 : ∀ b, run [] b = fin b) (r1 : ∀ x xs b, run (x :: xs) b = match g b x with | .inl b' => run xs b' | .inr r => fx r)
  (hn : ∀ b, I l.length b → f (e b (l.length : Int)) = some (.inr (fin b)))
  (hk : ∀ b k (h : k < l.length), I k b → f (e b (k : Int)) = some (match g b l[k] with | .inl b' => .inl (e b' ((k : Int) + 1)) | .inr r => .inr (fx r)) ∧ ∀ b', g b l[k] = .inl b' → I (k + 1) b') {F : Nat} (hF : l.length < F) (b : β) (hb : I 0 b) :
  iter f F (e b 0) = some (run l b) := by
 refine iter_from l (fun b k => e b (k : Int)) (fun b _ x => match g b x with | .inl b' => .inl b' | .inr r => .inr (fx r)) fin I (fun l _ b => run l b) (fun _ b => r0 b) (fun x xs k b => ?_) hn (fun b k h hb => ⟨?_, fun b' h' => ?_⟩) hF b hb
 ·rw [r1]; cases g b x <;> rfl
 ·rw [(hk b k h hb).1]; cases g b l[k] <;> rfl
 ·refine (hk b k h hb).2 b' ?_; cases hg : g b l[k] with
  | inl c => rw [hg] at h'; cases h'; rfl
  | inr r => rw [hg] at h'; cases h'
end
theorem ltl {k n : Nat} (h : k < n) : decide ((k : Int) < (n : Int)) = true := decide_eq_true (by omega)
theorem ltn (n : Nat) : decide ((n : Int) < (n : Int)) = false := decide_eq_false (by omega)
theorem w64_1 {k n : Nat} (h : k < n) (hn : n ≤ 9223372036854775807) : IntKind.i64.wrap ((k : Int) + 1) = (k : Int) + 1 := by rw [IntKind.wrap_i64]; omega
theorem w64_p {k : Nat} (h : 0 < k) (hn : k ≤ 9223372036854775807) : IntKind.i64.wrap ((k : Int) - 1) = ((k - 1 : Nat) : Int) := by rw [IntKind.wrap_i64]; omega
theorem dnot {p q : Prop} [Decidable p] [Decidable q] (h : p ↔ ¬q) : decide p = !decide q := by
 rw [← decide_not]; exact decide_eq_decide.2 h
theorem deq {p q : Prop} [Decidable p] [Decidable q] (h : p ↔ q) : decide p = decide q := decide_eq_decide.2 h
def frL {α : Type} (p : Nat → α → Bool) : List α → Nat → Bool
 | [], _ => true
 | x :: xs, k => p k x && frL p xs (k + 1)
theorem frL_iff {α : Type} {p : Nat → α → Bool} : ∀ {l : List α} {k : Nat}, frL p l k = true ↔ ∀ j (h : j < l.length), p (k + j) l[j] = true
 | [], k => ⟨fun _ j h => absurd h (Nat.not_lt_zero _), fun _ => rfl⟩
 | x :: l, k => by
  rw [frL, Bool.and_eq_true, frL_iff]; constructor
  ·rintro ⟨h1, h2⟩ j hj
   match j, hj with
   | 0, _ => exact h1
   | j + 1, hj =>
    have := h2 j (by simpa using hj); rw [show k + (j + 1) = k + 1 + j by omega]; exact this
  ·intro h; refine ⟨h 0 (by simp), fun j hj => ?_⟩; have := h (j + 1) (by simpa using hj); rw [show k + 1 + j = k + (j + 1) by omega]; exact this
def foI {α β : Type} (h : β → Nat → α → β) : List α → Nat → β → β
 | [], _, b => b
 | x :: xs, k, b => foI h xs (k + 1) (h b k x)
section
variable {σ ρ α β : Type}
theorem iter_chk {f : σ → Option (σ ⊕ ρ)} (e : β → Int → σ) (l : List α) (p : Nat → α → Bool) (g : β → Nat → α → β) (fin : β → ρ) (r : ρ) (I : Nat → β → Prop) (hn : ∀ b, I l.length b → f (e b (l.length : Int)) = some (.inr (fin b)))
  (hk : ∀ b k (h : k < l.length), I k b → f (e b (k : Int)) = some (if p k l[k] = true then .inl (e (g b k l[k]) ((k : Int) + 1)) else .inr r) ∧ I (k + 1) (g b k l[k])) {F : Nat} (hF : l.length < F) (b : β) (hb : I 0 b) :
  iter f F (e b 0) = some (if frL p l 0 = true then fin (foI g l 0 b) else r) := by
 refine iter_from l (fun b k => e b (k : Int)) (fun b k x => if p k x = true then .inl (g b k x) else .inr r) fin I (fun l k b => if frL p l k = true then fin (foI g l k b) else r) (fun _ _ => rfl) (fun x xs k b => ?_) hn (fun b k h hb => ⟨?_, fun b' h' => ?_⟩) hF b hb
 ·rw [frL]; cases p k x <;> simp [foI]
 ·rw [(hk b k h hb).1]; cases p k l[k] <;> rfl
 ·have h1 := (hk b k h hb).2
  split at h'
  ·cases h'; exact h1
  ·cases h'
theorem iter_chkU {f : Int → Option (Int ⊕ ρ)} (l : List α) (p : Nat → α → Bool) (a r : ρ) (hn : f (l.length : Int) = some (.inr a))
  (hk : ∀ k (h : k < l.length), f (k : Int) = some (if p k l[k] = true then .inl ((k : Int) + 1) else .inr r)) {F : Nat} (hF : l.length < F) :
  iter f F 0 = some (if frL p l 0 = true then a else r) := by
 have := iter_chk (f := f) (β := Unit) (fun _ k => k) l p (fun _ _ _ => ()) (fun _ => a) r (fun _ _ => True) (fun _ _ => hn) (fun _ k h _ => ⟨hk k h, trivial⟩) hF () trivial; exact this
theorem iter_eqL [DecidableEq α] {f : Int → Option (Int ⊕ ρ)} (l m : List α) (hl : l.length = m.length) (a b : ρ) (hn : f (l.length : Int) = some (.inr a))
  (hk : ∀ k (h : k < l.length) (h' : k < m.length), f (k : Int) = some (if decide (l[k] = m[k]) = true then .inl ((k : Int) + 1) else .inr b)) {F : Nat} (hF : l.length < F) :
  iter f F 0 = some (if decide (l = m) = true then a else b) := by
 rw [iter_chkU l (fun k x => decide (m[k]? = some x)) a b hn (fun k h => ?_) hF]
 ·congr 2
  refine propext ?_; rw [frL_iff, decide_eq_true_eq]; constructor
  ·intro h; refine List.ext_getElem hl fun j h1 h2 => ?_
   have := h j h1; rw [Nat.zero_add, decide_eq_true_eq, List.getElem?_eq_getElem h2] at this; exact (Option.some.inj this).symm
  ·rintro rfl j hj
   simp [hj]
 ·rw [hk k h (hl ▸ h), List.getElem?_eq_getElem (hl ▸ h)]
  congr 2
  refine propext ?_; simp only [decide_eq_true_eq, Option.some.injEq]; exact ⟨fun h => h.symm, fun h => h.symm⟩
end
def fdI : Option Nat → Int
 | none => -1
 | some k => (k : Int)
theorem fd_neg {α : Type} (p : α → Bool) (l : List α) : decide (fdI (l.findIdx? (fun x => !p x)) ≥ 0) = !l.all p := by
 cases h : l.findIdx? (fun x => !p x) with
 | none =>
  rw [List.findIdx?_eq_none_iff] at h; have : l.all p = true := List.all_eq_true.2 fun x hx => by simpa using h x hx
  rw [this]; rfl
 | some k =>
  rw [List.findIdx?_eq_some_iff_getElem] at h; obtain ⟨hk, h1, _⟩ := h; have : l.all p = false := by
   rw [Bool.eq_false_iff]; intro h2; have := List.all_eq_true.1 h2 l[k] (List.getElem_mem hk); rw [this] at h1; simp at h1
  rw [this]; simp only [Bool.not_false, decide_eq_true_eq]
  show (0 : Int) ≤ (k : Int)
  omega
def offsF (p : Kq) : List Int := p.First.Head.Office :: p.Hops.map (·.By.Head.Office)
theorem fold_snoc {α β : Type} (f : α → β) : ∀ (l : List α) (b : List β), l.foldl (fun b x => b ++ [f x]) b = b ++ l.map f
 | [], b => by simp
 | x :: l, b => by rw [List.foldl_cons, fold_snoc f l, List.map_cons, List.append_assoc]; rfl
theorem offs_p {p : Kq} (hl : p.Hops.length ≤ 50) {F : Nat} (hF : 64 ≤ F) : G4 F p = some (offsF p) := by
 unfold G4 offsF; rw [iter_fold (fun (b : List Int) i => (i, b)) p.Hops (fun b x => b ++ [x.By.Head.Office]) id (fun k b => b.length = k + 1) ?_ ?_ (by omega) [p.First.Head.Office] rfl, fold_snoc]
 ·rfl
 ·intro b _; simp only [un2, ltn, ifB_f, id]
 ·intro b k h hb; simp only [un2, ltl h, ifB_t, ixI_get h, ob_some, w64_1 h (by omega)]; rw [apG_ok (by simp only [List.length_cons, List.length_nil]; omega)]; exact ⟨rfl, by simp [hb]⟩
theorem sameI_r {l m : List Int} (hl : l.length ≤ 60) {F : Nat} (hF : 64 ≤ F) : G8 F l m = some (decide (l = m)) := by
 unfold G8
 by_cases h : l.length = m.length
 ·rw [show (((l.length : Int)) == (m.length : Int)) = true from beq_iff_eq.2 (by omega), ifB_t, iter_eqL l m h (.inl ()) (.inr ()) ?_ ?_ (by omega)]
  ·cases decide (l = m) <;> rfl
  ·simp only [ltn, ifB_f]
  ·intro k h1 h2; simp only [ltl h1, ifB_t, ixI_get h1, ixI_get h2, ob_some, w64_1 h1 (by omega)]
   by_cases e : l[k] = m[k]
   ·rw [beq_iff_eq.2 e, decide_eq_true e]; rfl
   ·rw [beq_eq_false_iff_ne.2 e, decide_eq_false e]; rfl
 ·rw [show (((l.length : Int)) == (m.length : Int)) = false from beq_eq_false_iff_ne.2 (by omega), decide_eq_false (fun e => h (congrArg _ e))]; rfl
structure ROk (r : Km) : Prop where
 h : r.Head.rng
 e : r.Entry.rng
structure POk (p : Kq) : Prop where
 f : ROk p.First
 l : ROk p.Last
 h : ∀ x ∈ p.Hops, x.Of.rng ∧ ROk x.By
def knB (l : List Int) (k : Int) : Bool := decide (1 ≤ k ∧ k ≤ (l.length : Int)) && !(kAt l (k - 1).toNat == 0)
def pubA (l : List Int) (k : Int) : Int := if knB l k then kAt l (k - 1).toNat else 4
theorem pubA_t {l : List Int} {k : Int} (h : knB l k = true) : pubA l k = kAt l (k - 1).toNat := by unfold pubA; rw [h, if_pos rfl]
theorem pubA_f {l : List Int} {k : Int} (h : knB l k = false) : pubA l k = 4 := by unfold pubA; rw [h, if_neg (by decide)]
def rcpS (l : List Int) (r : Km) : Bool × Int := ((chkS (pubA l r.Head.Office) r).1 && knB l r.Head.Office, (chkS (pubA l r.Head.Office) r).2)
theorem rcp_p {l : List Int} {r : Km} (hr : ROk r) {F : Nat} (hF : 64 ≤ F) : G5 F l r = some (rcpS l r) := by
 unfold G5 rcpS; have hc : ∀ pub, Gj F pub r = some (chkS pub r) := fun pub => check_p hr.h.r_Office hr.h.r_Size hr.e hF
 have hi := inKd_i64 hr.h.r_Office; have fin : ∀ (pub : Int) (b : Bool), Option.bind (Gj F pub r) (un2 fun v_15 v_16 => Option.bind (ifB v_15 (some b) (some false) : Option Bool) fun v_19 => some (v_19, v_16)) = some ((chkS pub r).1 && b, (chkS pub r).2) := fun pub b => by
  rw [hc]; simp only [ob_some, un2]; cases (chkS pub r).1 <;> rfl
 by_cases h1 : 1 ≤ r.Head.Office
 ·by_cases h2 : r.Head.Office ≤ (l.length : Int)
  ·have hk : knB l r.Head.Office = !(kAt l (r.Head.Office - 1).toNat == 0) := by
    unfold knB; rw [decide_eq_true ⟨h1, h2⟩, Bool.true_and]
   cases hz : (kAt l (r.Head.Office - 1).toNat == 0) with
   | true =>
    rw [hz] at hk; rw [pubA_f hk, hk, decide_eq_true h1, decide_eq_true h2, w64_id (n := r.Head.Office - 1) (by omega) (by omega), show r.Head.Office - 1 = (((r.Head.Office - 1).toNat : Nat) : Int) by omega, ixI_nat, kAt_get (by omega)]; simp only [ifB_t, ob_some, hz]; rw [show (!true) = false from rfl, ifB_f, ob_some]; exact fin 4 false
   | false =>
    rw [hz] at hk; rw [pubA_t hk, hk, decide_eq_true h1, decide_eq_true h2, w64_id (n := r.Head.Office - 1) (by omega) (by omega), show r.Head.Office - 1 = (((r.Head.Office - 1).toNat : Nat) : Int) by omega, ixI_nat, kAt_get (by omega)]; simp only [ifB_t, ob_some, hz, Int.toNat_natCast]; rw [show (!false) = true from rfl, ifB_t, ob_some]; exact fin _ true
  ·have hk : knB l r.Head.Office = false := by
    unfold knB; rw [decide_eq_false (fun e => h2 e.2), Bool.false_and]
   rw [decide_eq_true h1, decide_eq_false h2, pubA_f hk, hk]; exact fin 4 false
 ·have hk : knB l r.Head.Office = false := by
   unfold knB; rw [decide_eq_false (fun e => h1 e.1), Bool.false_and]
  rw [decide_eq_false h1, pubA_f hk, hk]; exact fin 4 false
def rcpB (l : List Int) (r : Km) : Bool := knB l r.Head.Office && (chkS (kAt l (r.Head.Office - 1).toNat) r).1
theorem kAt_ok {l : List Int} (h : rgtS l = true) {k : Nat} (hk : k < l.length) : okK (kAt l k) = true := by
 unfold rgtS at h; rw [Bool.and_eq_true] at h; exact frB_iff.1 h.2 k (by omega) (by omega)
theorem pubA_pub {l : List Int} (h : rgtS l = true) (k : Int) : pubB (pubA l k) = true := by
 cases hk : knB l k with
 | false => rw [pubA_f hk]; exact pub4
 | true =>
  rw [pubA_t hk]; unfold knB at hk; simp only [Bool.and_eq_true, decide_eq_true_eq, Bool.not_eq_true'] at hk; have := kAt_ok h (k := (k - 1).toNat) (by omega); unfold okK at this
  rwa [hk.2, Bool.false_or] at this
theorem rcpS_e {l : List Int} {r : Km} (h : rgtS l = true) : ((rcpS l r).2 == 0) = recB r := by
 show ((chkS (pubA l r.Head.Office) r).2 == 0) = recB r
 rw [chkS_e, pubA_pub h, Bool.true_and]
theorem rcpS_b (l : List Int) (r : Km) : (rcpS l r).1 = rcpB l r := by
 show ((chkS (pubA l r.Head.Office) r).1 && knB l r.Head.Office) = (knB l r.Head.Office && (chkS (kAt l (r.Head.Office - 1).toNat) r).1)
 cases hk : knB l r.Head.Office with
 | false => rw [Bool.and_false, Bool.false_and]
 | true => rw [pubA_t hk, Bool.and_true, Bool.true_and]
def hopF (h : KHop) : Bool := recB h.By && (fH h.Of && decide (h.Grow.length ≤ 20))
def prfF (p : Kq) : Bool := (recB p.First && (recB p.Last && (decide (p.Hops.length ≤ 16) && decide (p.Grow.length ≤ 20)))) && p.Hops.all hopF
def hopsB (l : List Int) : Kc → List KHop → Bool
 | _, [] => true
 | f, h :: hs => hopB l f h && hopsB l h.By.Head hs
def endR : Km → List KHop → Km
 | r, [] => r
 | _, h :: hs => endR h.By hs
def lastB (a : Km) (b : Km) (g : List Int) : Bool :=
 (a.Head.Office == b.Head.Office) && (decide (a.Index < b.Index) && (if a.Head.Size ≤ b.Head.Size then growS a.Head.Root b.Head.Root a.Head.Size b.Head.Size g else growS b.Head.Root a.Head.Root b.Head.Size a.Head.Size g))
def ordP (l : List Int) (p : Kq) : Bool := (rcpB l p.First && rcpB l p.Last) && (hopsB l p.First.Head p.Hops && lastB (endR p.First p.Hops) p.Last p.Grow)
def ordS (l : List Int) (p : Kq) : Bool × Int := if rgtS l && prfF p then (ordP l p, 0) else (false, 1)
theorem hopS_of {l : List Int} {f : Kc} {h : KHop} (h1 : rgtS l = true) (h2 : fH f = true) : hopS l f h = if hopF h then (hopB l f h, 0) else (false, 1) := by
 unfold hopS hopC hopF; rw [h1, h2, Bool.true_and, Bool.true_and]
theorem recB_fH {r : Km} (h : recB r = true) : fH r.Head = true := by
 unfold recB at h; rw [Bool.and_eq_true] at h; exact h.1
theorem hopF_fH {h : KHop} (hh : hopF h = true) : fH h.By.Head = true := by
 unfold hopF at hh; rw [Bool.and_eq_true] at hh; exact recB_fH hh.1
abbrev Flat := Int × Int × Int × Int × Int × Int × Int × Int × Int × (List Int)
def flat (r : Km) : Flat := (r.Head.Office, r.Head.Size, r.Head.Root, r.Head.Sig.C, r.Head.Sig.S, r.Index, r.Entry.Doc, r.Entry.Stamp.Lo, r.Entry.Stamp.Hi, r.Path)
def runP (l : List Int) : List KHop → Bool × Km → (Bool × Flat) ⊕ Unit
 | [], b => .inl (b.1, flat b.2)
 | h :: hs, b => if hopF h = true then runP l hs (b.1 && hopB l b.2.Head h, h.By) else .inr ()
theorem runP_eq (l : List Int) : ∀ (hs : List KHop) (b : Bool) (r : Km), runP l hs (b, r) = if hs.all hopF = true then .inl (b && hopsB l r.Head hs, flat (endR r hs)) else .inr ()
 | [], b, r => by simp [runP, hopsB, endR]
 | h :: hs, b, r => by
  rw [runP, List.all_cons, hopsB, endR]; cases hh : hopF h with
  | true =>
   rw [if_pos rfl, runP_eq l hs, Bool.true_and, Bool.and_assoc]
  | false => simp
theorem isKey_p (k : Int) {F : Nat} (hF : 64 ≤ F) : Gan F k = some (pubB k) := by
 unfold Gan; rw [right_p (inKd_w (by decide) (by decide)) (inKd_w (by decide) (by decide)) hF, ob_some, un2_p, rightS_e, show fH ⟨1, 1, 0, ⟨0, 0⟩⟩ = true from rfl, Bool.and_true]
theorem badK_p (k : Int) {F : Nat} (hF : 64 ≤ F) : Gai F k = some (!okK k) := by
 unfold Gai okK; rw [isKey_p k hF]; cases (k == 0) <;> cases pubB k <;> rfl
theorem rgt_all (l : List Int) : rgtS l = (decide (l.length ≤ 16) && l.all okK) := by
 unfold rgtS
 congr 1
 rw [Bool.eq_iff_iff, frB_iff, List.all_eq_true]; constructor
 ·intro h x hx; obtain ⟨k, hk, rfl⟩ := List.getElem_of_mem hx; have := h k (by omega) (by omega)
  rwa [show kAt l k = l[k] from Option.some.inj ((kAt_get hk).symm.trans (List.getElem?_eq_getElem hk))] at this
 ·intro h j _ hj; refine h _ ?_; exact List.mem_of_getElem? (kAt_get (by omega))
abbrev Flb := Bool × Int × Int × Int × Int × Int × Int × Int × Int × Int × (List Int)
def flb (b : Bool × Km) : Flb := (b.1, flat b.2)
theorem ord_p {l : List Int} {p : Kq} (hl : l.length ≤ 40) (hp : POk p) (hh : p.Hops.length ≤ 50) {F : Nat} (hF : 64 ≤ F) : Gv F l p = some (ordS l p) := by
 unfold Gv ordS; have hno : (decide (p.Hops.length ≤ 16) && decide (p.Grow.length ≤ 20)) = false → prfF p = false := fun e => by
  unfold prfF; rw [e]; simp
 rw [dnot (p := (p.Hops.length : Int) > 16) (q := p.Hops.length ≤ 16) (by omega), dnot (p := (p.Grow.length : Int) > 20) (q := p.Grow.length ≤ 20) (by omega)]; cases q3 : decide (p.Hops.length ≤ 16) with
 | false =>
  rw [hno (by rw [q3]; rfl), Bool.and_false]; rfl
 | true =>
 cases q4 : decide (p.Grow.length ≤ 20) with
 | false =>
  rw [hno (by rw [q3, q4]; rfl), Bool.and_false]; rfl
 | true =>
 simp only [Bool.not_true, ifB_f, ob_some]; have hbad : ∀ o : Unit ⊕ Int, o = (match l.findIdx? (fun k => !okK k) with | none => .inl () | some k => .inr (k : Int)) → (Option.bind (Option.bind (Option.bind (some o) (Sum.elim (fun (_ : Unit) => some (.inl ())) (fun (v_31 : Int) => some (.inr v_31))) : Option (Unit ⊕ Int)) (Sum.elim (fun (_ : Unit) => some (-1)) (fun (v_33 : Int) => some v_33)) : Option Int) (fun (v_34 : Int) => some (decide (v_34 ≥ 0))) : Option Bool) = some (!l.all okK) := by
  rintro _ rfl; rw [← fd_neg okK l]; cases l.findIdx? (fun k => !okK k) <;> rfl
 rw [rcp_p hp.f hF, rcp_p hp.l hF, ob_some, un2_p, ob_some, un2_p]; rw [iter_fdL l (fun k => !okK k) (.inl ()) (fun k => .inr (k : Int)) ?a1 ?a2 (by omega), hbad _ ?a3]
 case a3 => cases l.findIdx? (fun k => !okK k) <;> rfl
 case a1 => simp only [ltn, ifB_f]
 case a2 =>
  intro k h; simp only [ltl h, ifB_t, ixI_get h, ob_some, w64_1 h (by omega), badK_p _ hF]; cases okK l[k] <;> rfl
 simp only [ob_some]; cases h1 : rgtS l with
 | false =>
  rw [rgt_all] at h1; rw [Bool.false_and, if_neg (by decide), dnot (p := (l.length : Int) > 16) (q := l.length ≤ 16) (by omega)]; cases e1 : ((rcpS l p.First).2 == 0) <;> cases e2 : ((rcpS l p.Last).2 == 0) <;> cases e3 : l.all okK <;> cases e4 : decide (l.length ≤ 16) <;> first | rfl | (rw [e3, e4] at h1; cases h1)
 | true =>
 have h1' := h1; rw [rgt_all, Bool.and_eq_true] at h1'; rw [rcpS_e h1, rcpS_e h1, h1'.2, dnot (p := (l.length : Int) > 16) (q := l.length ≤ 16) (by omega), h1'.1, rcpS_b, rcpS_b]; unfold prfF; rw [q3, q4]; cases q1 : recB p.First with
 | false => rfl
 | true =>
 cases q2 : recB p.Last with
 | false => rfl
 | true =>
 have q3' := of_decide_eq_true q3; have q4' := of_decide_eq_true q4; simp only [ob_some, ifB_t, Bool.not_true, ifB_f, Bool.true_and]; have h0 : (ifB (rcpB l p.First) (some (rcpB l p.Last)) (some false) : Option Bool) = some (rcpB l p.First && rcpB l p.Last) := by
  cases rcpB l p.First <;> rfl
 rw [h0, ob_some]; rw [iter_foldX (β := Bool × Km) (τ := Unit) (fun b k => ((b.1, b.2.Head.Office, b.2.Head.Size, b.2.Head.Root, b.2.Head.Sig.C, b.2.Head.Sig.S, b.2.Index, b.2.Entry.Doc, b.2.Entry.Stamp.Lo, b.2.Entry.Stamp.Hi, b.2.Path, k) : Bool × Int × Int × Int × Int × Int × Int × Int × Int × Int × (List Int) × Int)) p.Hops (fun b h => if hopF h = true then .inl (b.1 && hopB l b.2.Head h, h.By) else .inr ()) (fun b => .inl (flb b)) (fun _ => .inr ()) (fun _ b => fH b.2.Head = true ∧ ROk b.2) (runP l) (fun _ => rfl) (fun x xs b => ?_) (fun b _ => ?_) (fun b k h hb => ⟨?_, fun b' h' => ?_⟩) (by omega) (rcpB l p.First && rcpB l p.Last, p.First) ⟨recB_fH q1, hp.f⟩, runP_eq]
 ·cases p.Hops.all hopF with
  | false => rfl
  | true =>
   simp only [if_true, ob_some, Sum.elim_inl]; unfold ordP lastB flat; simp only [un11, ob_some, Sum.elim_inl]; cases (rcpB l p.First && rcpB l p.Last) with
   | false =>
    by_cases hs : (endR p.First p.Hops).Head.Size > p.Last.Head.Size
    ·rw [decide_eq_true hs]; rfl
    ·rw [decide_eq_false hs]; rfl
   | true =>
   cases hopsB l p.First.Head p.Hops with
   | false =>
    by_cases hs : (endR p.First p.Hops).Head.Size > p.Last.Head.Size
    ·rw [decide_eq_true hs]; rfl
    ·rw [decide_eq_false hs]; rfl
   | true =>
   simp only [Bool.and_true, ifB_t, ob_some, Bool.true_and]; cases (endR p.First p.Hops).Head.Office == p.Last.Head.Office with
   | false =>
    by_cases hs : (endR p.First p.Hops).Head.Size > p.Last.Head.Size
    ·rw [decide_eq_true hs]; rfl
    ·rw [decide_eq_false hs]; rfl
   | true =>
    rw [deq (p := p.Last.Index > (endR p.First p.Hops).Index) (q := (endR p.First p.Hops).Index < p.Last.Index) (by omega)]; cases decide ((endR p.First p.Hops).Index < p.Last.Index) with
    | false =>
     by_cases hs : (endR p.First p.Hops).Head.Size > p.Last.Head.Size
     ·rw [decide_eq_true hs]; rfl
     ·rw [decide_eq_false hs]; rfl
    | true =>
     simp only [ifB_t, ob_some, Bool.true_and]
     by_cases hs : (endR p.First p.Hops).Head.Size ≤ p.Last.Head.Size
     ·rw [decide_eq_false (p := (endR p.First p.Hops).Head.Size > p.Last.Head.Size) (by omega), if_pos hs, ifB_f, ob_some]; simp only [un10]; rw [pgrow _ _ _ _ _ (by omega) hF]; rfl
     ·rw [decide_eq_true (p := (endR p.First p.Hops).Head.Size > p.Last.Head.Size) (by omega), if_neg hs, ifB_t, ob_some]; simp only [un10]; rw [pgrow _ _ _ _ _ (by omega) hF]; rfl
 ·rw [runP]; cases hopF x <;> rfl
 ·simp only [un12, ltn, ifB_f]; rfl
 ·have hm := hp.h _ (List.getElem_mem h); simp only [un12, ltl h, ifB_t, ixI_get h, ob_some, w64_1 h (by omega)]; rw [show (⟨b.2.Head.Office, b.2.Head.Size, b.2.Head.Root, ⟨b.2.Head.Sig.C, b.2.Head.Sig.S⟩⟩ : Kc) = b.2.Head from rfl, hop_p hl hb.2.h hm.1 hm.2.h hm.2.e hF, hopS_of h1 hb.1]; simp only [ob_some, un2]; obtain ⟨b1, b2⟩ := b; cases hopF p.Hops[k] <;> cases b1 <;> rfl
 ·split at h'
  ·cases h'
   rename_i hq
   exact ⟨hopF_fH hq, (hp.h _ (List.getElem_mem h)).2⟩
  ·cases h'
def offK (l : List Kf) (k : Int) : Kf := mpG (l.map fun o => (o.ID, o)) k Kf.z
def offH (l : List Kf) (k : Int) : Bool := mpH (l.map fun o => (o.ID, o)) k
theorem offK_cons (o : Kf) (l : List Kf) (k : Int) : offK (o :: l) k = if k == o.ID then o else offK l k := by
 unfold offK mpG; rw [List.map_cons, List.find?_cons]; cases k == o.ID <;> rfl
theorem offH_cons (o : Kf) (l : List Kf) (k : Int) : offH (o :: l) k = ((k == o.ID) || offH l k) := by
 unfold offH mpH; rw [List.map_cons, List.any_cons]
theorem offK_cases (l : List Kf) (k : Int) : (offK l k = Kf.z ∧ offH l k = false) ∨ (offK l k ∈ l ∧ (offK l k).ID = k ∧ offH l k = true) := by
 induction l with
 | nil => exact .inl ⟨rfl, rfl⟩
 | cons o l ih =>
  rw [offK_cons, offH_cons]; cases h : k == o.ID with
  | true => exact .inr ⟨List.mem_cons_self, (eq_of_beq h).symm, rfl⟩
  | false =>
   rw [if_neg (by decide), Bool.false_or]; rcases ih with h1 | ⟨h1, h2⟩
   ·exact .inl h1
   ·exact .inr ⟨List.mem_cons_of_mem _ h1, h2⟩
structure FewO (l : List Kf) : Prop where
 n : l.length ≤ 6
 e : ∀ o ∈ l, o.Entries.length ≤ 50
 r : ∀ o ∈ l, o.rng
theorem za3 : Kf.z.rng := ⟨inKd_w (by decide) (by decide), fun y hy => absurd hy List.not_mem_nil⟩
theorem FewO.rng {l : List Kf} (h : FewO l) (k : Int) : (offK l k).rng := by
 rcases offK_cases l k with ⟨e, _⟩ | ⟨e, _⟩
 ·rw [e]; exact za3
 ·exact h.r _ e
theorem FewO.len {l : List Kf} (h : FewO l) (k : Int) : (offK l k).Entries.length ≤ 50 := by
 rcases offK_cases l k with ⟨e, _⟩ | ⟨e, _⟩
 ·rw [e]; decide
 ·exact h.e _ e
def arcF : Int → List Kf → Bool
 | _, [] => true
 | a, o :: os => (vO o && decide (a < o.ID)) && arcF o.ID os
def arcO (l : List Kf) (heads : List Kc) : Ks := ⟨l.map fun o => (o.ID, o), heads⟩
def arcS (l : List Kf) (heads : List Kc) : Option Ks × Int :=
 if decide (l.length ≤ 4) && decide (heads.length ≤ 12) then (if arcF 0 l && heads.all fH then (some (arcO l heads), 0) else (none, 1)) else (none, 2)
def runA : List Kf → List (Int × Kf) × Int → List (Int × Kf) ⊕ Unit
 | [], b => .inl b.1
 | o :: os, b => if (vO o && decide (b.2 < o.ID)) = true then runA os (mpS b.1 o.ID o, o.ID) else .inr ()
theorem mpS_new {α : Type} (k : Int) (x : α) : ∀ m : List (Int × α), (∀ p ∈ m, p.1 < k) → mpS m k x = m ++ [(k, x)]
 | [], _ => rfl
 | p :: m, h => by
  have h1 := h p List.mem_cons_self; rw [mpS, if_neg (by rw [beq_iff_eq]; omega), mpS_new k x m fun q hq => h q (List.mem_cons_of_mem _ hq)]; rfl
theorem runA_eq : ∀ (l : List Kf) (m : List (Int × Kf)) (a : Int), (∀ p ∈ m, p.1 ≤ a) → runA l (m, a) = if arcF a l = true then .inl (m ++ l.map fun o => (o.ID, o)) else .inr ()
 | [], m, a, _ => by simp [runA, arcF]
 | o :: os, m, a, h => by
  rw [runA, arcF]; cases hv : (vO o && decide (a < o.ID)) with
  | false => simp
  | true =>
   have ha : a < o.ID := by
    rw [Bool.and_eq_true] at hv; exact of_decide_eq_true hv.2
   rw [if_pos rfl, mpS_new o.ID o m fun p hp => by have := h p hp; omega, runA_eq os _ _ (fun p hp => ?_), Bool.true_and]
   ·rw [List.append_assoc]; rfl
   ·rcases List.mem_append.1 hp with hp | hp
    ·have := h p hp; omega
    ·rw [List.mem_singleton] at hp; subst hp; exact Int.le_refl _
theorem arc_p {l : List Kf} {heads : List Kc} (hl : FewO l) (hh : ∀ h ∈ heads, h.rng) {F : Nat} (hF : 64 ≤ F) : Gao F l heads = some (arcS l heads) := by
 unfold Gao arcS; rw [dnot (p := (l.length : Int) > 4) (q := l.length ≤ 4) (by omega), dnot (p := (heads.length : Int) > 12) (q := heads.length ≤ 12) (by omega)]; cases q1 : decide (l.length ≤ 4) with
 | false => rfl
 | true =>
 cases q2 : decide (heads.length ≤ 12) with
 | false => rfl
 | true =>
 have q2' := of_decide_eq_true q2; have hn := hl.n; simp only [Bool.not_true, ifB_f, ob_some, un2, Bool.true_and, if_true]; rw [iter_foldX (β := List (Int × Kf) × Int) (τ := Unit) (fun b i => ((i, b.1, b.2) : Int × List (Int × Kf) × Int)) l (fun b o => if (vO o && decide (b.2 < o.ID)) = true then .inl (mpS b.1 o.ID o, o.ID) else .inr ()) (fun b => .inl b.1) (fun _ => .inr ()) (fun _ _ => True) runA (fun _ => rfl) (fun x xs b => ?_) (fun b _ => ?_) (fun b k h _ => ⟨?_, fun _ _ => trivial⟩) (by omega) ([], 0) trivial, runA_eq _ _ _ (fun p hp => absurd hp List.not_mem_nil)]
 ·cases arcF 0 l with
  | false => rfl
  | true =>
   simp only [if_true, ob_some, Sum.elim_inl, List.nil_append, Bool.true_and]; rw [iter_allL heads fH (.inl ()) (.inr ()) ?_ ?_ (by omega)]
   ·cases heads.all fH <;> rfl
   ·simp only [ltn, ifB_f]
   ·intro k h; have hr := hh _ (List.getElem_mem h); simp only [ltl h, ifB_t, ixI_get h, ob_some, w64_1 h (by omega)]; rw [right_p hr.r_Office hr.r_Size hF, ob_some, un2_p, rightS_e, pub4, Bool.true_and]; cases fH heads[k] <;> rfl
 ·rw [runA]; cases (vO x && decide (b.2 < x.ID)) <;> rfl
 ·simp only [un3, ltn, ifB_f]
 ·simp only [un3, ltl h, ifB_t, ixI_get h, ob_some, w64_1 h (by omega)]; rw [valid_p (hl.e _ (List.getElem_mem h)) hF, ob_some]; cases vO l[k] with
  | false => rfl
  | true =>
   rw [ifB_t, ob_some, Bool.true_and, dnot (p := l[k].ID ≤ b.2) (q := b.2 < l[k].ID) (by omega)]; cases decide (b.2 < l[k].ID) <;> rfl
def entB (l : List Kf) (id i : Int) : Bool := offH l id && (decide (0 ≤ i) && decide (i < ((offK l id).Entries.length : Int)))
theorem ent_p (l : List Kf) (heads : List Kc) (id i : Int) (F : Nat) : Gaj F (arcO l heads) id i = some (entB l id i) := by
 show Option.bind (some (offK l id, offH l id)) _ = _
 unfold entB; rw [ob_some, un2_p]; cases offH l id <;> cases decide (0 ≤ i) <;> rfl
def whB (l : List Kf) (h : Kc) : Bool := (provS (offK l h.Office) h 0).2 == 0
theorem wh_p {l : List Kf} {heads : List Kc} (hl : FewO l) (hn : heads.length ≤ 12) {F : Nat} (hF : 64 ≤ F) : Gam F (arcO l heads) = some (heads.all (whB l)) := by
 unfold Gam; rw [show (arcO l heads).heads = heads from rfl, iter_fdL heads (fun h => !whB l h) (.inl ()) (fun k => .inr (k : Int)) ?a1 ?a2 (by omega)]
 case a1 => simp only [ltn, ifB_f]
 case a2 =>
  intro k h; simp only [ltl h, ifB_t, ixI_get h, ob_some, w64_1 h (by omega)]; rw [show mpG (arcO l heads).offices heads[k].Office Kf.z = offK l heads[k].Office from rfl, prove_p (hl.rng _) (hl.len _) hF, ob_some, un2_p, ob_some]
  show ifB (!whB l heads[k]) _ _ = _
  cases whB l heads[k] <;> rfl
 ·have e := fd_neg (whB l) heads; rw [← Bool.not_not (b := heads.all (whB l)), ← e]; cases heads.findIdx? (fun h => !whB l h) <;> rfl
structure HdOk (l : List Kf) (h : Kc) : Prop where
 f : fH h = true
 v : vO (offK l h.Office) = true
 s : hasS (offK l h.Office) h = true
 o : offH l h.Office = true
theorem vO_z : vO Kf.z = false := by decide
theorem hdOk_of {l : List Kf} {h : Kc} (hh : whB l h = true) : HdOk l h := by
 have h0 : (provS (offK l h.Office) h 0).2 = 0 := eq_of_beq hh; unfold provS at h0; cases h1 : (vO (offK l h.Office) && (fH h && decide (h.Size ≤ (offK l h.Office).Entries.length ∧ (0 : Int) ≤ 0 ∧ 0 < h.Size))) with
 | false => rw [h1] at h0; simp at h0
 | true =>
  rw [h1, if_pos rfl] at h0; simp only [Bool.and_eq_true, decide_eq_true_eq] at h1
  split at h0
  ·rename_i h2
   have h2 := of_decide_eq_true h2; refine ⟨h1.2.1, h1.1, ?_, ?_⟩
   ·unfold hasS; rw [decide_eq_true h2.1, decide_eq_true h1.2.2.1, decide_eq_true h2.2.symm]; rfl
   ·rcases offK_cases l h.Office with ⟨e, _⟩ | ⟨_, _, e⟩
    ·rw [e, vO_z] at h1; simp at h1
    ·exact e
  ·simp at h0
theorem HdOk.size {l : List Kf} {h : Kc} (q : HdOk l h) : 1 ≤ h.Size ∧ h.Size ≤ ((offK l h.Office).Entries.length : Int) := ⟨(fH_size q.f).1, (hasS_spec q.s).2.1⟩
def zHd : Kc := ⟨0, 0, 0, ⟨0, 0⟩⟩
def lastH (c : Kj) : Kc := c.heads.getD (c.heads.length - 1) zHd
theorem last_p {c : Kj} (h : 0 < c.heads.length) (h2 : c.heads.length ≤ 100) (F : Nat) : Gw F c = some (lastH c) := by
 unfold Gw lastH; rw [w64_p h (by omega), ixI_get (by omega), List.getD_eq_getElem?_getD, List.getElem?_eq_getElem (by omega)]; rfl
def atS (l : List Kf) (h : Kc) (d : Int) : Option Nat := ((offK l h.Office).Entries.take h.Size.toNat).findIdx? fun e => e.Doc == d
def nextS (l : List Kf) (c : Kj) (h : Kc) : Option Kj :=
 if c.heads.any (fun g => g.Office == h.Office) then none else (atS l h (digF (lastH c))).map fun x => ⟨c.heads ++ [h], x⟩
def longS (l : List Kf) (heads : List Kc) (c : Kj) : List Kj := heads.filterMap (nextS l c)
def snocO {β : Type} (b : List β) : Option β → List β
 | some y => b ++ [y]
 | none => b
theorem fold_fm {α β : Type} (f : α → Option β) : ∀ (l : List α) (b : List β), l.foldl (fun b x => snocO b (f x)) b = b ++ l.filterMap f
 | [], b => by simp
 | x :: l, b => by
  rw [List.foldl_cons, fold_fm f l, List.filterMap_cons]; cases f x <;> simp [snocO]
theorem sliTo {α : Type} {l : List α} {n : Int} (h : 0 ≤ n) (h2 : n ≤ (l.length : Int)) : slI l 0 n = some (l.take n.toNat) := by
 unfold slI; rw [if_pos (by omega)]
 simp
theorem long_p {l : List Kf} {heads : List Kc} {c : Kj} (hl : FewO l) (hn : heads.length ≤ 12) (hr : ∀ h ∈ heads, HdOk l h) (h1 : 0 < c.heads.length) (h2 : c.heads.length ≤ 12) (h3 : (lastH c).rng) {F : Nat} (hF : 64 ≤ F) :
  Gak F (arcO l heads) c = some (longS l heads c) := by
 unfold Gak; rw [last_p h1 (by omega), ob_some, dig_p h3 hF, ob_some, show (arcO l heads).heads = heads from rfl]; rw [iter_fold (fun (b : List Kj) i => (i, b)) heads (fun b x => snocO b (nextS l c x)) id (fun k b => b.length ≤ k) (fun b _ => ?_) (fun b k h hb => ⟨?_, ?_⟩) (by omega) [] (by simp), fold_fm]
 ·rfl
 ·simp only [un2, ltn, ifB_f, id]
 ·have hk := hr _ (List.getElem_mem h); simp only [un2, ltl h, ifB_t, ixI_get h, ob_some, w64_1 h (by omega)]; rw [iter_fdL c.heads (fun g => g.Office == heads[k].Office) (.inl ()) (fun _ => .inr ()) ?a1 ?a2 (by omega)]
  case a1 => simp only [ltn, ifB_f]
  case a2 =>
   intro j hj; simp only [ltl hj, ifB_t, ixI_get hj, ob_some, w64_1 hj (by omega)]; cases c.heads[j].Office == heads[k].Office <;> rfl
  unfold nextS; have hany : c.heads.any (fun g => g.Office == heads[k].Office) = (c.heads.findIdx? (fun g => g.Office == heads[k].Office)).isSome := by
   rw [List.findIdx?_isSome]
  rw [hany]; cases c.heads.findIdx? (fun g => g.Office == heads[k].Office) with
  | some j => rfl
  | none =>
   have hs := hk.size; have hlen := hl.len heads[k].Office; simp only [ob_some, Sum.elim_inl, Option.isSome_none, Bool.false_eq_true, if_false]; rw [show mpG (arcO l heads).offices heads[k].Office Kf.z = offK l heads[k].Office from rfl, sliTo (by omega) hs.2, ob_some]; have htl : ((offK l heads[k].Office).Entries.take heads[k].Size.toNat).length ≤ 50 := by rw [List.length_take]; omega
   rw [iter_fdL ((offK l heads[k].Office).Entries.take heads[k].Size.toNat) (fun e => e.Doc == digF (lastH c)) (.inl ()) (fun j => .inr (j : Int)) ?b1 ?b2 (by omega)]
   case b1 => simp only [ltn, ifB_f]
   case b2 =>
    intro j hj; simp only [ltl hj, ifB_t, ixI_get hj, ob_some, w64_1 hj (by omega)]; cases ((offK l heads[k].Office).Entries.take heads[k].Size.toNat)[j].Doc == digF (lastH c) <;> rfl
   show _ = some (Sum.inl _)
   unfold atS; cases ((offK l heads[k].Office).Entries.take heads[k].Size.toNat).findIdx? (fun e => e.Doc == digF (lastH c)) with
   | none => rfl
   | some j =>
    simp only [ob_some, Sum.elim_inr]; rw [decide_eq_true (p := ((j : Nat) : Int) ≥ 0) (by omega), ifB_t, apG_ok (by simp only [List.length_nil]; omega), ob_some, apG_ok (by simp only [List.length_cons, List.length_nil]; omega), ob_some, apG_ok (by simp only [List.length_cons, List.length_nil]; omega)]; rfl
 ·cases nextS l c heads[k] with
  | none => exact Nat.le_succ_of_le hb
  | some y => simp only [snocO, List.length_append, List.length_cons, List.length_nil]; omega
theorem lastH_get {c : Kj} (h : 0 < c.heads.length) : c.heads[c.heads.length - 1]? = some (lastH c) := by
 unfold lastH; rw [List.getD_eq_getElem?_getD, List.getElem?_eq_getElem (by omega)]; rfl
theorem lastH_mem {c : Kj} (h : 0 < c.heads.length) : lastH c ∈ c.heads := List.mem_of_getElem? (lastH_get h)
theorem lastH_snoc (l : List Kc) (h : Kc) (x : Int) : lastH ⟨l ++ [h], x⟩ = h := by
 unfold lastH
 simp
structure COk (heads : List Kc) (n : Nat) (c : Kj) : Prop where
 n : c.heads.length = n
 m : ∀ h ∈ c.heads, h ∈ heads
theorem next_spec {l : List Kf} {c d : Kj} {h : Kc} (e : nextS l c h = some d) : (c.heads.any (fun g => g.Office == h.Office)) = false ∧ ∃ x, atS l h (digF (lastH c)) = some x ∧ d = ⟨c.heads ++ [h], x⟩ := by
 unfold nextS at e
 split at e
 ·cases e
 ·rename_i h0
  cases ha : atS l h (digF (lastH c)) with
  | none => rw [ha] at e; cases e
  | some x => rw [ha] at e; exact ⟨by simpa using h0, x, rfl, (Option.some.inj e).symm⟩
theorem long_ok {l : List Kf} {heads : List Kc} {n : Nat} {c d : Kj} (hc : COk heads n c) (hd : d ∈ longS l heads c) : COk heads (n + 1) d := by
 unfold longS at hd; rw [List.mem_filterMap] at hd; obtain ⟨h, hh, e⟩ := hd; obtain ⟨_, x, _, rfl⟩ := next_spec e; refine ⟨by simp [hc.n], fun g hg => ?_⟩; rcases List.mem_append.1 hg with hg | hg
 ·exact hc.m g hg
 ·rw [List.mem_singleton] at hg; rw [hg]; exact hh
theorem long_len (l : List Kf) (heads : List Kc) (c : Kj) : (longS l heads c).length ≤ heads.length := List.length_filterMap_le _ _
def finB (dst k : Int) (c : Kj) : Bool := ((lastH c).Office == dst) && (decide ((lastH c).Size > k) && decide (k > c.at_))
def lev0 (heads : List Kc) (from_ i : Int) : List Kj := heads.filterMap fun h => if ((h.Office == from_) && decide (h.Size > i)) = true then some ⟨[h], i⟩ else none
def goS (l : List Kf) (heads : List Kc) (dst k : Int) : Nat → List Kj → Option Kj
 | 0, _ => none
 | n + 1, lv => match lv.find? (finB dst k) with
  | some c => some c
  | none => goS l heads dst k n (lv.flatMap (longS l heads))
def srchS (l : List Kf) (heads : List Kc) (from_ i dst k : Int) : Option Kj := goS l heads dst k 4 (lev0 heads from_ i)
theorem lev0_ok {heads : List Kc} {from_ i : Int} {c : Kj} (hc : c ∈ lev0 heads from_ i) : COk heads 1 c ∧ (∃ h, h ∈ heads ∧ c = ⟨[h], i⟩ ∧ h.Office = from_ ∧ h.Size > i) := by
 unfold lev0 at hc; rw [List.mem_filterMap] at hc; obtain ⟨h, hh, e⟩ := hc
 split at e
 ·rename_i h0
  cases e; rw [Bool.and_eq_true, beq_iff_eq, decide_eq_true_eq] at h0; exact ⟨⟨rfl, fun g hg => by rw [List.mem_singleton] at hg; rw [hg]; exact hh⟩, h, hh, rfl, h0.1, h0.2⟩
 ·cases e
theorem flat_len {α β : Type} (f : α → List β) (m : Nat) (hf : ∀ x, (f x).length ≤ m) : ∀ l : List α, (l.flatMap f).length ≤ l.length * m
 | [] => by simp
 | x :: l => by
  rw [List.flatMap_cons, List.length_append, List.length_cons, Nat.add_mul]; have := flat_len f m hf l; have := hf x; omega
def runV (l : List Kf) (heads : List Kc) (dst k : Int) : List Kj → List Kj → List Kj ⊕ Kj
 | [], b => .inl b
 | c :: cs, b => if finB dst k c = true then .inr c else runV l heads dst k cs (b ++ longS l heads c)
theorem runV_eq (l : List Kf) (heads : List Kc) (dst k : Int) : ∀ (cs b : List Kj), runV l heads dst k cs b = match cs.find? (finB dst k) with | some c => .inr c | none => .inl (b ++ cs.flatMap (longS l heads))
 | [], b => by simp [runV]
 | c :: cs, b => by
  rw [runV, List.find?_cons]; cases finB dst k c with
  | true => rfl
  | false =>
   rw [if_neg (by decide), runV_eq l heads dst k cs]; simp only [List.flatMap_cons, List.append_assoc]
def stepS (l : List Kf) (heads : List Kc) (dst k : Int) (lv : List Kj) : List Kj ⊕ Kj := runV l heads dst k lv []
def runG (l : List Kf) (heads : List Kc) (dst k : Int) : List Nat → List Kj → Unit ⊕ Kj
 | [], _ => .inl ()
 | _ :: ns, lv => match stepS l heads dst k lv with
  | .inl lv' => runG l heads dst k ns lv'
  | .inr c => .inr c
theorem runG_eq (l : List Kf) (heads : List Kc) (dst k : Int) : ∀ (ns : List Nat) (lv : List Kj), runG l heads dst k ns lv = match goS l heads dst k ns.length lv with | some c => .inr c | none => .inl ()
 | [], lv => rfl
 | n :: ns, lv => by
  rw [runG, stepS, runV_eq, List.length_cons, goS]; cases lv.find? (finB dst k) with
  | some c => rfl
  | none =>
   simp only [List.nil_append]; exact runG_eq l heads dst k ns _
def outS : Option Kj → Kj × Bool
 | some c => (c, true)
 | none => (⟨[], 0⟩, false)
theorem srch_p {l : List Kf} {heads : List Kc} {from_ i dst k : Int} (hl : FewO l) (hn : heads.length ≤ 12) (hr : ∀ h ∈ heads, HdOk l h) (hg : ∀ h ∈ heads, h.rng) {F : Nat} (hF : 21000 ≤ F) :
  Gal F (arcO l heads) from_ i dst k = some (outS (srchS l heads from_ i dst k)) := by
 unfold Gal srchS; rw [show (arcO l heads).heads = heads from rfl]; rw [iter_fold (fun (b : List Kj) j => ((b, i, j, dst, k) : List Kj × Int × Int × Int × Int)) heads (fun b h => snocO b (if ((h.Office == from_) && decide (h.Size > i)) = true then some ⟨[h], i⟩ else none)) (fun b => (b, dst, k)) (fun j b => b.length ≤ j) (fun b _ => ?_) (fun b j h hb => ⟨?_, ?_⟩) (by omega) [] (by simp), fold_fm]
 ·rw [show (fun h : Kc => if ((h.Office == from_) && decide (h.Size > i)) = true then some (⟨[h], i⟩ : Kj) else none) = (fun h : Kc => if ((h.Office == from_) && decide (h.Size > i)) = true then some ⟨[h], i⟩ else none) from rfl, show ([] : List Kj) ++ heads.filterMap (fun h : Kc => if ((h.Office == from_) && decide (h.Size > i)) = true then some ⟨[h], i⟩ else none) = lev0 heads from_ i from List.nil_append _]; simp only [ob_some, un3]; rw [iter_foldX (β := List Kj) (τ := Kj) (fun b j => ((b, j) : List Kj × Int)) (List.range 4) (fun b _ => stepS l heads dst k b) (fun _ => .inl ()) (fun c => .inr c) (fun j b => b.length ≤ 12 ^ (j + 1) ∧ ∀ c ∈ b, COk heads (j + 1) c) (runG l heads dst k) (fun _ => rfl) (fun x xs b => ?_) (fun b _ => ?_) (fun b j h hb => ⟨?_, fun b' h' => ?_⟩) (by rw [List.length_range]; omega) (lev0 heads from_ i) ⟨?_, fun c hc => (lev0_ok hc).1⟩, runG_eq]
  ·rw [List.length_range]; cases goS l heads dst k 4 (lev0 heads from_ i) <;> rfl
  ·refine Nat.le_trans (List.length_filterMap_le _ _) ?_
   simpa using hn
  ·rw [runG]; cases stepS l heads dst k b <;> rfl
  ·rw [List.length_range]; rfl
  ·rw [List.length_range] at h; simp only [un2]; rw [decide_eq_true (p := (j : Int) < 4) (by omega), ifB_t]; have hp : 12 ^ (j + 1) ≤ 20736 := Nat.le_trans (Nat.pow_le_pow_right (by decide) (by omega : j + 1 ≤ 4)) (by decide); rw [iter_foldX (β := List Kj) (τ := Kj) (fun b j => ((b, j) : List Kj × Int)) b (fun b c => if finB dst k c = true then .inr c else .inl (b ++ longS l heads c)) (fun b => .inl b) (fun c => .inr c) (fun j b => b.length ≤ j * 12) (runV l heads dst k) (fun _ => rfl) (fun x xs b => ?_) (fun b _ => ?_) (fun b' j' h' hb' => ⟨?_, fun b'' h'' => ?_⟩) (by omega) [] (by simp)]
   ·rw [w64_id (n := (j : Int) + 1) (by omega) (by omega)]; unfold stepS; cases runV l heads dst k b [] <;> rfl
   ·rw [runV]; split <;> rfl
   ·simp only [un2, ltn, ifB_f]
   ·have hc := hb.2 _ (List.getElem_mem h'); have h0 : 0 < b[j'].heads.length := by rw [hc.n]; omega
    have h12 : b[j'].heads.length ≤ 12 := by rw [hc.n]; omega
    simp only [un2, ltl h', ifB_t, ixI_get h', ob_some, w64_1 h' (by omega)]; rw [last_p h0 (by omega), ob_some]; have e1 : (ifB ((lastH b[j']).Office == dst) (ifB (decide ((lastH b[j']).Size > k)) (some (decide (k > b[j'].at_))) (some false)) (some false) : Option Bool) = some (finB dst k b[j']) := by
     unfold finB; cases ((lastH b[j']).Office == dst) <;> cases decide ((lastH b[j']).Size > k) <;> rfl
    rw [e1, ob_some]; cases finB dst k b[j'] with
    | true => rfl
    | false =>
     have hlo := long_len l heads b[j']; rw [ifB_f, long_p hl hn hr h0 h12 (hg _ (hc.m _ (lastH_mem h0))) (by omega), ob_some, apG_ok (by omega)]; rfl
   ·split at h''
    ·cases h''
    ·cases h''; have hlo := long_len l heads b[j']; rw [List.length_append, Nat.add_mul]; omega
  ·unfold stepS at h'; rw [runV_eq] at h'; cases hf : b.find? (finB dst k) with
   | some c => rw [hf] at h'; cases h'
   | none =>
    rw [hf] at h'; cases h'; rw [List.nil_append]; refine ⟨?_, fun c hc => ?_⟩
    ·refine Nat.le_trans (flat_len (longS l heads) 12 (fun x => Nat.le_trans (long_len l heads x) hn) b) ?_; rw [Nat.pow_succ]; exact Nat.mul_le_mul_right 12 hb.1
    ·obtain ⟨d, hd, hc⟩ := List.mem_flatMap.1 hc; exact long_ok (hb.2 d hd) hc
 ·simp only [un5, ltn, ifB_f]
 ·simp only [un5, ltl h, ifB_t, ixI_get h, ob_some, w64_1 h (by omega)]; have e1 : (ifB (heads[j].Office == from_) (some (decide (heads[j].Size > i))) (some false) : Option Bool) = some ((heads[j].Office == from_) && decide (heads[j].Size > i)) := by
   cases heads[j].Office == from_ <;> rfl
  rw [e1, ob_some]; cases ((heads[j].Office == from_) && decide (heads[j].Size > i)) with
  | false => rfl
  | true =>
   rw [ifB_t, apG_ok (by simp only [List.length_cons, List.length_nil]; omega)]; rfl
 ·split
  ·simp only [snocO, List.length_append, List.length_cons, List.length_nil]; omega
  ·exact Nat.le_succ_of_le hb
end Go.Proofs.YtggaodokkcoagaaGreatDoor
