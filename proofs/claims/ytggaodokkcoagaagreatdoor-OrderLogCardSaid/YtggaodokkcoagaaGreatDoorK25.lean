/-
  Texts joined: Z20, Z21, Z22, Z23, Z24, Z25, Za, Ma, OpA, OpR, OpZ, Mb, Mc, Lw24, Md, Me, Mf, Na, Nb, Nc, Ne, Lp, Lq, Pa27, Pb27, Pc27.
-/
import Derived.Test.YtggaodokkcoagaaGreatDoorProg
import Derived.Test.YtggaodokkcoagaaGreatDoorRows
import Derived.ProofKit
import Derived.OpenShut
import Derived.Carry
import Derived.ChangeSame
import Derived.Deep.Slices
import Derived.Lib.SmallJoins
import Derived.KernelRfl
import Derived.Test.YtggaodokkcoagaaGreatDoorK20
import Derived.Test.YtggaodokkcoagaaGreatDoorK21
import Derived.Test.YtggaodokkcoagaaGreatDoorK22
import Derived.Test.YtggaodokkcoagaaGreatDoorK23
import Derived.Test.YtggaodokkcoagaaGreatDoorK24
set_option linter.unusedSimpArgs false
set_option linter.unusedVariables false
namespace Go.Proofs.YtggaodokkcoagaaGreatDoor
open Go.RowKit Go.Maps
def G_regulatorlaw27_head (F : Nat)  : Option (Bool) :=
  Option.bind (G_regulatorlaw27_two F ) (un3 fun v_1 v_2 v_3 =>
  Option.bind (G_order_Find F v_1 v_2 1 0 2 1) (un3 fun v_4 v_5 v_6 =>
  Option.bind (G_order_Check F v_3 v_4) (un2 fun v_8 v_9 =>
  Option.bind (G_order_Find F v_1 v_2 2 1 1 0) (un3 fun v_10 v_11 v_12 =>
  Option.bind (G_order_Find F v_1 v_2 2 0 2 1) (un3 fun v_14 v_15 v_16 =>
  Option.bind (G_order_Check F v_3 v_14) (un2 fun v_18 v_19 =>
  Option.bind (G_order_Find F v_1 v_2 3 0 1 0) (un3 fun v_20 v_21 v_22 =>
  Option.bind (ifB ((v_6 == 0))
      (ifB ((v_9 == 0))
        (ifB ((v_12 == 0))
          (ifB ((v_16 == 0))
            (ifB ((v_19 == 0))
              (ifB ((v_22 == 1))
                (ifB (v_5)
                  (ifB (v_8)
                    (ifB (v_11)
                      (some false)
                      (ifB (v_15)
                        (some v_18)
                        (some false)))
                    (some false))
                  (some false))
                (some false))
              (some false))
            (some false))
          (some false))
        (some false))
      (some false) : Option (Bool)) (fun (v_35 : Bool) => 
    Option.bind (ifB (v_35)
        (ifB ((((v_4.Hops.length : Nat) : Int) == 1))
          (ifB ((v_4.First.Entry.Doc == 77))
            (ifB ((v_4.Last.Entry.Doc == 88))
              (Option.bind (G_order_Offices F v_4) (fun v_40 =>
              Option.bind (G_regulatorref27_SameInts F v_40 ([1, 2] : List Int)) (fun v_42 =>
              ifB (v_42)
                (some (((v_14.Hops.length : Nat) : Int) == 0))
                (some false))))
              (some false))
            (some false))
          (some false))
        (some false) : Option (Bool)) (fun (v_45 : Bool) => 
      some v_45)))))))))
set_option maxRecDepth 100000 in
set_option maxHeartbeats 16000000 in
theorem z_regulatorlaw27_head (F : Nat)  (r : Bool) (hG : G_regulatorlaw27_head F  = some r) :
  Cf Tryz.prog 10 [] [] (B r) := by
 unfold G_regulatorlaw27_head at hG
 try (simp only [un2, un3, un4, un5, un6, un7, un8, Sum.elim_inl, Sum.elim_inr, List.length_map, KProofL.n_Hops] at hG; replace hG : _ = _ := hG)
 refine fi Tryz.func10 rfl rfl m0 fun S0 w0 hT => ?_
 refine sq ?_; refine rg ?_; refine ra [] f0 [] ?_; refine tN ?_; refine sq ?_; replace hG := bind_some hG; obtain ⟨⟨v_1o, v_2o, v_3o⟩, hy_1, hG⟩ := hG; refine rg ?_; refine l1 ?_; refine cn 22 (z_regulatorlaw27_two F  _ hy_1) hT (fun _ => (mr KOfficeL.mv (mr tr_mv (mr tr_mv m0)))) trivial ?_; rintro ⟨⟨v_1_A, v_1_c, v_1⟩, ⟨v_2_A, v_2_c, v_2⟩, ⟨v_3_A, v_3_c, v_3⟩⟩ ⟨hq_1, hq_2, hq_3⟩; obtain rfl : (v_1.map KOfficeL.p) = v_1o := hq_1.symm; obtain rfl : v_2 = v_2o := hq_2.symm; obtain rfl : v_3 = v_3o := hq_3.symm
 try (simp only [un2, un3, un4, un5, un6, un7, un8, Sum.elim_inl, Sum.elim_inr, List.length_map, KProofL.n_Hops] at hG; replace hG : _ = _ := hG)
 refine ra [] f0 [(1, .slice v_1_A v_1.length v_1_c), (2, .slice v_2_A v_2.length v_2_c), (3, .slice v_3_A v_3.length v_3_c)] ?_; refine tN ?_; refine sq ?_; replace hG := bind_some hG; obtain ⟨⟨v_4o, v_5, v_6⟩, hy_4, hG⟩ := hG; refine rg ?_; refine rn 2 [] f0 [(27, .slice v_1_A v_1.length v_1_c), (28, .slice v_2_A v_2.length v_2_c)] ?_; refine l1 ?_; refine cn 29 (z_order_Find F v_1_A v_1_c v_1 v_2_A v_2_c v_2 1 0 2 1 _ hy_4) hT (fun _ => (mc KProofL.mv m0)) ⟨gi 0, gi 1, trivial⟩ ?_; rintro v_4 hq_4; obtain rfl : v_4.p = v_4o := hq_4.symm
 try (simp only [un2, un3, un4, un5, un6, un7, un8, Sum.elim_inl, Sum.elim_inr, List.length_map, KProofL.n_Hops] at hG; replace hG : _ = _ := hG)
 refine rn 4 [] f0 [(30, .agg #[I v_4.First.Head.Office, I v_4.First.Head.Size, U v_4.First.Head.Root, I v_4.First.Head.Sig.C, I v_4.First.Head.Sig.S, I v_4.First.Index, U v_4.First.Entry.Doc, I v_4.First.Entry.Stamp.Lo, I v_4.First.Entry.Stamp.Hi, .slice v_4.First.Path_A v_4.First.Path.length v_4.First.Path_c, .slice v_4.Hops_A v_4.Hops.length v_4.Hops_c, .slice v_4.Grow_A v_4.Grow.length v_4.Grow_c, I v_4.Last.Head.Office, I v_4.Last.Head.Size, U v_4.Last.Head.Root, I v_4.Last.Head.Sig.C, I v_4.Last.Head.Sig.S, I v_4.Last.Index, U v_4.Last.Entry.Doc, I v_4.Last.Entry.Stamp.Lo, I v_4.Last.Entry.Stamp.Hi, .slice v_4.Last.Path_A v_4.Last.Path.length v_4.Last.Path_c]), (31, B v_5), (32, I v_6)] ?_; refine l1 ?_; refine nw 4 vp [I 0, I 0, U 0, I 0, I 0, I 0, U 0, I 0, I 0, .slice none 0 0, .slice none 0 0, .slice none 0 0, I 0, I 0, U 0, I 0, I 0, I 0, U 0, I 0, I 0, .slice none 0 0] 37 fun g_7 => ?_
 refine l1 ?_; refine sr 0 g_7 [(0, I v_4.First.Head.Office), (1, I v_4.First.Head.Size), (2, U v_4.First.Head.Root), (3, I v_4.First.Head.Sig.C), (4, I v_4.First.Head.Sig.S), (5, I v_4.First.Index), (6, U v_4.First.Entry.Doc), (7, I v_4.First.Entry.Stamp.Lo), (8, I v_4.First.Entry.Stamp.Hi), (9, .slice v_4.First.Path_A v_4.First.Path.length v_4.First.Path_c), (10, .slice v_4.Hops_A v_4.Hops.length v_4.Hops_c), (11, .slice v_4.Grow_A v_4.Grow.length v_4.Grow_c), (12, I v_4.Last.Head.Office), (13, I v_4.Last.Head.Size), (14, U v_4.Last.Head.Root), (15, I v_4.Last.Head.Sig.C), (16, I v_4.Last.Head.Sig.S), (17, I v_4.Last.Index), (18, U v_4.Last.Entry.Doc), (19, I v_4.Last.Entry.Stamp.Lo), (20, I v_4.Last.Entry.Stamp.Hi), (21, .slice v_4.Last.Path_A v_4.Last.Path.length v_4.Last.Path_c)] ?_; refine ra [] f0 [(5, B v_5), (6, I v_6)] ?_; refine tN ?_; refine sq ?_; replace hG := bind_some hG; obtain ⟨⟨v_8, v_9⟩, hy_8, hG⟩ := hG; refine rg ?_; refine rn 2 [(1, 22, 0, 0)] f0 [(34, .slice v_3_A v_3.length v_3_c), (35, .agg #[I v_4.First.Head.Office, I v_4.First.Head.Size, U v_4.First.Head.Root, I v_4.First.Head.Sig.C, I v_4.First.Head.Sig.S, I v_4.First.Index, U v_4.First.Entry.Doc, I v_4.First.Entry.Stamp.Lo, I v_4.First.Entry.Stamp.Hi, .slice v_4.First.Path_A v_4.First.Path.length v_4.First.Path_c, .slice v_4.Hops_A v_4.Hops.length v_4.Hops_c, .slice v_4.Grow_A v_4.Grow.length v_4.Grow_c, I v_4.Last.Head.Office, I v_4.Last.Head.Size, U v_4.Last.Head.Root, I v_4.Last.Head.Sig.C, I v_4.Last.Head.Sig.S, I v_4.Last.Index, U v_4.Last.Entry.Doc, I v_4.Last.Entry.Stamp.Lo, I v_4.Last.Entry.Stamp.Hi, .slice v_4.Last.Path_A v_4.Last.Path.length v_4.Last.Path_c])] ?_; refine l1 ?_; refine cl 36 (z_order_Check F v_3_A v_3_c v_3 v_4 _ hy_8) hT ⟨ga 4, (gi 1).a, trivial⟩ ?_; refine ra [] f0 [(7, B v_8), (8, I v_9)] ?_; refine tN ?_; refine sq ?_; replace hG := bind_some hG; obtain ⟨⟨v_10o, v_11, v_12⟩, hy_10, hG⟩ := hG; refine rg ?_; refine rn 2 [] f0 [(40, .slice v_1_A v_1.length v_1_c), (41, .slice v_2_A v_2.length v_2_c)] ?_; refine l1 ?_; refine cn 42 (z_order_Find F v_1_A v_1_c v_1 v_2_A v_2_c v_2 2 1 1 0 _ hy_10) hT (fun _ => (mc KProofL.mv m0)) ⟨gi 2, gi 3, trivial⟩ ?_; rintro v_10 hq_10; obtain rfl : v_10.p = v_10o := hq_10.symm
 try (simp only [un2, un3, un4, un5, un6, un7, un8, Sum.elim_inl, Sum.elim_inr, List.length_map, KProofL.n_Hops] at hG; replace hG : _ = _ := hG)
 refine rn 4 [] f0 [(43, .agg #[I v_10.First.Head.Office, I v_10.First.Head.Size, U v_10.First.Head.Root, I v_10.First.Head.Sig.C, I v_10.First.Head.Sig.S, I v_10.First.Index, U v_10.First.Entry.Doc, I v_10.First.Entry.Stamp.Lo, I v_10.First.Entry.Stamp.Hi, .slice v_10.First.Path_A v_10.First.Path.length v_10.First.Path_c, .slice v_10.Hops_A v_10.Hops.length v_10.Hops_c, .slice v_10.Grow_A v_10.Grow.length v_10.Grow_c, I v_10.Last.Head.Office, I v_10.Last.Head.Size, U v_10.Last.Head.Root, I v_10.Last.Head.Sig.C, I v_10.Last.Head.Sig.S, I v_10.Last.Index, U v_10.Last.Entry.Doc, I v_10.Last.Entry.Stamp.Lo, I v_10.Last.Entry.Stamp.Hi, .slice v_10.Last.Path_A v_10.Last.Path.length v_10.Last.Path_c]), (44, B v_11), (45, I v_12)] ?_; refine l1 ?_; refine nw 9 vp [I 0, I 0, U 0, I 0, I 0, I 0, U 0, I 0, I 0, .slice none 0 0, .slice none 0 0, .slice none 0 0, I 0, I 0, U 0, I 0, I 0, I 0, U 0, I 0, I 0, .slice none 0 0] 37 fun g_13 => ?_
 refine l1 ?_; refine sr 0 g_13 [(0, I v_10.First.Head.Office), (1, I v_10.First.Head.Size), (2, U v_10.First.Head.Root), (3, I v_10.First.Head.Sig.C), (4, I v_10.First.Head.Sig.S), (5, I v_10.First.Index), (6, U v_10.First.Entry.Doc), (7, I v_10.First.Entry.Stamp.Lo), (8, I v_10.First.Entry.Stamp.Hi), (9, .slice v_10.First.Path_A v_10.First.Path.length v_10.First.Path_c), (10, .slice v_10.Hops_A v_10.Hops.length v_10.Hops_c), (11, .slice v_10.Grow_A v_10.Grow.length v_10.Grow_c), (12, I v_10.Last.Head.Office), (13, I v_10.Last.Head.Size), (14, U v_10.Last.Head.Root), (15, I v_10.Last.Head.Sig.C), (16, I v_10.Last.Head.Sig.S), (17, I v_10.Last.Index), (18, U v_10.Last.Entry.Doc), (19, I v_10.Last.Entry.Stamp.Lo), (20, I v_10.Last.Entry.Stamp.Hi), (21, .slice v_10.Last.Path_A v_10.Last.Path.length v_10.Last.Path_c)] ?_; refine ra [] f0 [(10, B v_11), (11, I v_12)] ?_; refine tN ?_; refine sq ?_; replace hG := bind_some hG; obtain ⟨⟨v_14o, v_15, v_16⟩, hy_14, hG⟩ := hG; refine rg ?_; refine rn 2 [] f0 [(47, .slice v_1_A v_1.length v_1_c), (48, .slice v_2_A v_2.length v_2_c)] ?_; refine l1 ?_; refine cn 49 (z_order_Find F v_1_A v_1_c v_1 v_2_A v_2_c v_2 2 0 2 1 _ hy_14) hT (fun _ => (mc KProofL.mv m0)) ⟨gi 4, gi 5, trivial⟩ ?_; rintro v_14 hq_14; obtain rfl : v_14.p = v_14o := hq_14.symm
 try (simp only [un2, un3, un4, un5, un6, un7, un8, Sum.elim_inl, Sum.elim_inr, List.length_map, KProofL.n_Hops] at hG; replace hG : _ = _ := hG)
 refine rn 4 [] f0 [(50, .agg #[I v_14.First.Head.Office, I v_14.First.Head.Size, U v_14.First.Head.Root, I v_14.First.Head.Sig.C, I v_14.First.Head.Sig.S, I v_14.First.Index, U v_14.First.Entry.Doc, I v_14.First.Entry.Stamp.Lo, I v_14.First.Entry.Stamp.Hi, .slice v_14.First.Path_A v_14.First.Path.length v_14.First.Path_c, .slice v_14.Hops_A v_14.Hops.length v_14.Hops_c, .slice v_14.Grow_A v_14.Grow.length v_14.Grow_c, I v_14.Last.Head.Office, I v_14.Last.Head.Size, U v_14.Last.Head.Root, I v_14.Last.Head.Sig.C, I v_14.Last.Head.Sig.S, I v_14.Last.Index, U v_14.Last.Entry.Doc, I v_14.Last.Entry.Stamp.Lo, I v_14.Last.Entry.Stamp.Hi, .slice v_14.Last.Path_A v_14.Last.Path.length v_14.Last.Path_c]), (51, B v_15), (52, I v_16)] ?_; refine l1 ?_; refine nw 12 vp [I 0, I 0, U 0, I 0, I 0, I 0, U 0, I 0, I 0, .slice none 0 0, .slice none 0 0, .slice none 0 0, I 0, I 0, U 0, I 0, I 0, I 0, U 0, I 0, I 0, .slice none 0 0] 37 fun g_17 => ?_
 refine l1 ?_; refine sr 0 g_17 [(0, I v_14.First.Head.Office), (1, I v_14.First.Head.Size), (2, U v_14.First.Head.Root), (3, I v_14.First.Head.Sig.C), (4, I v_14.First.Head.Sig.S), (5, I v_14.First.Index), (6, U v_14.First.Entry.Doc), (7, I v_14.First.Entry.Stamp.Lo), (8, I v_14.First.Entry.Stamp.Hi), (9, .slice v_14.First.Path_A v_14.First.Path.length v_14.First.Path_c), (10, .slice v_14.Hops_A v_14.Hops.length v_14.Hops_c), (11, .slice v_14.Grow_A v_14.Grow.length v_14.Grow_c), (12, I v_14.Last.Head.Office), (13, I v_14.Last.Head.Size), (14, U v_14.Last.Head.Root), (15, I v_14.Last.Head.Sig.C), (16, I v_14.Last.Head.Sig.S), (17, I v_14.Last.Index), (18, U v_14.Last.Entry.Doc), (19, I v_14.Last.Entry.Stamp.Lo), (20, I v_14.Last.Entry.Stamp.Hi), (21, .slice v_14.Last.Path_A v_14.Last.Path.length v_14.Last.Path_c)] ?_; refine ra [] f0 [(13, B v_15), (14, I v_16)] ?_; refine tN ?_; refine sq ?_; replace hG := bind_some hG; obtain ⟨⟨v_18, v_19⟩, hy_18, hG⟩ := hG; refine rg ?_; refine rn 2 [(1, 22, 0, 0)] f0 [(54, .slice v_3_A v_3.length v_3_c), (55, .agg #[I v_14.First.Head.Office, I v_14.First.Head.Size, U v_14.First.Head.Root, I v_14.First.Head.Sig.C, I v_14.First.Head.Sig.S, I v_14.First.Index, U v_14.First.Entry.Doc, I v_14.First.Entry.Stamp.Lo, I v_14.First.Entry.Stamp.Hi, .slice v_14.First.Path_A v_14.First.Path.length v_14.First.Path_c, .slice v_14.Hops_A v_14.Hops.length v_14.Hops_c, .slice v_14.Grow_A v_14.Grow.length v_14.Grow_c, I v_14.Last.Head.Office, I v_14.Last.Head.Size, U v_14.Last.Head.Root, I v_14.Last.Head.Sig.C, I v_14.Last.Head.Sig.S, I v_14.Last.Index, U v_14.Last.Entry.Doc, I v_14.Last.Entry.Stamp.Lo, I v_14.Last.Entry.Stamp.Hi, .slice v_14.Last.Path_A v_14.Last.Path.length v_14.Last.Path_c])] ?_; refine l1 ?_; refine cl 56 (z_order_Check F v_3_A v_3_c v_3 v_14 _ hy_18) hT ⟨ga 8, (gi 1).a, trivial⟩ ?_; refine ra [] f0 [(15, B v_18), (16, I v_19)] ?_; refine tN ?_; refine sq ?_; replace hG := bind_some hG; obtain ⟨⟨v_20o, v_21, v_22⟩, hy_20, hG⟩ := hG; refine rg ?_; refine rn 2 [] f0 [(60, .slice v_1_A v_1.length v_1_c), (61, .slice v_2_A v_2.length v_2_c)] ?_; refine l1 ?_; refine cn 62 (z_order_Find F v_1_A v_1_c v_1 v_2_A v_2_c v_2 3 0 1 0 _ hy_20) hT (fun _ => (mc KProofL.mv m0)) ⟨gi 6, gi 7, trivial⟩ ?_; rintro v_20 hq_20; obtain rfl : v_20.p = v_20o := hq_20.symm
 try (simp only [un2, un3, un4, un5, un6, un7, un8, Sum.elim_inl, Sum.elim_inr, List.length_map, KProofL.n_Hops] at hG; replace hG : _ = _ := hG)
 refine rn 4 [] f0 [(63, .agg #[I v_20.First.Head.Office, I v_20.First.Head.Size, U v_20.First.Head.Root, I v_20.First.Head.Sig.C, I v_20.First.Head.Sig.S, I v_20.First.Index, U v_20.First.Entry.Doc, I v_20.First.Entry.Stamp.Lo, I v_20.First.Entry.Stamp.Hi, .slice v_20.First.Path_A v_20.First.Path.length v_20.First.Path_c, .slice v_20.Hops_A v_20.Hops.length v_20.Hops_c, .slice v_20.Grow_A v_20.Grow.length v_20.Grow_c, I v_20.Last.Head.Office, I v_20.Last.Head.Size, U v_20.Last.Head.Root, I v_20.Last.Head.Sig.C, I v_20.Last.Head.Sig.S, I v_20.Last.Index, U v_20.Last.Entry.Doc, I v_20.Last.Entry.Stamp.Lo, I v_20.Last.Entry.Stamp.Hi, .slice v_20.Last.Path_A v_20.Last.Path.length v_20.Last.Path_c]), (64, B v_21), (65, I v_22)] ?_; refine l1 ?_; refine nw 17 vp [I 0, I 0, U 0, I 0, I 0, I 0, U 0, I 0, I 0, .slice none 0 0, .slice none 0 0, .slice none 0 0, I 0, I 0, U 0, I 0, I 0, I 0, U 0, I 0, I 0, .slice none 0 0] 37 fun g_23 => ?_
 refine l1 ?_; refine sr 0 g_23 [(0, I v_20.First.Head.Office), (1, I v_20.First.Head.Size), (2, U v_20.First.Head.Root), (3, I v_20.First.Head.Sig.C), (4, I v_20.First.Head.Sig.S), (5, I v_20.First.Index), (6, U v_20.First.Entry.Doc), (7, I v_20.First.Entry.Stamp.Lo), (8, I v_20.First.Entry.Stamp.Hi), (9, .slice v_20.First.Path_A v_20.First.Path.length v_20.First.Path_c), (10, .slice v_20.Hops_A v_20.Hops.length v_20.Hops_c), (11, .slice v_20.Grow_A v_20.Grow.length v_20.Grow_c), (12, I v_20.Last.Head.Office), (13, I v_20.Last.Head.Size), (14, U v_20.Last.Head.Root), (15, I v_20.Last.Head.Sig.C), (16, I v_20.Last.Head.Sig.S), (17, I v_20.Last.Index), (18, U v_20.Last.Entry.Doc), (19, I v_20.Last.Entry.Stamp.Lo), (20, I v_20.Last.Entry.Stamp.Hi), (21, .slice v_20.Last.Path_A v_20.Last.Path.length v_20.Last.Path_c)] ?_; refine ra [] f0 [(19, I v_22)] ?_; refine tN ?_; obtain ⟨o_34, hG, hG_34⟩ := bind_some hG; refine jn (fun K E a w => ∃ (v_35 : Bool), Js S0 w0 137 ([(20, B v_35)] ++ K) ([.dat (RowC v_14.First.Path_A v_14.First.Path_c c_u64 tr v_14.First.Path), .dat (RowC v_14.Hops_A v_14.Hops_c KHopL.cells KHopL.ok v_14.Hops), .dat (RowC v_14.Grow_A v_14.Grow_c c_u64 tr v_14.Grow), .dat (RowC v_14.Last.Path_A v_14.Last.Path_c c_u64 tr v_14.Last.Path), .dat (RowC v_4.First.Path_A v_4.First.Path_c c_u64 tr v_4.First.Path), .dat (RowC v_4.Hops_A v_4.Hops_c KHopL.cells KHopL.ok v_4.Hops), .dat (RowC v_4.Grow_A v_4.Grow_c c_u64 tr v_4.Grow), .dat (RowC v_4.Last.Path_A v_4.Last.Path_c c_u64 tr v_4.Last.Path)] ++ se E [2, 6]) (v_35 = o_34) a w) ?_ ?_
 ·replace hG := ifB_cases hG; rcases hG with ⟨h_24, hG⟩ | ⟨h_24, hG⟩
  ·replace hG := ifB_cases hG; rcases hG with ⟨h_25, hG⟩ | ⟨h_25, hG⟩
   ·replace hG := ifB_cases hG; rcases hG with ⟨h_26, hG⟩ | ⟨h_26, hG⟩
    ·replace hG := ifB_cases hG; rcases hG with ⟨h_27, hG⟩ | ⟨h_27, hG⟩
     ·replace hG := ifB_cases hG; rcases hG with ⟨h_28, hG⟩ | ⟨h_28, hG⟩
      ·replace hG := ifB_cases hG; rcases hG with ⟨h_29, hG⟩ | ⟨h_29, hG⟩
       ·replace hG := ifB_cases hG; rcases hG with ⟨h_30, hG⟩ | ⟨h_30, hG⟩
        ·replace hG := ifB_cases hG; rcases hG with ⟨h_31, hG⟩ | ⟨h_31, hG⟩
         ·replace hG := ifB_cases hG; rcases hG with ⟨h_32, hG⟩ | ⟨h_32, hG⟩
          ·refine rg ?_; refine rn 3 [] f0 [(68, B (v_6 == 0))] ?_; refine sb 68 (bt h_24) ?_; refine rn 4 [] f0 [(72, B (v_9 == 0))] ?_; refine sb 72 (bt h_25) ?_; refine rn 4 [] f0 [(76, B (v_12 == 0))] ?_; refine sb 76 (bt h_26) ?_; refine rn 4 [] f0 [(80, B (v_16 == 0))] ?_; refine sb 80 (bt h_27) ?_; refine rn 4 [] f0 [(84, B (v_19 == 0))] ?_; refine sb 84 (bt h_28) ?_; refine rn 4 [] f0 [(88, B (v_22 == 1))] ?_; refine sb 88 (bt h_29) ?_; refine rn 3 [] f0 [(91, B v_5)] ?_; refine sb 91 (bt h_30) ?_; refine rn 3 [] f0 [(94, B v_8)] ?_; refine sb 94 (bt h_31) ?_; refine rn 4 [] f0 [(98, B (!v_11))] ?_; refine sb 98 (nt h_32) ?_; refine ra [] f0 [(20, B false)] ?_; refine tN ?_; refine fm (RowC v_14.First.Path_A v_14.First.Path_c c_u64 tr v_14.First.Path) (gm (KProofL.ok v_14) 3 fun _ _ h => h.b_First.f_Path) ?_; refine fm (RowC v_14.Hops_A v_14.Hops_c KHopL.cells KHopL.ok v_14.Hops) (gm (KProofL.ok v_14) 4 fun _ _ h => h.f_Hops) ?_; refine fm (RowC v_14.Grow_A v_14.Grow_c c_u64 tr v_14.Grow) (gm (KProofL.ok v_14) 5 fun _ _ h => h.f_Grow) ?_; refine fm (RowC v_14.Last.Path_A v_14.Last.Path_c c_u64 tr v_14.Last.Path) (gm (KProofL.ok v_14) 6 fun _ _ h => h.b_Last.f_Path) ?_; refine fm (RowC v_4.First.Path_A v_4.First.Path_c c_u64 tr v_4.First.Path) (gm (KProofL.ok v_4) 11 fun _ _ h => h.b_First.f_Path) ?_; refine fm (RowC v_4.Hops_A v_4.Hops_c KHopL.cells KHopL.ok v_4.Hops) (gm (KProofL.ok v_4) 12 fun _ _ h => h.f_Hops) ?_; refine fm (RowC v_4.Grow_A v_4.Grow_c c_u64 tr v_4.Grow) (gm (KProofL.ok v_4) 13 fun _ _ h => h.f_Grow) ?_; refine fm (RowC v_4.Last.Path_A v_4.Last.Path_c c_u64 tr v_4.Last.Path) (gm (KProofL.ok v_4) 14 fun _ _ h => h.b_Last.f_Path) ?_; exact fun a w S hK hE => ⟨false, S, hK.wk, hE.sel [7, 6, 5, 4, 3, 2, 1, 0, 10, 14], Option.some.inj hG⟩
          ·replace hG := ifB_cases hG; rcases hG with ⟨h_33, hG⟩ | ⟨h_33, hG⟩
           ·refine rg ?_; refine rn 3 [] f0 [(68, B (v_6 == 0))] ?_; refine sb 68 (bt h_24) ?_; refine rn 4 [] f0 [(72, B (v_9 == 0))] ?_; refine sb 72 (bt h_25) ?_; refine rn 4 [] f0 [(76, B (v_12 == 0))] ?_; refine sb 76 (bt h_26) ?_; refine rn 4 [] f0 [(80, B (v_16 == 0))] ?_; refine sb 80 (bt h_27) ?_; refine rn 4 [] f0 [(84, B (v_19 == 0))] ?_; refine sb 84 (bt h_28) ?_; refine rn 4 [] f0 [(88, B (v_22 == 1))] ?_; refine sb 88 (bt h_29) ?_; refine rn 3 [] f0 [(91, B v_5)] ?_; refine sb 91 (bt h_30) ?_; refine rn 3 [] f0 [(94, B v_8)] ?_; refine sb 94 (bt h_31) ?_; refine rn 4 [] f0 [(98, B (!v_11))] ?_; refine sb 98 (nf h_32) ?_; refine rn 3 [] f0 [(101, B v_15)] ?_; refine sb 101 (bt h_33) ?_; refine ra [] f0 [(20, B v_18)] ?_; refine tN ?_; refine fm (RowC v_14.First.Path_A v_14.First.Path_c c_u64 tr v_14.First.Path) (gm (KProofL.ok v_14) 3 fun _ _ h => h.b_First.f_Path) ?_; refine fm (RowC v_14.Hops_A v_14.Hops_c KHopL.cells KHopL.ok v_14.Hops) (gm (KProofL.ok v_14) 4 fun _ _ h => h.f_Hops) ?_; refine fm (RowC v_14.Grow_A v_14.Grow_c c_u64 tr v_14.Grow) (gm (KProofL.ok v_14) 5 fun _ _ h => h.f_Grow) ?_; refine fm (RowC v_14.Last.Path_A v_14.Last.Path_c c_u64 tr v_14.Last.Path) (gm (KProofL.ok v_14) 6 fun _ _ h => h.b_Last.f_Path) ?_; refine fm (RowC v_4.First.Path_A v_4.First.Path_c c_u64 tr v_4.First.Path) (gm (KProofL.ok v_4) 11 fun _ _ h => h.b_First.f_Path) ?_; refine fm (RowC v_4.Hops_A v_4.Hops_c KHopL.cells KHopL.ok v_4.Hops) (gm (KProofL.ok v_4) 12 fun _ _ h => h.f_Hops) ?_; refine fm (RowC v_4.Grow_A v_4.Grow_c c_u64 tr v_4.Grow) (gm (KProofL.ok v_4) 13 fun _ _ h => h.f_Grow) ?_; refine fm (RowC v_4.Last.Path_A v_4.Last.Path_c c_u64 tr v_4.Last.Path) (gm (KProofL.ok v_4) 14 fun _ _ h => h.b_Last.f_Path) ?_; exact fun a w S hK hE => ⟨v_18, S, hK.wk, hE.sel [7, 6, 5, 4, 3, 2, 1, 0, 10, 14], Option.some.inj hG⟩
           ·refine rg ?_; refine rn 3 [] f0 [(68, B (v_6 == 0))] ?_; refine sb 68 (bt h_24) ?_; refine rn 4 [] f0 [(72, B (v_9 == 0))] ?_; refine sb 72 (bt h_25) ?_; refine rn 4 [] f0 [(76, B (v_12 == 0))] ?_; refine sb 76 (bt h_26) ?_; refine rn 4 [] f0 [(80, B (v_16 == 0))] ?_; refine sb 80 (bt h_27) ?_; refine rn 4 [] f0 [(84, B (v_19 == 0))] ?_; refine sb 84 (bt h_28) ?_; refine rn 4 [] f0 [(88, B (v_22 == 1))] ?_; refine sb 88 (bt h_29) ?_; refine rn 3 [] f0 [(91, B v_5)] ?_; refine sb 91 (bt h_30) ?_; refine rn 3 [] f0 [(94, B v_8)] ?_; refine sb 94 (bt h_31) ?_; refine rn 4 [] f0 [(98, B (!v_11))] ?_; refine sb 98 (nf h_32) ?_; refine rn 3 [] f0 [(101, B v_15)] ?_; refine sb 101 (bf h_33) ?_; refine ra [] f0 [(20, B false)] ?_; refine tN ?_; refine fm (RowC v_14.First.Path_A v_14.First.Path_c c_u64 tr v_14.First.Path) (gm (KProofL.ok v_14) 3 fun _ _ h => h.b_First.f_Path) ?_; refine fm (RowC v_14.Hops_A v_14.Hops_c KHopL.cells KHopL.ok v_14.Hops) (gm (KProofL.ok v_14) 4 fun _ _ h => h.f_Hops) ?_; refine fm (RowC v_14.Grow_A v_14.Grow_c c_u64 tr v_14.Grow) (gm (KProofL.ok v_14) 5 fun _ _ h => h.f_Grow) ?_; refine fm (RowC v_14.Last.Path_A v_14.Last.Path_c c_u64 tr v_14.Last.Path) (gm (KProofL.ok v_14) 6 fun _ _ h => h.b_Last.f_Path) ?_; refine fm (RowC v_4.First.Path_A v_4.First.Path_c c_u64 tr v_4.First.Path) (gm (KProofL.ok v_4) 11 fun _ _ h => h.b_First.f_Path) ?_; refine fm (RowC v_4.Hops_A v_4.Hops_c KHopL.cells KHopL.ok v_4.Hops) (gm (KProofL.ok v_4) 12 fun _ _ h => h.f_Hops) ?_; refine fm (RowC v_4.Grow_A v_4.Grow_c c_u64 tr v_4.Grow) (gm (KProofL.ok v_4) 13 fun _ _ h => h.f_Grow) ?_; refine fm (RowC v_4.Last.Path_A v_4.Last.Path_c c_u64 tr v_4.Last.Path) (gm (KProofL.ok v_4) 14 fun _ _ h => h.b_Last.f_Path) ?_; exact fun a w S hK hE => ⟨false, S, hK.wk, hE.sel [7, 6, 5, 4, 3, 2, 1, 0, 10, 14], Option.some.inj hG⟩
         ·refine rg ?_; refine rn 3 [] f0 [(68, B (v_6 == 0))] ?_; refine sb 68 (bt h_24) ?_; refine rn 4 [] f0 [(72, B (v_9 == 0))] ?_; refine sb 72 (bt h_25) ?_; refine rn 4 [] f0 [(76, B (v_12 == 0))] ?_; refine sb 76 (bt h_26) ?_; refine rn 4 [] f0 [(80, B (v_16 == 0))] ?_; refine sb 80 (bt h_27) ?_; refine rn 4 [] f0 [(84, B (v_19 == 0))] ?_; refine sb 84 (bt h_28) ?_; refine rn 4 [] f0 [(88, B (v_22 == 1))] ?_; refine sb 88 (bt h_29) ?_; refine rn 3 [] f0 [(91, B v_5)] ?_; refine sb 91 (bt h_30) ?_; refine rn 3 [] f0 [(94, B v_8)] ?_; refine sb 94 (bf h_31) ?_; refine ra [] f0 [(20, B false)] ?_; refine tN ?_; refine fm (RowC v_14.First.Path_A v_14.First.Path_c c_u64 tr v_14.First.Path) (gm (KProofL.ok v_14) 3 fun _ _ h => h.b_First.f_Path) ?_; refine fm (RowC v_14.Hops_A v_14.Hops_c KHopL.cells KHopL.ok v_14.Hops) (gm (KProofL.ok v_14) 4 fun _ _ h => h.f_Hops) ?_; refine fm (RowC v_14.Grow_A v_14.Grow_c c_u64 tr v_14.Grow) (gm (KProofL.ok v_14) 5 fun _ _ h => h.f_Grow) ?_; refine fm (RowC v_14.Last.Path_A v_14.Last.Path_c c_u64 tr v_14.Last.Path) (gm (KProofL.ok v_14) 6 fun _ _ h => h.b_Last.f_Path) ?_; refine fm (RowC v_4.First.Path_A v_4.First.Path_c c_u64 tr v_4.First.Path) (gm (KProofL.ok v_4) 11 fun _ _ h => h.b_First.f_Path) ?_; refine fm (RowC v_4.Hops_A v_4.Hops_c KHopL.cells KHopL.ok v_4.Hops) (gm (KProofL.ok v_4) 12 fun _ _ h => h.f_Hops) ?_; refine fm (RowC v_4.Grow_A v_4.Grow_c c_u64 tr v_4.Grow) (gm (KProofL.ok v_4) 13 fun _ _ h => h.f_Grow) ?_; refine fm (RowC v_4.Last.Path_A v_4.Last.Path_c c_u64 tr v_4.Last.Path) (gm (KProofL.ok v_4) 14 fun _ _ h => h.b_Last.f_Path) ?_; exact fun a w S hK hE => ⟨false, S, hK.wk, hE.sel [7, 6, 5, 4, 3, 2, 1, 0, 10, 14], Option.some.inj hG⟩
        ·refine rg ?_; refine rn 3 [] f0 [(68, B (v_6 == 0))] ?_; refine sb 68 (bt h_24) ?_; refine rn 4 [] f0 [(72, B (v_9 == 0))] ?_; refine sb 72 (bt h_25) ?_; refine rn 4 [] f0 [(76, B (v_12 == 0))] ?_; refine sb 76 (bt h_26) ?_; refine rn 4 [] f0 [(80, B (v_16 == 0))] ?_; refine sb 80 (bt h_27) ?_; refine rn 4 [] f0 [(84, B (v_19 == 0))] ?_; refine sb 84 (bt h_28) ?_; refine rn 4 [] f0 [(88, B (v_22 == 1))] ?_; refine sb 88 (bt h_29) ?_; refine rn 3 [] f0 [(91, B v_5)] ?_; refine sb 91 (bf h_30) ?_; refine ra [] f0 [(20, B false)] ?_; refine tN ?_; refine fm (RowC v_14.First.Path_A v_14.First.Path_c c_u64 tr v_14.First.Path) (gm (KProofL.ok v_14) 3 fun _ _ h => h.b_First.f_Path) ?_; refine fm (RowC v_14.Hops_A v_14.Hops_c KHopL.cells KHopL.ok v_14.Hops) (gm (KProofL.ok v_14) 4 fun _ _ h => h.f_Hops) ?_; refine fm (RowC v_14.Grow_A v_14.Grow_c c_u64 tr v_14.Grow) (gm (KProofL.ok v_14) 5 fun _ _ h => h.f_Grow) ?_; refine fm (RowC v_14.Last.Path_A v_14.Last.Path_c c_u64 tr v_14.Last.Path) (gm (KProofL.ok v_14) 6 fun _ _ h => h.b_Last.f_Path) ?_; refine fm (RowC v_4.First.Path_A v_4.First.Path_c c_u64 tr v_4.First.Path) (gm (KProofL.ok v_4) 11 fun _ _ h => h.b_First.f_Path) ?_; refine fm (RowC v_4.Hops_A v_4.Hops_c KHopL.cells KHopL.ok v_4.Hops) (gm (KProofL.ok v_4) 12 fun _ _ h => h.f_Hops) ?_; refine fm (RowC v_4.Grow_A v_4.Grow_c c_u64 tr v_4.Grow) (gm (KProofL.ok v_4) 13 fun _ _ h => h.f_Grow) ?_; refine fm (RowC v_4.Last.Path_A v_4.Last.Path_c c_u64 tr v_4.Last.Path) (gm (KProofL.ok v_4) 14 fun _ _ h => h.b_Last.f_Path) ?_; exact fun a w S hK hE => ⟨false, S, hK.wk, hE.sel [7, 6, 5, 4, 3, 2, 1, 0, 10, 14], Option.some.inj hG⟩
       ·refine rg ?_; refine rn 3 [] f0 [(68, B (v_6 == 0))] ?_; refine sb 68 (bt h_24) ?_; refine rn 4 [] f0 [(72, B (v_9 == 0))] ?_; refine sb 72 (bt h_25) ?_; refine rn 4 [] f0 [(76, B (v_12 == 0))] ?_; refine sb 76 (bt h_26) ?_; refine rn 4 [] f0 [(80, B (v_16 == 0))] ?_; refine sb 80 (bt h_27) ?_; refine rn 4 [] f0 [(84, B (v_19 == 0))] ?_; refine sb 84 (bt h_28) ?_; refine rn 4 [] f0 [(88, B (v_22 == 1))] ?_; refine sb 88 (bf h_29) ?_; refine ra [] f0 [(20, B false)] ?_; refine tN ?_; refine fm (RowC v_14.First.Path_A v_14.First.Path_c c_u64 tr v_14.First.Path) (gm (KProofL.ok v_14) 3 fun _ _ h => h.b_First.f_Path) ?_; refine fm (RowC v_14.Hops_A v_14.Hops_c KHopL.cells KHopL.ok v_14.Hops) (gm (KProofL.ok v_14) 4 fun _ _ h => h.f_Hops) ?_; refine fm (RowC v_14.Grow_A v_14.Grow_c c_u64 tr v_14.Grow) (gm (KProofL.ok v_14) 5 fun _ _ h => h.f_Grow) ?_; refine fm (RowC v_14.Last.Path_A v_14.Last.Path_c c_u64 tr v_14.Last.Path) (gm (KProofL.ok v_14) 6 fun _ _ h => h.b_Last.f_Path) ?_; refine fm (RowC v_4.First.Path_A v_4.First.Path_c c_u64 tr v_4.First.Path) (gm (KProofL.ok v_4) 11 fun _ _ h => h.b_First.f_Path) ?_; refine fm (RowC v_4.Hops_A v_4.Hops_c KHopL.cells KHopL.ok v_4.Hops) (gm (KProofL.ok v_4) 12 fun _ _ h => h.f_Hops) ?_; refine fm (RowC v_4.Grow_A v_4.Grow_c c_u64 tr v_4.Grow) (gm (KProofL.ok v_4) 13 fun _ _ h => h.f_Grow) ?_; refine fm (RowC v_4.Last.Path_A v_4.Last.Path_c c_u64 tr v_4.Last.Path) (gm (KProofL.ok v_4) 14 fun _ _ h => h.b_Last.f_Path) ?_; exact fun a w S hK hE => ⟨false, S, hK.wk, hE.sel [7, 6, 5, 4, 3, 2, 1, 0, 10, 14], Option.some.inj hG⟩
      ·refine rg ?_; refine rn 3 [] f0 [(68, B (v_6 == 0))] ?_; refine sb 68 (bt h_24) ?_; refine rn 4 [] f0 [(72, B (v_9 == 0))] ?_; refine sb 72 (bt h_25) ?_; refine rn 4 [] f0 [(76, B (v_12 == 0))] ?_; refine sb 76 (bt h_26) ?_; refine rn 4 [] f0 [(80, B (v_16 == 0))] ?_; refine sb 80 (bt h_27) ?_; refine rn 4 [] f0 [(84, B (v_19 == 0))] ?_; refine sb 84 (bf h_28) ?_; refine ra [] f0 [(20, B false)] ?_; refine tN ?_; refine fm (RowC v_14.First.Path_A v_14.First.Path_c c_u64 tr v_14.First.Path) (gm (KProofL.ok v_14) 3 fun _ _ h => h.b_First.f_Path) ?_; refine fm (RowC v_14.Hops_A v_14.Hops_c KHopL.cells KHopL.ok v_14.Hops) (gm (KProofL.ok v_14) 4 fun _ _ h => h.f_Hops) ?_; refine fm (RowC v_14.Grow_A v_14.Grow_c c_u64 tr v_14.Grow) (gm (KProofL.ok v_14) 5 fun _ _ h => h.f_Grow) ?_; refine fm (RowC v_14.Last.Path_A v_14.Last.Path_c c_u64 tr v_14.Last.Path) (gm (KProofL.ok v_14) 6 fun _ _ h => h.b_Last.f_Path) ?_; refine fm (RowC v_4.First.Path_A v_4.First.Path_c c_u64 tr v_4.First.Path) (gm (KProofL.ok v_4) 11 fun _ _ h => h.b_First.f_Path) ?_; refine fm (RowC v_4.Hops_A v_4.Hops_c KHopL.cells KHopL.ok v_4.Hops) (gm (KProofL.ok v_4) 12 fun _ _ h => h.f_Hops) ?_; refine fm (RowC v_4.Grow_A v_4.Grow_c c_u64 tr v_4.Grow) (gm (KProofL.ok v_4) 13 fun _ _ h => h.f_Grow) ?_; refine fm (RowC v_4.Last.Path_A v_4.Last.Path_c c_u64 tr v_4.Last.Path) (gm (KProofL.ok v_4) 14 fun _ _ h => h.b_Last.f_Path) ?_; exact fun a w S hK hE => ⟨false, S, hK.wk, hE.sel [7, 6, 5, 4, 3, 2, 1, 0, 10, 14], Option.some.inj hG⟩
     ·refine rg ?_; refine rn 3 [] f0 [(68, B (v_6 == 0))] ?_; refine sb 68 (bt h_24) ?_; refine rn 4 [] f0 [(72, B (v_9 == 0))] ?_; refine sb 72 (bt h_25) ?_; refine rn 4 [] f0 [(76, B (v_12 == 0))] ?_; refine sb 76 (bt h_26) ?_; refine rn 4 [] f0 [(80, B (v_16 == 0))] ?_; refine sb 80 (bf h_27) ?_; refine ra [] f0 [(20, B false)] ?_; refine tN ?_; refine fm (RowC v_14.First.Path_A v_14.First.Path_c c_u64 tr v_14.First.Path) (gm (KProofL.ok v_14) 3 fun _ _ h => h.b_First.f_Path) ?_; refine fm (RowC v_14.Hops_A v_14.Hops_c KHopL.cells KHopL.ok v_14.Hops) (gm (KProofL.ok v_14) 4 fun _ _ h => h.f_Hops) ?_; refine fm (RowC v_14.Grow_A v_14.Grow_c c_u64 tr v_14.Grow) (gm (KProofL.ok v_14) 5 fun _ _ h => h.f_Grow) ?_; refine fm (RowC v_14.Last.Path_A v_14.Last.Path_c c_u64 tr v_14.Last.Path) (gm (KProofL.ok v_14) 6 fun _ _ h => h.b_Last.f_Path) ?_; refine fm (RowC v_4.First.Path_A v_4.First.Path_c c_u64 tr v_4.First.Path) (gm (KProofL.ok v_4) 11 fun _ _ h => h.b_First.f_Path) ?_; refine fm (RowC v_4.Hops_A v_4.Hops_c KHopL.cells KHopL.ok v_4.Hops) (gm (KProofL.ok v_4) 12 fun _ _ h => h.f_Hops) ?_; refine fm (RowC v_4.Grow_A v_4.Grow_c c_u64 tr v_4.Grow) (gm (KProofL.ok v_4) 13 fun _ _ h => h.f_Grow) ?_; refine fm (RowC v_4.Last.Path_A v_4.Last.Path_c c_u64 tr v_4.Last.Path) (gm (KProofL.ok v_4) 14 fun _ _ h => h.b_Last.f_Path) ?_; exact fun a w S hK hE => ⟨false, S, hK.wk, hE.sel [7, 6, 5, 4, 3, 2, 1, 0, 10, 14], Option.some.inj hG⟩
    ·refine rg ?_; refine rn 3 [] f0 [(68, B (v_6 == 0))] ?_; refine sb 68 (bt h_24) ?_; refine rn 4 [] f0 [(72, B (v_9 == 0))] ?_; refine sb 72 (bt h_25) ?_; refine rn 4 [] f0 [(76, B (v_12 == 0))] ?_; refine sb 76 (bf h_26) ?_; refine ra [] f0 [(20, B false)] ?_; refine tN ?_; refine fm (RowC v_14.First.Path_A v_14.First.Path_c c_u64 tr v_14.First.Path) (gm (KProofL.ok v_14) 3 fun _ _ h => h.b_First.f_Path) ?_; refine fm (RowC v_14.Hops_A v_14.Hops_c KHopL.cells KHopL.ok v_14.Hops) (gm (KProofL.ok v_14) 4 fun _ _ h => h.f_Hops) ?_; refine fm (RowC v_14.Grow_A v_14.Grow_c c_u64 tr v_14.Grow) (gm (KProofL.ok v_14) 5 fun _ _ h => h.f_Grow) ?_; refine fm (RowC v_14.Last.Path_A v_14.Last.Path_c c_u64 tr v_14.Last.Path) (gm (KProofL.ok v_14) 6 fun _ _ h => h.b_Last.f_Path) ?_; refine fm (RowC v_4.First.Path_A v_4.First.Path_c c_u64 tr v_4.First.Path) (gm (KProofL.ok v_4) 11 fun _ _ h => h.b_First.f_Path) ?_; refine fm (RowC v_4.Hops_A v_4.Hops_c KHopL.cells KHopL.ok v_4.Hops) (gm (KProofL.ok v_4) 12 fun _ _ h => h.f_Hops) ?_; refine fm (RowC v_4.Grow_A v_4.Grow_c c_u64 tr v_4.Grow) (gm (KProofL.ok v_4) 13 fun _ _ h => h.f_Grow) ?_; refine fm (RowC v_4.Last.Path_A v_4.Last.Path_c c_u64 tr v_4.Last.Path) (gm (KProofL.ok v_4) 14 fun _ _ h => h.b_Last.f_Path) ?_; exact fun a w S hK hE => ⟨false, S, hK.wk, hE.sel [7, 6, 5, 4, 3, 2, 1, 0, 10, 14], Option.some.inj hG⟩
   ·refine rg ?_; refine rn 3 [] f0 [(68, B (v_6 == 0))] ?_; refine sb 68 (bt h_24) ?_; refine rn 4 [] f0 [(72, B (v_9 == 0))] ?_; refine sb 72 (bf h_25) ?_; refine ra [] f0 [(20, B false)] ?_; refine tN ?_; refine fm (RowC v_14.First.Path_A v_14.First.Path_c c_u64 tr v_14.First.Path) (gm (KProofL.ok v_14) 3 fun _ _ h => h.b_First.f_Path) ?_; refine fm (RowC v_14.Hops_A v_14.Hops_c KHopL.cells KHopL.ok v_14.Hops) (gm (KProofL.ok v_14) 4 fun _ _ h => h.f_Hops) ?_; refine fm (RowC v_14.Grow_A v_14.Grow_c c_u64 tr v_14.Grow) (gm (KProofL.ok v_14) 5 fun _ _ h => h.f_Grow) ?_; refine fm (RowC v_14.Last.Path_A v_14.Last.Path_c c_u64 tr v_14.Last.Path) (gm (KProofL.ok v_14) 6 fun _ _ h => h.b_Last.f_Path) ?_; refine fm (RowC v_4.First.Path_A v_4.First.Path_c c_u64 tr v_4.First.Path) (gm (KProofL.ok v_4) 11 fun _ _ h => h.b_First.f_Path) ?_; refine fm (RowC v_4.Hops_A v_4.Hops_c KHopL.cells KHopL.ok v_4.Hops) (gm (KProofL.ok v_4) 12 fun _ _ h => h.f_Hops) ?_; refine fm (RowC v_4.Grow_A v_4.Grow_c c_u64 tr v_4.Grow) (gm (KProofL.ok v_4) 13 fun _ _ h => h.f_Grow) ?_; refine fm (RowC v_4.Last.Path_A v_4.Last.Path_c c_u64 tr v_4.Last.Path) (gm (KProofL.ok v_4) 14 fun _ _ h => h.b_Last.f_Path) ?_; exact fun a w S hK hE => ⟨false, S, hK.wk, hE.sel [7, 6, 5, 4, 3, 2, 1, 0, 10, 14], Option.some.inj hG⟩
  ·refine rg ?_; refine rn 3 [] f0 [(68, B (v_6 == 0))] ?_; refine sb 68 (bf h_24) ?_; refine ra [] f0 [(20, B false)] ?_; refine tN ?_; refine fm (RowC v_14.First.Path_A v_14.First.Path_c c_u64 tr v_14.First.Path) (gm (KProofL.ok v_14) 3 fun _ _ h => h.b_First.f_Path) ?_; refine fm (RowC v_14.Hops_A v_14.Hops_c KHopL.cells KHopL.ok v_14.Hops) (gm (KProofL.ok v_14) 4 fun _ _ h => h.f_Hops) ?_; refine fm (RowC v_14.Grow_A v_14.Grow_c c_u64 tr v_14.Grow) (gm (KProofL.ok v_14) 5 fun _ _ h => h.f_Grow) ?_; refine fm (RowC v_14.Last.Path_A v_14.Last.Path_c c_u64 tr v_14.Last.Path) (gm (KProofL.ok v_14) 6 fun _ _ h => h.b_Last.f_Path) ?_; refine fm (RowC v_4.First.Path_A v_4.First.Path_c c_u64 tr v_4.First.Path) (gm (KProofL.ok v_4) 11 fun _ _ h => h.b_First.f_Path) ?_; refine fm (RowC v_4.Hops_A v_4.Hops_c KHopL.cells KHopL.ok v_4.Hops) (gm (KProofL.ok v_4) 12 fun _ _ h => h.f_Hops) ?_; refine fm (RowC v_4.Grow_A v_4.Grow_c c_u64 tr v_4.Grow) (gm (KProofL.ok v_4) 13 fun _ _ h => h.f_Grow) ?_; refine fm (RowC v_4.Last.Path_A v_4.Last.Path_c c_u64 tr v_4.Last.Path) (gm (KProofL.ok v_4) 14 fun _ _ h => h.b_Last.f_Path) ?_; exact fun a w S hK hE => ⟨false, S, hK.wk, hE.sel [7, 6, 5, 4, 3, 2, 1, 0, 10, 14], Option.some.inj hG⟩
 ·rintro a w ⟨v_35, hJ⟩; refine hJ.go fun ho_ => ?_
  clear hJ; subst ho_; replace hG := hG_34
  try (simp only [un2, un3, un4, un5, un6, un7, un8, Sum.elim_inl, Sum.elim_inr, List.length_map, KProofL.n_Hops] at hG; replace hG : _ = _ := hG)
  obtain ⟨o_44, hG, hG_44⟩ := bind_some hG; refine jn (fun K E a w => ∃ (v_45 : Bool), Js S0 w0 137 ([(0, B v_45)] ++ K) (se E []) (v_45 = o_44) a w) ?_ ?_
  ·replace hG := ifB_cases hG; rcases hG with ⟨h_36, hG⟩ | ⟨h_36, hG⟩
   ·replace hG := ifB_cases hG; rcases hG with ⟨h_37, hG⟩ | ⟨h_37, hG⟩
    ·replace hG := ifB_cases hG; rcases hG with ⟨h_38, hG⟩ | ⟨h_38, hG⟩
     ·replace hG := ifB_cases hG; rcases hG with ⟨h_39, hG⟩ | ⟨h_39, hG⟩
      ·replace hG := bind_some hG; obtain ⟨v_40o, hy_40, hG⟩ := hG; replace hG := bind_some hG; obtain ⟨v_42, hy_42, hG⟩ := hG; replace hG := ifB_cases hG; rcases hG with ⟨h_43, hG⟩ | ⟨h_43, hG⟩
       ·refine rg ?_; refine rn 2 [] f0 [(105, B v_35)] ?_; refine sb 105 (bt h_36) ?_; refine rn 6 [(1, 1, 9, 10)] f0 [(111, B (((v_4.Hops.length : Nat) : Int) == 1))] ?_
        try simp only [List.length_map, KProofL.n_Hops] at h_37
        refine sb 111 (bt h_37) ?_; refine rn 7 [(3, 1, 9, 6)] f0 [(118, B (v_4.First.Entry.Doc == 77))] ?_; refine sb 118 (bt h_38) ?_; refine rn 7 [(3, 1, 9, 18)] f0 [(125, B (v_4.Last.Entry.Doc == 88))] ?_; refine sb 125 (bt h_39) ?_; refine rn 1 [(0, 22, 9, 0)] f0 [(126, .agg #[I v_4.First.Head.Office, I v_4.First.Head.Size, U v_4.First.Head.Root, I v_4.First.Head.Sig.C, I v_4.First.Head.Sig.S, I v_4.First.Index, U v_4.First.Entry.Doc, I v_4.First.Entry.Stamp.Lo, I v_4.First.Entry.Stamp.Hi, .slice v_4.First.Path_A v_4.First.Path.length v_4.First.Path_c, .slice v_4.Hops_A v_4.Hops.length v_4.Hops_c, .slice v_4.Grow_A v_4.Grow.length v_4.Grow_c, I v_4.Last.Head.Office, I v_4.Last.Head.Size, U v_4.Last.Head.Root, I v_4.Last.Head.Sig.C, I v_4.Last.Head.Sig.S, I v_4.Last.Index, U v_4.Last.Entry.Doc, I v_4.Last.Entry.Stamp.Lo, I v_4.Last.Entry.Stamp.Hi, .slice v_4.Last.Path_A v_4.Last.Path.length v_4.Last.Path_c])] ?_; refine l1 ?_; refine cn 127 (z_order_Offices F v_4 _ hy_40) hT (fun _ => (mr tr_mv m0)) ⟨((Fd.two ((gd' (RowC v_4.First.Path_A v_4.First.Path_c c_u64 tr v_4.First.Path) 4)) (Fd.two ((gd' (RowC v_4.Hops_A v_4.Hops_c KHopL.cells KHopL.ok v_4.Hops) 5)) (Fd.two ((gd' (RowC v_4.Grow_A v_4.Grow_c c_u64 tr v_4.Grow) 6)) ((gd' (RowC v_4.Last.Path_A v_4.Last.Path_c c_u64 tr v_4.Last.Path) 7))))).m fun _ _ h => ⟨⟨h.1⟩, h.2.1, h.2.2.1, ⟨h.2.2.2⟩⟩), trivial⟩ ?_; rintro ⟨v_40_A, v_40_c, v_40⟩ hq_40; obtain rfl : v_40 = v_40o := hq_40.symm
        try (simp only [un2, un3, un4, un5, un6, un7, un8, Sum.elim_inl, Sum.elim_inr, List.length_map, KProofL.n_Hops] at hG; replace hG : _ = _ := hG)
        refine l1 ?_; refine nw 128 (vs 2) [I 1, I 2] 3 fun g_41 => ?_
        refine l1 ?_; refine cl 129 (z_regulatorref27_SameInts F v_40_A v_40_c v_40 (some ⟨g_41, 0, none⟩) 2 ([1, 2] : List Int) _ hy_42) hT ⟨ga 1, ba 0 et.a, trivial⟩ ?_; refine rn 2 [] f0 [(131, B v_42)] ?_; refine sb 131 (bt h_43) ?_; refine ra [(1, 1, 10, 10)] f0 [(0, B (((v_14.Hops.length : Nat) : Int) == 0))] ?_; refine tN ?_; exact fun a w S hK hE => ⟨(((v_14.Hops.length : Nat) : Int) == 0), S, hK.wk, hE.sel [], Option.some.inj hG⟩
       ·refine rg ?_; refine rn 2 [] f0 [(105, B v_35)] ?_; refine sb 105 (bt h_36) ?_; refine rn 6 [(1, 1, 9, 10)] f0 [(111, B (((v_4.Hops.length : Nat) : Int) == 1))] ?_
        try simp only [List.length_map, KProofL.n_Hops] at h_37
        refine sb 111 (bt h_37) ?_; refine rn 7 [(3, 1, 9, 6)] f0 [(118, B (v_4.First.Entry.Doc == 77))] ?_; refine sb 118 (bt h_38) ?_; refine rn 7 [(3, 1, 9, 18)] f0 [(125, B (v_4.Last.Entry.Doc == 88))] ?_; refine sb 125 (bt h_39) ?_; refine rn 1 [(0, 22, 9, 0)] f0 [(126, .agg #[I v_4.First.Head.Office, I v_4.First.Head.Size, U v_4.First.Head.Root, I v_4.First.Head.Sig.C, I v_4.First.Head.Sig.S, I v_4.First.Index, U v_4.First.Entry.Doc, I v_4.First.Entry.Stamp.Lo, I v_4.First.Entry.Stamp.Hi, .slice v_4.First.Path_A v_4.First.Path.length v_4.First.Path_c, .slice v_4.Hops_A v_4.Hops.length v_4.Hops_c, .slice v_4.Grow_A v_4.Grow.length v_4.Grow_c, I v_4.Last.Head.Office, I v_4.Last.Head.Size, U v_4.Last.Head.Root, I v_4.Last.Head.Sig.C, I v_4.Last.Head.Sig.S, I v_4.Last.Index, U v_4.Last.Entry.Doc, I v_4.Last.Entry.Stamp.Lo, I v_4.Last.Entry.Stamp.Hi, .slice v_4.Last.Path_A v_4.Last.Path.length v_4.Last.Path_c])] ?_; refine l1 ?_; refine cn 127 (z_order_Offices F v_4 _ hy_40) hT (fun _ => (mr tr_mv m0)) ⟨((Fd.two ((gd' (RowC v_4.First.Path_A v_4.First.Path_c c_u64 tr v_4.First.Path) 4)) (Fd.two ((gd' (RowC v_4.Hops_A v_4.Hops_c KHopL.cells KHopL.ok v_4.Hops) 5)) (Fd.two ((gd' (RowC v_4.Grow_A v_4.Grow_c c_u64 tr v_4.Grow) 6)) ((gd' (RowC v_4.Last.Path_A v_4.Last.Path_c c_u64 tr v_4.Last.Path) 7))))).m fun _ _ h => ⟨⟨h.1⟩, h.2.1, h.2.2.1, ⟨h.2.2.2⟩⟩), trivial⟩ ?_; rintro ⟨v_40_A, v_40_c, v_40⟩ hq_40; obtain rfl : v_40 = v_40o := hq_40.symm
        try (simp only [un2, un3, un4, un5, un6, un7, un8, Sum.elim_inl, Sum.elim_inr, List.length_map, KProofL.n_Hops] at hG; replace hG : _ = _ := hG)
        refine l1 ?_; refine nw 128 (vs 2) [I 1, I 2] 3 fun g_41 => ?_
        refine l1 ?_; refine cl 129 (z_regulatorref27_SameInts F v_40_A v_40_c v_40 (some ⟨g_41, 0, none⟩) 2 ([1, 2] : List Int) _ hy_42) hT ⟨ga 1, ba 0 et.a, trivial⟩ ?_; refine rn 2 [] f0 [(131, B v_42)] ?_; refine sb 131 (bf h_43) ?_; refine ra [] f0 [(0, B false)] ?_; refine tN ?_; exact fun a w S hK hE => ⟨false, S, hK.wk, hE.sel [], Option.some.inj hG⟩
      ·refine rg ?_; refine rn 2 [] f0 [(105, B v_35)] ?_; refine sb 105 (bt h_36) ?_; refine rn 6 [(1, 1, 9, 10)] f0 [(111, B (((v_4.Hops.length : Nat) : Int) == 1))] ?_
       try simp only [List.length_map, KProofL.n_Hops] at h_37
       refine sb 111 (bt h_37) ?_; refine rn 7 [(3, 1, 9, 6)] f0 [(118, B (v_4.First.Entry.Doc == 77))] ?_; refine sb 118 (bt h_38) ?_; refine rn 7 [(3, 1, 9, 18)] f0 [(125, B (v_4.Last.Entry.Doc == 88))] ?_; refine sb 125 (bf h_39) ?_; refine ra [] f0 [(0, B false)] ?_; refine tN ?_; exact fun a w S hK hE => ⟨false, S, hK.wk, hE.sel [], Option.some.inj hG⟩
     ·refine rg ?_; refine rn 2 [] f0 [(105, B v_35)] ?_; refine sb 105 (bt h_36) ?_; refine rn 6 [(1, 1, 9, 10)] f0 [(111, B (((v_4.Hops.length : Nat) : Int) == 1))] ?_
      try simp only [List.length_map, KProofL.n_Hops] at h_37
      refine sb 111 (bt h_37) ?_; refine rn 7 [(3, 1, 9, 6)] f0 [(118, B (v_4.First.Entry.Doc == 77))] ?_; refine sb 118 (bf h_38) ?_; refine ra [] f0 [(0, B false)] ?_; refine tN ?_; exact fun a w S hK hE => ⟨false, S, hK.wk, hE.sel [], Option.some.inj hG⟩
    ·refine rg ?_; refine rn 2 [] f0 [(105, B v_35)] ?_; refine sb 105 (bt h_36) ?_; refine rn 6 [(1, 1, 9, 10)] f0 [(111, B (((v_4.Hops.length : Nat) : Int) == 1))] ?_
     try simp only [List.length_map, KProofL.n_Hops] at h_37
     refine sb 111 (bf h_37) ?_; refine ra [] f0 [(0, B false)] ?_; refine tN ?_; exact fun a w S hK hE => ⟨false, S, hK.wk, hE.sel [], Option.some.inj hG⟩
   ·refine rg ?_; refine rn 2 [] f0 [(105, B v_35)] ?_; refine sb 105 (bf h_36) ?_; refine ra [] f0 [(0, B false)] ?_; refine tN ?_; exact fun a w S hK hE => ⟨false, S, hK.wk, hE.sel [], Option.some.inj hG⟩
  ·rintro a w ⟨v_45, hJ⟩; refine hJ.go fun ho_ => ?_
   clear hJ; subst ho_; replace hG := hG_44
   try (simp only [un2, un3, un4, un5, un6, un7, un8, Sum.elim_inl, Sum.elim_inr, List.length_map, KProofL.n_Hops] at hG; replace hG : _ = _ := hG)
   refine kR ?_; obtain rfl := Option.some.inj hG; exact rt []
end Go.Proofs.YtggaodokkcoagaaGreatDoor
namespace Go.Proofs.YtggaodokkcoagaaGreatDoor
open Go.RowKit Go.Maps
def G_regulatorlaw27_OrderLog (F : Nat) (p_0 : KOffice) (p_1 : Int) (p_2 : Int) (p_3 : Int) (p_4 : Int) : Option (Bool) :=
  Option.bind (G_regulatorlaw27_head F ) (fun v_2 =>
  Option.bind (Option.bind (G_regulatorref25_Few F p_0) (fun v_3 =>
    ifB (v_3)
      (Option.bind (G_regulatorref25_Valid F p_0) (fun v_5 =>
      ifB (v_5)
        (some (p_3, (((p_0.Entries.length : Nat) : Int) == 0), p_4))
        (some (p_3, true, p_4))))
      (some (p_3, true, p_4))) : Option ((Int × Bool × Int))) (un3 fun (v_8 : Int) (v_9 : Bool) (v_10 : Int) => 
    ifB (v_9)
      (some v_2)
      (Option.bind (whenG (!(((p_0.Entries.length : Nat) : Int) == 0)) ()) (fun v_12 =>
      Option.bind (whenG (!((IntKind.i64.wrap (1 + (Int.tmod (IntKind.i64.wrap p_1) ((p_0.Entries.length : Nat) : Int)))) == 0)) ()) (fun v_13 =>
      Option.bind (whenG (!((IntKind.i64.wrap (1 + (Int.tmod (IntKind.i64.wrap p_1) ((p_0.Entries.length : Nat) : Int)))) == 0)) ()) (fun v_14 =>
      Option.bind (Option.bind (G_regulatorref06_Secret F v_10) (fun v_15 =>
        Option.bind (G_regulatorref06_Secret F (IntKind.u64.wrap (v_10 + 1))) (fun v_16 =>
        Option.bind (G_office_Sign F p_0 (IntKind.i64.wrap (1 + (Int.tmod (IntKind.i64.wrap p_1) ((p_0.Entries.length : Nat) : Int)))) v_15 v_16) (un2 fun v_17 v_18 =>
        some (v_17.Office, v_17.Size, v_17.Root, v_17.Sig.C, v_17.Sig.S, v_18)))) : Option ((Int × Int × Int × Int × Int × Int))) (un6 fun (v_22 : Int) (v_23 : Int) (v_24 : Int) (v_25 : Int) (v_26 : Int) (v_27 : Int) => 
        Option.bind (G_order_Find F ([p_0] : List KOffice) ([(⟨v_22, v_23, v_24, (⟨v_25, v_26⟩ : KSig)⟩ : KHead)] : List KHead) p_0.ID (Int.tmod (IntKind.i64.wrap p_2) (IntKind.i64.wrap (1 + (Int.tmod (IntKind.i64.wrap p_1) ((p_0.Entries.length : Nat) : Int))))) p_0.ID (Int.tmod (IntKind.i64.wrap v_8) (IntKind.i64.wrap (1 + (Int.tmod (IntKind.i64.wrap p_1) ((p_0.Entries.length : Nat) : Int)))))) (un3 fun v_30 v_31 v_32 =>
        Option.bind (ifB (v_2)
            (ifB ((v_27 == 0))
              (ifB ((v_32 == 0))
                (ifB ((v_31 == decide ((Int.tmod (IntKind.i64.wrap p_2) (IntKind.i64.wrap (1 + (Int.tmod (IntKind.i64.wrap p_1) ((p_0.Entries.length : Nat) : Int))))) < (Int.tmod (IntKind.i64.wrap v_8) (IntKind.i64.wrap (1 + (Int.tmod (IntKind.i64.wrap p_1) ((p_0.Entries.length : Nat) : Int))))))))
                  (ifB ((((v_30.Hops.length : Nat) : Int) == 0))
                    (ifB (v_31)
                      (ifB ((v_30.First.Index == (Int.tmod (IntKind.i64.wrap p_2) (IntKind.i64.wrap (1 + (Int.tmod (IntKind.i64.wrap p_1) ((p_0.Entries.length : Nat) : Int)))))))
                        (some (v_30.Last.Index == (Int.tmod (IntKind.i64.wrap v_8) (IntKind.i64.wrap (1 + (Int.tmod (IntKind.i64.wrap p_1) ((p_0.Entries.length : Nat) : Int)))))))
                        (some false))
                      (some true))
                    (some false))
                  (some false))
                (some false))
              (some false))
            (some false) : Option (Bool)) (fun (v_42 : Bool) => 
          some v_42)))))))))
set_option maxRecDepth 100000 in
set_option maxHeartbeats 16000000 in
theorem z_regulatorlaw27_OrderLog (F : Nat) (p_0 : KOfficeL) (p_1 : Int) (p_2 : Int) (p_3 : Int) (p_4 : Int) (r : Bool) (hG : G_regulatorlaw27_OrderLog F p_0.p p_1 p_2 p_3 p_4 = some r) :
  Cf Tryz.prog 4 [.agg #[I p_0.ID, .slice p_0.Entries_A p_0.Entries.length p_0.Entries_c], Y p_1, Y p_2, Y p_3, U p_4] [KOfficeL.ok p_0] (B r) := by
 unfold G_regulatorlaw27_OrderLog at hG
 try (simp only [un2, un3, un4, un5, un6, un7, un8, Sum.elim_inl, Sum.elim_inr, List.length_map, KProofL.n_Hops] at hG; replace hG : _ = _ := hG)
 refine fi Tryz.func4 rfl rfl (mc KOfficeL.mv m0) fun S0 w0 hT => ?_
 refine sq ?_; refine rg ?_; refine l1 ?_; refine nw 5 vp [I p_0.ID, .slice p_0.Entries_A p_0.Entries.length p_0.Entries_c] 53 fun g_1 => ?_
 refine ra [] f0 [] ?_; refine tN ?_; refine sq ?_; replace hG := bind_some hG; obtain ⟨v_2, hy_2, hG⟩ := hG; refine rg ?_; refine l1 ?_; refine cl 20 (z_regulatorlaw27_head F  _ hy_2) hT trivial ?_; refine ra [] f0 [(11, B v_2)] ?_; refine tN ?_; refine sq ?_; obtain ⟨o_7, hG, hG_7⟩ := bind_some hG; refine jn (fun K E a w => ∃ (v_8 : Int), ∃ (v_9 : Bool), ∃ (v_10 : Int), Js S0 w0 117 ([(3, Y v_8), (4, U v_10), (34, B v_9)] ++ K) ([.dat (RowC p_0.Entries_A p_0.Entries_c KEntry.cells tr p_0.Entries)] ++ se E [0]) ((v_8, v_9, v_10) = o_7) a w) ?_ ?_
 ·replace hG := bind_some hG; obtain ⟨v_3, hy_3, hG⟩ := hG; replace hG := ifB_cases hG; rcases hG with ⟨h_4, hG⟩ | ⟨h_4, hG⟩
  ·replace hG := bind_some hG; obtain ⟨v_5, hy_5, hG⟩ := hG; replace hG := ifB_cases hG; rcases hG with ⟨h_6, hG⟩ | ⟨h_6, hG⟩
   ·refine rg ?_; refine rn 1 [(0, 2, 0, 0)] f0 [(21, .agg #[I p_0.ID, .slice p_0.Entries_A p_0.Entries.length p_0.Entries_c])] ?_; refine l1 ?_; refine cl 22 (z_regulatorref25_Few F p_0 _ hy_3) hT ⟨(gi 1).a, trivial⟩ ?_; refine rn 2 [] f0 [(24, B (!v_3))] ?_; refine sb 24 (nt h_4) ?_; refine rn 1 [(0, 2, 0, 0)] f0 [(25, .agg #[I p_0.ID, .slice p_0.Entries_A p_0.Entries.length p_0.Entries_c])] ?_; refine l1 ?_; refine cl 26 (z_regulatorref25_Valid F p_0 _ hy_5) hT ⟨(gi 1).a, trivial⟩ ?_; refine rn 3 [] f0 [(29, B (!v_5))] ?_; refine sb 29 (nt h_6) ?_; refine ra [(1, 1, 0, 1)] f0 [(34, B (((p_0.Entries.length : Nat) : Int) == 0))] ?_; refine tN ?_; refine fm (RowC p_0.Entries_A p_0.Entries_c KEntry.cells tr p_0.Entries) (gm (KOfficeL.ok p_0) 1 fun _ _ h => h.f_Entries) ?_; exact fun a w S hK hE => ⟨p_3, (((p_0.Entries.length : Nat) : Int) == 0), p_4, S, hK.wk, hE.sel [0, 1], Option.some.inj hG⟩
   ·refine rg ?_; refine rn 1 [(0, 2, 0, 0)] f0 [(21, .agg #[I p_0.ID, .slice p_0.Entries_A p_0.Entries.length p_0.Entries_c])] ?_; refine l1 ?_; refine cl 22 (z_regulatorref25_Few F p_0 _ hy_3) hT ⟨(gi 1).a, trivial⟩ ?_; refine rn 2 [] f0 [(24, B (!v_3))] ?_; refine sb 24 (nt h_4) ?_; refine rn 1 [(0, 2, 0, 0)] f0 [(25, .agg #[I p_0.ID, .slice p_0.Entries_A p_0.Entries.length p_0.Entries_c])] ?_; refine l1 ?_; refine cl 26 (z_regulatorref25_Valid F p_0 _ hy_5) hT ⟨(gi 1).a, trivial⟩ ?_; refine rn 3 [] f0 [(29, B (!v_5))] ?_; refine sb 29 (nf h_6) ?_; refine ra [] f0 [(34, B true)] ?_; refine tN ?_; refine fm (RowC p_0.Entries_A p_0.Entries_c KEntry.cells tr p_0.Entries) (gm (KOfficeL.ok p_0) 1 fun _ _ h => h.f_Entries) ?_; exact fun a w S hK hE => ⟨p_3, true, p_4, S, hK.wk, hE.sel [0, 1], Option.some.inj hG⟩
  ·refine rg ?_; refine rn 1 [(0, 2, 0, 0)] f0 [(21, .agg #[I p_0.ID, .slice p_0.Entries_A p_0.Entries.length p_0.Entries_c])] ?_; refine l1 ?_; refine cl 22 (z_regulatorref25_Few F p_0 _ hy_3) hT ⟨(gi 1).a, trivial⟩ ?_; refine rn 2 [] f0 [(24, B (!v_3))] ?_; refine sb 24 (nf h_4) ?_; refine ra [] f0 [(34, B true)] ?_; refine tN ?_; refine fm (RowC p_0.Entries_A p_0.Entries_c KEntry.cells tr p_0.Entries) (gm (KOfficeL.ok p_0) 1 fun _ _ h => h.f_Entries) ?_; exact fun a w S hK hE => ⟨p_3, true, p_4, S, hK.wk, hE.sel [0, 1], Option.some.inj hG⟩
 ·rintro a w ⟨v_8, v_9, v_10, hJ⟩; refine hJ.go fun ho_ => ?_
  clear hJ; subst ho_; replace hG := hG_7
  try (simp only [un2, un3, un4, un5, un6, un7, un8, Sum.elim_inl, Sum.elim_inr, List.length_map, KProofL.n_Hops] at hG; replace hG : _ = _ := hG)
  rcases ifB_cases hG with ⟨h_11, hG⟩ | ⟨h_11, hG⟩
  ·refine sb 34 (bt h_11) ?_; refine ct ?_; refine sq ?_; refine rg ?_; refine ra [] f0 [(10, B v_2)] ?_; refine tN ?_; refine kR ?_; refine tR ?_; obtain rfl := Option.some.inj hG; exact rt []
  ·refine sb 34 (bf h_11) ?_; refine cf ?_; refine kS ?_; refine tN ?_; refine sq ?_; replace hG := bind_some hG; obtain ⟨v_12, hy_12, hG⟩ := hG; refine rg ?_; refine ra [(3, 1, 1, 1), (1, 0, 0, 0)] (fc (fun W => run_rem (T := 3) (k := .i64) (p := IntKind.i64.wrap p_1) (q := ((p_0.Entries.length : Nat) : Int)) (nz_of (whenG_some hy_12).1) W) f0) [(12, I (IntKind.i64.wrap (1 + (Int.tmod (IntKind.i64.wrap p_1) ((p_0.Entries.length : Nat) : Int)))))] ?_; refine tN ?_; refine sq ?_; replace hG := bind_some hG; obtain ⟨v_13, hy_13, hG⟩ := hG; replace hG := bind_some hG; obtain ⟨v_14, hy_14, hG⟩ := hG; refine qb ?_; refine qa [(3, 0, 0, 0), (3, 0, 0, 0)] (fc (fun W => run_rem (T := 3) (k := .i64) (p := IntKind.i64.wrap p_2) (q := IntKind.i64.wrap (1 + (Int.tmod (IntKind.i64.wrap p_1) ((p_0.Entries.length : Nat) : Int)))) (nz_of (whenG_some hy_13).1) W) (fc (fun W => run_rem (T := 3) (k := .i64) (p := IntKind.i64.wrap v_8) (q := IntKind.i64.wrap (1 + (Int.tmod (IntKind.i64.wrap p_1) ((p_0.Entries.length : Nat) : Int)))) (nz_of (whenG_some hy_14).1) W) f0)) [(13, I (Int.tmod (IntKind.i64.wrap p_2) (IntKind.i64.wrap (1 + (Int.tmod (IntKind.i64.wrap p_1) ((p_0.Entries.length : Nat) : Int)))))), (14, I (Int.tmod (IntKind.i64.wrap v_8) (IntKind.i64.wrap (1 + (Int.tmod (IntKind.i64.wrap p_1) ((p_0.Entries.length : Nat) : Int))))))] ?_; refine tN ?_; obtain ⟨o_20, hG, hG_20⟩ := bind_some hG; refine jn (fun K E a w => ∃ (g_21 : Nat), ∃ (v_22 : Int), ∃ (v_23 : Int), ∃ (v_24 : Int), ∃ (v_25 : Int), ∃ (v_26 : Int), ∃ (v_27 : Int), Js S0 w0 117 ([(15, Pt g_21 0), (16, I v_27)] ++ K) ([.blk g_21 27 [I v_22, I v_23, U v_24, I v_25, I v_26]] ++ se E [0, 1]) ((v_22, v_23, v_24, v_25, v_26, v_27) = o_20) a w) ?_ ?_
   ·replace hG := bind_some hG; obtain ⟨v_15, hy_15, hG⟩ := hG; replace hG := bind_some hG; obtain ⟨v_16, hy_16, hG⟩ := hG; replace hG := bind_some hG; obtain ⟨⟨v_17, v_18⟩, hy_17, hG⟩ := hG; refine hb [0, 1] ?_; refine ht [0, 1] [0, 1, 2, 4, 5] [(0, 2, 1, 0)] f0 [(52, .agg #[I p_0.ID, .slice p_0.Entries_A p_0.Entries.length p_0.Entries_c]), (53, I (IntKind.i64.wrap (1 + (Int.tmod (IntKind.i64.wrap p_1) ((p_0.Entries.length : Nat) : Int))))), (54, U v_10), (57, U (IntKind.u64.wrap (v_10 + 1)))] ?_; refine ho [3, 11] ⟨?_, ?_, trivial⟩
    ·refine h1 ?_; refine cl 55 (z_regulatorref06_Secret F v_10 _ hy_15) hT trivial ?_; refine hk [0, 1] ?_; refine ho [6, 11] ⟨?_, ?_, trivial⟩
     ·refine h1 ?_; refine cl 58 (z_regulatorref06_Secret F (IntKind.u64.wrap (v_10 + 1)) _ hy_16) hT trivial ?_; refine hk [0, 1] ?_; refine ho [7, 11] ⟨?_, ?_, trivial⟩
      ·refine h1 ?_; refine cl 59 (z_office_Sign F p_0 (IntKind.i64.wrap (1 + (Int.tmod (IntKind.i64.wrap p_1) ((p_0.Entries.length : Nat) : Int)))) v_15 v_16 _ hy_17) hT ⟨(((gd' (RowC p_0.Entries_A p_0.Entries_c KEntry.cells tr p_0.Entries) 0)).m fun _ _ h => ⟨h⟩).a, trivial⟩ ?_; refine hk [0, 1] ?_; refine ht [0, 1] [8, 9, 10] [] f0 [(60, .agg #[I v_17.Office, I v_17.Size, U v_17.Root, I v_17.Sig.C, I v_17.Sig.S]), (61, I v_18)] ?_; refine ho [11] ⟨?_, trivial⟩; refine h1 ?_; refine nw 15 vp [I 0, I 0, U 0, I 0, I 0] 27 fun g_19 => ?_
       refine hk [1, 2] ?_; refine ho [12] ⟨?_, trivial⟩; refine h1 ?_; refine sr 0 g_19 [(0, I v_17.Office), (1, I v_17.Size), (2, U v_17.Root), (3, I v_17.Sig.C), (4, I v_17.Sig.S)] ?_; refine hk [1, 2] ?_; refine ht [1, 2] [13] [] f0 [(16, I v_18)] ?_; refine he ?_; refine tN ?_; exact fun a w S hK hE => ⟨g_19, v_17.Office, v_17.Size, v_17.Root, v_17.Sig.C, v_17.Sig.S, v_18, S, hK.wk, hE.sel [0, 1, 2], Option.some.inj hG⟩
      ·refine h1 ?_; refine nw 15 vp [I 0, I 0, U 0, I 0, I 0] 27 fun g_19 => ?_
       refine hk [1, 2] ?_; refine ho [7] ⟨?_, trivial⟩; refine h1 ?_; refine cl 59 (z_office_Sign F p_0 (IntKind.i64.wrap (1 + (Int.tmod (IntKind.i64.wrap p_1) ((p_0.Entries.length : Nat) : Int)))) v_15 v_16 _ hy_17) hT ⟨(((gd' (RowC p_0.Entries_A p_0.Entries_c KEntry.cells tr p_0.Entries) 1)).m fun _ _ h => ⟨h⟩).a, trivial⟩ ?_; refine hk [1, 2] ?_; refine ht [1, 2] [8, 9, 10] [] f0 [(60, .agg #[I v_17.Office, I v_17.Size, U v_17.Root, I v_17.Sig.C, I v_17.Sig.S]), (61, I v_18)] ?_; refine ho [12] ⟨?_, trivial⟩; refine h1 ?_; refine sr 0 g_19 [(0, I v_17.Office), (1, I v_17.Size), (2, U v_17.Root), (3, I v_17.Sig.C), (4, I v_17.Sig.S)] ?_; refine hk [1, 2] ?_; refine ht [1, 2] [13] [] f0 [(16, I v_18)] ?_; refine he ?_; refine tN ?_; exact fun a w S hK hE => ⟨g_19, v_17.Office, v_17.Size, v_17.Root, v_17.Sig.C, v_17.Sig.S, v_18, S, hK.wk, hE.sel [0, 1, 2], Option.some.inj hG⟩
     ·refine h1 ?_; refine nw 15 vp [I 0, I 0, U 0, I 0, I 0] 27 fun g_19 => ?_
      refine hk [1, 2] ?_; refine ho [6] ⟨?_, trivial⟩; refine h1 ?_; refine cl 58 (z_regulatorref06_Secret F (IntKind.u64.wrap (v_10 + 1)) _ hy_16) hT trivial ?_; refine hk [1, 2] ?_; refine ho [7] ⟨?_, trivial⟩; refine h1 ?_; refine cl 59 (z_office_Sign F p_0 (IntKind.i64.wrap (1 + (Int.tmod (IntKind.i64.wrap p_1) ((p_0.Entries.length : Nat) : Int)))) v_15 v_16 _ hy_17) hT ⟨(((gd' (RowC p_0.Entries_A p_0.Entries_c KEntry.cells tr p_0.Entries) 1)).m fun _ _ h => ⟨h⟩).a, trivial⟩ ?_; refine hk [1, 2] ?_; refine ht [1, 2] [8, 9, 10] [] f0 [(60, .agg #[I v_17.Office, I v_17.Size, U v_17.Root, I v_17.Sig.C, I v_17.Sig.S]), (61, I v_18)] ?_; refine ho [12] ⟨?_, trivial⟩; refine h1 ?_; refine sr 0 g_19 [(0, I v_17.Office), (1, I v_17.Size), (2, U v_17.Root), (3, I v_17.Sig.C), (4, I v_17.Sig.S)] ?_; refine hk [1, 2] ?_; refine ht [1, 2] [13] [] f0 [(16, I v_18)] ?_; refine he ?_; refine tN ?_; exact fun a w S hK hE => ⟨g_19, v_17.Office, v_17.Size, v_17.Root, v_17.Sig.C, v_17.Sig.S, v_18, S, hK.wk, hE.sel [0, 1, 2], Option.some.inj hG⟩
    ·refine h1 ?_; refine nw 15 vp [I 0, I 0, U 0, I 0, I 0] 27 fun g_19 => ?_
     refine hk [1, 2] ?_; refine ho [3] ⟨?_, trivial⟩; refine h1 ?_; refine cl 55 (z_regulatorref06_Secret F v_10 _ hy_15) hT trivial ?_; refine hk [1, 2] ?_; refine ho [6] ⟨?_, trivial⟩; refine h1 ?_; refine cl 58 (z_regulatorref06_Secret F (IntKind.u64.wrap (v_10 + 1)) _ hy_16) hT trivial ?_; refine hk [1, 2] ?_; refine ho [7] ⟨?_, trivial⟩; refine h1 ?_; refine cl 59 (z_office_Sign F p_0 (IntKind.i64.wrap (1 + (Int.tmod (IntKind.i64.wrap p_1) ((p_0.Entries.length : Nat) : Int)))) v_15 v_16 _ hy_17) hT ⟨(((gd' (RowC p_0.Entries_A p_0.Entries_c KEntry.cells tr p_0.Entries) 1)).m fun _ _ h => ⟨h⟩).a, trivial⟩ ?_; refine hk [1, 2] ?_; refine ht [1, 2] [8, 9, 10] [] f0 [(60, .agg #[I v_17.Office, I v_17.Size, U v_17.Root, I v_17.Sig.C, I v_17.Sig.S]), (61, I v_18)] ?_; refine ho [12] ⟨?_, trivial⟩; refine h1 ?_; refine sr 0 g_19 [(0, I v_17.Office), (1, I v_17.Size), (2, U v_17.Root), (3, I v_17.Sig.C), (4, I v_17.Sig.S)] ?_; refine hk [1, 2] ?_; refine ht [1, 2] [13] [] f0 [(16, I v_18)] ?_; refine he ?_; refine tN ?_; exact fun a w S hK hE => ⟨g_19, v_17.Office, v_17.Size, v_17.Root, v_17.Sig.C, v_17.Sig.S, v_18, S, hK.wk, hE.sel [0, 1, 2], Option.some.inj hG⟩
   ·rintro a w ⟨g_21, v_22, v_23, v_24, v_25, v_26, v_27, hJ⟩; refine hJ.go fun ho_ => ?_
    clear hJ; subst ho_; replace hG := hG_20
    try (simp only [un2, un3, un4, un5, un6, un7, un8, Sum.elim_inl, Sum.elim_inr, List.length_map, KProofL.n_Hops] at hG; replace hG : _ = _ := hG)
    refine sq ?_; replace hG := bind_some hG; obtain ⟨⟨v_30o, v_31, v_32⟩, hy_30, hG⟩ := hG; refine rg ?_; refine rn 1 [(0, 2, 2, 0)] f0 [(63, .agg #[I p_0.ID, .slice p_0.Entries_A p_0.Entries.length p_0.Entries_c])] ?_; refine l1 ?_; refine nw 64 (vs 1) [I p_0.ID, .slice p_0.Entries_A p_0.Entries.length p_0.Entries_c] 53 fun g_28 => ?_
    refine rn 1 [(0, 5, 1, 0)] f0 [(65, .agg #[I v_22, I v_23, U v_24, I v_25, I v_26])] ?_; refine l1 ?_; refine nw 66 (vs 1) [I v_22, I v_23, U v_24, I v_25, I v_26] 27 fun g_29 => ?_
    refine rn 6 [(1, 1, 4, 0), (2, 1, 4, 0)] f0 [(68, I p_0.ID), (69, I (Int.tmod (IntKind.i64.wrap p_2) (IntKind.i64.wrap (1 + (Int.tmod (IntKind.i64.wrap p_1) ((p_0.Entries.length : Nat) : Int)))))), (71, I p_0.ID), (72, I (Int.tmod (IntKind.i64.wrap v_8) (IntKind.i64.wrap (1 + (Int.tmod (IntKind.i64.wrap p_1) ((p_0.Entries.length : Nat) : Int))))))] ?_; refine sB 1 g_28 KOfficeL.cells KOfficeL.ok ([p_0] : List KOfficeL) KOfficeL.mv (ec (((gd' (RowC p_0.Entries_A p_0.Entries_c KEntry.cells tr p_0.Entries) 3)).m fun _ _ h => ⟨h⟩) e0) ?_; refine sB 0 g_29 KHead.cells tr ([(⟨v_22, v_23, v_24, (⟨v_25, v_26⟩ : KSig)⟩ : KHead)] : List KHead) tr_mv et ?_; refine l1 ?_; refine cn 73 (z_order_Find F (some ⟨g_28, 0, none⟩) 1 ([p_0] : List KOfficeL) (some ⟨g_29, 0, none⟩) 1 ([(⟨v_22, v_23, v_24, (⟨v_25, v_26⟩ : KSig)⟩ : KHead)] : List KHead) p_0.ID (Int.tmod (IntKind.i64.wrap p_2) (IntKind.i64.wrap (1 + (Int.tmod (IntKind.i64.wrap p_1) ((p_0.Entries.length : Nat) : Int))))) p_0.ID (Int.tmod (IntKind.i64.wrap v_8) (IntKind.i64.wrap (1 + (Int.tmod (IntKind.i64.wrap p_1) ((p_0.Entries.length : Nat) : Int))))) _ hy_30) hT (fun _ => (mc KProofL.mv m0)) ⟨gi 1, gi 0, trivial⟩ ?_; rintro v_30 hq_30; obtain rfl : v_30.p = v_30o := hq_30.symm
    try (simp only [un2, un3, un4, un5, un6, un7, un8, Sum.elim_inl, Sum.elim_inr, List.length_map, KProofL.n_Hops] at hG; replace hG : _ = _ := hG)
    refine rn 4 [] f0 [(74, .agg #[I v_30.First.Head.Office, I v_30.First.Head.Size, U v_30.First.Head.Root, I v_30.First.Head.Sig.C, I v_30.First.Head.Sig.S, I v_30.First.Index, U v_30.First.Entry.Doc, I v_30.First.Entry.Stamp.Lo, I v_30.First.Entry.Stamp.Hi, .slice v_30.First.Path_A v_30.First.Path.length v_30.First.Path_c, .slice v_30.Hops_A v_30.Hops.length v_30.Hops_c, .slice v_30.Grow_A v_30.Grow.length v_30.Grow_c, I v_30.Last.Head.Office, I v_30.Last.Head.Size, U v_30.Last.Head.Root, I v_30.Last.Head.Sig.C, I v_30.Last.Head.Sig.S, I v_30.Last.Index, U v_30.Last.Entry.Doc, I v_30.Last.Entry.Stamp.Lo, I v_30.Last.Entry.Stamp.Hi, .slice v_30.Last.Path_A v_30.Last.Path.length v_30.Last.Path_c]), (75, B v_31), (76, I v_32)] ?_; refine l1 ?_; refine nw 17 vp [I 0, I 0, U 0, I 0, I 0, I 0, U 0, I 0, I 0, .slice none 0 0, .slice none 0 0, .slice none 0 0, I 0, I 0, U 0, I 0, I 0, I 0, U 0, I 0, I 0, .slice none 0 0] 37 fun g_33 => ?_
    refine l1 ?_; refine sr 0 g_33 [(0, I v_30.First.Head.Office), (1, I v_30.First.Head.Size), (2, U v_30.First.Head.Root), (3, I v_30.First.Head.Sig.C), (4, I v_30.First.Head.Sig.S), (5, I v_30.First.Index), (6, U v_30.First.Entry.Doc), (7, I v_30.First.Entry.Stamp.Lo), (8, I v_30.First.Entry.Stamp.Hi), (9, .slice v_30.First.Path_A v_30.First.Path.length v_30.First.Path_c), (10, .slice v_30.Hops_A v_30.Hops.length v_30.Hops_c), (11, .slice v_30.Grow_A v_30.Grow.length v_30.Grow_c), (12, I v_30.Last.Head.Office), (13, I v_30.Last.Head.Size), (14, U v_30.Last.Head.Root), (15, I v_30.Last.Head.Sig.C), (16, I v_30.Last.Head.Sig.S), (17, I v_30.Last.Index), (18, U v_30.Last.Entry.Doc), (19, I v_30.Last.Entry.Stamp.Lo), (20, I v_30.Last.Entry.Stamp.Hi), (21, .slice v_30.Last.Path_A v_30.Last.Path.length v_30.Last.Path_c)] ?_; refine ra [] f0 [(18, B v_31), (19, I v_32)] ?_; refine tN ?_; obtain ⟨o_41, hG, hG_41⟩ := bind_some hG; refine jn (fun K E a w => ∃ (v_42 : Bool), Js S0 w0 117 ([(10, B v_42)] ++ K) (se E []) (v_42 = o_41) a w) ?_ ?_
    ·replace hG := ifB_cases hG; rcases hG with ⟨h_34, hG⟩ | ⟨h_34, hG⟩
     ·replace hG := ifB_cases hG; rcases hG with ⟨h_35, hG⟩ | ⟨h_35, hG⟩
      ·replace hG := ifB_cases hG; rcases hG with ⟨h_36, hG⟩ | ⟨h_36, hG⟩
       ·replace hG := ifB_cases hG; rcases hG with ⟨h_37, hG⟩ | ⟨h_37, hG⟩
        ·replace hG := ifB_cases hG; rcases hG with ⟨h_38, hG⟩ | ⟨h_38, hG⟩
         ·replace hG := ifB_cases hG; rcases hG with ⟨h_39, hG⟩ | ⟨h_39, hG⟩
          ·replace hG := ifB_cases hG; rcases hG with ⟨h_40, hG⟩ | ⟨h_40, hG⟩
           ·refine rg ?_; refine rn 2 [] f0 [(78, B v_2)] ?_; refine sb 78 (bt h_34) ?_; refine rn 4 [] f0 [(82, B (v_27 == 0))] ?_; refine sb 82 (bt h_35) ?_; refine rn 4 [] f0 [(86, B (v_32 == 0))] ?_; refine sb 86 (bt h_36) ?_; refine rn 7 [] f0 [(93, B (v_31 == decide ((Int.tmod (IntKind.i64.wrap p_2) (IntKind.i64.wrap (1 + (Int.tmod (IntKind.i64.wrap p_1) ((p_0.Entries.length : Nat) : Int))))) < (Int.tmod (IntKind.i64.wrap v_8) (IntKind.i64.wrap (1 + (Int.tmod (IntKind.i64.wrap p_1) ((p_0.Entries.length : Nat) : Int))))))))] ?_
            try simp only [List.length_map, KProofL.n_Hops] at h_37
            refine sb 93 (bt h_37) ?_; refine rn 6 [(1, 1, 0, 10)] f0 [(99, B (((v_30.Hops.length : Nat) : Int) == 0))] ?_
            try simp only [List.length_map, KProofL.n_Hops] at h_38
            refine sb 99 (bt h_38) ?_; refine rn 3 [] f0 [(102, B (!v_31))] ?_; refine sb 102 (nt h_39) ?_; refine rn 6 [(2, 1, 0, 5)] f0 [(108, B (v_30.First.Index == (Int.tmod (IntKind.i64.wrap p_2) (IntKind.i64.wrap (1 + (Int.tmod (IntKind.i64.wrap p_1) ((p_0.Entries.length : Nat) : Int)))))))] ?_
            try simp only [List.length_map, KProofL.n_Hops] at h_40
            refine sb 108 (bt h_40) ?_; refine ra [(2, 1, 0, 17)] f0 [(10, B (v_30.Last.Index == (Int.tmod (IntKind.i64.wrap v_8) (IntKind.i64.wrap (1 + (Int.tmod (IntKind.i64.wrap p_1) ((p_0.Entries.length : Nat) : Int)))))))] ?_; refine tN ?_; exact fun a w S hK hE => ⟨(v_30.Last.Index == (Int.tmod (IntKind.i64.wrap v_8) (IntKind.i64.wrap (1 + (Int.tmod (IntKind.i64.wrap p_1) ((p_0.Entries.length : Nat) : Int)))))), S, hK.wk, hE.sel [], Option.some.inj hG⟩
           ·refine rg ?_; refine rn 2 [] f0 [(78, B v_2)] ?_; refine sb 78 (bt h_34) ?_; refine rn 4 [] f0 [(82, B (v_27 == 0))] ?_; refine sb 82 (bt h_35) ?_; refine rn 4 [] f0 [(86, B (v_32 == 0))] ?_; refine sb 86 (bt h_36) ?_; refine rn 7 [] f0 [(93, B (v_31 == decide ((Int.tmod (IntKind.i64.wrap p_2) (IntKind.i64.wrap (1 + (Int.tmod (IntKind.i64.wrap p_1) ((p_0.Entries.length : Nat) : Int))))) < (Int.tmod (IntKind.i64.wrap v_8) (IntKind.i64.wrap (1 + (Int.tmod (IntKind.i64.wrap p_1) ((p_0.Entries.length : Nat) : Int))))))))] ?_
            try simp only [List.length_map, KProofL.n_Hops] at h_37
            refine sb 93 (bt h_37) ?_; refine rn 6 [(1, 1, 0, 10)] f0 [(99, B (((v_30.Hops.length : Nat) : Int) == 0))] ?_
            try simp only [List.length_map, KProofL.n_Hops] at h_38
            refine sb 99 (bt h_38) ?_; refine rn 3 [] f0 [(102, B (!v_31))] ?_; refine sb 102 (nt h_39) ?_; refine rn 6 [(2, 1, 0, 5)] f0 [(108, B (v_30.First.Index == (Int.tmod (IntKind.i64.wrap p_2) (IntKind.i64.wrap (1 + (Int.tmod (IntKind.i64.wrap p_1) ((p_0.Entries.length : Nat) : Int)))))))] ?_
            try simp only [List.length_map, KProofL.n_Hops] at h_40
            refine sb 108 (bf h_40) ?_; refine ra [] f0 [(10, B false)] ?_; refine tN ?_; exact fun a w S hK hE => ⟨false, S, hK.wk, hE.sel [], Option.some.inj hG⟩
          ·refine rg ?_; refine rn 2 [] f0 [(78, B v_2)] ?_; refine sb 78 (bt h_34) ?_; refine rn 4 [] f0 [(82, B (v_27 == 0))] ?_; refine sb 82 (bt h_35) ?_; refine rn 4 [] f0 [(86, B (v_32 == 0))] ?_; refine sb 86 (bt h_36) ?_; refine rn 7 [] f0 [(93, B (v_31 == decide ((Int.tmod (IntKind.i64.wrap p_2) (IntKind.i64.wrap (1 + (Int.tmod (IntKind.i64.wrap p_1) ((p_0.Entries.length : Nat) : Int))))) < (Int.tmod (IntKind.i64.wrap v_8) (IntKind.i64.wrap (1 + (Int.tmod (IntKind.i64.wrap p_1) ((p_0.Entries.length : Nat) : Int))))))))] ?_
           try simp only [List.length_map, KProofL.n_Hops] at h_37
           refine sb 93 (bt h_37) ?_; refine rn 6 [(1, 1, 0, 10)] f0 [(99, B (((v_30.Hops.length : Nat) : Int) == 0))] ?_
           try simp only [List.length_map, KProofL.n_Hops] at h_38
           refine sb 99 (bt h_38) ?_; refine rn 3 [] f0 [(102, B (!v_31))] ?_; refine sb 102 (nf h_39) ?_; refine ra [] f0 [(10, B true)] ?_; refine tN ?_; exact fun a w S hK hE => ⟨true, S, hK.wk, hE.sel [], Option.some.inj hG⟩
         ·refine rg ?_; refine rn 2 [] f0 [(78, B v_2)] ?_; refine sb 78 (bt h_34) ?_; refine rn 4 [] f0 [(82, B (v_27 == 0))] ?_; refine sb 82 (bt h_35) ?_; refine rn 4 [] f0 [(86, B (v_32 == 0))] ?_; refine sb 86 (bt h_36) ?_; refine rn 7 [] f0 [(93, B (v_31 == decide ((Int.tmod (IntKind.i64.wrap p_2) (IntKind.i64.wrap (1 + (Int.tmod (IntKind.i64.wrap p_1) ((p_0.Entries.length : Nat) : Int))))) < (Int.tmod (IntKind.i64.wrap v_8) (IntKind.i64.wrap (1 + (Int.tmod (IntKind.i64.wrap p_1) ((p_0.Entries.length : Nat) : Int))))))))] ?_
          try simp only [List.length_map, KProofL.n_Hops] at h_37
          refine sb 93 (bt h_37) ?_; refine rn 6 [(1, 1, 0, 10)] f0 [(99, B (((v_30.Hops.length : Nat) : Int) == 0))] ?_
          try simp only [List.length_map, KProofL.n_Hops] at h_38
          refine sb 99 (bf h_38) ?_; refine ra [] f0 [(10, B false)] ?_; refine tN ?_; exact fun a w S hK hE => ⟨false, S, hK.wk, hE.sel [], Option.some.inj hG⟩
        ·refine rg ?_; refine rn 2 [] f0 [(78, B v_2)] ?_; refine sb 78 (bt h_34) ?_; refine rn 4 [] f0 [(82, B (v_27 == 0))] ?_; refine sb 82 (bt h_35) ?_; refine rn 4 [] f0 [(86, B (v_32 == 0))] ?_; refine sb 86 (bt h_36) ?_; refine rn 7 [] f0 [(93, B (v_31 == decide ((Int.tmod (IntKind.i64.wrap p_2) (IntKind.i64.wrap (1 + (Int.tmod (IntKind.i64.wrap p_1) ((p_0.Entries.length : Nat) : Int))))) < (Int.tmod (IntKind.i64.wrap v_8) (IntKind.i64.wrap (1 + (Int.tmod (IntKind.i64.wrap p_1) ((p_0.Entries.length : Nat) : Int))))))))] ?_
         try simp only [List.length_map, KProofL.n_Hops] at h_37
         refine sb 93 (bf h_37) ?_; refine ra [] f0 [(10, B false)] ?_; refine tN ?_; exact fun a w S hK hE => ⟨false, S, hK.wk, hE.sel [], Option.some.inj hG⟩
       ·refine rg ?_; refine rn 2 [] f0 [(78, B v_2)] ?_; refine sb 78 (bt h_34) ?_; refine rn 4 [] f0 [(82, B (v_27 == 0))] ?_; refine sb 82 (bt h_35) ?_; refine rn 4 [] f0 [(86, B (v_32 == 0))] ?_; refine sb 86 (bf h_36) ?_; refine ra [] f0 [(10, B false)] ?_; refine tN ?_; exact fun a w S hK hE => ⟨false, S, hK.wk, hE.sel [], Option.some.inj hG⟩
      ·refine rg ?_; refine rn 2 [] f0 [(78, B v_2)] ?_; refine sb 78 (bt h_34) ?_; refine rn 4 [] f0 [(82, B (v_27 == 0))] ?_; refine sb 82 (bf h_35) ?_; refine ra [] f0 [(10, B false)] ?_; refine tN ?_; exact fun a w S hK hE => ⟨false, S, hK.wk, hE.sel [], Option.some.inj hG⟩
     ·refine rg ?_; refine rn 2 [] f0 [(78, B v_2)] ?_; refine sb 78 (bf h_34) ?_; refine ra [] f0 [(10, B false)] ?_; refine tN ?_; exact fun a w S hK hE => ⟨false, S, hK.wk, hE.sel [], Option.some.inj hG⟩
    ·rintro a w ⟨v_42, hJ⟩; refine hJ.go fun ho_ => ?_
     clear hJ; subst ho_; replace hG := hG_41
     try (simp only [un2, un3, un4, un5, un6, un7, un8, Sum.elim_inl, Sum.elim_inr, List.length_map, KProofL.n_Hops] at hG; replace hG : _ = _ := hG)
     refine kR ?_; obtain rfl := Option.some.inj hG; exact rt []
end Go.Proofs.YtggaodokkcoagaaGreatDoor
namespace Go.Proofs.YtggaodokkcoagaaGreatDoor
open Go.RowKit Go.Maps
end Go.Proofs.YtggaodokkcoagaaGreatDoor
namespace Go.Proofs.YtggaodokkcoagaaGreatDoor
open Go.RowKit Go.Maps
end Go.Proofs.YtggaodokkcoagaaGreatDoor
namespace Go.Proofs.YtggaodokkcoagaaGreatDoor
open Go.RowKit Go.Maps
end Go.Proofs.YtggaodokkcoagaaGreatDoor
namespace Go.Proofs.YtggaodokkcoagaaGreatDoor
open Go.RowKit Go.Maps
end Go.Proofs.YtggaodokkcoagaaGreatDoor
namespace Go.Proofs.YtggaodokkcoagaaGreatDoor
open Go.RowKit Go.Maps
end Go.Proofs.YtggaodokkcoagaaGreatDoor
namespace Go.Proofs.YtggaodokkcoagaaGreatDoor
open Go.RowKit
def vI (i : KInterval) : Bool := decide (0 ≤ i.Lo ∧ i.Lo ≤ i.Hi ∧ i.Hi ≤ 3000000000000000)
theorem vI_p (F : Nat) (i : KInterval) : G_interval_Valid F i = some (vI i) := by
 unfold G_interval_Valid vI
 by_cases h1 : 0 ≤ i.Lo <;> by_cases h2 : i.Lo ≤ i.Hi <;> by_cases h3 : i.Hi ≤ 3000000000000000 <;> simp [ifB, h1, h2, h3]
theorem vI_r (F : Nat) (i : KInterval) : G_regulatorref02_Valid F i = some (vI i) := vI_p F i
theorem logged_p (F : Nat) (e : KEntry) : G_office_logged_formed F ⟨e⟩ = some (vI e.Stamp) := by unfold G_office_logged_formed; rw [vI_p]; rfl
theorem btw_p (F : Nat) (n a b : Int) : G_office_between F n a b = some (decide (a ≤ n ∧ n ≤ b)) := by
 unfold G_office_between
 by_cases h1 : a ≤ n <;> by_cases h2 : n ≤ b <;> simp [ifB, h1, h2]
theorem within_p (F : Nat) (n a : Int) : G_group_within F n a = some (decide (a ≤ n ∧ n < 1073741789)) := by
 unfold G_group_within
 by_cases h1 : a ≤ n <;> by_cases h2 : n < 1073741789 <;> simp [ifB, h1, h2]
def fH (h : KHead) : Bool := decide ((1 ≤ h.Office ∧ h.Office ≤ 16) ∧ (1 ≤ h.Size ∧ h.Size ≤ 4096) ∧ (0 ≤ h.Sig.C ∧ h.Sig.C < 1073741789) ∧ (0 ≤ h.Sig.S ∧ h.Sig.S < 1073741789))
theorem fH_p (F : Nat) (h : KHead) : G_office_formed F h = some (fH h) := by
 unfold G_office_formed fH; simp only [btw_p, ob_some]
 by_cases h1 : 1 ≤ h.Office ∧ h.Office ≤ 16 <;> by_cases h2 : 1 ≤ h.Size ∧ h.Size ≤ 4096 <;> by_cases h3 : 0 ≤ h.Sig.C ∧ h.Sig.C ≤ 1073741788 <;> by_cases h4 : 0 ≤ h.Sig.S ∧ h.Sig.S ≤ 1073741788 <;> simp [ifB, h1, h2, h3, h4] <;> omega
def msgF (h : KHead) : List Int := [h.Office, h.Size, IntKind.i64.wrap (Int.fdiv h.Root (2 ^ 32)), IntKind.i64.wrap (IntKind.u32.wrap h.Root)]
theorem msg_p (F : Nat) (h : KHead) : G_office_message F h = some (msgF h) := rfl
theorem low32 {n : Int} (h0 : 0 ≤ n) (h1 : n ≤ 18446744073709551615) : bits BinOp.and IntKind.u64 n 4294967295 = IntKind.u32.wrap n := by
 obtain ⟨k, rfl⟩ : ∃ k : Nat, n = k := ⟨n.toNat, by omega⟩; rw [IntKind.wrap_u32, show (4294967295 : Int) = ((4294967295 : Nat) : Int) from rfl, bits_and_u64_nat k 4294967295 (by omega) (by omega)]; have e : (k : Nat) &&& 4294967295 = k % 4294967296 := Nat.and_two_pow_sub_one_eq_mod k 32; rw [e]; omega
theorem xAt_le (X : Nat) : ∀ k, xAt X k ≤ X
 | 0 => Nat.le_refl _
 | k + 1 => by have := xAt_le X k; show xAt X k / 2 ≤ X; omega
theorem xAt_pow (X : Nat) : ∀ k, xAt X k = X / 2 ^ k
 | 0 => by show X = X / 1; omega
 | k + 1 => by
  show xAt X k / 2 = _
  rw [xAt_pow X k, Nat.div_div_eq_div_mul, Nat.pow_succ]
theorem xAt_end {X e : Nat} (h : X < 2 ^ e) : ∃ n, n ≤ e ∧ xAt X n = 0 ∧ ∀ k, k < n → 0 < xAt X k := by
 induction e with
 | zero => exact ⟨0, Nat.le_refl _, by show X = 0; simp at h; omega, fun k hk => absurd hk (Nat.not_lt_zero _)⟩
 | succ e ih =>
  rcases Nat.lt_or_ge X (2 ^ e) with h1 | h1
  ·obtain ⟨n, h2, h3, h4⟩ := ih h1; exact ⟨n, by omega, h3, h4⟩
  ·refine ⟨e + 1, Nat.le_refl _, by rw [xAt_pow, Nat.div_eq_of_lt h], fun k hk => ?_⟩; rw [xAt_pow]; exact Nat.div_pos (Nat.le_trans (Nat.pow_le_pow_right (by omega) (by omega)) h1) (Nat.two_pow_pos k)
theorem odd_test (n : Nat) (h : n < 9223372036854775808) : (bits BinOp.and IntKind.i64 ((n : Nat) : Int) 1 == 1) = decide (n % 2 = 1) := by
 rw [and_in h]
 by_cases hn : n % 2 = 1
 ·rw [hn]; rfl
 ·rw [show n % 2 = 0 by omega]; rfl
theorem pow_pn (A X : Nat) (hA : A < 2147483579) (hX : X < 2 ^ 62) {F : Nat} (hF : 64 ≤ F) : G_group_power F (A : Int) (X : Int) = some ((pw A X : Nat) : Int) := by
 obtain ⟨n, hn, h0, hp⟩ := xAt_end hX; unfold G_group_power; rw [show ((X : Int), (A : Int), (1 : Int)) = (fun k => (((xAt X k : Nat) : Int), ((aAt A k : Nat) : Int), ((oAt A X k : Nat) : Int))) 0 from rfl]; rw [iter_seq (fun k => (((xAt X k : Nat) : Int), ((aAt A k : Nat) : Int), ((oAt A X k : Nat) : Int))) n ((oAt A X n : Nat) : Int) ?_ ?_ (by omega)]
 ·simp only [ob_some]; rw [at_end h0]
 ·intro k hk; have hx := xAt_le X k; have hx2 : X < 9223372036854775808 := Nat.lt_of_lt_of_le hX (by decide); simp only [un3]; rw [show decide (((xAt X k : Nat) : Int) > 0) = true from decide_eq_true (by have := hp k hk; omega), ifB_t, odd_test _ (by omega), mul_in (aAt_lt hA k) (aAt_lt hA k), mod_in, shr_in]
  by_cases ho : xAt X k % 2 = 1
  ·rw [show decide (xAt X k % 2 = 1) = true from decide_eq_true ho, ifB_t, mul_in (oAt_lt A X k) (aAt_lt hA k), mod_in]; simp only [ob_some]; rw [oAt_odd ho]; rfl
  ·rw [show decide (xAt X k % 2 = 1) = false from decide_eq_false ho, ifB_f]; simp only [ob_some]; rw [oAt_even ho]; rfl
 ·simp only [un3]; rw [h0]; rfl
theorem pow_rn (A X : Nat) (hA : A < 2147483579) (hX : X < 2 ^ 62) {F : Nat} (hF : 64 ≤ F) : G_regulatorref06_Power F (A : Int) (X : Int) 2147483579 = some ((pw A X : Nat) : Int) := by
 obtain ⟨n, hn, h0, hp⟩ := xAt_end hX; unfold G_regulatorref06_Power; rw [show ((A : Int), (X : Int), (2147483579 : Int), (1 : Int)) = (fun k => (((aAt A k : Nat) : Int), ((xAt X k : Nat) : Int), (2147483579 : Int), ((oAt A X k : Nat) : Int))) 0 from rfl]; rw [iter_seq (fun k => (((aAt A k : Nat) : Int), ((xAt X k : Nat) : Int), (2147483579 : Int), ((oAt A X k : Nat) : Int))) n ((oAt A X n : Nat) : Int) ?_ ?_ (by omega)]
 ·simp only [ob_some]; rw [at_end h0]
 ·intro k hk; have hx := xAt_le X k; have hx2 : X < 9223372036854775808 := Nat.lt_of_lt_of_le hX (by decide); simp only [un4]; have hz : whenG (!((2147483579 : Int) == 0)) () = some () := rfl; have hodd : (Int.tmod ((xAt X k : Nat) : Int) 2 == 1) = decide (xAt X k % 2 = 1) := by
   rw [show Int.tmod ((xAt X k : Nat) : Int) 2 = ((xAt X k % 2 : Nat) : Int) from rfl]
   by_cases hn : xAt X k % 2 = 1
   ·rw [hn]; rfl
   ·rw [show xAt X k % 2 = 0 by omega]; rfl
  have hhalf : IntKind.i64.wrap (Int.tdiv ((xAt X k : Nat) : Int) 2) = ((xAt X k / 2 : Nat) : Int) := by
   rw [show Int.tdiv ((xAt X k : Nat) : Int) 2 = ((xAt X k / 2 : Nat) : Int) from rfl, IntKind.wrap_i64]; omega
  rw [show decide (((xAt X k : Nat) : Int) > 0) = true from decide_eq_true (by have := hp k hk; omega), ifB_t, hodd, hz, mul_in (aAt_lt hA k) (aAt_lt hA k), mod_in, hhalf]
  by_cases ho : xAt X k % 2 = 1
  ·rw [show decide (xAt X k % 2 = 1) = true from decide_eq_true ho, ifB_t, mul_in (oAt_lt A X k) (aAt_lt hA k), mod_in]; simp only [ob_some]; rw [oAt_odd ho]; rfl
  ·rw [show decide (xAt X k % 2 = 1) = false from decide_eq_false ho, ifB_f]; simp only [ob_some]; rw [oAt_even ho]; rfl
 ·simp only [un4]; rw [h0]; rfl
def memB (a : Int) : Bool := decide (0 < a ∧ a < 2147483579 ∧ pw a.toNat 1073741789 = 1)
theorem mem_p (a : Int) {F : Nat} (hF : 64 ≤ F) : G_group_Member F a = some (memB a) := by
 unfold G_group_Member memB
 by_cases h1 : 0 < a
 ·by_cases h2 : a < 2147483579
  ·have hp := pow_pn a.toNat 1073741789 (by omega) (by decide) hF; rw [show ((a.toNat : Nat) : Int) = a by omega, show ((1073741789 : Nat) : Int) = 1073741789 from rfl] at hp; rw [hp]
   by_cases h3 : pw a.toNat 1073741789 = 1 <;> simp [ifB, h1, h2, h3] <;> omega
  ·simp [ifB, h1, h2]
 ·simp [ifB, h1]
def pubB (a : Int) : Bool := memB a && !(a == 1)
theorem pub_p (a : Int) {F : Nat} (hF : 64 ≤ F) : G_office_isPublic F a = some (pubB a) := by
 unfold G_office_isPublic pubB; rw [mem_p a hF]; cases h : (a == 1) <;> simp [ifB]
end Go.Proofs.YtggaodokkcoagaaGreatDoor
namespace Go.Proofs.YtggaodokkcoagaaGreatDoor
open Go.ChangeShapes Go.WideShapes Go.ChangeAt Go.RowKit Go.Deep
theorem own : ownKnob Tryz.prog.godebug = none := by kernel_rfl
theorem laidOut : laidOutB Tryz.prog = true := by kernel_rfl
section
variable {H : Type} {enc : TypeId × Value → H}
theorem trodAll_below {P : Program} (hl : laidOutB P = true) {W W' : World} (hb : Below W.heap.size W W') : ∀ {ts : List TypeId} {vs : List Value} {ds : List (DataW H)} {ps : List MemPlace},
  (∀ t ∈ ts, P.readableRec t = true ∧ t < P.types.size) → DataW.TrodAll enc P W 0 (fun _ => true) true ts vs ds ps → (∀ x ∈ ps, x.block < W.heap.size) →
  DataW.TrodAll enc P W' 0 (fun b => decide (b < W.heap.size)) true ts vs ds ps
 | [], vs, ds, ps, _, h, _ => by
  obtain ⟨rfl, rfl, rfl⟩ := trodAll_nil h; rfl
 | t :: ts, vs, ds, ps, hr, h, hlt => by
  obtain ⟨v, vs', d, ds', p, q, rfl, rfl, rfl, h1, h2⟩ := trodAll_cons h; have h0 := hr t (by simp); exact trodAll_cons_mk (Below.trod hl h0.1 h0.2 h1 hb (fun x hx => hlt x (by simp [hx]))) (trodAll_below hl hb (fun t ht => hr t (by simp [ht])) h2 (fun x hx => hlt x (by simp [hx])))
theorem post_true {P : Program} {fn : Func} {s : ChangeSpec} {W W' : World} {args : Array Value} {ds gs : List (DataW H)} {before : List MemPlace} {b : TypeId} (hl : laidOutB P = true)
  (hr : ∀ t ∈ fn.params.toList, P.readableRec t = true ∧ t < P.types.size) (hb4 : P.underlying b = some .bool) (hrt : fn.resultTypes = #[b]) (hs : s.vars = [])
  (hW : DataW.Whole enc P fn.params.toList s.vars false W args.toList ds gs before) (hres : (s.fn H (ds ++ gs)).results = [.lit (.bool true)]) (hargs : (s.fn H (ds ++ gs)).args = ds) (hvs : (s.fn H (ds ++ gs)).vars = [])
  (hb : Below W.heap.size W W') : s.post enc P fn false true false false W args (.bool true) W' := by
 have hW' := hW; obtain ⟨p, q, hA, hV, rfl, _, _⟩ := hW; rw [hs] at hV; obtain ⟨rfl, rfl⟩ := trodVars_none hV; refine ⟨_, _, _, [], p, [], hW', ?_, ?_, ?_, hb.frame _, fun h => by cases h⟩
 ·rw [hres, hrt]; exact trodAll_mk1 (shut_bool hb4 true)
 ·rw [hargs]; exact trodAll_below hl hb hr hA (fun x hx => by simpa using hW'.lt x (by simp [hx]))
 ·rw [hvs, hs]; rfl
end
end Go.Proofs.YtggaodokkcoagaaGreatDoor
namespace Go.Proofs.YtggaodokkcoagaaGreatDoor
open Go.ChangeShapes Go.WideShapes Go.ChangeAt Go.RowKit Go.Deep
def inKd (k : IntKind) (n : Int) : Prop := (Lit.int k n).wf = true
theorem inKd_i64 {n : Int} (h : inKd .i64 n) : -9223372036854775808 ≤ n ∧ n ≤ 9223372036854775807 := by
 have : IntKind.i64.min ≤ n ∧ n ≤ IntKind.i64.max := by simpa [inKd, Lit.wf] using h
 rwa [show IntKind.i64.min = -9223372036854775808 by decide, show IntKind.i64.max = 9223372036854775807 by decide] at this
theorem inKd_u64 {n : Int} (h : inKd .u64 n) : 0 ≤ n ∧ n ≤ 18446744073709551615 := by
 have : IntKind.u64.min ≤ n ∧ n ≤ IntKind.u64.max := by simpa [inKd, Lit.wf] using h
 rwa [show IntKind.u64.min = 0 by decide, show IntKind.u64.max = 18446744073709551615 by decide] at this
theorem inKd_u8 {n : Int} (h : inKd .u8 n) : 0 ≤ n ∧ n ≤ 255 := by
 have : IntKind.u8.min ≤ n ∧ n ≤ IntKind.u8.max := by simpa [inKd, Lit.wf] using h
 rwa [show IntKind.u8.min = 0 by decide, show IntKind.u8.max = 255 by decide] at this
theorem rowS_all {w : World} {A : Option Addr} {xs : List Value} (h : Rd w A xs) : RowS (fun g => g < w.heap.size) w A xs := ⟨h, fun hn => by obtain ⟨b, o, e, hb, _⟩ := h hn; exact ⟨b, o, e, hb⟩⟩
theorem choose_ltK {α : Type} [Inhabited α] {n : Nat} {p : Nat → α → Prop} (h : ∀ i, i < n → ∃ v, p i v) : ∃ V : Nat → α, ∀ i, i < n → p i (V i) := by
 have h' : ∀ i, ∃ v, i < n → p i v := fun i => by
  rcases Nat.lt_or_ge i n with hi | hi
  ·obtain ⟨v, hv⟩ := h i hi; exact ⟨v, fun _ => hv⟩
  ·exact ⟨default, fun h => absurd h (Nat.not_lt.2 hi)⟩
 exact ⟨fun i => Classical.choose (h' i), fun i => Classical.choose_spec (h' i)⟩
theorem flr_get {α : Type} (f : α → List Value) (m : Nat) (hm : ∀ x, (f x).length = m) : ∀ (l : List α) (k j : Nat) (hk : k < l.length), j < m → (l.flatMap f)[k * m + j]? = (f l[k])[j]?
 | [], k, j, hk, _ => absurd hk (Nat.not_lt_zero _)
 | x :: l, 0, j, _, hj => by
  rw [List.flatMap_cons, Nat.zero_mul, Nat.zero_add, List.getElem?_append_left (by rw [hm]; exact hj)]; rfl
 | x :: l, k + 1, j, hk, hj => by
  rw [List.flatMap_cons, List.getElem?_append_right (by rw [hm, Nat.add_mul]; omega), hm]; have := flr_get f m hm l k j (by simpa using hk) hj; rw [← show (k + 1) * m + j - m = k * m + j from by rw [Nat.add_mul]; omega] at this; exact this
theorem cell_ltK {w : World} {b o : Nat} {u : Value} (h : w.cell? ⟨b, o, none⟩ = some u) : b < w.heap.size := World.block_lt_of_cell? w ⟨b, o, none⟩ h
section
variable {α : Type} {f : α → List Value} {m : Nat} {w : World}
theorem rd_mk {b o : Nat} {l : List α} (hm : ∀ x, (f x).length = m) (h0 : 0 < m) (h : ∀ i (hi : i < l.length) j, j < m → w.cell? ⟨b, o + i * m + j, none⟩ = (f l[i])[j]?) : Rd w (some ⟨b, o, none⟩) (l.flatMap f) := fun hne => by
 have hl : 0 < l.length := by
  cases l with
  | nil => exact absurd rfl hne
  | cons _ _ => simp
 have hlen := fl_len f m hm l; refine ⟨b, o, rfl, ?_, fun j u hu => ?_⟩
 ·have h1 := h 0 hl 0 h0; have h2 : (f l[0])[0]? = some ((f l[0])[0]'(by rw [hm]; exact h0)) := List.getElem?_eq_getElem _; rw [h2] at h1; exact cell_ltK h1
 ·have hj : j < l.length * m := by
   have := (List.getElem?_eq_some_iff.1 hu).1
   rwa [hlen] at this
  have hi : j / m < l.length := Nat.div_lt_of_lt_mul (by rw [Nat.mul_comm]; exact hj); have hr : j % m < m := Nat.mod_lt _ h0; have he : j / m * m + j % m = j := by rw [Nat.mul_comm]; exact Nat.div_add_mod _ _
  have hg := flr_get f m hm l (j / m) (j % m) hi hr; rw [he] at hg; rw [hg] at hu; have := h (j / m) hi (j % m) hr; rw [Nat.add_assoc, he] at this; rw [this]; exact hu
end
section
variable {H : Type} {enc : TypeId × Value → H} {w : World} {base : Nat} {spare : Nat → Bool} {held : Bool}
theorem trod_rowS {α : Type} [Inhabited α] (f : α → List Value) {m : Nat} (h0 : 0 < m) (hm : ∀ x, (f x).length = m) {T E : TypeId} (hu : Tryz.prog.underlying T = some (.slice E)) (hc : Tryz.prog.cellsOf E = m) (Q : α → Prop)
  (hE : ∀ n cs x, DataW.trod enc Tryz.prog w base spare held n E cs = some x → ∃ v, cs = f v ∧ Q v) {fuel : Nat} {cs : List Value} {x : DataW H × List MemPlace} (h : DataW.trod enc Tryz.prog w base spare held fuel T cs = some x) :
  ∃ (A : Option Addr) (c : Nat) (l : List α), cs = [.slice A l.length c] ∧ l.length ≤ c ∧ c ≤ maxLen ∧ Rd w A (l.flatMap f) ∧ ∀ v ∈ l, Q v := by
 obtain ⟨d, p⟩ := x; rcases open_slice hu h with ⟨hcs, _⟩ | ⟨a, len, cap, mm, n, D, Pl, hcs, _, hl, hmx, hmm, _, hx⟩
 ·exact ⟨none, 0, [], hcs, Nat.le_refl _, Nat.zero_le _, Rd.nil _ _, fun v hv => by cases hv⟩
 ·have hlm : len ≤ mm := by rw [hmm]; split <;> omega
  have hex : ∀ i, i < len → ∃ v : α, (∀ j, j < m → w.cell? ((a.add (i * m)).add j) = (f v)[j]?) ∧ Q v := fun i hi => by
   obtain ⟨cs', h1, h2⟩ := hx i (by omega); rw [hc] at h1; obtain ⟨v, rfl, hq⟩ := hE _ _ _ h2; exact ⟨v, (World.cells?_some h1).2.2, hq⟩
  obtain ⟨V, hV⟩ := choose_ltK hex; refine ⟨some a, cap, (List.range len).map V, by rw [hcs]; simp, by simpa using hl, hmx, ?_, ?_⟩
  ·rcases Nat.eq_zero_or_pos len with h00 | h00
   ·subst h00; exact Rd.nil _ _
   obtain ⟨b, o, spot⟩ := a; have hs : spot = none := by
    have := (hV 0 h00).1 0 h0; simp only [Nat.zero_mul, Addr.add, if_true] at this; have h2 : (f (V 0))[0]? = some ((f (V 0))[0]'(by rw [hm]; exact h0)) := List.getElem?_eq_getElem _; rw [h2] at this; exact World.cell?_spot this
   subst hs; refine rd_mk hm h0 fun i hi j hj => ?_
   have hi' : i < len := by simpa using hi
   have e : ∀ j, (((⟨b, o, none⟩ : Addr).add (i * m)).add j) = ⟨b, o + i * m + j, none⟩ := fun j => by rw [add_addr, add_addr]
   have hcc := (hV i hi').1 j hj; rw [e] at hcc; simp only [List.getElem_map, List.getElem_range]; exact hcc
  ·intro v hv; obtain ⟨i, hi, rfl⟩ := List.mem_map.1 hv; exact (hV i (List.mem_range.1 hi)).2
end
end Go.Proofs.YtggaodokkcoagaaGreatDoor
namespace Go.Proofs.YtggaodokkcoagaaGreatDoor
open Go.ChangeShapes Go.WideShapes Go.ChangeAt Go.RowKit Go.Deep
section
variable {H : Type} {enc : TypeId × Value → H} {w : World} {base : Nat} {spare : Nat → Bool} {held : Bool}
set_option maxRecDepth 10000
theorem trod_int {n : Nat} {cs : List Value} {x : DataW H × List MemPlace} (h : DataW.trod enc Tryz.prog w base spare held n 3 cs = some x) : ∃ v : Int, cs = c_i64 v ∧ inKd .i64 v := by
 obtain ⟨a, e, _, hw⟩ := DataW.trod_int Tryz.underlying3 h; exact ⟨a, e, hw⟩
theorem cl_int : Tryz.prog.cellsOf 3 = 1 := by kernel_rfl
theorem trod_uint64 {n : Nat} {cs : List Value} {x : DataW H × List MemPlace} (h : DataW.trod enc Tryz.prog w base spare held n 23 cs = some x) : ∃ v : Int, cs = c_u64 v ∧ inKd .u64 v := by
 obtain ⟨a, e, _, hw⟩ := DataW.trod_int Tryz.underlying23 h; exact ⟨a, e, hw⟩
theorem cl_uint64 : Tryz.prog.cellsOf 23 = 1 := by kernel_rfl
structure KSig.rng (x : KSig) : Prop where
 r_C : inKd .i64 x.C
 r_S : inKd .i64 x.S
structure KHead.rng (x : KHead) : Prop where
 r_Office : inKd .i64 x.Office
 r_Size : inKd .i64 x.Size
 r_Root : inKd .u64 x.Root
 r_Sig : KSig.rng x.Sig
theorem cl_api_Interval : Tryz.prog.cellsOf 29 = 2 := by kernel_rfl
structure KInterval.rng (x : KInterval) : Prop where
 r_Lo : inKd .i64 x.Lo
 r_Hi : inKd .i64 x.Hi
theorem tf_api_Interval : ∃ f0 f1 : Field, Tryz.prog.underlying 29 = some (.struct #[f0, f1]) ∧ (f0.offset = 0 ∧ f0.type = 3) ∧ (f1.offset = 1 ∧ f1.type = 3) := ⟨_, _, Tryz.underlying29, ⟨by kernel_rfl, by kernel_rfl⟩, ⟨by kernel_rfl, by kernel_rfl⟩⟩
theorem trod_api_Interval {n : Nat} {cs : List Value} {x : DataW H × List MemPlace} (h : DataW.trod enc Tryz.prog w base spare held n 29 cs = some x) : ∃ v : KInterval, cs = v.cells ∧ KInterval.rng v := by
 obtain ⟨f0, f1, hu, ⟨o0, t0⟩, ⟨o1, t1⟩⟩ := tf_api_Interval; obtain ⟨xs, n', _, _, hlen, hxl, hf⟩ := DataW.trod_struct hu h; rw [cl_api_Interval] at hlen
 match cs, hlen with
 | [c0, c1], _ =>
  have q0 := hf 0 f0 rfl; obtain ⟨y0, hy0⟩ : ∃ y, xs[0]? = some y := ⟨_, List.getElem?_eq_getElem (by rw [hxl]; exact (by decide : 0 < 2))⟩; rw [hy0, o0, t0, cl_int] at q0; obtain ⟨v0, e0, hg0⟩ := trod_int q0; replace e0 : [c0] = [I v0] := e0; simp only [List.cons.injEq, and_true] at e0; obtain rfl := e0; have q1 := hf 1 f1 rfl; obtain ⟨y1, hy1⟩ : ∃ y, xs[1]? = some y := ⟨_, List.getElem?_eq_getElem (by rw [hxl]; exact (by decide : 1 < 2))⟩; rw [hy1, o1, t1, cl_int] at q1; obtain ⟨v1, e1, hg1⟩ := trod_int q1; replace e1 : [c1] = [I v1] := e1; simp only [List.cons.injEq, and_true] at e1; obtain rfl := e1; exact ⟨⟨v0, v1⟩, rfl, ⟨hg0, hg1⟩⟩
theorem cl_api_Entry : Tryz.prog.cellsOf 31 = 3 := by kernel_rfl
structure KEntry.rng (x : KEntry) : Prop where
 r_Doc : inKd .u64 x.Doc
 r_Stamp : KInterval.rng x.Stamp
theorem tf_api_Entry : ∃ f0 f1 : Field, Tryz.prog.underlying 31 = some (.struct #[f0, f1]) ∧ (f0.offset = 0 ∧ f0.type = 23) ∧ (f1.offset = 1 ∧ f1.type = 29) := ⟨_, _, Tryz.underlying31, ⟨by kernel_rfl, by kernel_rfl⟩, ⟨by kernel_rfl, by kernel_rfl⟩⟩
theorem trod_api_Entry {n : Nat} {cs : List Value} {x : DataW H × List MemPlace} (h : DataW.trod enc Tryz.prog w base spare held n 31 cs = some x) : ∃ v : KEntry, cs = v.cells ∧ KEntry.rng v := by
 obtain ⟨f0, f1, hu, ⟨o0, t0⟩, ⟨o1, t1⟩⟩ := tf_api_Entry; obtain ⟨xs, n', _, _, hlen, hxl, hf⟩ := DataW.trod_struct hu h; rw [cl_api_Entry] at hlen
 match cs, hlen with
 | [c0, c1, c2], _ =>
  have q0 := hf 0 f0 rfl; obtain ⟨y0, hy0⟩ : ∃ y, xs[0]? = some y := ⟨_, List.getElem?_eq_getElem (by rw [hxl]; exact (by decide : 0 < 2))⟩; rw [hy0, o0, t0, cl_uint64] at q0; obtain ⟨v0, e0, hg0⟩ := trod_uint64 q0; replace e0 : [c0] = [U v0] := e0; simp only [List.cons.injEq, and_true] at e0; obtain rfl := e0; have q1 := hf 1 f1 rfl; obtain ⟨y1, hy1⟩ : ∃ y, xs[1]? = some y := ⟨_, List.getElem?_eq_getElem (by rw [hxl]; exact (by decide : 1 < 2))⟩; rw [hy1, o1, t1, cl_api_Interval] at q1; obtain ⟨v1, e1, hg1⟩ := trod_api_Interval q1; replace e1 : [c1, c2] = [I v1.Lo, I v1.Hi] := e1; simp only [List.cons.injEq, and_true] at e1; obtain ⟨rfl, rfl⟩ := e1; exact ⟨⟨v0, v1⟩, rfl, ⟨hg0, hg1⟩⟩
structure KReceipt.rng (x : KReceipt) : Prop where
 r_Head : KHead.rng x.Head
 r_Index : inKd .i64 x.Index
 r_Entry : KEntry.rng x.Entry
 r_Path : (fun l : List Int => ∀ y ∈ l, inKd .u64 y) x.Path
structure KHop.rng (x : KHop) : Prop where
 r_Of : KHead.rng x.Of
 r_Grow : (fun l : List Int => ∀ y ∈ l, inKd .u64 y) x.Grow
 r_By : KReceipt.rng x.By
instance : Inhabited KHopL := ⟨⟨⟨0, 0, 0, ⟨0, 0⟩⟩, none, 0, [], ⟨⟨0, 0, 0, ⟨0, 0⟩⟩, 0, ⟨0, ⟨0, 0⟩⟩, none, 0, []⟩⟩⟩
structure KProof.rng (x : KProof) : Prop where
 r_First : KReceipt.rng x.First
 r_Hops : (fun l : List KHop => ∀ y ∈ l, KHop.rng y) x.Hops
 r_Grow : (fun l : List Int => ∀ y ∈ l, inKd .u64 y) x.Grow
 r_Last : KReceipt.rng x.Last
instance : Inhabited KEntry := ⟨⟨0, ⟨0, 0⟩⟩⟩
theorem trod_Sl_api_Entry {n : Nat} {cs : List Value} {x : DataW H × List MemPlace} (h : DataW.trod enc Tryz.prog w base spare held n 51 cs = some x) :
  ∃ (A : Option Addr) (c : Nat) (l : List KEntry), cs = [.slice A l.length c] ∧ RowC A c KEntry.cells tr l (fun g => g < w.heap.size) w ∧ (∀ y ∈ l, KEntry.rng y) := by
 obtain ⟨A, c, l, h1, h2, h3, h4, h5⟩ := trod_rowS KEntry.cells (m := 3) (by decide) (fun _ => rfl) Tryz.underlying51 cl_api_Entry (fun v : KEntry => KEntry.rng v) (fun _ _ _ hx => trod_api_Entry hx) h; exact ⟨A, c, l, h1, ⟨rowS_all h4, h2, fun _ _ => trivial⟩, h5⟩
theorem cl_Sl_api_Entry : Tryz.prog.cellsOf 51 = 1 := by kernel_rfl
theorem cl_api_Office : Tryz.prog.cellsOf 53 = 2 := by kernel_rfl
structure KOffice.rng (x : KOffice) : Prop where
 r_ID : inKd .i64 x.ID
 r_Entries : (fun l : List KEntry => ∀ y ∈ l, KEntry.rng y) x.Entries
theorem tf_api_Office : ∃ f0 f1 : Field, Tryz.prog.underlying 53 = some (.struct #[f0, f1]) ∧ (f0.offset = 0 ∧ f0.type = 3) ∧ (f1.offset = 1 ∧ f1.type = 51) := ⟨_, _, Tryz.underlying53, ⟨by kernel_rfl, by kernel_rfl⟩, ⟨by kernel_rfl, by kernel_rfl⟩⟩
theorem trod_api_Office {n : Nat} {cs : List Value} {x : DataW H × List MemPlace} (h : DataW.trod enc Tryz.prog w base spare held n 53 cs = some x) : ∃ v : KOfficeL, cs = v.cells ∧ KOfficeL.ok v (fun g => g < w.heap.size) w ∧ KOffice.rng v.p := by
 obtain ⟨f0, f1, hu, ⟨o0, t0⟩, ⟨o1, t1⟩⟩ := tf_api_Office; obtain ⟨xs, n', _, _, hlen, hxl, hf⟩ := DataW.trod_struct hu h; rw [cl_api_Office] at hlen
 match cs, hlen with
 | [c0, c1], _ =>
  have q0 := hf 0 f0 rfl; obtain ⟨y0, hy0⟩ : ∃ y, xs[0]? = some y := ⟨_, List.getElem?_eq_getElem (by rw [hxl]; exact (by decide : 0 < 2))⟩; rw [hy0, o0, t0, cl_int] at q0; obtain ⟨v0, e0, hg0⟩ := trod_int q0; replace e0 : [c0] = [I v0] := e0; simp only [List.cons.injEq, and_true] at e0; obtain rfl := e0; have q1 := hf 1 f1 rfl; obtain ⟨y1, hy1⟩ : ∃ y, xs[1]? = some y := ⟨_, List.getElem?_eq_getElem (by rw [hxl]; exact (by decide : 1 < 2))⟩; rw [hy1, o1, t1, cl_Sl_api_Entry] at q1; obtain ⟨A1, k1, v1, e1, hr1, hg1⟩ := trod_Sl_api_Entry q1; replace e1 : [c1] = [.slice A1 v1.length k1] := e1; simp only [List.cons.injEq, and_true] at e1; obtain rfl := e1; exact ⟨⟨v0, A1, k1, v1⟩, rfl, ⟨hr1⟩, ⟨hg0, hg1⟩⟩
instance : Inhabited KOfficeL := ⟨⟨0, none, 0, []⟩⟩
instance : Inhabited KHead := ⟨⟨0, 0, 0, ⟨0, 0⟩⟩⟩
theorem opn_api_Office {r : Reach} {b0 : Nat} {v : Value} {d : DataW H} {p : List MemPlace} (hv : Value.okWide Tryz.prog w r b0 53 v) (h : DataW.Trod enc Tryz.prog w base spare held 53 v d p) : ∃ x : KOfficeL, v = .agg #[I x.ID, .slice x.Entries_A x.Entries.length x.Entries_c] ∧ KOfficeL.ok x (fun g => g < w.heap.size) w ∧ KOffice.rng x.p := by
 obtain ⟨f0, f1, hu, _⟩ := tf_api_Office; obtain ⟨cs, rfl, hsz⟩ := okWide_struct hu hv; obtain ⟨fuel, hf⟩ := h; obtain ⟨x, hx, hw⟩ := trod_api_Office hf; refine ⟨x, congrArg Value.agg ?_, hw⟩; have : cs.toList = x.cells := by simpa [Value.cells] using hx
 rw [← Array.toArray_toList (xs := cs), this]; rfl
theorem opn_uint8 {r : Reach} {b0 : Nat} {v : Value} {d : DataW H} {p : List MemPlace} (hv : Value.okWide Tryz.prog w r b0 5 v) (h : DataW.Trod enc Tryz.prog w base spare held 5 v d p) : ∃ x : Int, v = .int .u8 x ∧ inKd .u8 x := by
 obtain ⟨x, rfl, _, _, hw⟩ := open_int Tryz.underlying5 hv h; exact ⟨x, rfl, hw⟩
theorem opn_uint64 {r : Reach} {b0 : Nat} {v : Value} {d : DataW H} {p : List MemPlace} (hv : Value.okWide Tryz.prog w r b0 23 v) (h : DataW.Trod enc Tryz.prog w base spare held 23 v d p) : ∃ x : Int, v = .int .u64 x ∧ inKd .u64 x := by
 obtain ⟨x, rfl, _, _, hw⟩ := open_int Tryz.underlying23 hv h; exact ⟨x, rfl, hw⟩
structure Kregulatorlaw27_Act.rng (x : Kregulatorlaw27_Act) : Prop where
 r_Do : inKd .u8 x.Do
 r_Who : inKd .u8 x.Who
 r_Which : inKd .u8 x.Which
 r_Doc : inKd .u32 x.Doc
instance : Inhabited Kregulatorlaw27_Act := ⟨⟨0, 0, 0, 0⟩⟩
end
end Go.Proofs.YtggaodokkcoagaaGreatDoor
namespace Go.Proofs.YtggaodokkcoagaaGreatDoor
open Go.RowKit
theorem wrap_i64_rng (n : Int) : -9223372036854775808 ≤ IntKind.i64.wrap n ∧ IntKind.i64.wrap n ≤ 9223372036854775807 := by rw [IntKind.wrap_i64]; omega
theorem wrap_u64_rng (n : Int) : 0 ≤ IntKind.u64.wrap n ∧ IntKind.u64.wrap n ≤ 18446744073709551615 := by rw [IntKind.wrap_u64]; omega
theorem sumB_rng (l : List Int) : 0 ≤ sumB l ∧ sumB l ≤ 18446744073709551615 := by
 unfold sumB; have key : ∀ (l : List Int) (b : Int), 0 ≤ b ∧ b ≤ 18446744073709551615 → 0 ≤ l.foldl sumF b ∧ l.foldl sumF b ≤ 18446744073709551615 := by
  intro l
  induction l with
  | nil => intro b h; exact h
  | cons x l ih => intro b _; exact ih _ (wrap_u64_rng _)
 exact key l _ (by omega)
theorem rootF_rng (l : List Int) : 0 ≤ rootF l ∧ rootF l ≤ 18446744073709551615 := by
 rcases Classical.em (2 ≤ l.length) with h | h
 ·rw [rootF, rootT_split h]; exact sumB_rng _
 ·rw [rootF, rootT_one h]; exact sumB_rng _
theorem dnext {d : Int} {l : List Int} (h : inI l) (h1 : 1 ≤ l.length) (h2 : l.length ≤ 10000) {F : Nat} (hF : 64 ≤ F) : G_digest_Next F d l = some (nextF d l) := by
 obtain ⟨F', rfl⟩ : ∃ F', F = F' + 1 := ⟨F - 1, by omega⟩; exact whenG_t (decide_eq_true ⟨h, h2, h1⟩)
theorem dints {l : List Int} (h : inI l) (h2 : l.length ≤ 10000) {F : Nat} (hF : 64 ≤ F) : G_digest_Ints F l = some (intsF l) := by
 obtain ⟨F', rfl⟩ : ∃ F', F = F' + 1 := ⟨F - 1, by omega⟩; exact whenG_t (decide_eq_true ⟨h, by omega⟩)
def leafE (e : KEntry) : Int := nextF e.Doc [e.Stamp.Lo, e.Stamp.Hi]
theorem inI_two {a b : Int} (ha : inKd .i64 a) (hb : inKd .i64 b) : inI [a, b] := by
 intro z hz; rcases List.mem_cons.1 hz with rfl | hz
 ·exact inKd_i64 ha
 ·rcases List.mem_cons.1 hz with rfl | hz
  ·exact inKd_i64 hb
  ·cases hz
theorem leaf_p {e : KEntry} (h : e.rng) {F : Nat} (hF : 64 ≤ F) : G_office_Leaf F e = some (leafE e) := by
 unfold G_office_Leaf G_office_logged_value; rw [dnext (inI_two h.r_Stamp.r_Lo h.r_Stamp.r_Hi) (by simp) (by simp) hF]; rfl
def eAt (l : List KEntry) (k : Nat) : KEntry := l.getD k ⟨0, ⟨0, 0⟩⟩
theorem eAt_get {l : List KEntry} {k : Nat} (h : k < l.length) : l[k]? = some (eAt l k) := by
 unfold eAt; rw [List.getD_eq_getElem?_getD, List.getElem?_eq_getElem h]; rfl
def okAt (l : List KEntry) (k : Nat) : Bool := vI (eAt l k).Stamp && !(decide (0 < k) && decide ((eAt l k).Stamp.Lo < (eAt l (k - 1)).Stamp.Lo))
def ordB (l : List KEntry) : Bool := frB (okAt l) l.length 0
def vO (o : KOffice) : Bool := ordB o.Entries && (decide (1 ≤ o.ID ∧ o.ID ≤ 16) && decide (o.Entries.length ≤ 4096))
theorem pred_w {k : Nat} (h : 0 < k) (h2 : k < 1000000) : IntKind.i64.wrap ((k : Int) - 1) = ((k - 1 : Nat) : Int) := by rw [IntKind.wrap_i64]; omega
theorem valid_p {o : KOffice} (hl : o.Entries.length ≤ 50) {F : Nat} (hF : 64 ≤ F) : G_office_Valid F o = some (vO o) := by
 unfold G_office_Valid; rw [iter_all o.Entries.length (okAt o.Entries) (.inl ()) (.inr ()) ?_ ?_ (by omega)]
 ·unfold vO; rw [btw_p]
  show _ = some (ordB o.Entries && _)
  unfold ordB; cases frB (okAt o.Entries) o.Entries.length 0 with
  | true =>
   simp only [if_true, ob_some, Sum.elim_inl, Bool.true_and]
   by_cases h1 : 1 ≤ o.ID ∧ o.ID ≤ 16 <;> by_cases h2 : o.Entries.length ≤ 4096 <;> simp [ifB, h1, h2] <;> omega
  | false => rfl
 ·rw [show decide ((o.Entries.length : Int) < ((o.Entries.length : Nat) : Int)) = false from decide_eq_false (by omega)]; rfl
 ·intro k hk; rw [show decide ((k : Int) < ((o.Entries.length : Nat) : Int)) = true from decide_eq_true (by omega), ifB_t, ixI_nat, eAt_get hk]; simp only [ob_some, logged_p]; unfold okAt; rw [w64_nat (by omega)]; cases hv : vI (eAt o.Entries k).Stamp with
  | false => rfl
  | true =>
   rw [ifB_t]
   by_cases h0 : 0 < k
   ·rw [show decide ((k : Int) > 0) = true from decide_eq_true (by omega), ifB_t, pred_w h0 (by omega), ixI_nat, eAt_get (by omega)]; simp only [ob_some]; rw [show decide (0 < k) = true from decide_eq_true h0]; cases decide ((eAt o.Entries k).Stamp.Lo < (eAt o.Entries (k - 1)).Stamp.Lo) <;> rfl
   ·rw [show decide ((k : Int) > 0) = false from decide_eq_false (by omega), ifB_f, show decide (0 < k) = false from decide_eq_false h0]; rfl
theorem valid_r {o : KOffice} (hl : o.Entries.length ≤ 50) {F : Nat} (hF : 64 ≤ F) : G_regulatorref25_Valid F o = some (vO o) := by
 unfold G_regulatorref25_Valid; have h4 : decide (((o.Entries.length : Nat) : Int) > 4096) = false := decide_eq_false (by omega); have h4' : decide (o.Entries.length ≤ 4096) = true := decide_eq_true (by omega); rw [h4]
 by_cases hid : 1 ≤ o.ID ∧ o.ID ≤ 16
 ·rw [show decide (o.ID < 1) = false from decide_eq_false (by omega), show decide (o.ID > 16) = false from decide_eq_false (by omega)]; simp only [ifB_f, ob_some]; rw [iter_all o.Entries.length (okAt o.Entries) (.inl ()) (.inr ()) ?_ ?_ (by omega)]
  ·unfold vO ordB; rw [h4', show decide (1 ≤ o.ID ∧ o.ID ≤ 16) = true from decide_eq_true hid]; cases frB (okAt o.Entries) o.Entries.length 0 <;> rfl
  ·rw [show decide ((o.Entries.length : Int) < ((o.Entries.length : Nat) : Int)) = false from decide_eq_false (by omega)]; rfl
  ·intro k hk; rw [show decide ((k : Int) < ((o.Entries.length : Nat) : Int)) = true from decide_eq_true (by omega), ifB_t, ixI_nat, eAt_get hk]; simp only [ob_some, vI_r]; unfold okAt; rw [w64_nat (by omega)]; cases hv : vI (eAt o.Entries k).Stamp with
   | false => rfl
   | true =>
    rw [ifB_t]
    by_cases h0 : 0 < k
    ·rw [show decide ((k : Int) > 0) = true from decide_eq_true (by omega), ifB_t, pred_w h0 (by omega), ixI_nat, eAt_get (by omega)]; simp only [ob_some]; rw [show decide (0 < k) = true from decide_eq_true h0]; cases decide ((eAt o.Entries k).Stamp.Lo < (eAt o.Entries (k - 1)).Stamp.Lo) <;> rfl
    ·rw [show decide ((k : Int) > 0) = false from decide_eq_false (by omega), ifB_f, show decide (0 < k) = false from decide_eq_false h0]; rfl
 ·have hv : vO o = false := by unfold vO; rw [show decide (1 ≤ o.ID ∧ o.ID ≤ 16) = false from decide_eq_false hid]; simp
  rw [hv]
  by_cases h1 : o.ID < 1
  ·rw [show decide (o.ID < 1) = true from decide_eq_true h1]; rfl
  ·rw [show decide (o.ID < 1) = false from decide_eq_false h1, show decide (o.ID > 16) = true from decide_eq_true (by omega)]; rfl
def valsF (o : KOffice) (n : Nat) : List Int := (o.Entries.take n).map leafE
theorem take_map_succ {l : List KEntry} {k : Nat} (h : k < l.length) : (l.take (k + 1)).map leafE = (l.take k).map leafE ++ [leafE (eAt l k)] := by
 rw [List.take_add_one, eAt_get h]
 simp
theorem coll_p {l : List KEntry} (hr : ∀ e ∈ l, e.rng) (hl : l.length ≤ 60) {F : Nat} (hF : 64 ≤ F) : iter (σ := Int × (List Int)) (ρ := (List Int)) (un2 fun (v_43 : Int) (v_44 : (List Int)) => 
          (ifB (decide (v_43 < ((l.length : Nat) : Int)))
            (Option.bind (ixI l v_43) (fun v_52 =>
            Option.bind (G_office_Leaf F v_52) (fun v_59 =>
            Option.bind (apG 8 v_44 ([v_59] : List Int)) (fun v_61 =>
            some (.inl (IntKind.i64.wrap (v_43 + 1), v_61))))))
            (some (.inr v_44)) : Option ((Int × (List Int)) ⊕ (List Int)))) F (0, ([] : List Int)) = some (l.map leafE) := by
  rw [show ((0 : Int), ([] : List Int)) = (fun k : Nat => ((k : Int), (l.take k).map leafE)) 0 from rfl]
  rw [iter_seq (fun k : Nat => ((k : Int), (l.take k).map leafE)) l.length (l.map leafE) ?_ ?_ (by omega)]
  · intro k hk
    simp only [un2]
    rw [show decide ((k : Int) < ((l.length : Nat) : Int)) = true from decide_eq_true (by omega), ifB_t, ixI_nat, eAt_get hk]
    simp only [ob_some]
    rw [leaf_p (hr _ (List.mem_of_getElem? (eAt_get hk))) hF]
    simp only [ob_some]
    rw [apG_ok (by simp only [List.length_map, List.length_take, List.length_cons, List.length_nil]; omega), w64_nat (by omega), take_map_succ hk]
    rfl
  · simp only [un2]
    rw [show decide ((l.length : Int) < ((l.length : Nat) : Int)) = false from decide_eq_false (by omega), List.take_length]
    rfl
theorem root_p {o : KOffice} (hr : o.rng) {n : Nat} (hn : n ≤ o.Entries.length) (hl : n ≤ 60) {F : Nat} (hF : 64 ≤ F) : G_office_root F o (n : Int) = some (rootS (valsF o n)) := by
 obtain ⟨F', rfl⟩ : ∃ F', F = F' + 1 := ⟨F - 1, by omega⟩; unfold G_office_root; rw [show (0 : Int) = ((0 : Nat) : Int) from rfl, slI_ok (Nat.zero_le n) hn]; simp only [ob_some, List.drop_zero]; rw [show ((0 : Nat) : Int) = 0 from rfl, coll_p (fun e he => hr.r_Entries e (List.mem_of_mem_take he)) (by rw [List.length_take]; omega) hF]; rfl
theorem valsF_len {o : KOffice} {n : Nat} (hn : n ≤ o.Entries.length) : (valsF o n).length = n := by unfold valsF; rw [List.length_map, List.length_take]; omega
end Go.Proofs.YtggaodokkcoagaaGreatDoor
namespace Go.Proofs.YtggaodokkcoagaaGreatDoor
open Go.RowKit
def chF (b p : Int) (m : List Int) : Int := intsF ([b, p] ++ m) % 1073741789
theorem chF_rng (b p : Int) (m : List Int) : 0 ≤ chF b p m ∧ chF b p m < 1073741789 := by unfold chF; omega
theorem ch_w (l : List Int) : IntKind.i64.wrap (Int.tmod (intsF l) 1073741789) = intsF l % 1073741789 := by
 have := sumB_rng (textL l); unfold intsF; rw [Int.tmod_eq_emod_of_nonneg this.1, w64_id (by omega) (by omega)]
theorem ch_p {b p : Int} {m : List Int} (h : inI ([b, p] ++ m)) (hl : m.length ≤ 100) {F : Nat} (hF : 64 ≤ F) : G_group_challenge F b p m = some (chF b p m) := by
 unfold G_group_challenge; rw [apG_ok (by simp; omega)]; simp only [ob_some]; rw [dints h (by simp; omega) hF]; simp only [ob_some]; rw [ch_w]; rfl
theorem inI_app {a b : List Int} (ha : inI a) (hb : inI b) : inI (a ++ b) := fun z hz => by
 rcases List.mem_append.1 hz with hz | hz
 ·exact ha z hz
 ·exact hb z hz
theorem inI_pair {a b : Int} (ha : -9223372036854775808 ≤ a ∧ a ≤ 9223372036854775807) (hb : -9223372036854775808 ≤ b ∧ b ≤ 9223372036854775807) : inI [a, b] := by
 intro z hz; rcases List.mem_cons.1 hz with rfl | hz
 ·exact ha
 ·rcases List.mem_cons.1 hz with rfl | hz
  ·exact hb
  ·cases hz
theorem inI_msg {h : KHead} (h1 : inKd .i64 h.Office) (h2 : inKd .i64 h.Size) : inI (msgF h) := by
 show inI ([h.Office, h.Size] ++ [_, _])
 exact inI_app (inI_pair (inKd_i64 h1) (inKd_i64 h2)) (inI_pair (wrap_i64_rng _) (wrap_i64_rng _))
theorem pw_rng (a x : Nat) : -9223372036854775808 ≤ ((pw a x : Nat) : Int) ∧ ((pw a x : Nat) : Int) ≤ 9223372036854775807 := by have := pw_lt a x; omega
def isK (n : Int) : Bool := decide (1 ≤ n ∧ n < 1073741789)
def sigS (key once : Int) (m : List Int) : KSig × Int :=
 if isK key && isK once then (⟨chF ((pw 4 once.toNat : Nat) : Int) ((pw 4 key.toNat : Nat) : Int) m, (once + chF ((pw 4 once.toNat : Nat) : Int) ((pw 4 key.toNat : Nat) : Int) m * key) % 1073741789⟩, 0) else (⟨0, 0⟩, 1)
theorem pow4 (n : Int) (h0 : 0 ≤ n) (h1 : n ≤ 1073741789) {F : Nat} (hF : 64 ≤ F) : G_group_power F 4 n = some ((pw 4 n.toNat : Nat) : Int) ∧ G_regulatorref06_Power F 4 n 2147483579 = some ((pw 4 n.toNat : Nat) : Int) := by
  have hX : n.toNat < 2 ^ 62 := by have : (2 : Nat) ^ 62 = 4611686018427387904 := by decide
                                   omega
  have h1' := pow_pn 4 n.toNat (by decide) hX hF
  have h2' := pow_rn 4 n.toNat (by decide) hX hF
  rw [show ((n.toNat : Nat) : Int) = n by omega] at h1' h2'
  exact ⟨h1', h2'⟩
theorem sum_w {o c k : Int} (ho : 0 ≤ o ∧ o < 1073741789) (hc : 0 ≤ c ∧ c < 1073741789) (hk : 0 ≤ k ∧ k < 1073741789) : Int.tmod (IntKind.i64.wrap (o + IntKind.i64.wrap (c * k))) 1073741789 = (o + c * k) % 1073741789 := by
 have h1 : 0 ≤ c * k := Int.mul_nonneg hc.1 hk.1; have h2 : c * k ≤ 1073741789 * 1073741789 := Int.mul_le_mul (by omega) (by omega) hk.1 (by omega); rw [w64_id (n := c * k) (by omega) (by omega), w64_id (by omega) (by omega), Int.tmod_eq_emod_of_nonneg (by omega)]
theorem sig_p {key once : Int} {m : List Int} (hm : inI m) (hl : m.length ≤ 100) {F : Nat} (hF : 64 ≤ F) : G_group_Sign F key once m = some (sigS key once m) := by
 unfold G_group_Sign sigS isK; simp only [within_p, ob_some]
 by_cases h1 : 1 ≤ key ∧ key < 1073741789
 ·by_cases h2 : 1 ≤ once ∧ once < 1073741789
  ·simp only [h1, h2, and_self, decide_true, ifB_t, ob_some, Bool.not_true, ifB_f, Bool.and_self, if_true]; rw [(pow4 once (by omega) (by omega) hF).1, (pow4 key (by omega) (by omega) hF).1]; simp only [ob_some]; rw [ch_p (inI_app (inI_pair (pw_rng _ _) (pw_rng _ _)) hm) hl hF]; simp only [ob_some]; rw [sum_w ⟨by omega, h2.2⟩ (chF_rng _ _ _) ⟨by omega, h1.2⟩]
  ·simp only [h1, h2, and_self, decide_true, decide_false, ifB_t, ob_some, Bool.not_false, Bool.and_false, Bool.false_eq_true, if_false]
 ·simp only [h1, decide_false, ifB_f, ob_some, ifB_t, Bool.false_and, Bool.false_eq_true, if_false]
def begS (pub : Int) (s : KSig) : Nat := pw 4 s.S.toNat * pw pub.toNat (1073741789 - s.C.toNat) % 2147483579
def expB (s : KSig) : Bool := decide ((0 ≤ s.C ∧ s.C < 1073741789) ∧ (0 ≤ s.S ∧ s.S < 1073741789))
def verS (pub : Int) (s : KSig) (m : List Int) : Bool × Int :=
 if memB pub && expB s then (decide (chF (begS pub s : Int) pub m = s.C), 0) else (false, 1)
theorem memB_spec {a : Int} (h : memB a = true) : 0 < a ∧ a < 2147483579 ∧ pw a.toNat 1073741789 = 1 := of_decide_eq_true h
theorem mem_rng {a : Int} (h : memB a = true) : -9223372036854775808 ≤ a ∧ a ≤ 9223372036854775807 := by have := memB_spec h; omega
theorem beg_w (x y : Nat) (hx : x < 2147483579) (hy : y < 2147483579) : Int.tmod (IntKind.i64.wrap ((x : Int) * (y : Int))) 2147483579 = ((x * y % 2147483579 : Nat) : Int) := by rw [mul_in hx hy, mod_in]
theorem ver_p {pub : Int} {s : KSig} {m : List Int} (hm : inI m) (hl : m.length ≤ 100) {F : Nat} (hF : 64 ≤ F) : G_group_Verify F pub s m = some (verS pub s m) := by
  unfold G_group_Verify verS expB
  rw [mem_p pub hF]
  simp only [within_p, ob_some]
  cases hb : memB pub with
  | false => simp only [ifB_f, ifB_t, ob_some, Bool.false_and, Bool.false_eq_true, if_false]
  | true =>
    obtain ⟨m1, m2, m3⟩ := memB_spec hb
    by_cases h1 : 0 ≤ s.C ∧ s.C < 1073741789
    · by_cases h2 : 0 ≤ s.S ∧ s.S < 1073741789
      · simp only [h1, h2, and_self, decide_true, ifB_t, ob_some, Bool.not_true, ifB_f, Bool.and_self, if_true]
        have hp := pow_pn pub.toNat (1073741789 - s.C.toNat) (by omega) (by have : (2 : Nat) ^ 62 = 4611686018427387904 := by decide
                                                                            omega) hF
        rw [show ((pub.toNat : Nat) : Int) = pub by omega, show (((1073741789 - s.C.toNat : Nat)) : Int) = IntKind.i64.wrap (1073741789 - s.C) by rw [w64_id (by omega) (by omega)]; omega] at hp
        rw [(pow4 s.S (by omega) (by omega) hF).1, hp]
        simp only [ob_some]
        rw [beg_w _ _ (pw_lt _ _) (pw_lt _ _), ch_p (inI_app (inI_pair (by have := Nat.mod_lt (pw 4 s.S.toNat * pw pub.toNat (1073741789 - s.C.toNat)) (show 0 < 2147483579 by decide); omega) (mem_rng hb)) hm) hl hF]
        simp only [ob_some]
        congr 2
        rw [decide_eq_decide]
        constructor
        · intro h
          have := congrArg KSig.C h
          exact this.symm
        · intro h
          cases s
          simp only [KSig.mk.injEq, and_true]
          exact h.symm
      · simp only [h1, h2, and_self, and_false, decide_true, decide_false, ifB_t, ob_some, Bool.not_false, Bool.and_false, Bool.false_eq_true, if_false]
    · simp only [h1, false_and, decide_false, ifB_t, ifB_f, ob_some, Bool.and_false, Bool.false_eq_true, if_false]
def rightS (pub : Int) (h : KHead) : Bool × Int := if pubB pub && fH h then ((verS pub h.Sig (msgF h)).1, 0) else (false, 1)
theorem pub_mem' {a : Int} (h : pubB a = true) : memB a = true := by unfold pubB at h; simp at h; exact h.1
theorem fH_exp {h : KHead} (hh : fH h = true) : expB h.Sig = true := by
 have := of_decide_eq_true hh; exact decide_eq_true ⟨this.2.2.1, this.2.2.2⟩
theorem verS_ok {pub : Int} {s : KSig} {m : List Int} (h1 : memB pub = true) (h2 : expB s = true) : verS pub s m = (decide (chF (begS pub s : Int) pub m = s.C), 0) := by unfold verS; rw [h1, h2]; rfl
theorem right_p {pub : Int} {h : KHead} (h1 : inKd .i64 h.Office) (h2 : inKd .i64 h.Size) {F : Nat} (hF : 64 ≤ F) : G_office_Right F pub h = some (rightS pub h) := by
 unfold G_office_Right rightS; rw [pub_p pub hF]; simp only [fH_p, ob_some]; cases hp : pubB pub with
 | false => simp only [ifB_f, ifB_t, ob_some, Bool.false_and, Bool.false_eq_true, if_false]
 | true =>
  cases hh : fH h with
  | false => simp only [ifB_t, ob_some, Bool.not_false, Bool.and_false, Bool.false_eq_true, if_false]
  | true =>
   simp only [ifB_t, ob_some, Bool.not_true, ifB_f, Bool.and_self, if_true, msg_p]; rw [ver_p (inI_msg h1 h2) (by simp [msgF]) hF, verS_ok (pub_mem' hp) (fH_exp hh)]; rfl
end Go.Proofs.YtggaodokkcoagaaGreatDoor
namespace Go.Proofs.YtggaodokkcoagaaGreatDoor
open Go.RowKit
theorem rootS_ok {l : List Int} (h1 : 1 ≤ l.length) (h2 : l.length ≤ 4096) : rootS l = (rootF l, 0) := by
 have hc : checkS l = 0 := by unfold checkS; rw [if_neg (by omega), if_neg (by omega)]
 unfold rootS; rw [if_neg (by simp [hc])]
theorem incS_ok {l : List Int} {i : Nat} (h : i < l.length) (h2 : l.length ≤ 4096) : incS l i = (inclF l i, 0) := by
 have hc : checkS l = 0 := by unfold checkS; rw [if_neg (by omega), if_neg (by omega)]
 unfold incS; rw [if_neg (by simp [hc]), if_neg (by omega), Int.toNat_natCast]
theorem extS_ok {l : List Int} {m : Nat} (h1 : 1 ≤ m) (h : m ≤ l.length) (h2 : l.length ≤ 4096) : extS l m = (extF l m true, 0) := by
 have hc : checkS l = 0 := by unfold checkS; rw [if_neg (by omega), if_neg (by omega)]
 unfold extS; rw [if_neg (by simp [hc]), if_neg (by omega), Int.toNat_natCast]
end Go.Proofs.YtggaodokkcoagaaGreatDoor
namespace Go.Proofs.YtggaodokkcoagaaGreatDoor
open Go.RowKit
theorem inKd_w {n : Int} (h0 : -9223372036854775808 ≤ n) (h1 : n ≤ 9223372036854775807) : inKd .i64 n := by
 have : IntKind.i64.min ≤ n ∧ n ≤ IntKind.i64.max := by
  rw [show IntKind.i64.min = -9223372036854775808 by decide, show IntKind.i64.max = 9223372036854775807 by decide]; exact ⟨h0, h1⟩
 simpa [inKd, Lit.wf] using this
theorem inKd_wu {n : Int} (h0 : 0 ≤ n) (h1 : n ≤ 18446744073709551615) : inKd .u64 n := by
 have : IntKind.u64.min ≤ n ∧ n ≤ IntKind.u64.max := by
  rw [show IntKind.u64.min = 0 by decide, show IntKind.u64.max = 18446744073709551615 by decide]; exact ⟨h0, h1⟩
 simpa [inKd, Lit.wf] using this
def bareF (o : KOffice) (n : Nat) : KHead := ⟨o.ID, n, rootF (valsF o n), ⟨0, 0⟩⟩
def signS (o : KOffice) (n key once : Int) : KHead × Int :=
 if vO o && decide (1 ≤ n ∧ n ≤ o.Entries.length) && (isK key && isK once) then
  (⟨o.ID, n, rootF (valsF o n.toNat), (sigS key once (msgF (bareF o n.toNat))).1⟩, 0)
 else (⟨0, 0, 0, ⟨0, 0⟩⟩, 1)
theorem sigS_ok {k o : Int} {m : List Int} (h : (isK k && isK o) = true) : sigS k o m = ((sigS k o m).1, 0) := by unfold sigS; rw [h]; rfl
theorem sigS_no {k o : Int} {m : List Int} (h : (isK k && isK o) = false) : sigS k o m = (⟨0, 0⟩, 1) := by unfold sigS; rw [h]; rfl
theorem inI_bare {o : KOffice} (hr : o.rng) {k : Nat} (hk : k ≤ 1000) : inI (msgF (bareF o k)) := inI_msg hr.r_ID (show inKd .i64 (k : Int) from inKd_w (by omega) (by omega))
theorem sign_p {o : KOffice} (hr : o.rng) (hl : o.Entries.length ≤ 50) {n key once : Int} {F : Nat} (hF : 64 ≤ F) : G_office_Sign F o n key once = some (signS o n key once) := by
 unfold G_office_Sign signS; rw [valid_p hl hF]; simp only [ob_some]; cases hv : vO o with
 | false => simp only [ifB_f, ifB_t, ob_some, Bool.false_and, Bool.false_eq_true, if_false]
 | true =>
  rw [ifB_t, btw_p]; simp only [ob_some]
  by_cases hn : 1 ≤ n ∧ n ≤ (o.Entries.length : Int)
  ·rw [show decide (1 ≤ n ∧ n ≤ ((o.Entries.length : Nat) : Int)) = true from decide_eq_true hn]; obtain ⟨k, rfl⟩ : ∃ k : Nat, n = k := ⟨n.toNat, by omega⟩; simp only [Bool.not_true, ifB_f, Bool.true_and]; rw [root_p hr (by omega) (by omega) hF, rootS_ok (by rw [valsF_len (by omega)]; omega) (by rw [valsF_len (by omega)]; omega)]; simp only [un2, msg_p, ob_some, beq_self_eq_true, ifB_t, Int.toNat_natCast]; rw [show (⟨o.ID, (k : Int), rootF (valsF o k), ⟨0, 0⟩⟩ : KHead) = bareF o k from rfl, sig_p (inI_bare hr (by omega)) (by simp [msgF]) hF]; cases hk : (isK key && isK once) with
   | true =>
    rw [sigS_ok hk]; rfl
   | false =>
    rw [sigS_no hk]; rfl
  ·rw [show decide (1 ≤ n ∧ n ≤ ((o.Entries.length : Nat) : Int)) = false from decide_eq_false hn]; simp only [ifB_t, Bool.not_false, Bool.true_and, Bool.false_and, Bool.false_eq_true, if_false]
end Go.Proofs.YtggaodokkcoagaaGreatDoor
namespace Go.Proofs.YtggaodokkcoagaaGreatDoor
open Go.RowKit
def zR : KReceipt := ⟨⟨0, 0, 0, ⟨0, 0⟩⟩, 0, ⟨0, ⟨0, 0⟩⟩, []⟩
def provS (o : KOffice) (h : KHead) (i : Int) : KReceipt × Int :=
 if vO o && (fH h && decide (h.Size ≤ o.Entries.length ∧ 0 ≤ i ∧ i < h.Size)) then
  (if decide (h.Office = o.ID ∧ h.Root = rootF (valsF o h.Size.toNat)) then (⟨h, i, eAt o.Entries i.toNat, inclF (valsF o h.Size.toNat) i.toNat⟩, 0) else (zR, 33))
 else (zR, 1)
theorem fH_size {h : KHead} (hh : fH h = true) : 1 ≤ h.Size ∧ h.Size ≤ 4096 := (of_decide_eq_true hh).2.1
theorem pinc_p (l : List Int) (i : Int) {F : Nat} (hF : 64 ≤ F) : G_tree_Include F l i = some (incS l i) := by
 obtain ⟨F', rfl⟩ : ∃ F', F = F' + 1 := ⟨F - 1, by omega⟩; rfl
theorem prove_p {o : KOffice} (hr : o.rng) (hl : o.Entries.length ≤ 50) {h : KHead} {i : Int} {F : Nat} (hF : 64 ≤ F) : G_office_Prove F o h i = some (provS o h i) := by
 unfold G_office_Prove provS; rw [valid_p hl hF]; simp only [ob_some, fH_p]; cases hv : vO o with
 | false => simp only [ifB_f, ifB_t, ob_some, Bool.false_and, Bool.false_eq_true, if_false]; rfl
 | true =>
  cases hf : fH h with
  | false => simp only [ifB_f, ifB_t, ob_some, Bool.false_and, Bool.and_false, Bool.false_eq_true, if_false]; rfl
  | true =>
   obtain ⟨s1, s2⟩ := fH_size hf; obtain ⟨k, hk⟩ : ∃ k : Nat, h.Size = k := ⟨h.Size.toNat, by omega⟩; simp only [ifB_t, ob_some, Bool.true_and, hk]; rw [hk] at s1 s2
   by_cases h1 : (k : Int) ≤ ((o.Entries.length : Nat) : Int)
   ·rw [show decide ((k : Int) > ((o.Entries.length : Nat) : Int)) = false from decide_eq_false (by omega), ifB_f, btw_p, w64_id (n := (k : Int) - 1) (by omega) (by omega)]; simp only [ob_some]
    by_cases h2 : 0 ≤ i ∧ i ≤ (k : Int) - 1
    ·rw [show decide (0 ≤ i ∧ i ≤ (k : Int) - 1) = true from decide_eq_true h2, show decide ((k : Int) ≤ ((o.Entries.length : Nat) : Int) ∧ 0 ≤ i ∧ i < (k : Int)) = true from decide_eq_true (by omega)]; obtain ⟨j, rfl⟩ : ∃ j : Nat, i = j := ⟨i.toNat, by omega⟩; have hL : (valsF o k).length = k := valsF_len (by omega); simp only [Bool.not_true, ifB_f]; rw [root_p hr (by omega) (by omega) hF, rootS_ok (by rw [hL]; omega) (by rw [hL]; omega)]; simp only [un2, ob_some, beq_self_eq_true, ifB_t, Int.toNat_natCast, if_true]
     by_cases h3 : h.Office = o.ID
     ·by_cases h4 : h.Root = rootF (valsF o k)
      ·rw [show (h.Office == o.ID) = true from beq_iff_eq.2 h3, show (rootF (valsF o k) == h.Root) = true from beq_iff_eq.2 h4.symm, show decide (h.Office = o.ID ∧ h.Root = rootF (valsF o k)) = true from decide_eq_true ⟨h3, h4⟩]; simp only [ifB_t, ob_some, Bool.not_true, ifB_f, if_true]; rw [show (0 : Int) = ((0 : Nat) : Int) from rfl, slI_ok (Nat.zero_le k) (by omega)]; simp only [ob_some, List.drop_zero]; rw [show ((0 : Nat) : Int) = 0 from rfl, coll_p (fun e he => hr.r_Entries e (List.mem_of_mem_take he)) (by rw [List.length_take]; omega) hF]; simp only [ob_some]; rw [pinc_p _ _ hF, show (List.map leafE (o.Entries.take k)) = valsF o k from rfl, incS_ok (by rw [hL]; omega) (by rw [hL]; omega)]; simp only [ob_some, un2, beq_self_eq_true, ifB_t]; rw [ixI_nat, eAt_get (by omega)]; rfl
      ·rw [show (h.Office == o.ID) = true from beq_iff_eq.2 h3, show (rootF (valsF o k) == h.Root) = false from beq_eq_false_iff_ne.2 fun e => h4 e.symm, show decide (h.Office = o.ID ∧ h.Root = rootF (valsF o k)) = false from decide_eq_false fun e => h4 e.2]; rfl
     ·rw [show (h.Office == o.ID) = false from beq_eq_false_iff_ne.2 h3, show decide (h.Office = o.ID ∧ h.Root = rootF (valsF o k)) = false from decide_eq_false fun e => h3 e.1]; rfl
    ·rw [show decide (0 ≤ i ∧ i ≤ (k : Int) - 1) = false from decide_eq_false h2, show decide ((k : Int) ≤ ((o.Entries.length : Nat) : Int) ∧ 0 ≤ i ∧ i < (k : Int)) = false from decide_eq_false (by omega)]; rfl
   ·rw [show decide ((k : Int) > ((o.Entries.length : Nat) : Int)) = true from decide_eq_true (by omega), show decide ((k : Int) ≤ ((o.Entries.length : Nat) : Int) ∧ 0 ≤ i ∧ i < (k : Int)) = false from decide_eq_false (by omega)]; rfl
def chkB (pub : Int) (r : KReceipt) : Bool := pubB pub && (fH r.Head && (vI r.Entry.Stamp && decide ((0 ≤ r.Index ∧ r.Index < r.Head.Size) ∧ r.Path.length ≤ 20)))
def chkS (pub : Int) (r : KReceipt) : Bool × Int :=
 if chkB pub r then ((verS pub r.Head.Sig (msgF r.Head)).1 && inclS r.Head.Root (leafE r.Entry) r.Index r.Head.Size r.Path, 0) else (false, 1)
theorem rightS_ok {pub : Int} {h : KHead} (h1 : pubB pub = true) (h2 : fH h = true) : rightS pub h = ((verS pub h.Sig (msgF h)).1, 0) := by unfold rightS; rw [h1, h2]; rfl
theorem pincl_p (a b i n : Int) (l : List Int) (hl : l.length ≤ 100) {F : Nat} (hF : 64 ≤ F) : G_tree_Included F a b i n l = some (inclS a b i n l) := by
 obtain ⟨F', rfl⟩ : ∃ F', F = F' + 1 := ⟨F - 1, by omega⟩; exact whenG_t (decide_eq_true (by omega))
theorem check_p {pub : Int} {r : KReceipt} (q1 : inKd .i64 r.Head.Office) (q2 : inKd .i64 r.Head.Size) (q3 : r.Entry.rng) {F : Nat} (hF : 64 ≤ F) : G_office_Check F pub r = some (chkS pub r) := by
 unfold G_office_Check chkS chkB; rw [pub_p pub hF]; simp only [ob_some, fH_p, logged_p]; cases hp : pubB pub with
 | false => rfl
 | true =>
  cases hf : fH r.Head with
  | false => rfl
  | true =>
   cases hv : vI r.Entry.Stamp with
   | false => rfl
   | true =>
    obtain ⟨s1, s2⟩ := fH_size hf; simp only [ifB_t, ob_some, Bool.true_and, btw_p]; rw [w64_id (n := r.Head.Size - 1) (by omega) (by omega)]
    by_cases h1 : 0 ≤ r.Index ∧ r.Index < r.Head.Size
    ·rw [show decide (0 ≤ r.Index ∧ r.Index ≤ r.Head.Size - 1) = true from decide_eq_true (by omega)]
     by_cases h2 : r.Path.length ≤ 20
     ·rw [show decide (((r.Path.length : Nat) : Int) > 20) = false from decide_eq_false (by omega), show decide ((0 ≤ r.Index ∧ r.Index < r.Head.Size) ∧ r.Path.length ≤ 20) = true from decide_eq_true ⟨h1, h2⟩]; simp only [ifB_t, ob_some, ifB_f, if_true]; rw [right_p q1 q2 hF, rightS_ok hp hf]; simp only [un2, ob_some]; rw [leaf_p q3 hF]; simp only [ob_some]; rw [pincl_p _ _ _ _ _ (by omega) hF]; cases (verS pub r.Head.Sig (msgF r.Head)).1 <;> rfl
     ·rw [show decide (((r.Path.length : Nat) : Int) > 20) = true from decide_eq_true (by omega), show decide ((0 ≤ r.Index ∧ r.Index < r.Head.Size) ∧ r.Path.length ≤ 20) = false from decide_eq_false fun e => h2 e.2]; rfl
    ·rw [show decide (0 ≤ r.Index ∧ r.Index ≤ r.Head.Size - 1) = false from decide_eq_false (by omega), show decide ((0 ≤ r.Index ∧ r.Index < r.Head.Size) ∧ r.Path.length ≤ 20) = false from decide_eq_false fun e => h1 e.1]; rfl
end Go.Proofs.YtggaodokkcoagaaGreatDoor
namespace Go.Proofs.YtggaodokkcoagaaGreatDoor
open Go.RowKit
theorem few_eq (F : Nat) (o : KOffice) : G_regulatorref25_Few F o = some (decide (((o.Entries.length : Nat) : Int) ≤ 40)) := rfl
theorem vO_iff {o : KOffice} : vO o = true ↔ (∀ j, j < o.Entries.length → okAt o.Entries j = true) ∧ (1 ≤ o.ID ∧ o.ID ≤ 16) ∧ o.Entries.length ≤ 4096 := by
 unfold vO ordB; simp only [Bool.and_eq_true, decide_eq_true_eq, frB_iff]; constructor
 ·rintro ⟨h1, h2, h3⟩; exact ⟨fun j hj => h1 j (Nat.zero_le _) (by omega), h2, h3⟩
 ·rintro ⟨h1, h2, h3⟩; exact ⟨fun j _ hj => h1 j (by omega), h2, h3⟩
theorem modL {s L : Nat} (hs : s ≤ 65535) : Int.tmod (IntKind.i64.wrap ((s : Nat) : Int)) ((L : Nat) : Int) = ((s % L : Nat) : Int) := by rw [w64_id (by omega) (by omega)]; rfl
theorem pickL {s L : Nat} (hs : s ≤ 65535) (h0 : 0 < L) (hL : L ≤ 5000) : IntKind.i64.wrap (1 + Int.tmod (IntKind.i64.wrap ((s : Nat) : Int)) ((L : Nat) : Int)) = ((1 + s % L : Nat) : Int) := by
 rw [modL hs]; have := Nat.mod_lt s h0; rw [w64_id (by omega) (by omega)]; omega
theorem inKd_nat8 {n : Int} (h : inKd .u8 n) : ∃ s : Nat, n = s ∧ s ≤ 65535 := by have := inKd_u8 h; exact ⟨n.toNat, by omega, by omega⟩
def secF (n : Int) : Int := n % 1073741788 + 1
theorem sec_eq {n : Int} (h : inKd .u64 n) (F : Nat) : G_regulatorref06_Secret F n = some (secF n) := by
 have := inKd_u64 h; unfold G_regulatorref06_Secret secF; rw [Int.tmod_eq_emod_of_nonneg this.1, w64_id (n := n % 1073741788) (by omega) (by omega), w64_id (by omega) (by omega), Int.add_comm]
theorem sec_isK (n : Int) : isK (secF n) = true := decide_eq_true (by unfold secF; omega)
theorem isK_spec {k : Int} (h : isK k = true) : 1 ≤ k ∧ k < 1073741789 := of_decide_eq_true h
def pubF (k : Int) : Int := ((pw 4 k.toNat : Nat) : Int)
theorem pubF_eq {k : Int} (h : isK k = true) {F : Nat} (hF : 64 ≤ F) : G_regulatorref06_Public F k = some (pubF k) := by
 have := isK_spec h; unfold G_regulatorref06_Public; rw [(pow4 k (by omega) (by omega) hF).2]; rfl
theorem pubF_mem (k : Int) : memB (pubF k) = true := by
 have h1 := pub_pos k.toNat; have h2 := pw_lt 4 k.toNat; exact decide_eq_true ⟨by unfold pubF; omega, by unfold pubF; omega, by unfold pubF; rw [Int.toNat_natCast]; exact pub_mem _⟩
theorem pubF_pub {k : Int} (h : isK k = true) : pubB (pubF k) = true := by
 have hk := isK_spec h; have h1 := pub_ne (k := k.toNat) (by omega) (by omega); unfold pubB; rw [pubF_mem, show (pubF k == 1) = false from beq_eq_false_iff_ne.2 (by unfold pubF; omega)]; rfl
theorem sig_C {k m : Int} {l : List Int} (h : (isK k && isK m) = true) : (sigS k m l).1 = ⟨chF (pubF m) (pubF k) l, (m + chF (pubF m) (pubF k) l * k) % 1073741789⟩ := by unfold sigS; rw [h]; rfl
theorem sig_exp {k m : Int} {l : List Int} (h : (isK k && isK m) = true) : expB (sigS k m l).1 = true := by
 rw [sig_C h]; have := chF_rng (pubF m) (pubF k) l; refine decide_eq_true ⟨this, ?_⟩; constructor <;> simp only <;> omega
def headF (o : KOffice) (n : Nat) (k m : Int) : KHead := ⟨o.ID, n, rootF (valsF o n), (sigS k m (msgF (bareF o n))).1⟩
theorem sign_ok {o : KOffice} {n : Nat} {k m : Int} (hv : vO o = true) (h1 : 1 ≤ n) (h2 : n ≤ o.Entries.length) (h : (isK k && isK m) = true) : signS o n k m = (headF o n k m, 0) := by
 unfold signS; rw [hv, h, show decide (1 ≤ (n : Int) ∧ (n : Int) ≤ ((o.Entries.length : Nat) : Int)) = true from decide_eq_true (by omega)]; rfl
theorem headF_fH {o : KOffice} {n : Nat} {k m : Int} (hv : vO o = true) (h1 : 1 ≤ n) (h2 : n ≤ 4096) (h : (isK k && isK m) = true) : fH (headF o n k m) = true := by
 have hi := (vO_iff.1 hv).2.1; have he : expB (headF o n k m).Sig = true := sig_exp h; have he := of_decide_eq_true he; exact decide_eq_true ⟨hi, ⟨by show 1 ≤ (n : Int); omega, by show (n : Int) ≤ 4096; omega⟩, he.1, he.2⟩
theorem eAt_rng {o : KOffice} (hr : o.rng) {i : Nat} (hi : i < o.Entries.length) : (eAt o.Entries i).rng := hr.r_Entries _ (List.mem_of_getElem? (eAt_get hi))
theorem hF : 64 ≤ 300 := by decide
theorem un2_p {a b c : Type} (f : a → b → c) (p : a × b) : un2 f p = f p.1 p.2 := rfl
theorem both {k m : Int} (h1 : isK k = true) (h2 : isK m = true) : (isK k && isK m) = true := by rw [h1, h2]; rfl
theorem nz {n : Nat} (h : 0 < n) : (!(((n : Nat) : Int) == 0)) = true := by
 rw [show (((n : Nat) : Int) == 0) = false from beq_eq_false_iff_ne.2 (by omega)]; rfl
theorem pext (l : List Int) (i : Int) {F : Nat} (hF : 64 ≤ F) : G_tree_Extend F l i = some (extS l i) := by
 obtain ⟨F', rfl⟩ : ∃ F', F = F' + 1 := ⟨F - 1, by omega⟩; rfl
theorem pgrow (a b m n : Int) (l : List Int) (hl : l.length ≤ 1000) {F : Nat} (hF : 64 ≤ F) : G_tree_Extended F a b m n l = some (growS a b m n l) := by
 obtain ⟨F', rfl⟩ : ∃ F', F = F' + 1 := ⟨F - 1, by omega⟩; exact whenG_t (decide_eq_true hl)
end Go.Proofs.YtggaodokkcoagaaGreatDoor
namespace Go.Proofs.YtggaodokkcoagaaGreatDoor
open Go.RowKit
section
variable {ρ : Type}
def fdN (p : Nat → Bool) : Nat → Nat → Option Nat
 | 0, _ => none
 | m + 1, k => if p k = true then some k else fdN p m (k + 1)
theorem fdN_some {p : Nat → Bool} : ∀ {m k j : Nat}, fdN p m k = some j → (k ≤ j ∧ j < k + m) ∧ p j = true ∧ ∀ i, k ≤ i → i < j → p i = false
 | m + 1, k, j, h => by
  unfold fdN at h
  split at h
  ·next hp => cases h; exact ⟨⟨Nat.le_refl _, by omega⟩, hp, fun i h1 h2 => absurd h2 (by omega)⟩
  ·next hp =>
   obtain ⟨h1, h2, h3⟩ := fdN_some h; refine ⟨⟨by omega, by omega⟩, h2, fun i h4 h5 => ?_⟩; rcases Nat.eq_or_lt_of_le h4 with rfl | h4
   ·simpa using hp
   ·exact h3 i h4 h5
theorem iter_fd {f : Int → Option (Int ⊕ ρ)} (n : Nat) (p : Nat → Bool) (a : ρ) (b : Nat → ρ) (hn : f (n : Int) = some (.inr a)) (hk : ∀ k, k < n → f (k : Int) = some (if p k = true then .inr (b k) else .inl ((k + 1 : Nat) : Int))) {F : Nat} (hF : n < F) :
  iter f F 0 = some (match fdN p n 0 with | some k => b k | none => a) := by
 have key : ∀ (m k F : Nat), k + m = n → m < F → iter f F (k : Int) = some (match fdN p m k with | some k => b k | none => a) := by
  intro m
  induction m with
  | zero =>
   intro k F hm hF; obtain ⟨F', rfl⟩ : ∃ F', F = F' + 1 := ⟨F - 1, by omega⟩; have : k = n := by omega
   subst this; unfold iter; rw [hn]; rfl
  | succ m ih =>
   intro k F hm hF; obtain ⟨F', rfl⟩ : ∃ F', F = F' + 1 := ⟨F - 1, by omega⟩; unfold iter fdN; rw [hk k (by omega)]; cases hp : p k with
   | true => simp
   | false =>
    simp only [Bool.false_eq_true, if_false]; exact ih (k + 1) F' (by omega) (by omega)
 exact key n 0 F (by omega) hF
end
theorem pub4 : pubB 4 = true := by
 have := pubF_pub (k := 1) rfl
 rwa [show pubF 1 = 4 by unfold pubF; rw [show (1 : Int).toNat = 1 from rfl, pw_m]; rfl] at this
def digF (h : KHead) : Int := intsF (msgF h ++ [h.Sig.C, h.Sig.S])
theorem inI_dig {h : KHead} (hr : h.rng) : inI (msgF h ++ [h.Sig.C, h.Sig.S]) := inI_app (inI_msg hr.r_Office hr.r_Size) (inI_pair (inKd_i64 hr.r_Sig.r_C) (inKd_i64 hr.r_Sig.r_S))
theorem dig_p {h : KHead} (hr : h.rng) {F : Nat} (hF : 64 ≤ F) : G_cross_Digest F h = some (digF h) := by
 unfold G_cross_Digest; rw [low32 (inKd_u64 hr.r_Root).1 (inKd_u64 hr.r_Root).2]; have h := dints (inI_dig hr) (by simp [msgF]) hF; unfold msgF at h; simp only [List.cons_append, List.nil_append] at h; rw [h]; rfl
theorem rightS_e {pub : Int} {h : KHead} : ((rightS pub h).2 == 0) = (pubB pub && fH h) := by
 unfold rightS; cases pubB pub && fH h <;> rfl
theorem formed_p {h : KHead} (h1 : inKd .i64 h.Office) (h2 : inKd .i64 h.Size) {F : Nat} (hF : 64 ≤ F) : G_cross_formed F h = some (fH h) := by
 unfold G_cross_formed; rw [right_p h1 h2 hF]; rw [ob_some, un2_p]; rw [rightS_e, pub4]; rfl
theorem vals_c {o : KOffice} (hr : o.rng) {n : Nat} (hn : n ≤ o.Entries.length) (hl : n ≤ 60) {F : Nat} (hF : 64 ≤ F) : G_cross_values F o (n : Int) = some (valsF o n) := by
 unfold G_cross_values; rw [show (0 : Int) = ((0 : Nat) : Int) from rfl, slI_ok (Nat.zero_le n) hn]; simp only [ob_some, List.drop_zero]; rw [show ((0 : Nat) : Int) = 0 from rfl, coll_p (fun e he => hr.r_Entries e (List.mem_of_mem_take he)) (by rw [List.length_take]; omega) hF]; rfl
def hasS (o : KOffice) (h : KHead) : Bool := decide (h.Office = o.ID) && (decide (h.Size ≤ (o.Entries.length : Int)) && decide (rootF (valsF o h.Size.toNat) = h.Root))
theorem pRoot (l : List Int) {F : Nat} (hF : 64 ≤ F) : G_tree_Root F l = some (rootS l) := by
 obtain ⟨F', rfl⟩ : ∃ F', F = F' + 1 := ⟨F - 1, by omega⟩; rfl
theorem has_p {o : KOffice} (hr : o.rng) (hl : o.Entries.length ≤ 50) {h : KHead} (h1 : 1 ≤ h.Size) {F : Nat} (hF : 64 ≤ F) : G_cross_has F o h = some (hasS o h) := by
 unfold G_cross_has hasS
 by_cases ho : h.Office = o.ID
 ·rw [show (h.Office == o.ID) = true from beq_iff_eq.2 ho, show decide (h.Office = o.ID) = true from decide_eq_true ho]; obtain ⟨k, hk⟩ : ∃ k : Nat, h.Size = k := ⟨h.Size.toNat, by omega⟩; simp only [ifB_t, ob_some, hk]; rw [hk] at h1
  by_cases hs : (k : Int) ≤ ((o.Entries.length : Nat) : Int)
  ·rw [show decide ((k : Int) > ((o.Entries.length : Nat) : Int)) = false from decide_eq_false (by omega), show decide ((k : Int) ≤ ((o.Entries.length : Nat) : Int)) = true from decide_eq_true hs, ifB_f, vals_c hr (by omega) (by omega) hF]; have hL : (valsF o k).length = k := valsF_len (by omega); simp only [ob_some]; rw [pRoot _ hF, rootS_ok (by rw [hL]; omega) (by rw [hL]; omega)]; simp only [un2, ob_some, beq_self_eq_true, ifB_t, Int.toNat_natCast, Bool.true_and]; rfl
  ·rw [show decide ((k : Int) > ((o.Entries.length : Nat) : Int)) = true from decide_eq_true (by omega), show decide ((k : Int) ≤ ((o.Entries.length : Nat) : Int)) = false from decide_eq_false hs]; rfl
 ·rw [show (h.Office == o.ID) = false from beq_eq_false_iff_ne.2 ho, show decide (h.Office = o.ID) = false from decide_eq_false ho]; rfl
def zH : KHop := ⟨⟨0, 0, 0, ⟨0, 0⟩⟩, [], zR⟩
def fndS (l : List KEntry) (n : Nat) (d : Int) : Option Nat := fdN (fun k => (eAt l k).Doc == d) n 0
def witC (a : KOffice) (f o : KHead) (b : KOffice) (h : KHead) : Bool := vO a && (vO b && (fH f && (fH o && (fH h && (!(a.ID == b.ID) && !decide (f.Size > o.Size))))))
def witS (a : KOffice) (f o : KHead) (b : KOffice) (h : KHead) : KHop × Int :=
 if witC a f o b h then
  (if hasS a f && (hasS a o && hasS b h) then
   (match fndS b.Entries h.Size.toNat (digF o) with
   | none => (zH, 4)
   | some i => (⟨o, extF (valsF a o.Size.toNat) f.Size.toNat true, ⟨h, i, eAt b.Entries i, inclF (valsF b h.Size.toNat) i⟩⟩, 0))
  else (zH, 33))
 else (zH, 1)
theorem hasS_spec {o : KOffice} {h : KHead} (hh : hasS o h = true) : h.Office = o.ID ∧ h.Size ≤ (o.Entries.length : Int) ∧ rootF (valsF o h.Size.toNat) = h.Root := by
 simp only [hasS, Bool.and_eq_true, decide_eq_true_eq] at hh; exact hh
theorem provS_has {o : KOffice} {h : KHead} {i : Nat} (hv : vO o = true) (hf : fH h = true) (hh : hasS o h = true) (hi : (i : Int) < h.Size) : provS o h i = (⟨h, i, eAt o.Entries i, inclF (valsF o h.Size.toNat) i⟩, 0) := by
 obtain ⟨h1, h2, h3⟩ := hasS_spec hh; unfold provS; rw [hv, hf, show decide (h.Size ≤ ((o.Entries.length : Nat) : Int) ∧ 0 ≤ (i : Int) ∧ (i : Int) < h.Size) = true from decide_eq_true ⟨h2, by omega, hi⟩, show decide (h.Office = o.ID ∧ h.Root = rootF (valsF o h.Size.toNat)) = true from decide_eq_true ⟨h1, h3.symm⟩]; rfl
theorem wit_p {a b : KOffice} (ha : a.rng) (hb : b.rng) (la : a.Entries.length ≤ 50) (lb : b.Entries.length ≤ 50) {f o h : KHead} (hf : f.rng) (ho : o.rng) (hh : h.rng) {F : Nat} (hF : 64 ≤ F) : G_cross_Witness F a f o b h = some (witS a f o b h) := by
 unfold G_cross_Witness witS witC; rw [valid_p la hF, valid_p lb hF, formed_p hf.r_Office hf.r_Size hF, formed_p ho.r_Office ho.r_Size hF, formed_p hh.r_Office hh.r_Size hF]; simp only [ob_some]; cases h1 : vO a with
 | false => rfl
 | true =>
 cases h2 : vO b with
 | false => rfl
 | true =>
 cases h3 : fH f with
 | false => rfl
 | true =>
 cases h4 : fH o with
 | false => rfl
 | true =>
 cases h5 : fH h with
 | false => rfl
 | true =>
 cases h6 : (a.ID == b.ID) with
 | true => rfl
 | false =>
 cases h7 : decide (f.Size > o.Size) with
 | true => rfl
 | false =>
  simp only [ifB_t, ifB_f, ob_some, Bool.true_and, Bool.not_false, if_true]; obtain ⟨s1, s2⟩ := fH_size h3; obtain ⟨t1, t2⟩ := fH_size h4; obtain ⟨u1, u2⟩ := fH_size h5; rw [has_p ha la s1 hF, has_p ha la t1 hF, has_p hb lb u1 hF]; simp only [ob_some]; cases h8 : hasS a f with
  | false => rfl
  | true =>
  cases h9 : hasS a o with
  | false => rfl
  | true =>
  cases h10 : hasS b h with
  | false => rfl
  | true =>
   simp only [ifB_t, ifB_f, ob_some, Bool.not_true, Bool.and_self, if_true]; obtain ⟨_, q1, _⟩ := hasS_spec h10; obtain ⟨_, q2, _⟩ := hasS_spec h9; obtain ⟨k, hk⟩ : ∃ k : Nat, h.Size = k := ⟨h.Size.toNat, by omega⟩; obtain ⟨n, hn⟩ : ∃ n : Nat, o.Size = n := ⟨o.Size.toNat, by omega⟩; obtain ⟨m, hm⟩ : ∃ m : Nat, f.Size = m := ⟨f.Size.toNat, by omega⟩; have h7' := of_decide_eq_false h7; rw [dig_p ho hF]; simp only [ob_some]; have hrec : ∀ i : Nat, i < k → G_office_Prove F b h i = some (⟨h, i, eAt b.Entries i, inclF (valsF b k) i⟩, 0) := fun i hi => by
    have := provS_has (i := i) h2 h5 h10 (by omega); rw [prove_p hb lb hF, this, hk]; rfl
   rw [hk] at q1 u1; rw [hn] at q2 t1; rw [hk, show (0 : Int) = ((0 : Nat) : Int) from rfl, slI_ok (Nat.zero_le k) (by omega)]; simp only [ob_some, List.drop_zero, Int.toNat_natCast]; have hlen : (b.Entries.take k).length = k := by rw [List.length_take]; omega
   rw [show ((0 : Nat) : Int) = 0 from rfl, iter_fd k (fun j => (eAt b.Entries j).Doc == digF o) (.inl ()) (fun j => .inr (j : Int)) ?_ ?_ (by omega)]
   ·show _ = some (match fndS b.Entries k (digF o) with | none => _ | some i => _)
    unfold fndS; cases hfd : fdN (fun j => (eAt b.Entries j).Doc == digF o) k 0 with
    | none => rfl
    | some i =>
     obtain ⟨⟨_, hi⟩, _⟩ := fdN_some hfd; simp only [ob_some, Sum.elim_inr]; rw [show decide ((i : Int) < 0) = false from decide_eq_false (by omega), ifB_f, hn, vals_c ha (by omega) (by omega) hF]; simp only [ob_some]; have hL : (valsF a n).length = n := valsF_len (by omega); rw [hm] at h7' s1 ⊢; rw [hn] at h7'; rw [pext _ _ hF, extS_ok (by omega) (by rw [hL]; omega) (by rw [hL]; omega), hrec i (by omega)]; rfl
   ·rw [hlen, show decide ((k : Int) < ((k : Nat) : Int)) = false from decide_eq_false (by omega)]; rfl
   ·intro j hj; rw [hlen, show decide ((j : Int) < ((k : Nat) : Int)) = true from decide_eq_true (by omega), ifB_t, ixI_nat, List.getElem?_take, if_pos hj, eAt_get (by omega)]; simp only [ob_some]; rw [w64_nat (by omega)]; cases (eAt b.Entries j).Doc == digF o <;> rfl
def kAt (l : List Int) (k : Nat) : Int := l.getD k 0
theorem kAt_get {l : List Int} {k : Nat} (h : k < l.length) : l[k]? = some (kAt l k) := by
 unfold kAt; rw [List.getD_eq_getElem?_getD, List.getElem?_eq_getElem h]; rfl
def sgnS (l : List Int) (h : KHead) : Bool := decide (1 ≤ h.Office ∧ h.Office ≤ (l.length : Int)) && (!(kAt l (h.Office - 1).toNat == 0) && (rightS (kAt l (h.Office - 1).toNat) h).1)
theorem sgn_p {l : List Int} {h : KHead} (h1 : inKd .i64 h.Office) (h2 : inKd .i64 h.Size) {F : Nat} (hF : 64 ≤ F) : G_cross_keyring_signed F l h = some (sgnS l h) := by
 unfold G_cross_keyring_signed sgnS
 by_cases ho : 1 ≤ h.Office
 ·by_cases hl : h.Office ≤ (l.length : Int)
  ·rw [show decide (h.Office < 1) = false from decide_eq_false (by omega), show decide (h.Office > ((l.length : Nat) : Int)) = false from decide_eq_false (by omega), show decide (1 ≤ h.Office ∧ h.Office ≤ (l.length : Int)) = true from decide_eq_true ⟨ho, hl⟩]; have hi := inKd_i64 h1; rw [w64_id (n := h.Office - 1) (by omega) (by omega), show h.Office - 1 = (((h.Office - 1).toNat : Nat) : Int) by omega, ixI_nat, kAt_get (by omega)]; simp only [ifB_f, ob_some, Int.toNat_natCast, Bool.true_and]; cases (kAt l (h.Office - 1).toNat == 0) with
   | true => rfl
   | false =>
    rw [right_p h1 h2 hF]; rfl
  ·rw [show decide (h.Office < 1) = false from decide_eq_false (by omega), show decide (h.Office > ((l.length : Nat) : Int)) = true from decide_eq_true (by omega), show decide (1 ≤ h.Office ∧ h.Office ≤ (l.length : Int)) = false from decide_eq_false fun e => hl e.2]; rfl
 ·rw [show decide (h.Office < 1) = true from decide_eq_true (by omega), show decide (1 ≤ h.Office ∧ h.Office ≤ (l.length : Int)) = false from decide_eq_false fun e => ho e.1]; rfl
def okK (k : Int) : Bool := (k == 0) || pubB k
def rgtS (l : List Int) : Bool := decide (l.length ≤ 16) && frB (fun j => okK (kAt l j)) l.length 0
theorem bad_p (k : Int) {F : Nat} (hF : 64 ≤ F) : G_cross_keyring_right_1 F k = some (!okK k) := by
 unfold G_cross_keyring_right_1 okK; rw [right_p (inKd_w (by decide) (by decide)) (inKd_w (by decide) (by decide)) hF]; rw [ob_some, un2_p]; rw [rightS_e, show fH ⟨1, 1, 0, ⟨0, 0⟩⟩ = true from rfl]; cases (k == 0) <;> cases pubB k <;> rfl
theorem fd_fr {p : Nat → Bool} : ∀ {m k : Nat}, frB p m k = (fdN (fun j => !p j) m k).isNone
 | 0, _ => rfl
 | m + 1, k => by
  unfold frB fdN; cases p k with
  | true => simp [fd_fr]
  | false => simp
theorem rgt_p {l : List Int} (hl : l.length ≤ 40) {F : Nat} (hF : 64 ≤ F) : G_cross_keyring_right F l = some (rgtS l) := by
 unfold G_cross_keyring_right rgtS
 by_cases h16 : l.length ≤ 16
 ·rw [show decide (((l.length : Nat) : Int) ≤ 16) = true from decide_eq_true (by omega), show decide (l.length ≤ 16) = true from decide_eq_true h16, ifB_t]; rw [iter_fd l.length (fun j => !okK (kAt l j)) (.inl ()) (fun j => .inr (j : Int)) ?_ ?_ (by omega)]
  ·rw [fd_fr]; cases hfd : fdN (fun j => !okK (kAt l j)) l.length 0 with
   | none => rfl
   | some i =>
    simp only [ob_some, Sum.elim_inr]; rw [show decide ((i : Int) ≥ 0) = true from decide_eq_true (by omega)]; rfl
  ·rw [show decide ((l.length : Int) < ((l.length : Nat) : Int)) = false from decide_eq_false (by omega)]; rfl
  ·intro j hj; rw [show decide ((j : Int) < ((l.length : Nat) : Int)) = true from decide_eq_true (by omega), ifB_t, ixI_nat, kAt_get hj]; simp only [ob_some]; rw [bad_p _ hF, w64_nat (by omega)]; cases okK (kAt l j) <;> rfl
 ·rw [show decide (((l.length : Nat) : Int) ≤ 16) = false from decide_eq_false (by omega), show decide (l.length ≤ 16) = false from decide_eq_false h16]; rfl
def recB (r : KReceipt) : Bool := fH r.Head && (vI r.Entry.Stamp && decide ((0 ≤ r.Index ∧ r.Index < r.Head.Size) ∧ r.Path.length ≤ 20))
theorem chkS_e {pub : Int} {r : KReceipt} : ((chkS pub r).2 == 0) = (pubB pub && recB r) := by
 unfold chkS chkB recB; cases pubB pub && (fH r.Head && (vI r.Entry.Stamp && decide ((0 ≤ r.Index ∧ r.Index < r.Head.Size) ∧ r.Path.length ≤ 20))) <;> rfl
def hopC (l : List Int) (f : KHead) (h : KHop) : Bool := recB h.By && (rgtS l && (fH f && (fH h.Of && decide (h.Grow.length ≤ 20))))
def hopB (l : List Int) (f : KHead) (h : KHop) : Bool :=
 (sgnS l f && (sgnS l h.Of && sgnS l h.By.Head)) && ((decide (h.Of.Office = f.Office) && !(h.By.Head.Office == f.Office)) && (growS f.Root h.Of.Root f.Size h.Of.Size h.Grow && ((h.By.Entry.Doc == digF h.Of) && inclS h.By.Head.Root (leafE h.By.Entry) h.By.Index h.By.Head.Size h.By.Path)))
def hopS (l : List Int) (f : KHead) (h : KHop) : Bool × Int := if hopC l f h then (hopB l f h, 0) else (false, 1)
theorem hop_p {l : List Int} {f : KHead} {h : KHop} (hl : l.length ≤ 40) (hf : f.rng) (ho : h.Of.rng) (hb : h.By.Head.rng) (he : h.By.Entry.rng) {F : Nat} (hF : 64 ≤ F) : G_cross_Check F l f h = some (hopS l f h) := by
 unfold G_cross_Check hopS hopC; rw [check_p hb.r_Office hb.r_Size he hF]; rw [ob_some, un2_p]; rw [chkS_e, pub4, Bool.true_and]; cases h1 : recB h.By with
 | false => rfl
 | true =>
 rw [ifB_t, rgt_p hl hF, formed_p hf.r_Office hf.r_Size hF, formed_p ho.r_Office ho.r_Size hF]; simp only [ob_some]; cases h2 : rgtS l with
 | false => rfl
 | true =>
 cases h3 : fH f with
 | false => rfl
 | true =>
 cases h4 : fH h.Of with
 | false => rfl
 | true =>
 by_cases h5 : h.Grow.length ≤ 20
 ·rw [show decide (((h.Grow.length : Nat) : Int) > 20) = false from decide_eq_false (by omega), show decide (h.Grow.length ≤ 20) = true from decide_eq_true h5]; simp only [ifB_t, ifB_f, ob_some, Bool.and_self, if_true]; unfold hopB; rw [sgn_p hf.r_Office hf.r_Size hF, sgn_p ho.r_Office ho.r_Size hF, sgn_p hb.r_Office hb.r_Size hF]; simp only [ob_some]; cases h6 : sgnS l f with
  | false => rfl
  | true =>
  cases h7 : sgnS l h.Of with
  | false => rfl
  | true =>
  cases h8 : sgnS l h.By.Head with
  | false => rfl
  | true =>
  by_cases h9 : h.Of.Office = f.Office
  ·cases h10 : (h.By.Head.Office == f.Office) with
   | true => rw [show (h.Of.Office == f.Office) = true from beq_iff_eq.2 h9, show decide (h.Of.Office = f.Office) = true from decide_eq_true h9]; rfl
   | false =>
    rw [show (h.Of.Office == f.Office) = true from beq_iff_eq.2 h9, show decide (h.Of.Office = f.Office) = true from decide_eq_true h9]; simp only [ifB_t, ob_some, Bool.not_false, Bool.and_self, Bool.true_and]; rw [pgrow _ _ _ _ _ (by omega) hF]; simp only [ob_some]; cases growS f.Root h.Of.Root f.Size h.Of.Size h.Grow with
    | false => rfl
    | true =>
     simp only [ifB_t, ob_some, Bool.true_and]; rw [dig_p ho hF]; simp only [ob_some]; cases (h.By.Entry.Doc == digF h.Of) with
     | false => rfl
     | true =>
      have h8' := h8; simp only [sgnS, Bool.and_eq_true, decide_eq_true_eq] at h8'; obtain ⟨⟨o1, o2⟩, _, o4⟩ := h8'; have hi := inKd_i64 hb.r_Office; rw [ifB_t, w64_id (n := h.By.Head.Office - 1) (by omega) (by omega), show h.By.Head.Office - 1 = (((h.By.Head.Office - 1).toNat : Nat) : Int) by omega, ixI_nat, kAt_get (by omega)]; simp only [ob_some]; rw [check_p hb.r_Office hb.r_Size he hF]; rw [ob_some, un2_p]; have hpub : pubB (kAt l (h.By.Head.Office - 1).toNat) = true ∧ (verS (kAt l (h.By.Head.Office - 1).toNat) h.By.Head.Sig (msgF h.By.Head)).1 = true := by
       unfold rightS at o4
       split at o4
       ·next hc => simp only [Bool.and_eq_true] at hc; exact ⟨hc.1, o4⟩
       ·cases o4
      have hch : chkS (kAt l (h.By.Head.Office - 1).toNat) h.By = ((verS (kAt l (h.By.Head.Office - 1).toNat) h.By.Head.Sig (msgF h.By.Head)).1 && inclS h.By.Head.Root (leafE h.By.Entry) h.By.Index h.By.Head.Size h.By.Path, 0) := by
       unfold chkS chkB; rw [hpub.1]; unfold recB at h1; rw [h1]; rfl
      rw [hch, hpub.2]; simp only [Bool.true_and]; cases inclS h.By.Head.Root (leafE h.By.Entry) h.By.Index h.By.Head.Size h.By.Path <;> rfl
  ·rw [show (h.Of.Office == f.Office) = false from beq_eq_false_iff_ne.2 h9, show decide (h.Of.Office = f.Office) = false from decide_eq_false h9]; rfl
 ·rw [show decide (((h.Grow.length : Nat) : Int) > 20) = true from decide_eq_true (by omega), show decide (h.Grow.length ≤ 20) = false from decide_eq_false h5]; rfl
end Go.Proofs.YtggaodokkcoagaaGreatDoor
namespace Go.Proofs.YtggaodokkcoagaaGreatDoor
open Go.RowKit
theorem headF_rng {o : KOffice} (hr : o.rng) {n : Nat} (hn : n ≤ 5000) {k m : Int} (h : (isK k && isK m) = true) : (headF o n k m).rng := by
 have he := of_decide_eq_true (sig_exp (l := msgF (bareF o n)) h); have hR := rootF_rng (valsF o n); exact ⟨hr.r_ID, inKd_w (by show -9223372036854775808 ≤ (n : Int); omega) (by show (n : Int) ≤ 9223372036854775807; omega), inKd_wu hR.1 hR.2, ⟨inKd_w (by show -9223372036854775808 ≤ (sigS k m (msgF (bareF o n))).1.C; omega) (by show (sigS k m (msgF (bareF o n))).1.C ≤ 9223372036854775807; omega), inKd_w (by show -9223372036854775808 ≤ (sigS k m (msgF (bareF o n))).1.S; omega) (by show (sigS k m (msgF (bareF o n))).1.S ≤ 9223372036854775807; omega)⟩⟩
theorem has_own {o : KOffice} {n : Nat} {k m : Int} (hn : n ≤ o.Entries.length) : hasS o (headF o n k m) = true := by
 unfold hasS; rw [show decide ((headF o n k m).Office = o.ID) = true from decide_eq_true rfl, show decide ((headF o n k m).Size ≤ ((o.Entries.length : Nat) : Int)) = true from decide_eq_true (by show (n : Int) ≤ _; omega), show decide (rootF (valsF o (headF o n k m).Size.toNat) = (headF o n k m).Root) = true from decide_eq_true rfl]; rfl
end Go.Proofs.YtggaodokkcoagaaGreatDoor
namespace Go.Proofs.YtggaodokkcoagaaGreatDoor
open Go.RowKit
end Go.Proofs.YtggaodokkcoagaaGreatDoor
namespace Go.Proofs.YtggaodokkcoagaaGreatDoor
open Go.RowKit
end Go.Proofs.YtggaodokkcoagaaGreatDoor
namespace Go.Proofs.YtggaodokkcoagaaGreatDoor
section
variable {σ ρ α β : Type}
theorem iter_from {f : σ → Option (σ ⊕ ρ)} (l : List α) (e : β → Nat → σ) (g : β → Nat → α → β ⊕ ρ) (fin : β → ρ) (I : Nat → β → Prop) (run : List α → Nat → β → ρ)
  (r0 : ∀ k b, run [] k b = fin b) (r1 : ∀ x xs k b, run (x :: xs) k b = match g b k x with | .inl b' => run xs (k + 1) b' | .inr r => r)
  (hn : ∀ b, I l.length b → f (e b l.length) = some (.inr (fin b)))
  (hk : ∀ b k (h : k < l.length), I k b → f (e b k) = some (match g b k l[k] with | .inl b' => .inl (e b' (k + 1)) | .inr r => .inr r) ∧ ∀ b', g b k l[k] = .inl b' → I (k + 1) b') {F : Nat} (hF : l.length < F) (b : β) (hb : I 0 b) :
  iter f F (e b 0) = some (run l 0 b) := by
 have key : ∀ (m k F : Nat) (b : β), k + m = l.length → m < F → I k b → iter f F (e b k) = some (run (l.drop k) k b) := by
  intro m
  induction m with
  | zero =>
   intro k F b hm hF hb; obtain ⟨F', rfl⟩ : ∃ F', F = F' + 1 := ⟨F - 1, by omega⟩; obtain rfl : k = l.length := by omega
   unfold iter; rw [hn b hb, List.drop_length, r0]
  | succ m ih =>
   intro k F b hm hF hb; obtain ⟨F', rfl⟩ : ∃ F', F = F' + 1 := ⟨F - 1, by omega⟩; have hlt : k < l.length := by omega
   obtain ⟨h1, h2⟩ := hk b k hlt hb; unfold iter; rw [h1, List.drop_eq_getElem_cons hlt, r1]; cases hg : g b k l[k] with
   | inl b' => exact ih (k + 1) F' b' (by omega) (by omega) (h2 b' hg)
   | inr r => rfl
 have := key l.length 0 F b (by omega) hF hb
 rwa [List.drop_zero] at this
theorem iter_allL {f : Int → Option (Int ⊕ ρ)} (l : List α) (p : α → Bool) (a b : ρ) (hn : f (l.length : Int) = some (.inr a)) (hk : ∀ k (h : k < l.length), f (k : Int) = some (if p l[k] = true then .inl ((k : Int) + 1) else .inr b)) {F : Nat} (hF : l.length < F) :
  iter f F 0 = some (if l.all p = true then a else b) := by
 refine iter_from (β := Unit) l (fun _ k => (k : Int)) (fun _ _ x => if p x = true then .inl () else .inr b) (fun _ => a) (fun _ _ => True) (fun l _ _ => if l.all p = true then a else b) (fun _ _ => rfl) (fun x xs k _ => ?_) (fun _ _ => hn) (fun _ k h _ => ⟨?_, fun _ _ => trivial⟩) hF () trivial
 ·rw [List.all_cons]; cases p x <;> simp
 ·rw [hk k h]; cases p l[k] <;> rfl
theorem iter_fdL {f : Int → Option (Int ⊕ ρ)} (l : List α) (p : α → Bool) (a : ρ) (b : Nat → ρ) (hn : f (l.length : Int) = some (.inr a)) (hk : ∀ k (h : k < l.length), f (k : Int) = some (if p l[k] = true then .inr (b k) else .inl ((k : Int) + 1))) {F : Nat} (hF : l.length < F) :
  iter f F 0 = some (match l.findIdx? p with | none => a | some k => b k) := by
 have h := iter_from (f := f) (β := Unit) l (fun _ k => (k : Int)) (fun _ k x => if p x = true then .inr (b k) else .inl ()) (fun _ => a) (fun _ _ => True) (fun l k _ => match l.findIdx? p with | none => a | some j => b (k + j)) (fun _ _ => rfl) (fun x xs k _ => ?_) (fun _ _ => hn) (fun _ k h _ => ⟨?_, fun _ _ => trivial⟩) hF () trivial
 ·simp only [Nat.zero_add] at h; exact h
 ·rw [List.findIdx?_cons]; cases p x
  ·simp only [Bool.false_eq_true, if_false]; cases xs.findIdx? p with
   | none => rfl
   | some j => simp only [Option.map_some]; congr 1; omega
  ·simp
 ·rw [hk k h]; cases p l[k] <;> rfl
theorem iter_fold {f : σ → Option (σ ⊕ ρ)} (e : β → Int → σ) (l : List α) (g : β → α → β) (fin : β → ρ) (I : Nat → β → Prop) (hn : ∀ b, I l.length b → f (e b (l.length : Int)) = some (.inr (fin b)))
  (hk : ∀ b k (h : k < l.length), I k b → f (e b (k : Int)) = some (.inl (e (g b l[k]) ((k : Int) + 1))) ∧ I (k + 1) (g b l[k])) {F : Nat} (hF : l.length < F) (b : β) (hb : I 0 b) :
  iter f F (e b 0) = some (fin (l.foldl g b)) := by
 refine iter_from l (fun b k => e b (k : Int)) (fun b _ x => .inl (g b x)) fin I (fun l _ b => fin (l.foldl g b)) (fun _ _ => rfl) (fun _ _ _ _ => rfl) hn (fun b k h hb => ⟨(hk b k h hb).1, fun b' h' => ?_⟩) hF b hb; cases h'; exact (hk b k h hb).2
theorem iter_foldX {τ : Type} {f : σ → Option (σ ⊕ ρ)} (e : β → Int → σ) (l : List α) (g : β → α → β ⊕ τ) (fin : β → ρ) (fx : τ → ρ) (I : Nat → β → Prop) (run : List α → β → ρ) (r0 : ∀ b, run [] b = fin b) (r1 : ∀ x xs b, run (x :: xs) b = match g b x with | .inl b' => run xs b' | .inr r => fx r)
  (hn : ∀ b, I l.length b → f (e b (l.length : Int)) = some (.inr (fin b)))
  (hk : ∀ b k (h : k < l.length), I k b → f (e b (k : Int)) = some (match g b l[k] with | .inl b' => .inl (e b' ((k : Int) + 1)) | .inr r => .inr (fx r)) ∧ ∀ b', g b l[k] = .inl b' → I (k + 1) b') {F : Nat} (hF : l.length < F) (b : β) (hb : I 0 b) :
  iter f F (e b 0) = some (run l b) := by
 refine iter_from l (fun b k => e b (k : Int)) (fun b _ x => match g b x with | .inl b' => .inl b' | .inr r => .inr (fx r)) fin I (fun l _ b => run l b) (fun _ b => r0 b) (fun x xs k b => ?_) hn (fun b k h hb => ⟨?_, fun b' h' => ?_⟩) hF b hb
 ·rw [r1]; cases g b x <;> rfl
 ·rw [(hk b k h hb).1]; cases g b l[k] <;> rfl
 ·refine (hk b k h hb).2 b' ?_; cases hg : g b l[k] with
  | inl c => rw [hg] at h'; cases h'; rfl
  | inr r => rw [hg] at h'; cases h'
end
theorem ltl {k n : Nat} (h : k < n) : decide ((k : Int) < (n : Int)) = true := decide_eq_true (by omega)
theorem ltn (n : Nat) : decide ((n : Int) < (n : Int)) = false := decide_eq_false (by omega)
theorem w64_1 {k n : Nat} (h : k < n) (hn : n ≤ 9223372036854775807) : IntKind.i64.wrap ((k : Int) + 1) = (k : Int) + 1 := by rw [IntKind.wrap_i64]; omega
theorem w64_p {k : Nat} (h : 0 < k) (hn : k ≤ 9223372036854775807) : IntKind.i64.wrap ((k : Int) - 1) = ((k - 1 : Nat) : Int) := by rw [IntKind.wrap_i64]; omega
end Go.Proofs.YtggaodokkcoagaaGreatDoor
namespace Go.Proofs.YtggaodokkcoagaaGreatDoor
theorem dnot {p q : Prop} [Decidable p] [Decidable q] (h : p ↔ ¬q) : decide p = !decide q := by
 rw [← decide_not]; exact decide_eq_decide.2 h
theorem deq {p q : Prop} [Decidable p] [Decidable q] (h : p ↔ q) : decide p = decide q := decide_eq_decide.2 h
def frL {α : Type} (p : Nat → α → Bool) : List α → Nat → Bool
 | [], _ => true
 | x :: xs, k => p k x && frL p xs (k + 1)
theorem frL_iff {α : Type} {p : Nat → α → Bool} : ∀ {l : List α} {k : Nat}, frL p l k = true ↔ ∀ j (h : j < l.length), p (k + j) l[j] = true
 | [], k => ⟨fun _ j h => absurd h (Nat.not_lt_zero _), fun _ => rfl⟩
 | x :: l, k => by
  rw [frL, Bool.and_eq_true, frL_iff]; constructor
  ·rintro ⟨h1, h2⟩ j hj
   match j, hj with
   | 0, _ => exact h1
   | j + 1, hj =>
    have := h2 j (by simpa using hj); rw [show k + (j + 1) = k + 1 + j by omega]; exact this
  ·intro h; refine ⟨h 0 (by simp), fun j hj => ?_⟩; have := h (j + 1) (by simpa using hj); rw [show k + 1 + j = k + (j + 1) by omega]; exact this
def foI {α β : Type} (h : β → Nat → α → β) : List α → Nat → β → β
 | [], _, b => b
 | x :: xs, k, b => foI h xs (k + 1) (h b k x)
section
variable {σ ρ α β : Type}
theorem iter_chk {f : σ → Option (σ ⊕ ρ)} (e : β → Int → σ) (l : List α) (p : Nat → α → Bool) (g : β → Nat → α → β) (fin : β → ρ) (r : ρ) (I : Nat → β → Prop) (hn : ∀ b, I l.length b → f (e b (l.length : Int)) = some (.inr (fin b)))
  (hk : ∀ b k (h : k < l.length), I k b → f (e b (k : Int)) = some (if p k l[k] = true then .inl (e (g b k l[k]) ((k : Int) + 1)) else .inr r) ∧ I (k + 1) (g b k l[k])) {F : Nat} (hF : l.length < F) (b : β) (hb : I 0 b) :
  iter f F (e b 0) = some (if frL p l 0 = true then fin (foI g l 0 b) else r) := by
 refine iter_from l (fun b k => e b (k : Int)) (fun b k x => if p k x = true then .inl (g b k x) else .inr r) fin I (fun l k b => if frL p l k = true then fin (foI g l k b) else r) (fun _ _ => rfl) (fun x xs k b => ?_) hn (fun b k h hb => ⟨?_, fun b' h' => ?_⟩) hF b hb
 ·rw [frL]; cases p k x <;> simp [foI]
 ·rw [(hk b k h hb).1]; cases p k l[k] <;> rfl
 ·have h1 := (hk b k h hb).2
  split at h'
  ·cases h'; exact h1
  ·cases h'
theorem iter_chkU {f : Int → Option (Int ⊕ ρ)} (l : List α) (p : Nat → α → Bool) (a r : ρ) (hn : f (l.length : Int) = some (.inr a))
  (hk : ∀ k (h : k < l.length), f (k : Int) = some (if p k l[k] = true then .inl ((k : Int) + 1) else .inr r)) {F : Nat} (hF : l.length < F) :
  iter f F 0 = some (if frL p l 0 = true then a else r) := by
 have := iter_chk (f := f) (β := Unit) (fun _ k => k) l p (fun _ _ _ => ()) (fun _ => a) r (fun _ _ => True) (fun _ _ => hn) (fun _ k h _ => ⟨hk k h, trivial⟩) hF () trivial; exact this
theorem iter_eqL [DecidableEq α] {f : Int → Option (Int ⊕ ρ)} (l m : List α) (hl : l.length = m.length) (a b : ρ) (hn : f (l.length : Int) = some (.inr a))
  (hk : ∀ k (h : k < l.length) (h' : k < m.length), f (k : Int) = some (if decide (l[k] = m[k]) = true then .inl ((k : Int) + 1) else .inr b)) {F : Nat} (hF : l.length < F) :
  iter f F 0 = some (if decide (l = m) = true then a else b) := by
 rw [iter_chkU l (fun k x => decide (m[k]? = some x)) a b hn (fun k h => ?_) hF]
 ·congr 2
  refine propext ?_; rw [frL_iff, decide_eq_true_eq]; constructor
  ·intro h; refine List.ext_getElem hl fun j h1 h2 => ?_
   have := h j h1; rw [Nat.zero_add, decide_eq_true_eq, List.getElem?_eq_getElem h2] at this; exact (Option.some.inj this).symm
  ·rintro rfl j hj
   simp [hj]
 ·rw [hk k h (hl ▸ h), List.getElem?_eq_getElem (hl ▸ h)]
  congr 2
  refine propext ?_; simp only [decide_eq_true_eq, Option.some.injEq]; exact ⟨fun h => h.symm, fun h => h.symm⟩
end
def fdI : Option Nat → Int
 | none => -1
 | some k => (k : Int)
theorem fd_neg {α : Type} (p : α → Bool) (l : List α) : decide (fdI (l.findIdx? (fun x => !p x)) ≥ 0) = !l.all p := by
 cases h : l.findIdx? (fun x => !p x) with
 | none =>
  rw [List.findIdx?_eq_none_iff] at h; have : l.all p = true := List.all_eq_true.2 fun x hx => by simpa using h x hx
  rw [this]; rfl
 | some k =>
  rw [List.findIdx?_eq_some_iff_getElem] at h; obtain ⟨hk, h1, _⟩ := h; have : l.all p = false := by
   rw [Bool.eq_false_iff]; intro h2; have := List.all_eq_true.1 h2 l[k] (List.getElem_mem hk); rw [this] at h1; simp at h1
  rw [this]; simp only [Bool.not_false, decide_eq_true_eq]
  show (0 : Int) ≤ (k : Int)
  omega
end Go.Proofs.YtggaodokkcoagaaGreatDoor
namespace Go.Proofs.YtggaodokkcoagaaGreatDoor
def offsF (p : KProof) : List Int := p.First.Head.Office :: p.Hops.map (·.By.Head.Office)
theorem fold_snoc {α β : Type} (f : α → β) : ∀ (l : List α) (b : List β), l.foldl (fun b x => b ++ [f x]) b = b ++ l.map f
 | [], b => by simp
 | x :: l, b => by rw [List.foldl_cons, fold_snoc f l, List.map_cons, List.append_assoc]; rfl
theorem offs_p {p : KProof} (hl : p.Hops.length ≤ 50) {F : Nat} (hF : 64 ≤ F) : G_order_Offices F p = some (offsF p) := by
 unfold G_order_Offices offsF; rw [iter_fold (fun (b : List Int) i => (i, b)) p.Hops (fun b x => b ++ [x.By.Head.Office]) id (fun k b => b.length = k + 1) ?_ ?_ (by omega) [p.First.Head.Office] rfl, fold_snoc]
 ·rfl
 ·intro b _; simp only [un2, ltn, ifB_f, id]
 ·intro b k h hb; simp only [un2, ltl h, ifB_t, ixI_get h, ob_some, w64_1 h (by omega)]; rw [apG_ok (by simp only [List.length_cons, List.length_nil]; omega)]; exact ⟨rfl, by simp [hb]⟩
theorem sameI_r {l m : List Int} (hl : l.length ≤ 60) {F : Nat} (hF : 64 ≤ F) : G_regulatorref27_SameInts F l m = some (decide (l = m)) := by
 unfold G_regulatorref27_SameInts
 by_cases h : l.length = m.length
 ·rw [show ((((l.length : Nat) : Int)) == ((m.length : Nat) : Int)) = true from beq_iff_eq.2 (by omega), ifB_t, iter_eqL l m h (.inl ()) (.inr ()) ?_ ?_ (by omega)]
  ·cases decide (l = m) <;> rfl
  ·simp only [ltn, ifB_f]
  ·intro k h1 h2; simp only [ltl h1, ifB_t, ixI_get h1, ixI_get h2, ob_some, w64_1 h1 (by omega)]
   by_cases e : l[k] = m[k]
   ·rw [beq_iff_eq.2 e, decide_eq_true e]; rfl
   ·rw [beq_eq_false_iff_ne.2 e, decide_eq_false e]; rfl
 ·rw [show ((((l.length : Nat) : Int)) == ((m.length : Nat) : Int)) = false from beq_eq_false_iff_ne.2 (by omega), decide_eq_false (fun e => h (congrArg _ e))]; rfl
structure ROk (r : KReceipt) : Prop where
 h : r.Head.rng
 e : r.Entry.rng
theorem ROk.of {r : KReceipt} (h : r.rng) : ROk r := ⟨h.r_Head, h.r_Entry⟩
structure POk (p : KProof) : Prop where
 f : ROk p.First
 l : ROk p.Last
 h : ∀ x ∈ p.Hops, x.Of.rng ∧ ROk x.By
theorem POk.of {p : KProof} (h : p.rng) : POk p := ⟨.of h.r_First, .of h.r_Last, fun x hx => ⟨(h.r_Hops x hx).r_Of, .of (h.r_Hops x hx).r_By⟩⟩
def knB (l : List Int) (k : Int) : Bool := decide (1 ≤ k ∧ k ≤ (l.length : Int)) && !(kAt l (k - 1).toNat == 0)
def pubA (l : List Int) (k : Int) : Int := if knB l k then kAt l (k - 1).toNat else 4
theorem pubA_t {l : List Int} {k : Int} (h : knB l k = true) : pubA l k = kAt l (k - 1).toNat := by unfold pubA; rw [h, if_pos rfl]
theorem pubA_f {l : List Int} {k : Int} (h : knB l k = false) : pubA l k = 4 := by unfold pubA; rw [h, if_neg (by decide)]
def rcpS (l : List Int) (r : KReceipt) : Bool × Int := ((chkS (pubA l r.Head.Office) r).1 && knB l r.Head.Office, (chkS (pubA l r.Head.Office) r).2)
theorem rcp_p {l : List Int} {r : KReceipt} (hr : ROk r) {F : Nat} (hF : 64 ≤ F) : G_order_right F l r = some (rcpS l r) := by
 unfold G_order_right rcpS; have hc : ∀ pub, G_office_Check F pub r = some (chkS pub r) := fun pub => check_p hr.h.r_Office hr.h.r_Size hr.e hF
 have hi := inKd_i64 hr.h.r_Office; have fin : ∀ (pub : Int) (b : Bool), Option.bind (G_office_Check F pub r) (un2 fun v_15 v_16 => Option.bind (ifB v_15 (some b) (some false) : Option Bool) fun v_19 => some (v_19, v_16)) = some ((chkS pub r).1 && b, (chkS pub r).2) := fun pub b => by
  rw [hc]; simp only [ob_some, un2]; cases (chkS pub r).1 <;> rfl
 by_cases h1 : 1 ≤ r.Head.Office
 ·by_cases h2 : r.Head.Office ≤ (l.length : Int)
  ·have hk : knB l r.Head.Office = !(kAt l (r.Head.Office - 1).toNat == 0) := by
    unfold knB; rw [decide_eq_true ⟨h1, h2⟩, Bool.true_and]
   cases hz : (kAt l (r.Head.Office - 1).toNat == 0) with
   | true =>
    rw [hz] at hk; rw [pubA_f hk, hk, decide_eq_true h1, decide_eq_true h2, w64_id (n := r.Head.Office - 1) (by omega) (by omega), show r.Head.Office - 1 = (((r.Head.Office - 1).toNat : Nat) : Int) by omega, ixI_nat, kAt_get (by omega)]; simp only [ifB_t, ob_some, hz]; rw [show (!true) = false from rfl, ifB_f, ob_some]; exact fin 4 false
   | false =>
    rw [hz] at hk; rw [pubA_t hk, hk, decide_eq_true h1, decide_eq_true h2, w64_id (n := r.Head.Office - 1) (by omega) (by omega), show r.Head.Office - 1 = (((r.Head.Office - 1).toNat : Nat) : Int) by omega, ixI_nat, kAt_get (by omega)]; simp only [ifB_t, ob_some, hz, Int.toNat_natCast]; rw [show (!false) = true from rfl, ifB_t, ob_some]; exact fin _ true
  ·have hk : knB l r.Head.Office = false := by
    unfold knB; rw [decide_eq_false (fun e => h2 e.2), Bool.false_and]
   rw [decide_eq_true h1, decide_eq_false h2, pubA_f hk, hk]; exact fin 4 false
 ·have hk : knB l r.Head.Office = false := by
   unfold knB; rw [decide_eq_false (fun e => h1 e.1), Bool.false_and]
  rw [decide_eq_false h1, pubA_f hk, hk]; exact fin 4 false
def rcpB (l : List Int) (r : KReceipt) : Bool := knB l r.Head.Office && (chkS (kAt l (r.Head.Office - 1).toNat) r).1
theorem kAt_ok {l : List Int} (h : rgtS l = true) {k : Nat} (hk : k < l.length) : okK (kAt l k) = true := by
 unfold rgtS at h; rw [Bool.and_eq_true] at h; exact frB_iff.1 h.2 k (by omega) (by omega)
theorem pubA_pub {l : List Int} (h : rgtS l = true) (k : Int) : pubB (pubA l k) = true := by
 cases hk : knB l k with
 | false => rw [pubA_f hk]; exact pub4
 | true =>
  rw [pubA_t hk]; unfold knB at hk; simp only [Bool.and_eq_true, decide_eq_true_eq, Bool.not_eq_true'] at hk; have := kAt_ok h (k := (k - 1).toNat) (by omega); unfold okK at this
  rwa [hk.2, Bool.false_or] at this
theorem rcpS_e {l : List Int} {r : KReceipt} (h : rgtS l = true) : ((rcpS l r).2 == 0) = recB r := by
 show ((chkS (pubA l r.Head.Office) r).2 == 0) = recB r
 rw [chkS_e, pubA_pub h, Bool.true_and]
theorem rcpS_b (l : List Int) (r : KReceipt) : (rcpS l r).1 = rcpB l r := by
 show ((chkS (pubA l r.Head.Office) r).1 && knB l r.Head.Office) = (knB l r.Head.Office && (chkS (kAt l (r.Head.Office - 1).toNat) r).1)
 cases hk : knB l r.Head.Office with
 | false => rw [Bool.and_false, Bool.false_and]
 | true => rw [pubA_t hk, Bool.and_true, Bool.true_and]
def hopF (h : KHop) : Bool := recB h.By && (fH h.Of && decide (h.Grow.length ≤ 20))
def prfF (p : KProof) : Bool := (recB p.First && (recB p.Last && (decide (p.Hops.length ≤ 16) && decide (p.Grow.length ≤ 20)))) && p.Hops.all hopF
def hopsB (l : List Int) : KHead → List KHop → Bool
 | _, [] => true
 | f, h :: hs => hopB l f h && hopsB l h.By.Head hs
def endR : KReceipt → List KHop → KReceipt
 | r, [] => r
 | _, h :: hs => endR h.By hs
def lastB (a : KReceipt) (b : KReceipt) (g : List Int) : Bool :=
 (a.Head.Office == b.Head.Office) && (decide (a.Index < b.Index) && (if a.Head.Size ≤ b.Head.Size then growS a.Head.Root b.Head.Root a.Head.Size b.Head.Size g else growS b.Head.Root a.Head.Root b.Head.Size a.Head.Size g))
def ordP (l : List Int) (p : KProof) : Bool := (rcpB l p.First && rcpB l p.Last) && (hopsB l p.First.Head p.Hops && lastB (endR p.First p.Hops) p.Last p.Grow)
def ordS (l : List Int) (p : KProof) : Bool × Int := if rgtS l && prfF p then (ordP l p, 0) else (false, 1)
theorem hopS_of {l : List Int} {f : KHead} {h : KHop} (h1 : rgtS l = true) (h2 : fH f = true) : hopS l f h = if hopF h then (hopB l f h, 0) else (false, 1) := by
 unfold hopS hopC hopF; rw [h1, h2, Bool.true_and, Bool.true_and]
theorem recB_fH {r : KReceipt} (h : recB r = true) : fH r.Head = true := by
 unfold recB at h; rw [Bool.and_eq_true] at h; exact h.1
theorem hopF_fH {h : KHop} (hh : hopF h = true) : fH h.By.Head = true := by
 unfold hopF at hh; rw [Bool.and_eq_true] at hh; exact recB_fH hh.1
abbrev Flat := Int × Int × Int × Int × Int × Int × Int × Int × Int × (List Int)
def flat (r : KReceipt) : Flat := (r.Head.Office, r.Head.Size, r.Head.Root, r.Head.Sig.C, r.Head.Sig.S, r.Index, r.Entry.Doc, r.Entry.Stamp.Lo, r.Entry.Stamp.Hi, r.Path)
def runP (l : List Int) : List KHop → Bool × KReceipt → (Bool × Flat) ⊕ Unit
 | [], b => .inl (b.1, flat b.2)
 | h :: hs, b => if hopF h = true then runP l hs (b.1 && hopB l b.2.Head h, h.By) else .inr ()
theorem runP_eq (l : List Int) : ∀ (hs : List KHop) (b : Bool) (r : KReceipt), runP l hs (b, r) = if hs.all hopF = true then .inl (b && hopsB l r.Head hs, flat (endR r hs)) else .inr ()
 | [], b, r => by simp [runP, hopsB, endR]
 | h :: hs, b, r => by
  rw [runP, List.all_cons, hopsB, endR]; cases hh : hopF h with
  | true =>
   rw [if_pos rfl, runP_eq l hs, Bool.true_and, Bool.and_assoc]
  | false => simp
theorem isKey_p (k : Int) {F : Nat} (hF : 64 ≤ F) : G_order_isKey F k = some (pubB k) := by
 unfold G_order_isKey; rw [right_p (inKd_w (by decide) (by decide)) (inKd_w (by decide) (by decide)) hF, ob_some, un2_p, rightS_e, show fH ⟨1, 1, 0, ⟨0, 0⟩⟩ = true from rfl, Bool.and_true]
theorem badK_p (k : Int) {F : Nat} (hF : 64 ≤ F) : G_order_Check_1 F k = some (!okK k) := by
 unfold G_order_Check_1 okK; rw [isKey_p k hF]; cases (k == 0) <;> cases pubB k <;> rfl
theorem rgt_all (l : List Int) : rgtS l = (decide (l.length ≤ 16) && l.all okK) := by
 unfold rgtS
 congr 1
 rw [Bool.eq_iff_iff, frB_iff, List.all_eq_true]; constructor
 ·intro h x hx; obtain ⟨k, hk, rfl⟩ := List.getElem_of_mem hx; have := h k (by omega) (by omega)
  rwa [show kAt l k = l[k] from Option.some.inj ((kAt_get hk).symm.trans (List.getElem?_eq_getElem hk))] at this
 ·intro h j _ hj; refine h _ ?_; exact List.mem_of_getElem? (kAt_get (by omega))
abbrev Flb := Bool × Int × Int × Int × Int × Int × Int × Int × Int × Int × (List Int)
def flb (b : Bool × KReceipt) : Flb := (b.1, flat b.2)
theorem ord_p {l : List Int} {p : KProof} (hl : l.length ≤ 40) (hp : POk p) (hh : p.Hops.length ≤ 50) {F : Nat} (hF : 64 ≤ F) : G_order_Check F l p = some (ordS l p) := by
 unfold G_order_Check ordS; have hno : (decide (p.Hops.length ≤ 16) && decide (p.Grow.length ≤ 20)) = false → prfF p = false := fun e => by
  unfold prfF; rw [e]; simp
 rw [dnot (p := ((p.Hops.length : Nat) : Int) > 16) (q := p.Hops.length ≤ 16) (by omega), dnot (p := ((p.Grow.length : Nat) : Int) > 20) (q := p.Grow.length ≤ 20) (by omega)]; cases q3 : decide (p.Hops.length ≤ 16) with
 | false =>
  rw [hno (by rw [q3]; rfl), Bool.and_false]; rfl
 | true =>
 cases q4 : decide (p.Grow.length ≤ 20) with
 | false =>
  rw [hno (by rw [q3, q4]; rfl), Bool.and_false]; rfl
 | true =>
 simp only [Bool.not_true, ifB_f, ob_some]; have hbad : ∀ o : Unit ⊕ Int, o = (match l.findIdx? (fun k => !okK k) with | none => .inl () | some k => .inr (k : Int)) → (Option.bind (Option.bind (Option.bind (some o) (Sum.elim (fun (_ : Unit) => some (.inl ())) (fun (v_31 : Int) => some (.inr v_31))) : Option (Unit ⊕ Int)) (Sum.elim (fun (_ : Unit) => some (-1)) (fun (v_33 : Int) => some v_33)) : Option Int) (fun (v_34 : Int) => some (decide (v_34 ≥ 0))) : Option Bool) = some (!l.all okK) := by
  rintro _ rfl; rw [← fd_neg okK l]; cases l.findIdx? (fun k => !okK k) <;> rfl
 rw [rcp_p hp.f hF, rcp_p hp.l hF, ob_some, un2_p, ob_some, un2_p]; rw [iter_fdL l (fun k => !okK k) (.inl ()) (fun k => .inr (k : Int)) ?a1 ?a2 (by omega), hbad _ ?a3]
 case a3 => cases l.findIdx? (fun k => !okK k) <;> rfl
 case a1 => simp only [ltn, ifB_f]
 case a2 =>
  intro k h; simp only [ltl h, ifB_t, ixI_get h, ob_some, w64_1 h (by omega), badK_p _ hF]; cases okK l[k] <;> rfl
 simp only [ob_some]; cases h1 : rgtS l with
 | false =>
  rw [rgt_all] at h1; rw [Bool.false_and, if_neg (by decide), dnot (p := ((l.length : Nat) : Int) > 16) (q := l.length ≤ 16) (by omega)]; cases e1 : ((rcpS l p.First).2 == 0) <;> cases e2 : ((rcpS l p.Last).2 == 0) <;> cases e3 : l.all okK <;> cases e4 : decide (l.length ≤ 16) <;> first | rfl | (rw [e3, e4] at h1; cases h1)
 | true =>
 have h1' := h1; rw [rgt_all, Bool.and_eq_true] at h1'; rw [rcpS_e h1, rcpS_e h1, h1'.2, dnot (p := ((l.length : Nat) : Int) > 16) (q := l.length ≤ 16) (by omega), h1'.1, rcpS_b, rcpS_b]; unfold prfF; rw [q3, q4]; cases q1 : recB p.First with
 | false => rfl
 | true =>
 cases q2 : recB p.Last with
 | false => rfl
 | true =>
 have q3' := of_decide_eq_true q3; have q4' := of_decide_eq_true q4; simp only [ob_some, ifB_t, Bool.not_true, ifB_f, Bool.true_and]; have h0 : (ifB (rcpB l p.First) (some (rcpB l p.Last)) (some false) : Option Bool) = some (rcpB l p.First && rcpB l p.Last) := by
  cases rcpB l p.First <;> rfl
 rw [h0, ob_some]; rw [iter_foldX (β := Bool × KReceipt) (τ := Unit) (fun b k => ((b.1, b.2.Head.Office, b.2.Head.Size, b.2.Head.Root, b.2.Head.Sig.C, b.2.Head.Sig.S, b.2.Index, b.2.Entry.Doc, b.2.Entry.Stamp.Lo, b.2.Entry.Stamp.Hi, b.2.Path, k) : Bool × Int × Int × Int × Int × Int × Int × Int × Int × Int × (List Int) × Int)) p.Hops (fun b h => if hopF h = true then .inl (b.1 && hopB l b.2.Head h, h.By) else .inr ()) (fun b => .inl (flb b)) (fun _ => .inr ()) (fun _ b => fH b.2.Head = true ∧ ROk b.2) (runP l) (fun _ => rfl) (fun x xs b => ?_) (fun b _ => ?_) (fun b k h hb => ⟨?_, fun b' h' => ?_⟩) (by omega) (rcpB l p.First && rcpB l p.Last, p.First) ⟨recB_fH q1, hp.f⟩, runP_eq]
 ·cases p.Hops.all hopF with
  | false => rfl
  | true =>
   simp only [if_true, ob_some, Sum.elim_inl]; unfold ordP lastB flat; simp only [un11, ob_some, Sum.elim_inl]; cases (rcpB l p.First && rcpB l p.Last) with
   | false =>
    by_cases hs : (endR p.First p.Hops).Head.Size > p.Last.Head.Size
    ·rw [decide_eq_true hs]; rfl
    ·rw [decide_eq_false hs]; rfl
   | true =>
   cases hopsB l p.First.Head p.Hops with
   | false =>
    by_cases hs : (endR p.First p.Hops).Head.Size > p.Last.Head.Size
    ·rw [decide_eq_true hs]; rfl
    ·rw [decide_eq_false hs]; rfl
   | true =>
   simp only [Bool.and_true, ifB_t, ob_some, Bool.true_and]; cases (endR p.First p.Hops).Head.Office == p.Last.Head.Office with
   | false =>
    by_cases hs : (endR p.First p.Hops).Head.Size > p.Last.Head.Size
    ·rw [decide_eq_true hs]; rfl
    ·rw [decide_eq_false hs]; rfl
   | true =>
    rw [deq (p := p.Last.Index > (endR p.First p.Hops).Index) (q := (endR p.First p.Hops).Index < p.Last.Index) (by omega)]; cases decide ((endR p.First p.Hops).Index < p.Last.Index) with
    | false =>
     by_cases hs : (endR p.First p.Hops).Head.Size > p.Last.Head.Size
     ·rw [decide_eq_true hs]; rfl
     ·rw [decide_eq_false hs]; rfl
    | true =>
     simp only [ifB_t, ob_some, Bool.true_and]
     by_cases hs : (endR p.First p.Hops).Head.Size ≤ p.Last.Head.Size
     ·rw [decide_eq_false (p := (endR p.First p.Hops).Head.Size > p.Last.Head.Size) (by omega), if_pos hs, ifB_f, ob_some]; simp only [un10]; rw [pgrow _ _ _ _ _ (by omega) hF]; rfl
     ·rw [decide_eq_true (p := (endR p.First p.Hops).Head.Size > p.Last.Head.Size) (by omega), if_neg hs, ifB_t, ob_some]; simp only [un10]; rw [pgrow _ _ _ _ _ (by omega) hF]; rfl
 ·rw [runP]; cases hopF x <;> rfl
 ·simp only [un12, ltn, ifB_f]; rfl
 ·have hm := hp.h _ (List.getElem_mem h); simp only [un12, ltl h, ifB_t, ixI_get h, ob_some, w64_1 h (by omega)]; rw [show (⟨b.2.Head.Office, b.2.Head.Size, b.2.Head.Root, ⟨b.2.Head.Sig.C, b.2.Head.Sig.S⟩⟩ : KHead) = b.2.Head from rfl, hop_p hl hb.2.h hm.1 hm.2.h hm.2.e hF, hopS_of h1 hb.1]; simp only [ob_some, un2]; obtain ⟨b1, b2⟩ := b; cases hopF p.Hops[k] <;> cases b1 <;> rfl
 ·split at h'
  ·cases h'
   rename_i hq
   exact ⟨hopF_fH hq, (hp.h _ (List.getElem_mem h)).2⟩
  ·cases h'
end Go.Proofs.YtggaodokkcoagaaGreatDoor
namespace Go.Proofs.YtggaodokkcoagaaGreatDoor
def offK (l : List KOffice) (k : Int) : KOffice := mpG (l.map fun o => (o.ID, o)) k KOffice.z
def offH (l : List KOffice) (k : Int) : Bool := mpH (l.map fun o => (o.ID, o)) k
theorem offK_cons (o : KOffice) (l : List KOffice) (k : Int) : offK (o :: l) k = if k == o.ID then o else offK l k := by
 unfold offK mpG; rw [List.map_cons, List.find?_cons]; cases k == o.ID <;> rfl
theorem offH_cons (o : KOffice) (l : List KOffice) (k : Int) : offH (o :: l) k = ((k == o.ID) || offH l k) := by
 unfold offH mpH; rw [List.map_cons, List.any_cons]
theorem offK_cases (l : List KOffice) (k : Int) : (offK l k = KOffice.z ∧ offH l k = false) ∨ (offK l k ∈ l ∧ (offK l k).ID = k ∧ offH l k = true) := by
 induction l with
 | nil => exact .inl ⟨rfl, rfl⟩
 | cons o l ih =>
  rw [offK_cons, offH_cons]; cases h : k == o.ID with
  | true => exact .inr ⟨List.mem_cons_self, (eq_of_beq h).symm, rfl⟩
  | false =>
   rw [if_neg (by decide), Bool.false_or]; rcases ih with h1 | ⟨h1, h2⟩
   ·exact .inl h1
   ·exact .inr ⟨List.mem_cons_of_mem _ h1, h2⟩
structure FewO (l : List KOffice) : Prop where
 n : l.length ≤ 6
 e : ∀ o ∈ l, o.Entries.length ≤ 50
 r : ∀ o ∈ l, o.rng
theorem z_rng : KOffice.z.rng := ⟨inKd_w (by decide) (by decide), fun y hy => absurd hy List.not_mem_nil⟩
theorem FewO.rng {l : List KOffice} (h : FewO l) (k : Int) : (offK l k).rng := by
 rcases offK_cases l k with ⟨e, _⟩ | ⟨e, _⟩
 ·rw [e]; exact z_rng
 ·exact h.r _ e
theorem FewO.len {l : List KOffice} (h : FewO l) (k : Int) : (offK l k).Entries.length ≤ 50 := by
 rcases offK_cases l k with ⟨e, _⟩ | ⟨e, _⟩
 ·rw [e]; decide
 ·exact h.e _ e
def arcF : Int → List KOffice → Bool
 | _, [] => true
 | a, o :: os => (vO o && decide (a < o.ID)) && arcF o.ID os
def arcO (l : List KOffice) (heads : List KHead) : Korder_archive := ⟨l.map fun o => (o.ID, o), heads⟩
def arcS (l : List KOffice) (heads : List KHead) : Option Korder_archive × Int :=
 if decide (l.length ≤ 4) && decide (heads.length ≤ 12) then (if arcF 0 l && heads.all fH then (some (arcO l heads), 0) else (none, 1)) else (none, 2)
def runA : List KOffice → List (Int × KOffice) × Int → List (Int × KOffice) ⊕ Unit
 | [], b => .inl b.1
 | o :: os, b => if (vO o && decide (b.2 < o.ID)) = true then runA os (mpS b.1 o.ID o, o.ID) else .inr ()
theorem mpS_new {α : Type} (k : Int) (x : α) : ∀ m : List (Int × α), (∀ p ∈ m, p.1 < k) → mpS m k x = m ++ [(k, x)]
 | [], _ => rfl
 | p :: m, h => by
  have h1 := h p List.mem_cons_self; rw [mpS, if_neg (by rw [beq_iff_eq]; omega), mpS_new k x m fun q hq => h q (List.mem_cons_of_mem _ hq)]; rfl
theorem runA_eq : ∀ (l : List KOffice) (m : List (Int × KOffice)) (a : Int), (∀ p ∈ m, p.1 ≤ a) → runA l (m, a) = if arcF a l = true then .inl (m ++ l.map fun o => (o.ID, o)) else .inr ()
 | [], m, a, _ => by simp [runA, arcF]
 | o :: os, m, a, h => by
  rw [runA, arcF]; cases hv : (vO o && decide (a < o.ID)) with
  | false => simp
  | true =>
   have ha : a < o.ID := by
    rw [Bool.and_eq_true] at hv; exact of_decide_eq_true hv.2
   rw [if_pos rfl, mpS_new o.ID o m fun p hp => by have := h p hp; omega, runA_eq os _ _ (fun p hp => ?_), Bool.true_and]
   ·rw [List.append_assoc]; rfl
   ·rcases List.mem_append.1 hp with hp | hp
    ·have := h p hp; omega
    ·rw [List.mem_singleton] at hp; subst hp; exact Int.le_refl _
theorem arc_p {l : List KOffice} {heads : List KHead} (hl : FewO l) (hh : ∀ h ∈ heads, h.rng) {F : Nat} (hF : 64 ≤ F) : G_order_newArchive F l heads = some (arcS l heads) := by
 unfold G_order_newArchive arcS; rw [dnot (p := ((l.length : Nat) : Int) > 4) (q := l.length ≤ 4) (by omega), dnot (p := ((heads.length : Nat) : Int) > 12) (q := heads.length ≤ 12) (by omega)]; cases q1 : decide (l.length ≤ 4) with
 | false => rfl
 | true =>
 cases q2 : decide (heads.length ≤ 12) with
 | false => rfl
 | true =>
 have q2' := of_decide_eq_true q2; have hn := hl.n; simp only [Bool.not_true, ifB_f, ob_some, un2, Bool.true_and, if_true]; rw [iter_foldX (β := List (Int × KOffice) × Int) (τ := Unit) (fun b i => ((i, b.1, b.2) : Int × List (Int × KOffice) × Int)) l (fun b o => if (vO o && decide (b.2 < o.ID)) = true then .inl (mpS b.1 o.ID o, o.ID) else .inr ()) (fun b => .inl b.1) (fun _ => .inr ()) (fun _ _ => True) runA (fun _ => rfl) (fun x xs b => ?_) (fun b _ => ?_) (fun b k h _ => ⟨?_, fun _ _ => trivial⟩) (by omega) ([], 0) trivial, runA_eq _ _ _ (fun p hp => absurd hp List.not_mem_nil)]
 ·cases arcF 0 l with
  | false => rfl
  | true =>
   simp only [if_true, ob_some, Sum.elim_inl, List.nil_append, Bool.true_and]; rw [iter_allL heads fH (.inl ()) (.inr ()) ?_ ?_ (by omega)]
   ·cases heads.all fH <;> rfl
   ·simp only [ltn, ifB_f]
   ·intro k h; have hr := hh _ (List.getElem_mem h); simp only [ltl h, ifB_t, ixI_get h, ob_some, w64_1 h (by omega)]; rw [right_p hr.r_Office hr.r_Size hF, ob_some, un2_p, rightS_e, pub4, Bool.true_and]; cases fH heads[k] <;> rfl
 ·rw [runA]; cases (vO x && decide (b.2 < x.ID)) <;> rfl
 ·simp only [un3, ltn, ifB_f]
 ·simp only [un3, ltl h, ifB_t, ixI_get h, ob_some, w64_1 h (by omega)]; rw [valid_p (hl.e _ (List.getElem_mem h)) hF, ob_some]; cases vO l[k] with
  | false => rfl
  | true =>
   rw [ifB_t, ob_some, Bool.true_and, dnot (p := l[k].ID ≤ b.2) (q := b.2 < l[k].ID) (by omega)]; cases decide (b.2 < l[k].ID) <;> rfl
def entB (l : List KOffice) (id i : Int) : Bool := offH l id && (decide (0 ≤ i) && decide (i < ((offK l id).Entries.length : Int)))
theorem ent_p (l : List KOffice) (heads : List KHead) (id i : Int) (F : Nat) : G_order_archive_has F (arcO l heads) id i = some (entB l id i) := by
 show Option.bind (some (offK l id, offH l id)) _ = _
 unfold entB; rw [ob_some, un2_p]; cases offH l id <;> cases decide (0 ≤ i) <;> rfl
def whB (l : List KOffice) (h : KHead) : Bool := (provS (offK l h.Office) h 0).2 == 0
theorem wh_p {l : List KOffice} {heads : List KHead} (hl : FewO l) (hn : heads.length ≤ 12) {F : Nat} (hF : 64 ≤ F) : G_order_archive_whole F (arcO l heads) = some (heads.all (whB l)) := by
 unfold G_order_archive_whole; rw [show (arcO l heads).heads = heads from rfl, iter_fdL heads (fun h => !whB l h) (.inl ()) (fun k => .inr (k : Int)) ?a1 ?a2 (by omega)]
 case a1 => simp only [ltn, ifB_f]
 case a2 =>
  intro k h; simp only [ltl h, ifB_t, ixI_get h, ob_some, w64_1 h (by omega)]; rw [show mpG (arcO l heads).offices heads[k].Office KOffice.z = offK l heads[k].Office from rfl, prove_p (hl.rng _) (hl.len _) hF, ob_some, un2_p, ob_some]
  show ifB (!whB l heads[k]) _ _ = _
  cases whB l heads[k] <;> rfl
 ·have e := fd_neg (whB l) heads; rw [← Bool.not_not (b := heads.all (whB l)), ← e]; cases heads.findIdx? (fun h => !whB l h) <;> rfl
structure HdOk (l : List KOffice) (h : KHead) : Prop where
 f : fH h = true
 v : vO (offK l h.Office) = true
 s : hasS (offK l h.Office) h = true
 o : offH l h.Office = true
theorem vO_z : vO KOffice.z = false := by decide
theorem hdOk_of {l : List KOffice} {h : KHead} (hh : whB l h = true) : HdOk l h := by
 have h0 : (provS (offK l h.Office) h 0).2 = 0 := eq_of_beq hh; unfold provS at h0; cases h1 : (vO (offK l h.Office) && (fH h && decide (h.Size ≤ (offK l h.Office).Entries.length ∧ (0 : Int) ≤ 0 ∧ 0 < h.Size))) with
 | false => rw [h1] at h0; simp at h0
 | true =>
  rw [h1, if_pos rfl] at h0; simp only [Bool.and_eq_true, decide_eq_true_eq] at h1
  split at h0
  ·rename_i h2
   have h2 := of_decide_eq_true h2; refine ⟨h1.2.1, h1.1, ?_, ?_⟩
   ·unfold hasS; rw [decide_eq_true h2.1, decide_eq_true h1.2.2.1, decide_eq_true h2.2.symm]; rfl
   ·rcases offK_cases l h.Office with ⟨e, _⟩ | ⟨_, _, e⟩
    ·rw [e, vO_z] at h1; simp at h1
    ·exact e
  ·simp at h0
theorem HdOk.size {l : List KOffice} {h : KHead} (q : HdOk l h) : 1 ≤ h.Size ∧ h.Size ≤ ((offK l h.Office).Entries.length : Int) := ⟨(fH_size q.f).1, (hasS_spec q.s).2.1⟩
def zHd : KHead := ⟨0, 0, 0, ⟨0, 0⟩⟩
def lastH (c : Korder_chain) : KHead := c.heads.getD (c.heads.length - 1) zHd
theorem last_p {c : Korder_chain} (h : 0 < c.heads.length) (h2 : c.heads.length ≤ 100) (F : Nat) : G_order_chain_last F c = some (lastH c) := by
 unfold G_order_chain_last lastH; rw [w64_p h (by omega), ixI_get (by omega), List.getD_eq_getElem?_getD, List.getElem?_eq_getElem (by omega)]; rfl
def atS (l : List KOffice) (h : KHead) (d : Int) : Option Nat := ((offK l h.Office).Entries.take h.Size.toNat).findIdx? fun e => e.Doc == d
def nextS (l : List KOffice) (c : Korder_chain) (h : KHead) : Option Korder_chain :=
 if c.heads.any (fun g => g.Office == h.Office) then none else (atS l h (digF (lastH c))).map fun x => ⟨c.heads ++ [h], x⟩
def longS (l : List KOffice) (heads : List KHead) (c : Korder_chain) : List Korder_chain := heads.filterMap (nextS l c)
def snocO {β : Type} (b : List β) : Option β → List β
 | some y => b ++ [y]
 | none => b
theorem fold_fm {α β : Type} (f : α → Option β) : ∀ (l : List α) (b : List β), l.foldl (fun b x => snocO b (f x)) b = b ++ l.filterMap f
 | [], b => by simp
 | x :: l, b => by
  rw [List.foldl_cons, fold_fm f l, List.filterMap_cons]; cases f x <;> simp [snocO]
theorem sliTo {α : Type} {l : List α} {n : Int} (h : 0 ≤ n) (h2 : n ≤ (l.length : Int)) : slI l 0 n = some (l.take n.toNat) := by
 unfold slI; rw [if_pos (by omega)]
 simp
theorem long_p {l : List KOffice} {heads : List KHead} {c : Korder_chain} (hl : FewO l) (hn : heads.length ≤ 12) (hr : ∀ h ∈ heads, HdOk l h) (h1 : 0 < c.heads.length) (h2 : c.heads.length ≤ 12) (h3 : (lastH c).rng) {F : Nat} (hF : 64 ≤ F) :
  G_order_archive_longer F (arcO l heads) c = some (longS l heads c) := by
 unfold G_order_archive_longer; rw [last_p h1 (by omega), ob_some, dig_p h3 hF, ob_some, show (arcO l heads).heads = heads from rfl]; rw [iter_fold (fun (b : List Korder_chain) i => (i, b)) heads (fun b x => snocO b (nextS l c x)) id (fun k b => b.length ≤ k) (fun b _ => ?_) (fun b k h hb => ⟨?_, ?_⟩) (by omega) [] (by simp), fold_fm]
 ·rfl
 ·simp only [un2, ltn, ifB_f, id]
 ·have hk := hr _ (List.getElem_mem h); simp only [un2, ltl h, ifB_t, ixI_get h, ob_some, w64_1 h (by omega)]; rw [iter_fdL c.heads (fun g => g.Office == heads[k].Office) (.inl ()) (fun _ => .inr ()) ?a1 ?a2 (by omega)]
  case a1 => simp only [ltn, ifB_f]
  case a2 =>
   intro j hj; simp only [ltl hj, ifB_t, ixI_get hj, ob_some, w64_1 hj (by omega)]; cases c.heads[j].Office == heads[k].Office <;> rfl
  unfold nextS; have hany : c.heads.any (fun g => g.Office == heads[k].Office) = (c.heads.findIdx? (fun g => g.Office == heads[k].Office)).isSome := by
   rw [List.findIdx?_isSome]
  rw [hany]; cases c.heads.findIdx? (fun g => g.Office == heads[k].Office) with
  | some j => rfl
  | none =>
   have hs := hk.size; have hlen := hl.len heads[k].Office; simp only [ob_some, Sum.elim_inl, Option.isSome_none, Bool.false_eq_true, if_false]; rw [show mpG (arcO l heads).offices heads[k].Office KOffice.z = offK l heads[k].Office from rfl, sliTo (by omega) hs.2, ob_some]; have htl : ((offK l heads[k].Office).Entries.take heads[k].Size.toNat).length ≤ 50 := by rw [List.length_take]; omega
   rw [iter_fdL ((offK l heads[k].Office).Entries.take heads[k].Size.toNat) (fun e => e.Doc == digF (lastH c)) (.inl ()) (fun j => .inr (j : Int)) ?b1 ?b2 (by omega)]
   case b1 => simp only [ltn, ifB_f]
   case b2 =>
    intro j hj; simp only [ltl hj, ifB_t, ixI_get hj, ob_some, w64_1 hj (by omega)]; cases ((offK l heads[k].Office).Entries.take heads[k].Size.toNat)[j].Doc == digF (lastH c) <;> rfl
   show _ = some (Sum.inl _)
   unfold atS; cases ((offK l heads[k].Office).Entries.take heads[k].Size.toNat).findIdx? (fun e => e.Doc == digF (lastH c)) with
   | none => rfl
   | some j =>
    simp only [ob_some, Sum.elim_inr]; rw [decide_eq_true (p := ((j : Nat) : Int) ≥ 0) (by omega), ifB_t, apG_ok (by simp only [List.length_nil]; omega), ob_some, apG_ok (by simp only [List.length_cons, List.length_nil]; omega), ob_some, apG_ok (by simp only [List.length_cons, List.length_nil]; omega)]; rfl
 ·cases nextS l c heads[k] with
  | none => exact Nat.le_succ_of_le hb
  | some y => simp only [snocO, List.length_append, List.length_cons, List.length_nil]; omega
end Go.Proofs.YtggaodokkcoagaaGreatDoor
namespace Go.Proofs.YtggaodokkcoagaaGreatDoor
theorem lastH_get {c : Korder_chain} (h : 0 < c.heads.length) : c.heads[c.heads.length - 1]? = some (lastH c) := by
 unfold lastH; rw [List.getD_eq_getElem?_getD, List.getElem?_eq_getElem (by omega)]; rfl
theorem lastH_mem {c : Korder_chain} (h : 0 < c.heads.length) : lastH c ∈ c.heads := List.mem_of_getElem? (lastH_get h)
structure COk (heads : List KHead) (n : Nat) (c : Korder_chain) : Prop where
 n : c.heads.length = n
 m : ∀ h ∈ c.heads, h ∈ heads
theorem next_spec {l : List KOffice} {c d : Korder_chain} {h : KHead} (e : nextS l c h = some d) : (c.heads.any (fun g => g.Office == h.Office)) = false ∧ ∃ x, atS l h (digF (lastH c)) = some x ∧ d = ⟨c.heads ++ [h], x⟩ := by
 unfold nextS at e
 split at e
 ·cases e
 ·rename_i h0
  cases ha : atS l h (digF (lastH c)) with
  | none => rw [ha] at e; cases e
  | some x => rw [ha] at e; exact ⟨by simpa using h0, x, rfl, (Option.some.inj e).symm⟩
theorem long_ok {l : List KOffice} {heads : List KHead} {n : Nat} {c d : Korder_chain} (hc : COk heads n c) (hd : d ∈ longS l heads c) : COk heads (n + 1) d := by
 unfold longS at hd; rw [List.mem_filterMap] at hd; obtain ⟨h, hh, e⟩ := hd; obtain ⟨_, x, _, rfl⟩ := next_spec e; refine ⟨by simp [hc.n], fun g hg => ?_⟩; rcases List.mem_append.1 hg with hg | hg
 ·exact hc.m g hg
 ·rw [List.mem_singleton] at hg; rw [hg]; exact hh
theorem long_len (l : List KOffice) (heads : List KHead) (c : Korder_chain) : (longS l heads c).length ≤ heads.length := List.length_filterMap_le _ _
def finB (dst k : Int) (c : Korder_chain) : Bool := ((lastH c).Office == dst) && (decide ((lastH c).Size > k) && decide (k > c.at_))
def lev0 (heads : List KHead) (from_ i : Int) : List Korder_chain := heads.filterMap fun h => if ((h.Office == from_) && decide (h.Size > i)) = true then some ⟨[h], i⟩ else none
def goS (l : List KOffice) (heads : List KHead) (dst k : Int) : Nat → List Korder_chain → Option Korder_chain
 | 0, _ => none
 | n + 1, lv => match lv.find? (finB dst k) with
  | some c => some c
  | none => goS l heads dst k n (lv.flatMap (longS l heads))
def srchS (l : List KOffice) (heads : List KHead) (from_ i dst k : Int) : Option Korder_chain := goS l heads dst k 4 (lev0 heads from_ i)
theorem lev0_ok {heads : List KHead} {from_ i : Int} {c : Korder_chain} (hc : c ∈ lev0 heads from_ i) : COk heads 1 c ∧ (∃ h, h ∈ heads ∧ c = ⟨[h], i⟩ ∧ h.Office = from_ ∧ h.Size > i) := by
 unfold lev0 at hc; rw [List.mem_filterMap] at hc; obtain ⟨h, hh, e⟩ := hc
 split at e
 ·rename_i h0
  cases e; rw [Bool.and_eq_true, beq_iff_eq, decide_eq_true_eq] at h0; exact ⟨⟨rfl, fun g hg => by rw [List.mem_singleton] at hg; rw [hg]; exact hh⟩, h, hh, rfl, h0.1, h0.2⟩
 ·cases e
theorem flat_len {α β : Type} (f : α → List β) (m : Nat) (hf : ∀ x, (f x).length ≤ m) : ∀ l : List α, (l.flatMap f).length ≤ l.length * m
 | [] => by simp
 | x :: l => by
  rw [List.flatMap_cons, List.length_append, List.length_cons, Nat.add_mul]; have := flat_len f m hf l; have := hf x; omega
def runV (l : List KOffice) (heads : List KHead) (dst k : Int) : List Korder_chain → List Korder_chain → List Korder_chain ⊕ Korder_chain
 | [], b => .inl b
 | c :: cs, b => if finB dst k c = true then .inr c else runV l heads dst k cs (b ++ longS l heads c)
theorem runV_eq (l : List KOffice) (heads : List KHead) (dst k : Int) : ∀ (cs b : List Korder_chain), runV l heads dst k cs b = match cs.find? (finB dst k) with | some c => .inr c | none => .inl (b ++ cs.flatMap (longS l heads))
 | [], b => by simp [runV]
 | c :: cs, b => by
  rw [runV, List.find?_cons]; cases finB dst k c with
  | true => rfl
  | false =>
   rw [if_neg (by decide), runV_eq l heads dst k cs]; simp only [List.flatMap_cons, List.append_assoc]
def stepS (l : List KOffice) (heads : List KHead) (dst k : Int) (lv : List Korder_chain) : List Korder_chain ⊕ Korder_chain := runV l heads dst k lv []
def runG (l : List KOffice) (heads : List KHead) (dst k : Int) : List Nat → List Korder_chain → Unit ⊕ Korder_chain
 | [], _ => .inl ()
 | _ :: ns, lv => match stepS l heads dst k lv with
  | .inl lv' => runG l heads dst k ns lv'
  | .inr c => .inr c
theorem runG_eq (l : List KOffice) (heads : List KHead) (dst k : Int) : ∀ (ns : List Nat) (lv : List Korder_chain), runG l heads dst k ns lv = match goS l heads dst k ns.length lv with | some c => .inr c | none => .inl ()
 | [], lv => rfl
 | n :: ns, lv => by
  rw [runG, stepS, runV_eq, List.length_cons, goS]; cases lv.find? (finB dst k) with
  | some c => rfl
  | none =>
   simp only [List.nil_append]; exact runG_eq l heads dst k ns _
def outS : Option Korder_chain → Korder_chain × Bool
 | some c => (c, true)
 | none => (⟨[], 0⟩, false)
theorem srch_p {l : List KOffice} {heads : List KHead} {from_ i dst k : Int} (hl : FewO l) (hn : heads.length ≤ 12) (hr : ∀ h ∈ heads, HdOk l h) (hg : ∀ h ∈ heads, h.rng) {F : Nat} (hF : 21000 ≤ F) :
  G_order_archive_search F (arcO l heads) from_ i dst k = some (outS (srchS l heads from_ i dst k)) := by
 unfold G_order_archive_search srchS; rw [show (arcO l heads).heads = heads from rfl]; rw [iter_fold (fun (b : List Korder_chain) j => ((b, i, j, dst, k) : List Korder_chain × Int × Int × Int × Int)) heads (fun b h => snocO b (if ((h.Office == from_) && decide (h.Size > i)) = true then some ⟨[h], i⟩ else none)) (fun b => (b, dst, k)) (fun j b => b.length ≤ j) (fun b _ => ?_) (fun b j h hb => ⟨?_, ?_⟩) (by omega) [] (by simp), fold_fm]
 ·rw [show (fun h : KHead => if ((h.Office == from_) && decide (h.Size > i)) = true then some (⟨[h], i⟩ : Korder_chain) else none) = (fun h : KHead => if ((h.Office == from_) && decide (h.Size > i)) = true then some ⟨[h], i⟩ else none) from rfl, show ([] : List Korder_chain) ++ heads.filterMap (fun h : KHead => if ((h.Office == from_) && decide (h.Size > i)) = true then some ⟨[h], i⟩ else none) = lev0 heads from_ i from List.nil_append _]; simp only [ob_some, un3]; rw [iter_foldX (β := List Korder_chain) (τ := Korder_chain) (fun b j => ((b, j) : List Korder_chain × Int)) (List.range 4) (fun b _ => stepS l heads dst k b) (fun _ => .inl ()) (fun c => .inr c) (fun j b => b.length ≤ 12 ^ (j + 1) ∧ ∀ c ∈ b, COk heads (j + 1) c) (runG l heads dst k) (fun _ => rfl) (fun x xs b => ?_) (fun b _ => ?_) (fun b j h hb => ⟨?_, fun b' h' => ?_⟩) (by rw [List.length_range]; omega) (lev0 heads from_ i) ⟨?_, fun c hc => (lev0_ok hc).1⟩, runG_eq]
  ·rw [List.length_range]; cases goS l heads dst k 4 (lev0 heads from_ i) <;> rfl
  ·refine Nat.le_trans (List.length_filterMap_le _ _) ?_
   simpa using hn
  ·rw [runG]; cases stepS l heads dst k b <;> rfl
  ·rw [List.length_range]; rfl
  ·rw [List.length_range] at h; simp only [un2]; rw [decide_eq_true (p := (j : Int) < 4) (by omega), ifB_t]; have hp : 12 ^ (j + 1) ≤ 20736 := Nat.le_trans (Nat.pow_le_pow_right (by decide) (by omega : j + 1 ≤ 4)) (by decide); rw [iter_foldX (β := List Korder_chain) (τ := Korder_chain) (fun b j => ((b, j) : List Korder_chain × Int)) b (fun b c => if finB dst k c = true then .inr c else .inl (b ++ longS l heads c)) (fun b => .inl b) (fun c => .inr c) (fun j b => b.length ≤ j * 12) (runV l heads dst k) (fun _ => rfl) (fun x xs b => ?_) (fun b _ => ?_) (fun b' j' h' hb' => ⟨?_, fun b'' h'' => ?_⟩) (by omega) [] (by simp)]
   ·rw [w64_id (n := (j : Int) + 1) (by omega) (by omega)]; unfold stepS; cases runV l heads dst k b [] <;> rfl
   ·rw [runV]; split <;> rfl
   ·simp only [un2, ltn, ifB_f]
   ·have hc := hb.2 _ (List.getElem_mem h'); have h0 : 0 < b[j'].heads.length := by rw [hc.n]; omega
    have h12 : b[j'].heads.length ≤ 12 := by rw [hc.n]; omega
    simp only [un2, ltl h', ifB_t, ixI_get h', ob_some, w64_1 h' (by omega)]; rw [last_p h0 (by omega), ob_some]; have e1 : (ifB ((lastH b[j']).Office == dst) (ifB (decide ((lastH b[j']).Size > k)) (some (decide (k > b[j'].at_))) (some false)) (some false) : Option Bool) = some (finB dst k b[j']) := by
     unfold finB; cases ((lastH b[j']).Office == dst) <;> cases decide ((lastH b[j']).Size > k) <;> rfl
    rw [e1, ob_some]; cases finB dst k b[j'] with
    | true => rfl
    | false =>
     have hlo := long_len l heads b[j']; rw [ifB_f, long_p hl hn hr h0 h12 (hg _ (hc.m _ (lastH_mem h0))) (by omega), ob_some, apG_ok (by omega)]; rfl
   ·split at h''
    ·cases h''
    ·cases h''; have hlo := long_len l heads b[j']; rw [List.length_append, Nat.add_mul]; omega
  ·unfold stepS at h'; rw [runV_eq] at h'; cases hf : b.find? (finB dst k) with
   | some c => rw [hf] at h'; cases h'
   | none =>
    rw [hf] at h'; cases h'; rw [List.nil_append]; refine ⟨?_, fun c hc => ?_⟩
    ·refine Nat.le_trans (flat_len (longS l heads) 12 (fun x => Nat.le_trans (long_len l heads x) hn) b) ?_; rw [Nat.pow_succ]; exact Nat.mul_le_mul_right 12 hb.1
    ·obtain ⟨d, hd, hc⟩ := List.mem_flatMap.1 hc; exact long_ok (hb.2 d hd) hc
 ·simp only [un5, ltn, ifB_f]
 ·simp only [un5, ltl h, ifB_t, ixI_get h, ob_some, w64_1 h (by omega)]; have e1 : (ifB (heads[j].Office == from_) (some (decide (heads[j].Size > i))) (some false) : Option Bool) = some ((heads[j].Office == from_) && decide (heads[j].Size > i)) := by
   cases heads[j].Office == from_ <;> rfl
  rw [e1, ob_some]; cases ((heads[j].Office == from_) && decide (heads[j].Size > i)) with
  | false => rfl
  | true =>
   rw [ifB_t, apG_ok (by simp only [List.length_cons, List.length_nil]; omega)]; rfl
 ·split
  ·simp only [snocO, List.length_append, List.length_cons, List.length_nil]; omega
  ·exact Nat.le_succ_of_le hb
end Go.Proofs.YtggaodokkcoagaaGreatDoor
