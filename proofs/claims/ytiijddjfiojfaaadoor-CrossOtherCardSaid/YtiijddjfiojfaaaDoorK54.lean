/-
  Texts joined: Z8, Z9, Z10, Za, Ma, OpA, OpR, OpZ, Mb, Mc, Rg, Lw24, Md, Me, Mf, Na, Nb, Nc, Nd, TbL.
-/
import Derived.Test.YtiijddjfiojfaaaDoorProg
import Derived.Test.YtiijddjfiojfaaaDoorRows
import Derived.ProofKit
import Derived.OpenShut
import Derived.Carry
import Derived.ChangeSame
import Derived.Deep.Slices
import Derived.Lib.SmallJoins
import Derived.KernelRfl
import Derived.Lib.LaidU8
import Derived.Test.YtiijddjfiojfaaaDoorK50
import Derived.Test.YtiijddjfiojfaaaDoorK51
import Derived.Test.YtiijddjfiojfaaaDoorK52
import Derived.Test.YtiijddjfiojfaaaDoorK53
namespace Go.Proofs.YtiijddjfiojfaaaDoor
open Go.RowKit Go.Maps
def G_regulatorlaw26_head (F : Nat)  : Option (Bool) :=
  Option.bind (G_office_Sign F (⟨1, ([(⟨7, (⟨0, 0⟩ : KInterval)⟩ : KEntry), (⟨8, (⟨0, 0⟩ : KInterval)⟩ : KEntry)] : List KEntry)⟩ : KOffice) 1 5 7) (un2 fun v_5 v_6 =>
  Option.bind (G_office_Sign F (⟨1, ([(⟨7, (⟨0, 0⟩ : KInterval)⟩ : KEntry), (⟨8, (⟨0, 0⟩ : KInterval)⟩ : KEntry)] : List KEntry)⟩ : KOffice) 2 5 8) (un2 fun v_8 v_9 =>
  Option.bind (G_office_Sign F (⟨1, ([(⟨7, (⟨0, 0⟩ : KInterval)⟩ : KEntry), (⟨9, (⟨0, 0⟩ : KInterval)⟩ : KEntry)] : List KEntry)⟩ : KOffice) 2 5 9) (un2 fun v_11 v_12 =>
  Option.bind (G_cross_Digest F v_8) (fun v_14 =>
  Option.bind (G_office_Sign F (⟨2, ([(⟨v_14, (⟨0, 0⟩ : KInterval)⟩ : KEntry)] : List KEntry)⟩ : KOffice) 1 6 7) (un2 fun v_17 v_18 =>
  Option.bind (G_cross_Witness F (⟨1, ([(⟨7, (⟨0, 0⟩ : KInterval)⟩ : KEntry), (⟨8, (⟨0, 0⟩ : KInterval)⟩ : KEntry)] : List KEntry)⟩ : KOffice) v_5 v_8 (⟨2, ([(⟨v_14, (⟨0, 0⟩ : KInterval)⟩ : KEntry)] : List KEntry)⟩ : KOffice) v_17) (un2 fun v_20 v_21 =>
  Option.bind (G_cross_Check F ([1024, 4096] : List Int) v_5 v_20) (un2 fun v_24 v_25 =>
  Option.bind (G_cross_Check F ([1024] : List Int) v_5 v_20) (un2 fun v_27 v_28 =>
  Option.bind (G_cross_Forks F 1024 v_8 v_11 ([] : List Int)) (un2 fun v_29 v_30 =>
  Option.bind (G_cross_Witness F (⟨1, ([(⟨7, (⟨0, 0⟩ : KInterval)⟩ : KEntry), (⟨8, (⟨0, 0⟩ : KInterval)⟩ : KEntry)] : List KEntry)⟩ : KOffice) v_5 v_5 (⟨2, ([(⟨v_14, (⟨0, 0⟩ : KInterval)⟩ : KEntry)] : List KEntry)⟩ : KOffice) v_17) (un2 fun v_31 v_32 =>
  Option.bind (ifB ((v_6 == 0))
      (ifB ((v_9 == 0))
        (ifB ((v_12 == 0))
          (ifB ((v_18 == 0))
            (ifB ((v_21 == 0))
              (ifB ((v_25 == 0))
                (ifB ((v_28 == 0))
                  (ifB ((v_30 == 0))
                    (some (v_32 == 4))
                    (some false))
                  (some false))
                (some false))
              (some false))
            (some false))
          (some false))
        (some false))
      (some false) : Option (Bool)) (fun (v_43 : Bool) => 
    Option.bind (ifB (v_43)
        (ifB (decide (v_20.Of = v_8))
          (ifB ((((v_20.Grow.length : Nat) : Int) == 1))
            (Option.bind (ixI v_20.Grow 0) (fun v_47 =>
            Option.bind (ixI ([(⟨7, (⟨0, 0⟩ : KInterval)⟩ : KEntry), (⟨8, (⟨0, 0⟩ : KInterval)⟩ : KEntry)] : List KEntry) 1) (fun v_50 =>
            Option.bind (G_regulatorref25_Leaf F v_50) (fun v_53 =>
            Option.bind (G_regulatorref24_Leaf F v_53) (fun v_54 =>
            ifB ((v_47 == v_54))
              (ifB (v_24)
                (ifB (v_27)
                  (some false)
                  (some v_29))
                (some false))
              (some false))))))
            (some false))
          (some false))
        (some false) : Option (Bool)) (fun (v_59 : Bool) => 
      some v_59))))))))))))
set_option maxRecDepth 100000 in
set_option maxHeartbeats 16000000 in
theorem z_regulatorlaw26_head (F : Nat)  (r : Bool) (hG : G_regulatorlaw26_head F  = some r) :
  Cf Tryd.prog 8 [] [] (B r) := by
 unfold G_regulatorlaw26_head at hG; refine fi Tryd.func8 rfl rfl m0 fun S0 w0 hT => ?_
 refine sq ?_; refine rg ?_; refine ra [] f0 [] ?_; refine tN ?_; refine sq ?_; refine rg ?_; refine rn 2 [] f0 [(24, .agg #[U 7, I 0, I 0]), (25, .agg #[U 8, I 0, I 0])] ?_; refine l1 ?_; refine nw 26 (vs 2) [U 7, I 0, I 0, U 8, I 0, I 0] 36 fun g_1 => ?_
 refine rn 1 [] f0 [(27, .agg #[I 1, Sb g_1 2 2])] ?_; refine l1 ?_; refine nw 1 vp [I 0, .slice none 0 0] 24 fun g_2 => ?_
 refine l1 ?_; refine sr 0 g_2 [(0, I 1), (1, Sb g_1 2 2)] ?_; refine nl ?_; refine tN ?_; refine sq ?_; refine rg ?_; refine rn 2 [] f0 [(28, .agg #[U 7, I 0, I 0]), (29, .agg #[U 9, I 0, I 0])] ?_; refine l1 ?_; refine nw 30 (vs 2) [U 7, I 0, I 0, U 9, I 0, I 0] 36 fun g_3 => ?_
 refine rn 1 [] f0 [(31, .agg #[I 1, Sb g_3 2 2])] ?_; refine l1 ?_; refine nw 2 vp [I 0, .slice none 0 0] 24 fun g_4 => ?_
 refine l1 ?_; refine sr 0 g_4 [(0, I 1), (1, Sb g_3 2 2)] ?_; refine nl ?_; refine tN ?_; refine sq ?_; replace hG := bind_some hG; obtain ⟨⟨v_5, v_6⟩, hy_5, hG⟩ := hG; refine rg ?_; refine rn 1 [(0, 2, 2, 0)] f0 [(33, .agg #[I 1, Sb g_1 2 2])] ?_; refine l1 ?_; refine cl 34 (z_office_Sign F (⟨1, (some ⟨g_1, 0, none⟩), 2, ([(⟨7, (⟨0, 0⟩ : KInterval)⟩ : KEntry), (⟨8, (⟨0, 0⟩ : KInterval)⟩ : KEntry)] : List KEntry)⟩ : KOfficeL) 1 5 7 _ hy_5) hT ⟨Fa.m (bA (f := KEntry.cells) (ok := tr) (l := ([(⟨7, (⟨0, 0⟩ : KInterval)⟩ : KEntry), (⟨8, (⟨0, 0⟩ : KInterval)⟩ : KEntry)] : List KEntry)) g_1 3 (et.a)) fun _ _ h => ⟨h⟩, trivial⟩ ?_; refine rn 3 [] f0 [(35, .agg #[I v_5.Office, I v_5.Size, U v_5.Root, I v_5.Sig.C, I v_5.Sig.S]), (36, I v_6)] ?_; refine l1 ?_; refine nw 3 vp [I 0, I 0, U 0, I 0, I 0] 29 fun g_7 => ?_
 refine l1 ?_; refine sr 0 g_7 [(0, I v_5.Office), (1, I v_5.Size), (2, U v_5.Root), (3, I v_5.Sig.C), (4, I v_5.Sig.S)] ?_; refine ra [] f0 [(4, I v_6)] ?_; refine tN ?_; refine sq ?_; replace hG := bind_some hG; obtain ⟨⟨v_8, v_9⟩, hy_8, hG⟩ := hG; refine rg ?_; refine rn 1 [(0, 2, 3, 0)] f0 [(38, .agg #[I 1, Sb g_1 2 2])] ?_; refine l1 ?_; refine cl 39 (z_office_Sign F (⟨1, (some ⟨g_1, 0, none⟩), 2, ([(⟨7, (⟨0, 0⟩ : KInterval)⟩ : KEntry), (⟨8, (⟨0, 0⟩ : KInterval)⟩ : KEntry)] : List KEntry)⟩ : KOfficeL) 2 5 8 _ hy_8) hT ⟨Fa.m (bA (f := KEntry.cells) (ok := tr) (l := ([(⟨7, (⟨0, 0⟩ : KInterval)⟩ : KEntry), (⟨8, (⟨0, 0⟩ : KInterval)⟩ : KEntry)] : List KEntry)) g_1 4 (et.a)) fun _ _ h => ⟨h⟩, trivial⟩ ?_; refine rn 3 [] f0 [(40, .agg #[I v_8.Office, I v_8.Size, U v_8.Root, I v_8.Sig.C, I v_8.Sig.S]), (41, I v_9)] ?_; refine l1 ?_; refine nw 5 vp [I 0, I 0, U 0, I 0, I 0] 29 fun g_10 => ?_
 refine l1 ?_; refine sr 0 g_10 [(0, I v_8.Office), (1, I v_8.Size), (2, U v_8.Root), (3, I v_8.Sig.C), (4, I v_8.Sig.S)] ?_; refine ra [] f0 [(6, I v_9)] ?_; refine tN ?_; refine sq ?_; replace hG := bind_some hG; obtain ⟨⟨v_11, v_12⟩, hy_11, hG⟩ := hG; refine rg ?_; refine rn 1 [(0, 2, 2, 0)] f0 [(43, .agg #[I 1, Sb g_3 2 2])] ?_; refine l1 ?_; refine cl 44 (z_office_Sign F (⟨1, (some ⟨g_3, 0, none⟩), 2, ([(⟨7, (⟨0, 0⟩ : KInterval)⟩ : KEntry), (⟨9, (⟨0, 0⟩ : KInterval)⟩ : KEntry)] : List KEntry)⟩ : KOfficeL) 2 5 9 _ hy_11) hT ⟨Fa.m (bA (f := KEntry.cells) (ok := tr) (l := ([(⟨7, (⟨0, 0⟩ : KInterval)⟩ : KEntry), (⟨9, (⟨0, 0⟩ : KInterval)⟩ : KEntry)] : List KEntry)) g_3 3 (et.a)) fun _ _ h => ⟨h⟩, trivial⟩ ?_; refine rn 3 [] f0 [(45, .agg #[I v_11.Office, I v_11.Size, U v_11.Root, I v_11.Sig.C, I v_11.Sig.S]), (46, I v_12)] ?_; refine l1 ?_; refine nw 7 vp [I 0, I 0, U 0, I 0, I 0] 29 fun g_13 => ?_
 refine l1 ?_; refine sr 0 g_13 [(0, I v_11.Office), (1, I v_11.Size), (2, U v_11.Root), (3, I v_11.Sig.C), (4, I v_11.Sig.S)] ?_; refine ra [] f0 [(8, I v_12)] ?_; refine tN ?_; refine sq ?_; replace hG := bind_some hG; obtain ⟨v_14, hy_14, hG⟩ := hG; refine rg ?_; refine rn 1 [(0, 5, 1, 0)] f0 [(47, .agg #[I v_8.Office, I v_8.Size, U v_8.Root, I v_8.Sig.C, I v_8.Sig.S])] ?_; refine l1 ?_; refine cl 48 (z_cross_Digest F v_8 _ hy_14) hT trivial ?_; refine rn 1 [] f0 [(49, .agg #[U v_14, I 0, I 0])] ?_; refine l1 ?_; refine nw 50 (vs 1) [U v_14, I 0, I 0] 36 fun g_15 => ?_
 refine rn 1 [] f0 [(51, .agg #[I 2, Sb g_15 1 1])] ?_; refine l1 ?_; refine nw 9 vp [I 0, .slice none 0 0] 24 fun g_16 => ?_
 refine l1 ?_; refine sr 0 g_16 [(0, I 2), (1, Sb g_15 1 1)] ?_; refine nl ?_; refine tN ?_; refine sq ?_; replace hG := bind_some hG; obtain ⟨⟨v_17, v_18⟩, hy_17, hG⟩ := hG; refine rg ?_; refine rn 1 [(0, 2, 0, 0)] f0 [(53, .agg #[I 2, Sb g_15 1 1])] ?_; refine l1 ?_; refine cl 54 (z_office_Sign F (⟨2, (some ⟨g_15, 0, none⟩), 1, ([(⟨v_14, (⟨0, 0⟩ : KInterval)⟩ : KEntry)] : List KEntry)⟩ : KOfficeL) 1 6 7 _ hy_17) hT ⟨Fa.m (bA (f := KEntry.cells) (ok := tr) (l := ([(⟨v_14, (⟨0, 0⟩ : KInterval)⟩ : KEntry)] : List KEntry)) g_15 1 (et.a)) fun _ _ h => ⟨h⟩, trivial⟩ ?_; refine rn 3 [] f0 [(55, .agg #[I v_17.Office, I v_17.Size, U v_17.Root, I v_17.Sig.C, I v_17.Sig.S]), (56, I v_18)] ?_; refine l1 ?_; refine nw 10 vp [I 0, I 0, U 0, I 0, I 0] 29 fun g_19 => ?_
 refine l1 ?_; refine sr 0 g_19 [(0, I v_17.Office), (1, I v_17.Size), (2, U v_17.Root), (3, I v_17.Sig.C), (4, I v_17.Sig.S)] ?_; refine ra [] f0 [(11, I v_18)] ?_; refine tN ?_; refine sq ?_; replace hG := bind_some hG; obtain ⟨⟨v_20o, v_21⟩, hy_20, hG⟩ := hG; refine rg ?_; refine rn 5 [(0, 2, 8, 0), (0, 5, 5, 0), (0, 5, 4, 0), (0, 2, 1, 0), (0, 5, 0, 0)] f0 [(58, .agg #[I 1, Sb g_1 2 2]), (59, .agg #[I v_5.Office, I v_5.Size, U v_5.Root, I v_5.Sig.C, I v_5.Sig.S]), (60, .agg #[I v_8.Office, I v_8.Size, U v_8.Root, I v_8.Sig.C, I v_8.Sig.S]), (61, .agg #[I 2, Sb g_15 1 1]), (62, .agg #[I v_17.Office, I v_17.Size, U v_17.Root, I v_17.Sig.C, I v_17.Sig.S])] ?_; refine sB 9 g_1 KEntry.cells tr ([(⟨7, (⟨0, 0⟩ : KInterval)⟩ : KEntry), (⟨8, (⟨0, 0⟩ : KInterval)⟩ : KEntry)] : List KEntry) tr_mv et ?_; refine sB 2 g_15 KEntry.cells tr ([(⟨v_14, (⟨0, 0⟩ : KInterval)⟩ : KEntry)] : List KEntry) tr_mv et ?_; refine l1 ?_; refine cn 63 (z_cross_Witness F (⟨1, (some ⟨g_1, 0, none⟩), 2, ([(⟨7, (⟨0, 0⟩ : KInterval)⟩ : KEntry), (⟨8, (⟨0, 0⟩ : KInterval)⟩ : KEntry)] : List KEntry)⟩ : KOfficeL) v_5 v_8 (⟨2, (some ⟨g_15, 0, none⟩), 1, ([(⟨v_14, (⟨0, 0⟩ : KInterval)⟩ : KEntry)] : List KEntry)⟩ : KOfficeL) v_17 _ hy_20) hT (fun _ => (mc KHopL.mv m0)) ⟨(((gd' (RowC (some ⟨g_1, 0, none⟩) 2 KEntry.cells tr ([(⟨7, (⟨0, 0⟩ : KInterval)⟩ : KEntry), (⟨8, (⟨0, 0⟩ : KInterval)⟩ : KEntry)] : List KEntry)) 9)).m fun _ _ h => ⟨h⟩), (((gd' (RowC (some ⟨g_15, 0, none⟩) 1 KEntry.cells tr ([(⟨v_14, (⟨0, 0⟩ : KInterval)⟩ : KEntry)] : List KEntry)) 2)).m fun _ _ h => ⟨h⟩), trivial⟩ ?_; rintro v_20 hq_20; obtain rfl : v_20.p = v_20o := hq_20.symm; refine rn 3 [] f0 [(64, .agg #[I v_20.Of.Office, I v_20.Of.Size, U v_20.Of.Root, I v_20.Of.Sig.C, I v_20.Of.Sig.S, .slice v_20.Grow_A v_20.Grow.length v_20.Grow_c, I v_20.By.Head.Office, I v_20.By.Head.Size, U v_20.By.Head.Root, I v_20.By.Head.Sig.C, I v_20.By.Head.Sig.S, I v_20.By.Index, U v_20.By.Entry.Doc, I v_20.By.Entry.Stamp.Lo, I v_20.By.Entry.Stamp.Hi, .slice v_20.By.Path_A v_20.By.Path.length v_20.By.Path_c]), (65, I v_21)] ?_; refine l1 ?_; refine nw 12 vp [I 0, I 0, U 0, I 0, I 0, .slice none 0 0, I 0, I 0, U 0, I 0, I 0, I 0, U 0, I 0, I 0, .slice none 0 0] 40 fun g_22 => ?_
 refine l1 ?_; refine sr 0 g_22 [(0, I v_20.Of.Office), (1, I v_20.Of.Size), (2, U v_20.Of.Root), (3, I v_20.Of.Sig.C), (4, I v_20.Of.Sig.S), (5, .slice v_20.Grow_A v_20.Grow.length v_20.Grow_c), (6, I v_20.By.Head.Office), (7, I v_20.By.Head.Size), (8, U v_20.By.Head.Root), (9, I v_20.By.Head.Sig.C), (10, I v_20.By.Head.Sig.S), (11, I v_20.By.Index), (12, U v_20.By.Entry.Doc), (13, I v_20.By.Entry.Stamp.Lo), (14, I v_20.By.Entry.Stamp.Hi), (15, .slice v_20.By.Path_A v_20.By.Path.length v_20.By.Path_c)] ?_; refine ra [] f0 [(13, I v_21)] ?_; refine tN ?_; refine sq ?_; refine rg ?_; refine l1 ?_; refine nw 66 (vs 2) [I 1024, I 4096] 3 fun g_23 => ?_
 refine ra [] f0 [(14, Sb g_23 2 2)] ?_; refine tN ?_; refine sq ?_; replace hG := bind_some hG; obtain ⟨⟨v_24, v_25⟩, hy_24, hG⟩ := hG; refine rg ?_; refine rn 3 [(1, 5, 8, 0), (0, 16, 1, 0)] f0 [(68, Sb g_23 2 2), (69, .agg #[I v_5.Office, I v_5.Size, U v_5.Root, I v_5.Sig.C, I v_5.Sig.S]), (70, .agg #[I v_20.Of.Office, I v_20.Of.Size, U v_20.Of.Root, I v_20.Of.Sig.C, I v_20.Of.Sig.S, .slice v_20.Grow_A v_20.Grow.length v_20.Grow_c, I v_20.By.Head.Office, I v_20.By.Head.Size, U v_20.By.Head.Root, I v_20.By.Head.Sig.C, I v_20.By.Head.Sig.S, I v_20.By.Index, U v_20.By.Entry.Doc, I v_20.By.Entry.Stamp.Lo, I v_20.By.Entry.Stamp.Hi, .slice v_20.By.Path_A v_20.By.Path.length v_20.By.Path_c])] ?_; refine l1 ?_; refine cl 71 (z_cross_Check F (some ⟨g_23, 0, none⟩) 2 ([1024, 4096] : List Int) v_5 v_20 _ hy_24) hT ⟨ba 0 et.a, (gi 2).a, trivial⟩ ?_; refine ra [] f0 [(15, B v_24), (16, I v_25)] ?_; refine tN ?_; refine sq ?_; replace hG := bind_some hG; obtain ⟨⟨v_27, v_28⟩, hy_27, hG⟩ := hG; refine rg ?_; refine l1 ?_; refine nw 75 (vs 1) [I 1024] 3 fun g_26 => ?_
 refine rn 2 [(0, 5, 9, 0), (0, 16, 2, 0)] f0 [(76, .agg #[I v_5.Office, I v_5.Size, U v_5.Root, I v_5.Sig.C, I v_5.Sig.S]), (77, .agg #[I v_20.Of.Office, I v_20.Of.Size, U v_20.Of.Root, I v_20.Of.Sig.C, I v_20.Of.Sig.S, .slice v_20.Grow_A v_20.Grow.length v_20.Grow_c, I v_20.By.Head.Office, I v_20.By.Head.Size, U v_20.By.Head.Root, I v_20.By.Head.Sig.C, I v_20.By.Head.Sig.S, I v_20.By.Index, U v_20.By.Entry.Doc, I v_20.By.Entry.Stamp.Lo, I v_20.By.Entry.Stamp.Hi, .slice v_20.By.Path_A v_20.By.Path.length v_20.By.Path_c])] ?_; refine l1 ?_; refine cl 78 (z_cross_Check F (some ⟨g_26, 0, none⟩) 1 ([1024] : List Int) v_5 v_20 _ hy_27) hT ⟨ba 0 et.a, (gi 3).a, trivial⟩ ?_; refine ra [] f0 [(17, B v_27), (18, I v_28)] ?_; refine tN ?_; refine sq ?_; replace hG := bind_some hG; obtain ⟨⟨v_29, v_30⟩, hy_29, hG⟩ := hG; refine rg ?_; refine rn 2 [(0, 5, 8, 0), (0, 5, 7, 0)] f0 [(82, .agg #[I v_8.Office, I v_8.Size, U v_8.Root, I v_8.Sig.C, I v_8.Sig.S]), (83, .agg #[I v_11.Office, I v_11.Size, U v_11.Root, I v_11.Sig.C, I v_11.Sig.S])] ?_; refine l1 ?_; refine cl 84 (z_cross_Forks F 1024 v_8 v_11 none 0 ([] : List Int) _ hy_29) hT ⟨gn.a, trivial⟩ ?_; refine ra [] f0 [(19, B v_29), (20, I v_30)] ?_; refine tN ?_; refine sq ?_; replace hG := bind_some hG; obtain ⟨⟨v_31o, v_32⟩, hy_31, hG⟩ := hG; refine rg ?_; refine rn 5 [(0, 2, 12, 0), (0, 5, 9, 0), (0, 5, 9, 0), (0, 2, 5, 0), (0, 5, 4, 0)] f0 [(88, .agg #[I 1, Sb g_1 2 2]), (89, .agg #[I v_5.Office, I v_5.Size, U v_5.Root, I v_5.Sig.C, I v_5.Sig.S]), (90, .agg #[I v_5.Office, I v_5.Size, U v_5.Root, I v_5.Sig.C, I v_5.Sig.S]), (91, .agg #[I 2, Sb g_15 1 1]), (92, .agg #[I v_17.Office, I v_17.Size, U v_17.Root, I v_17.Sig.C, I v_17.Sig.S])] ?_; refine l1 ?_; refine cn 93 (z_cross_Witness F (⟨1, (some ⟨g_1, 0, none⟩), 2, ([(⟨7, (⟨0, 0⟩ : KInterval)⟩ : KEntry), (⟨8, (⟨0, 0⟩ : KInterval)⟩ : KEntry)] : List KEntry)⟩ : KOfficeL) v_5 v_5 (⟨2, (some ⟨g_15, 0, none⟩), 1, ([(⟨v_14, (⟨0, 0⟩ : KInterval)⟩ : KEntry)] : List KEntry)⟩ : KOfficeL) v_17 _ hy_31) hT (fun _ => (mc KHopL.mv m0)) ⟨(((gd' (RowC (some ⟨g_1, 0, none⟩) 2 KEntry.cells tr ([(⟨7, (⟨0, 0⟩ : KInterval)⟩ : KEntry), (⟨8, (⟨0, 0⟩ : KInterval)⟩ : KEntry)] : List KEntry)) 13)).m fun _ _ h => ⟨h⟩), (((gd' (RowC (some ⟨g_15, 0, none⟩) 1 KEntry.cells tr ([(⟨v_14, (⟨0, 0⟩ : KInterval)⟩ : KEntry)] : List KEntry)) 6)).m fun _ _ h => ⟨h⟩), trivial⟩ ?_; rintro v_31 hq_31; obtain rfl : v_31.p = v_31o := hq_31.symm; refine rn 3 [] f0 [(94, .agg #[I v_31.Of.Office, I v_31.Of.Size, U v_31.Of.Root, I v_31.Of.Sig.C, I v_31.Of.Sig.S, .slice v_31.Grow_A v_31.Grow.length v_31.Grow_c, I v_31.By.Head.Office, I v_31.By.Head.Size, U v_31.By.Head.Root, I v_31.By.Head.Sig.C, I v_31.By.Head.Sig.S, I v_31.By.Index, U v_31.By.Entry.Doc, I v_31.By.Entry.Stamp.Lo, I v_31.By.Entry.Stamp.Hi, .slice v_31.By.Path_A v_31.By.Path.length v_31.By.Path_c]), (95, I v_32)] ?_; refine l1 ?_; refine nw 21 vp [I 0, I 0, U 0, I 0, I 0, .slice none 0 0, I 0, I 0, U 0, I 0, I 0, I 0, U 0, I 0, I 0, .slice none 0 0] 40 fun g_33 => ?_
 refine l1 ?_; refine sr 0 g_33 [(0, I v_31.Of.Office), (1, I v_31.Of.Size), (2, U v_31.Of.Root), (3, I v_31.Of.Sig.C), (4, I v_31.Of.Sig.S), (5, .slice v_31.Grow_A v_31.Grow.length v_31.Grow_c), (6, I v_31.By.Head.Office), (7, I v_31.By.Head.Size), (8, U v_31.By.Head.Root), (9, I v_31.By.Head.Sig.C), (10, I v_31.By.Head.Sig.S), (11, I v_31.By.Index), (12, U v_31.By.Entry.Doc), (13, I v_31.By.Entry.Stamp.Lo), (14, I v_31.By.Entry.Stamp.Hi), (15, .slice v_31.By.Path_A v_31.By.Path.length v_31.By.Path_c)] ?_; refine ra [] f0 [(22, I v_32)] ?_; refine tN ?_; obtain ⟨o_42, hG, hG_42⟩ := bind_some hG; refine jn (fun K E a w => ∃ (v_43 : Bool), Js S0 w0 166 ([(23, B v_43)] ++ K) ([.dat (RowC v_20.Grow_A v_20.Grow_c c_u64 tr v_20.Grow), .dat (RowC v_20.By.Path_A v_20.By.Path_c c_u64 tr v_20.By.Path)] ++ se E [4, 10, 14, 15]) (v_43 = o_42) a w) ?_ ?_
 ·replace hG := ifB_cases hG; rcases hG with ⟨h_34, hG⟩ | ⟨h_34, hG⟩
  ·replace hG := ifB_cases hG; rcases hG with ⟨h_35, hG⟩ | ⟨h_35, hG⟩
   ·replace hG := ifB_cases hG; rcases hG with ⟨h_36, hG⟩ | ⟨h_36, hG⟩
    ·replace hG := ifB_cases hG; rcases hG with ⟨h_37, hG⟩ | ⟨h_37, hG⟩
     ·replace hG := ifB_cases hG; rcases hG with ⟨h_38, hG⟩ | ⟨h_38, hG⟩
      ·replace hG := ifB_cases hG; rcases hG with ⟨h_39, hG⟩ | ⟨h_39, hG⟩
       ·replace hG := ifB_cases hG; rcases hG with ⟨h_40, hG⟩ | ⟨h_40, hG⟩
        ·replace hG := ifB_cases hG; rcases hG with ⟨h_41, hG⟩ | ⟨h_41, hG⟩
         ·refine rg ?_; refine rn 3 [] f0 [(98, B (v_6 == 0))] ?_; refine sb 98 (bt h_34) ?_; refine rn 4 [] f0 [(102, B (v_9 == 0))] ?_; refine sb 102 (bt h_35) ?_; refine rn 4 [] f0 [(106, B (v_12 == 0))] ?_; refine sb 106 (bt h_36) ?_; refine rn 4 [] f0 [(110, B (v_18 == 0))] ?_; refine sb 110 (bt h_37) ?_; refine rn 4 [] f0 [(114, B (v_21 == 0))] ?_; refine sb 114 (bt h_38) ?_; refine rn 4 [] f0 [(118, B (v_25 == 0))] ?_; refine sb 118 (bt h_39) ?_; refine rn 4 [] f0 [(122, B (v_28 == 0))] ?_; refine sb 122 (bt h_40) ?_; refine rn 4 [] f0 [(126, B (v_30 == 0))] ?_; refine sb 126 (bt h_41) ?_; refine ra [] f0 [(23, B (v_32 == 4))] ?_; refine tN ?_; refine fm (RowC v_20.Grow_A v_20.Grow_c c_u64 tr v_20.Grow) (gm (KHopL.ok v_20) 5 fun _ _ h => h.f_Grow) ?_; refine fm (RowC v_20.By.Path_A v_20.By.Path_c c_u64 tr v_20.By.Path) (gm (KHopL.ok v_20) 6 fun _ _ h => h.b_By.f_Path) ?_; exact fun a w S hK hE => ⟨(v_32 == 4), S, hK.wk, hE.sel [1, 0, 6, 12, 16, 17], Option.some.inj hG⟩
         ·refine rg ?_; refine rn 3 [] f0 [(98, B (v_6 == 0))] ?_; refine sb 98 (bt h_34) ?_; refine rn 4 [] f0 [(102, B (v_9 == 0))] ?_; refine sb 102 (bt h_35) ?_; refine rn 4 [] f0 [(106, B (v_12 == 0))] ?_; refine sb 106 (bt h_36) ?_; refine rn 4 [] f0 [(110, B (v_18 == 0))] ?_; refine sb 110 (bt h_37) ?_; refine rn 4 [] f0 [(114, B (v_21 == 0))] ?_; refine sb 114 (bt h_38) ?_; refine rn 4 [] f0 [(118, B (v_25 == 0))] ?_; refine sb 118 (bt h_39) ?_; refine rn 4 [] f0 [(122, B (v_28 == 0))] ?_; refine sb 122 (bt h_40) ?_; refine rn 4 [] f0 [(126, B (v_30 == 0))] ?_; refine sb 126 (bf h_41) ?_; refine ra [] f0 [(23, B false)] ?_; refine tN ?_; refine fm (RowC v_20.Grow_A v_20.Grow_c c_u64 tr v_20.Grow) (gm (KHopL.ok v_20) 5 fun _ _ h => h.f_Grow) ?_; refine fm (RowC v_20.By.Path_A v_20.By.Path_c c_u64 tr v_20.By.Path) (gm (KHopL.ok v_20) 6 fun _ _ h => h.b_By.f_Path) ?_; exact fun a w S hK hE => ⟨false, S, hK.wk, hE.sel [1, 0, 6, 12, 16, 17], Option.some.inj hG⟩
        ·refine rg ?_; refine rn 3 [] f0 [(98, B (v_6 == 0))] ?_; refine sb 98 (bt h_34) ?_; refine rn 4 [] f0 [(102, B (v_9 == 0))] ?_; refine sb 102 (bt h_35) ?_; refine rn 4 [] f0 [(106, B (v_12 == 0))] ?_; refine sb 106 (bt h_36) ?_; refine rn 4 [] f0 [(110, B (v_18 == 0))] ?_; refine sb 110 (bt h_37) ?_; refine rn 4 [] f0 [(114, B (v_21 == 0))] ?_; refine sb 114 (bt h_38) ?_; refine rn 4 [] f0 [(118, B (v_25 == 0))] ?_; refine sb 118 (bt h_39) ?_; refine rn 4 [] f0 [(122, B (v_28 == 0))] ?_; refine sb 122 (bf h_40) ?_; refine ra [] f0 [(23, B false)] ?_; refine tN ?_; refine fm (RowC v_20.Grow_A v_20.Grow_c c_u64 tr v_20.Grow) (gm (KHopL.ok v_20) 5 fun _ _ h => h.f_Grow) ?_; refine fm (RowC v_20.By.Path_A v_20.By.Path_c c_u64 tr v_20.By.Path) (gm (KHopL.ok v_20) 6 fun _ _ h => h.b_By.f_Path) ?_; exact fun a w S hK hE => ⟨false, S, hK.wk, hE.sel [1, 0, 6, 12, 16, 17], Option.some.inj hG⟩
       ·refine rg ?_; refine rn 3 [] f0 [(98, B (v_6 == 0))] ?_; refine sb 98 (bt h_34) ?_; refine rn 4 [] f0 [(102, B (v_9 == 0))] ?_; refine sb 102 (bt h_35) ?_; refine rn 4 [] f0 [(106, B (v_12 == 0))] ?_; refine sb 106 (bt h_36) ?_; refine rn 4 [] f0 [(110, B (v_18 == 0))] ?_; refine sb 110 (bt h_37) ?_; refine rn 4 [] f0 [(114, B (v_21 == 0))] ?_; refine sb 114 (bt h_38) ?_; refine rn 4 [] f0 [(118, B (v_25 == 0))] ?_; refine sb 118 (bf h_39) ?_; refine ra [] f0 [(23, B false)] ?_; refine tN ?_; refine fm (RowC v_20.Grow_A v_20.Grow_c c_u64 tr v_20.Grow) (gm (KHopL.ok v_20) 5 fun _ _ h => h.f_Grow) ?_; refine fm (RowC v_20.By.Path_A v_20.By.Path_c c_u64 tr v_20.By.Path) (gm (KHopL.ok v_20) 6 fun _ _ h => h.b_By.f_Path) ?_; exact fun a w S hK hE => ⟨false, S, hK.wk, hE.sel [1, 0, 6, 12, 16, 17], Option.some.inj hG⟩
      ·refine rg ?_; refine rn 3 [] f0 [(98, B (v_6 == 0))] ?_; refine sb 98 (bt h_34) ?_; refine rn 4 [] f0 [(102, B (v_9 == 0))] ?_; refine sb 102 (bt h_35) ?_; refine rn 4 [] f0 [(106, B (v_12 == 0))] ?_; refine sb 106 (bt h_36) ?_; refine rn 4 [] f0 [(110, B (v_18 == 0))] ?_; refine sb 110 (bt h_37) ?_; refine rn 4 [] f0 [(114, B (v_21 == 0))] ?_; refine sb 114 (bf h_38) ?_; refine ra [] f0 [(23, B false)] ?_; refine tN ?_; refine fm (RowC v_20.Grow_A v_20.Grow_c c_u64 tr v_20.Grow) (gm (KHopL.ok v_20) 5 fun _ _ h => h.f_Grow) ?_; refine fm (RowC v_20.By.Path_A v_20.By.Path_c c_u64 tr v_20.By.Path) (gm (KHopL.ok v_20) 6 fun _ _ h => h.b_By.f_Path) ?_; exact fun a w S hK hE => ⟨false, S, hK.wk, hE.sel [1, 0, 6, 12, 16, 17], Option.some.inj hG⟩
     ·refine rg ?_; refine rn 3 [] f0 [(98, B (v_6 == 0))] ?_; refine sb 98 (bt h_34) ?_; refine rn 4 [] f0 [(102, B (v_9 == 0))] ?_; refine sb 102 (bt h_35) ?_; refine rn 4 [] f0 [(106, B (v_12 == 0))] ?_; refine sb 106 (bt h_36) ?_; refine rn 4 [] f0 [(110, B (v_18 == 0))] ?_; refine sb 110 (bf h_37) ?_; refine ra [] f0 [(23, B false)] ?_; refine tN ?_; refine fm (RowC v_20.Grow_A v_20.Grow_c c_u64 tr v_20.Grow) (gm (KHopL.ok v_20) 5 fun _ _ h => h.f_Grow) ?_; refine fm (RowC v_20.By.Path_A v_20.By.Path_c c_u64 tr v_20.By.Path) (gm (KHopL.ok v_20) 6 fun _ _ h => h.b_By.f_Path) ?_; exact fun a w S hK hE => ⟨false, S, hK.wk, hE.sel [1, 0, 6, 12, 16, 17], Option.some.inj hG⟩
    ·refine rg ?_; refine rn 3 [] f0 [(98, B (v_6 == 0))] ?_; refine sb 98 (bt h_34) ?_; refine rn 4 [] f0 [(102, B (v_9 == 0))] ?_; refine sb 102 (bt h_35) ?_; refine rn 4 [] f0 [(106, B (v_12 == 0))] ?_; refine sb 106 (bf h_36) ?_; refine ra [] f0 [(23, B false)] ?_; refine tN ?_; refine fm (RowC v_20.Grow_A v_20.Grow_c c_u64 tr v_20.Grow) (gm (KHopL.ok v_20) 5 fun _ _ h => h.f_Grow) ?_; refine fm (RowC v_20.By.Path_A v_20.By.Path_c c_u64 tr v_20.By.Path) (gm (KHopL.ok v_20) 6 fun _ _ h => h.b_By.f_Path) ?_; exact fun a w S hK hE => ⟨false, S, hK.wk, hE.sel [1, 0, 6, 12, 16, 17], Option.some.inj hG⟩
   ·refine rg ?_; refine rn 3 [] f0 [(98, B (v_6 == 0))] ?_; refine sb 98 (bt h_34) ?_; refine rn 4 [] f0 [(102, B (v_9 == 0))] ?_; refine sb 102 (bf h_35) ?_; refine ra [] f0 [(23, B false)] ?_; refine tN ?_; refine fm (RowC v_20.Grow_A v_20.Grow_c c_u64 tr v_20.Grow) (gm (KHopL.ok v_20) 5 fun _ _ h => h.f_Grow) ?_; refine fm (RowC v_20.By.Path_A v_20.By.Path_c c_u64 tr v_20.By.Path) (gm (KHopL.ok v_20) 6 fun _ _ h => h.b_By.f_Path) ?_; exact fun a w S hK hE => ⟨false, S, hK.wk, hE.sel [1, 0, 6, 12, 16, 17], Option.some.inj hG⟩
  ·refine rg ?_; refine rn 3 [] f0 [(98, B (v_6 == 0))] ?_; refine sb 98 (bf h_34) ?_; refine ra [] f0 [(23, B false)] ?_; refine tN ?_; refine fm (RowC v_20.Grow_A v_20.Grow_c c_u64 tr v_20.Grow) (gm (KHopL.ok v_20) 5 fun _ _ h => h.f_Grow) ?_; refine fm (RowC v_20.By.Path_A v_20.By.Path_c c_u64 tr v_20.By.Path) (gm (KHopL.ok v_20) 6 fun _ _ h => h.b_By.f_Path) ?_; exact fun a w S hK hE => ⟨false, S, hK.wk, hE.sel [1, 0, 6, 12, 16, 17], Option.some.inj hG⟩
 ·rintro a w ⟨v_43, hJ⟩; refine hJ.go fun ho_ => ?_
  clear hJ; subst ho_; replace hG := hG_42; obtain ⟨o_58, hG, hG_58⟩ := bind_some hG; refine jn (fun K E a w => ∃ (v_59 : Bool), Js S0 w0 166 ([(0, B v_59)] ++ K) (se E []) (v_59 = o_58) a w) ?_ ?_
  ·replace hG := ifB_cases hG; rcases hG with ⟨h_44, hG⟩ | ⟨h_44, hG⟩
   ·replace hG := ifB_cases hG; rcases hG with ⟨h_45, hG⟩ | ⟨h_45, hG⟩
    ·replace hG := ifB_cases hG; rcases hG with ⟨h_46, hG⟩ | ⟨h_46, hG⟩
     ·replace hG := bind_some hG; obtain ⟨v_47, hy_47, hG⟩ := hG; replace hG := bind_some hG; obtain ⟨v_50, hy_50, hG⟩ := hG; replace hG := bind_some hG; obtain ⟨v_53, hy_53, hG⟩ := hG; replace hG := bind_some hG; obtain ⟨v_54, hy_54, hG⟩ := hG; replace hG := ifB_cases hG; rcases hG with ⟨h_55, hG⟩ | ⟨h_55, hG⟩
      ·replace hG := ifB_cases hG; rcases hG with ⟨h_56, hG⟩ | ⟨h_56, hG⟩
       ·replace hG := ifB_cases hG; rcases hG with ⟨h_57, hG⟩ | ⟨h_57, hG⟩
        ·refine qb ?_; refine qn 2 [] f0 [(131, B v_43)] ?_; refine sb 131 (bt h_44) ?_; refine qn 6 [(1, 5, 2, 0), (0, 5, 3, 0), (0, 0, 0, 0)] (fc (eql_KHead v_20.Of v_8) f0) [(137, B (decide (v_20.Of = v_8)))] ?_; refine sb 137 (bt h_45) ?_; refine qn 6 [(1, 1, 2, 5)] f0 [(143, B (((v_20.Grow.length : Nat) : Int) == 1))] ?_; refine sb 143 (bt h_46) ?_; refine fx inf32 (gd' (RowC v_20.Grow_A v_20.Grow_c c_u64 tr v_20.Grow) 0) hy_47 fun b_48 o_49 hi_47 => ?_
         refine fx inf22 (gd' (RowC (some ⟨g_1, 0, none⟩) 2 KEntry.cells tr ([(⟨7, (⟨0, 0⟩ : KInterval)⟩ : KEntry), (⟨8, (⟨0, 0⟩ : KInterval)⟩ : KEntry)] : List KEntry)) 6) hy_50 fun b_51 o_52 hi_50 => ?_
         refine qn 8 [(1, 1, 4, 5), (0, 0, 0, 0), (0, 1, 1, 0), (1, 1, 6, 1), (0, 0, 0, 0), (0, 3, 0, 0)] (fc (hi_47 .i64) (fc (hi_50 .i64) f0)) [(147, U v_47), (151, .agg #[U v_50.Doc, I v_50.Stamp.Lo, I v_50.Stamp.Hi])] ?_; refine qc 152 (z_regulatorref25_Leaf F v_50 _ hy_53) hT trivial ?_; refine qc 153 (z_regulatorref24_Leaf F v_53 _ hy_54) hT trivial ?_; refine qn 3 [] f0 [(156, B (v_47 == v_54))] ?_; refine sb 156 (bt h_55) ?_; refine qn 3 [] f0 [(159, B v_24)] ?_; refine sb 159 (bt h_56) ?_; refine qn 4 [] f0 [(163, B (!v_27))] ?_; refine sb 163 (nt h_57) ?_; refine qa [] f0 [(0, B false)] ?_; refine tN ?_; exact fun a w S hK hE => ⟨false, S, hK.wk, hE.sel [], Option.some.inj hG⟩
        ·refine qb ?_; refine qn 2 [] f0 [(131, B v_43)] ?_; refine sb 131 (bt h_44) ?_; refine qn 6 [(1, 5, 2, 0), (0, 5, 3, 0), (0, 0, 0, 0)] (fc (eql_KHead v_20.Of v_8) f0) [(137, B (decide (v_20.Of = v_8)))] ?_; refine sb 137 (bt h_45) ?_; refine qn 6 [(1, 1, 2, 5)] f0 [(143, B (((v_20.Grow.length : Nat) : Int) == 1))] ?_; refine sb 143 (bt h_46) ?_; refine fx inf32 (gd' (RowC v_20.Grow_A v_20.Grow_c c_u64 tr v_20.Grow) 0) hy_47 fun b_48 o_49 hi_47 => ?_
         refine fx inf22 (gd' (RowC (some ⟨g_1, 0, none⟩) 2 KEntry.cells tr ([(⟨7, (⟨0, 0⟩ : KInterval)⟩ : KEntry), (⟨8, (⟨0, 0⟩ : KInterval)⟩ : KEntry)] : List KEntry)) 6) hy_50 fun b_51 o_52 hi_50 => ?_
         refine qn 8 [(1, 1, 4, 5), (0, 0, 0, 0), (0, 1, 1, 0), (1, 1, 6, 1), (0, 0, 0, 0), (0, 3, 0, 0)] (fc (hi_47 .i64) (fc (hi_50 .i64) f0)) [(147, U v_47), (151, .agg #[U v_50.Doc, I v_50.Stamp.Lo, I v_50.Stamp.Hi])] ?_; refine qc 152 (z_regulatorref25_Leaf F v_50 _ hy_53) hT trivial ?_; refine qc 153 (z_regulatorref24_Leaf F v_53 _ hy_54) hT trivial ?_; refine qn 3 [] f0 [(156, B (v_47 == v_54))] ?_; refine sb 156 (bt h_55) ?_; refine qn 3 [] f0 [(159, B v_24)] ?_; refine sb 159 (bt h_56) ?_; refine qn 4 [] f0 [(163, B (!v_27))] ?_; refine sb 163 (nf h_57) ?_; refine qa [] f0 [(0, B v_29)] ?_; refine tN ?_; exact fun a w S hK hE => ⟨v_29, S, hK.wk, hE.sel [], Option.some.inj hG⟩
       ·refine qb ?_; refine qn 2 [] f0 [(131, B v_43)] ?_; refine sb 131 (bt h_44) ?_; refine qn 6 [(1, 5, 2, 0), (0, 5, 3, 0), (0, 0, 0, 0)] (fc (eql_KHead v_20.Of v_8) f0) [(137, B (decide (v_20.Of = v_8)))] ?_; refine sb 137 (bt h_45) ?_; refine qn 6 [(1, 1, 2, 5)] f0 [(143, B (((v_20.Grow.length : Nat) : Int) == 1))] ?_; refine sb 143 (bt h_46) ?_; refine fx inf32 (gd' (RowC v_20.Grow_A v_20.Grow_c c_u64 tr v_20.Grow) 0) hy_47 fun b_48 o_49 hi_47 => ?_
        refine fx inf22 (gd' (RowC (some ⟨g_1, 0, none⟩) 2 KEntry.cells tr ([(⟨7, (⟨0, 0⟩ : KInterval)⟩ : KEntry), (⟨8, (⟨0, 0⟩ : KInterval)⟩ : KEntry)] : List KEntry)) 6) hy_50 fun b_51 o_52 hi_50 => ?_
        refine qn 8 [(1, 1, 4, 5), (0, 0, 0, 0), (0, 1, 1, 0), (1, 1, 6, 1), (0, 0, 0, 0), (0, 3, 0, 0)] (fc (hi_47 .i64) (fc (hi_50 .i64) f0)) [(147, U v_47), (151, .agg #[U v_50.Doc, I v_50.Stamp.Lo, I v_50.Stamp.Hi])] ?_; refine qc 152 (z_regulatorref25_Leaf F v_50 _ hy_53) hT trivial ?_; refine qc 153 (z_regulatorref24_Leaf F v_53 _ hy_54) hT trivial ?_; refine qn 3 [] f0 [(156, B (v_47 == v_54))] ?_; refine sb 156 (bt h_55) ?_; refine qn 3 [] f0 [(159, B v_24)] ?_; refine sb 159 (bf h_56) ?_; refine qa [] f0 [(0, B false)] ?_; refine tN ?_; exact fun a w S hK hE => ⟨false, S, hK.wk, hE.sel [], Option.some.inj hG⟩
      ·refine qb ?_; refine qn 2 [] f0 [(131, B v_43)] ?_; refine sb 131 (bt h_44) ?_; refine qn 6 [(1, 5, 2, 0), (0, 5, 3, 0), (0, 0, 0, 0)] (fc (eql_KHead v_20.Of v_8) f0) [(137, B (decide (v_20.Of = v_8)))] ?_; refine sb 137 (bt h_45) ?_; refine qn 6 [(1, 1, 2, 5)] f0 [(143, B (((v_20.Grow.length : Nat) : Int) == 1))] ?_; refine sb 143 (bt h_46) ?_; refine fx inf32 (gd' (RowC v_20.Grow_A v_20.Grow_c c_u64 tr v_20.Grow) 0) hy_47 fun b_48 o_49 hi_47 => ?_
       refine fx inf22 (gd' (RowC (some ⟨g_1, 0, none⟩) 2 KEntry.cells tr ([(⟨7, (⟨0, 0⟩ : KInterval)⟩ : KEntry), (⟨8, (⟨0, 0⟩ : KInterval)⟩ : KEntry)] : List KEntry)) 6) hy_50 fun b_51 o_52 hi_50 => ?_
       refine qn 8 [(1, 1, 4, 5), (0, 0, 0, 0), (0, 1, 1, 0), (1, 1, 6, 1), (0, 0, 0, 0), (0, 3, 0, 0)] (fc (hi_47 .i64) (fc (hi_50 .i64) f0)) [(147, U v_47), (151, .agg #[U v_50.Doc, I v_50.Stamp.Lo, I v_50.Stamp.Hi])] ?_; refine qc 152 (z_regulatorref25_Leaf F v_50 _ hy_53) hT trivial ?_; refine qc 153 (z_regulatorref24_Leaf F v_53 _ hy_54) hT trivial ?_; refine qn 3 [] f0 [(156, B (v_47 == v_54))] ?_; refine sb 156 (bf h_55) ?_; refine qa [] f0 [(0, B false)] ?_; refine tN ?_; exact fun a w S hK hE => ⟨false, S, hK.wk, hE.sel [], Option.some.inj hG⟩
     ·refine qb ?_; refine qn 2 [] f0 [(131, B v_43)] ?_; refine sb 131 (bt h_44) ?_; refine qn 6 [(1, 5, 2, 0), (0, 5, 3, 0), (0, 0, 0, 0)] (fc (eql_KHead v_20.Of v_8) f0) [(137, B (decide (v_20.Of = v_8)))] ?_; refine sb 137 (bt h_45) ?_; refine qn 6 [(1, 1, 2, 5)] f0 [(143, B (((v_20.Grow.length : Nat) : Int) == 1))] ?_; refine sb 143 (bf h_46) ?_; refine qa [] f0 [(0, B false)] ?_; refine tN ?_; exact fun a w S hK hE => ⟨false, S, hK.wk, hE.sel [], Option.some.inj hG⟩
    ·refine qb ?_; refine qn 2 [] f0 [(131, B v_43)] ?_; refine sb 131 (bt h_44) ?_; refine qn 6 [(1, 5, 2, 0), (0, 5, 3, 0), (0, 0, 0, 0)] (fc (eql_KHead v_20.Of v_8) f0) [(137, B (decide (v_20.Of = v_8)))] ?_; refine sb 137 (bf h_45) ?_; refine qa [] f0 [(0, B false)] ?_; refine tN ?_; exact fun a w S hK hE => ⟨false, S, hK.wk, hE.sel [], Option.some.inj hG⟩
   ·refine qb ?_; refine qn 2 [] f0 [(131, B v_43)] ?_; refine sb 131 (bf h_44) ?_; refine qa [] f0 [(0, B false)] ?_; refine tN ?_; exact fun a w S hK hE => ⟨false, S, hK.wk, hE.sel [], Option.some.inj hG⟩
  ·rintro a w ⟨v_59, hJ⟩; refine hJ.go fun ho_ => ?_
   clear hJ; subst ho_; replace hG := hG_58; refine kR ?_; obtain rfl := Option.some.inj hG; exact rt []
end Go.Proofs.YtiijddjfiojfaaaDoor
namespace Go.Proofs.YtiijddjfiojfaaaDoor
open Go.RowKit Go.Maps
end Go.Proofs.YtiijddjfiojfaaaDoor
namespace Go.Proofs.YtiijddjfiojfaaaDoor
open Go.RowKit Go.Maps
def G_regulatorlaw26_CrossOther (F : Nat) (p_0 : KOffice) (p_1 : KOffice) (p_2 : Int) (p_3 : Int) (p_4 : Int) (p_5 : K2_uint64) (p_6 : Int) : Option (Bool) :=
  Option.bind (G_regulatorlaw26_head F ) (fun v_4 =>
  Option.bind (G_regulatorlaw26_made F p_0 p_1 p_2 p_3 p_5) (un2 fun v_5 v_6 =>
  ifB (v_6)
    (Option.bind (G_cross_Witness F v_5.from_ v_5.first v_5.of_ v_5.by_ v_5.head) (un2 fun v_9 v_10 =>
    Option.bind (Option.bind (whenG (!(((v_5.from_.Entries.length : Nat) : Int) == 0)) ()) (fun v_12 =>
      Option.bind (G_regulatorref06_Secret F p_6) (fun v_13 =>
      Option.bind (G_office_Sign F v_5.from_ (IntKind.i64.wrap (1 + (Int.tmod (IntKind.i64.wrap p_4) ((v_5.from_.Entries.length : Nat) : Int)))) v_5.key v_13) (un2 fun v_14 v_15 =>
      some (v_14.Office, v_14.Size, v_14.Root, v_14.Sig.C, v_14.Sig.S, v_15)))) : Option ((Int × Int × Int × Int × Int × Int))) (un6 fun (v_19 : Int) (v_20 : Int) (v_21 : Int) (v_22 : Int) (v_23 : Int) (v_24 : Int) => 
      Option.bind (ifB ((v_10 == 0))
          (some (!(v_24 == 0)))
          (some true) : Option (Bool)) (fun (v_27 : Bool) => 
        ifB (v_27)
          (some false)
          (Option.bind (G_cross_Check F v_5.pubs v_5.first (⟨(⟨v_19, v_20, v_21, (⟨v_22, v_23⟩ : KSig)⟩ : KHead), v_9.Grow, v_9.By⟩ : KHop)) (un2 fun v_29 v_30 =>
          Option.bind (ifB (v_4)
              (ifB ((v_30 == 0))
                (ifB (v_29)
                  (Option.bind (G_cross_Digest F (⟨v_19, v_20, v_21, (⟨v_22, v_23⟩ : KSig)⟩ : KHead)) (fun v_34 =>
                  Option.bind (G_cross_Digest F v_5.of_) (fun v_35 =>
                  some (v_34 == v_35))))
                  (some true))
                (some false))
              (some false) : Option (Bool)) (fun (v_37 : Bool) => 
            some v_37)))))))
    (some v_4)))
set_option maxRecDepth 100000 in
set_option maxHeartbeats 16000000 in
theorem z_regulatorlaw26_CrossOther (F : Nat) (p_0 : KOfficeL) (p_1 : KOfficeL) (p_2 : Int) (p_3 : Int) (p_4 : Int) (p_5 : K2_uint64) (p_6 : Int) (r : Bool) (hG : G_regulatorlaw26_CrossOther F p_0.p p_1.p p_2 p_3 p_4 p_5 p_6 = some r) :
  Cf Tryd.prog 7 [.agg #[I p_0.ID, .slice p_0.Entries_A p_0.Entries.length p_0.Entries_c], .agg #[I p_1.ID, .slice p_1.Entries_A p_1.Entries.length p_1.Entries_c], Y p_2, Y p_3, Y p_4, .agg #[U p_5.f0, U p_5.f1], U p_6] [KOfficeL.ok p_0, KOfficeL.ok p_1] (B r) := by
 unfold G_regulatorlaw26_CrossOther at hG; refine fi Tryd.func7 rfl rfl (mc KOfficeL.mv (mc KOfficeL.mv m0)) fun S0 w0 hT => ?_
 refine sq ?_; refine rg ?_; refine l1 ?_; refine nw 7 vp [I p_0.ID, .slice p_0.Entries_A p_0.Entries.length p_0.Entries_c] 24 fun g_1 => ?_
 refine l1 ?_; refine nw 8 vp [I p_1.ID, .slice p_1.Entries_A p_1.Entries.length p_1.Entries_c] 24 fun g_2 => ?_
 refine l1 ?_; refine nw 12 vp [U p_5.f0, U p_5.f1] 46 fun g_3 => ?_
 refine ra [] f0 [] ?_; refine tN ?_; refine sq ?_; replace hG := bind_some hG; obtain ⟨v_4, hy_4, hG⟩ := hG; refine rg ?_; refine l1 ?_; refine cl 24 (z_regulatorlaw26_head F  _ hy_4) hT trivial ?_; refine ra [] f0 [(15, B v_4)] ?_; refine tN ?_; refine sq ?_; replace hG := bind_some hG; obtain ⟨⟨v_5o, v_6⟩, hy_5, hG⟩ := hG; refine rg ?_; refine rn 5 [(0, 2, 2, 0), (0, 2, 1, 0), (2, 2, 0, 0)] f0 [(26, .agg #[I p_0.ID, .slice p_0.Entries_A p_0.Entries.length p_0.Entries_c]), (27, .agg #[I p_1.ID, .slice p_1.Entries_A p_1.Entries.length p_1.Entries_c]), (28, Y p_2), (29, Y p_3), (30, .agg #[U p_5.f0, U p_5.f1])] ?_; refine l1 ?_; refine cn 31 (z_regulatorlaw26_made F p_0 p_1 p_2 p_3 p_5 _ hy_5) hT (fun _ => (mc Kregulatorlaw26_loggedL.mv m0)) ⟨(gi 3), (gi 4), trivial⟩ ?_; rintro v_5 hq_5; obtain rfl : v_5.p = v_5o := hq_5.symm; refine rn 3 [] f0 [(32, .agg #[I v_5.from_.ID, .slice v_5.from_.Entries_A v_5.from_.Entries.length v_5.from_.Entries_c, I v_5.by_.ID, .slice v_5.by_.Entries_A v_5.by_.Entries.length v_5.by_.Entries_c, I v_5.first.Office, I v_5.first.Size, U v_5.first.Root, I v_5.first.Sig.C, I v_5.first.Sig.S, I v_5.of_.Office, I v_5.of_.Size, U v_5.of_.Root, I v_5.of_.Sig.C, I v_5.of_.Sig.S, I v_5.head.Office, I v_5.head.Size, U v_5.head.Root, I v_5.head.Sig.C, I v_5.head.Sig.S, .slice v_5.pubs_A v_5.pubs.length v_5.pubs_c, I v_5.key, I v_5.second]), (33, B v_6)] ?_; refine l1 ?_; refine nw 16 vp [I 0, .slice none 0 0, I 0, .slice none 0 0, I 0, I 0, U 0, I 0, I 0, I 0, I 0, U 0, I 0, I 0, I 0, I 0, U 0, I 0, I 0, .slice none 0 0, I 0, I 0] 64 fun g_7 => ?_
 refine l1 ?_; refine sr 0 g_7 [(0, I v_5.from_.ID), (1, .slice v_5.from_.Entries_A v_5.from_.Entries.length v_5.from_.Entries_c), (2, I v_5.by_.ID), (3, .slice v_5.by_.Entries_A v_5.by_.Entries.length v_5.by_.Entries_c), (4, I v_5.first.Office), (5, I v_5.first.Size), (6, U v_5.first.Root), (7, I v_5.first.Sig.C), (8, I v_5.first.Sig.S), (9, I v_5.of_.Office), (10, I v_5.of_.Size), (11, U v_5.of_.Root), (12, I v_5.of_.Sig.C), (13, I v_5.of_.Sig.S), (14, I v_5.head.Office), (15, I v_5.head.Size), (16, U v_5.head.Root), (17, I v_5.head.Sig.C), (18, I v_5.head.Sig.S), (19, .slice v_5.pubs_A v_5.pubs.length v_5.pubs_c), (20, I v_5.key), (21, I v_5.second)] ?_; refine ra [] f0 [(17, B v_6)] ?_; refine tN ?_; refine sq ?_; refine sq ?_; refine rg ?_; refine ra [] f0 [(35, B (!v_6))] ?_; refine tN ?_; rcases ifB_cases hG with ⟨h_8, hG⟩ | ⟨h_8, hG⟩
 ·refine sb 35 (nt h_8) ?_; refine cf ?_; refine kS ?_; refine tN ?_; refine sq ?_; replace hG := bind_some hG; obtain ⟨⟨v_9o, v_10⟩, hy_9, hG⟩ := hG; refine rg ?_; refine rn 10 [(1, 2, 0, 0), (1, 5, 0, 4), (1, 5, 0, 9), (1, 2, 0, 2), (1, 5, 0, 14)] f0 [(39, .agg #[I v_5.from_.ID, .slice v_5.from_.Entries_A v_5.from_.Entries.length v_5.from_.Entries_c]), (41, .agg #[I v_5.first.Office, I v_5.first.Size, U v_5.first.Root, I v_5.first.Sig.C, I v_5.first.Sig.S]), (43, .agg #[I v_5.of_.Office, I v_5.of_.Size, U v_5.of_.Root, I v_5.of_.Sig.C, I v_5.of_.Sig.S]), (45, .agg #[I v_5.by_.ID, .slice v_5.by_.Entries_A v_5.by_.Entries.length v_5.by_.Entries_c]), (47, .agg #[I v_5.head.Office, I v_5.head.Size, U v_5.head.Root, I v_5.head.Sig.C, I v_5.head.Sig.S])] ?_; refine l1 ?_; refine cn 48 (z_cross_Witness F v_5.from_ v_5.first v_5.of_ v_5.by_ v_5.head _ hy_9) hT (fun _ => (mc KHopL.mv m0)) ⟨(gm (Kregulatorlaw26_loggedL.ok v_5) 1 fun _ _ h => h.b_from_), (gm (Kregulatorlaw26_loggedL.ok v_5) 1 fun _ _ h => h.b_by_), trivial⟩ ?_; rintro v_9 hq_9; obtain rfl : v_9.p = v_9o := hq_9.symm; refine rn 3 [] f0 [(49, .agg #[I v_9.Of.Office, I v_9.Of.Size, U v_9.Of.Root, I v_9.Of.Sig.C, I v_9.Of.Sig.S, .slice v_9.Grow_A v_9.Grow.length v_9.Grow_c, I v_9.By.Head.Office, I v_9.By.Head.Size, U v_9.By.Head.Root, I v_9.By.Head.Sig.C, I v_9.By.Head.Sig.S, I v_9.By.Index, U v_9.By.Entry.Doc, I v_9.By.Entry.Stamp.Lo, I v_9.By.Entry.Stamp.Hi, .slice v_9.By.Path_A v_9.By.Path.length v_9.By.Path_c]), (50, I v_10)] ?_; refine l1 ?_; refine nw 18 vp [I 0, I 0, U 0, I 0, I 0, .slice none 0 0, I 0, I 0, U 0, I 0, I 0, I 0, U 0, I 0, I 0, .slice none 0 0] 40 fun g_11 => ?_
  refine l1 ?_; refine sr 0 g_11 [(0, I v_9.Of.Office), (1, I v_9.Of.Size), (2, U v_9.Of.Root), (3, I v_9.Of.Sig.C), (4, I v_9.Of.Sig.S), (5, .slice v_9.Grow_A v_9.Grow.length v_9.Grow_c), (6, I v_9.By.Head.Office), (7, I v_9.By.Head.Size), (8, U v_9.By.Head.Root), (9, I v_9.By.Head.Sig.C), (10, I v_9.By.Head.Sig.S), (11, I v_9.By.Index), (12, U v_9.By.Entry.Doc), (13, I v_9.By.Entry.Stamp.Lo), (14, I v_9.By.Entry.Stamp.Hi), (15, .slice v_9.By.Path_A v_9.By.Path.length v_9.By.Path_c)] ?_; refine ra [] f0 [(19, I v_10)] ?_; refine tN ?_; obtain ⟨o_17, hG, hG_17⟩ := bind_some hG; refine jn (fun K E a w => ∃ (g_18 : Nat), ∃ (v_19 : Int), ∃ (v_20 : Int), ∃ (v_21 : Int), ∃ (v_22 : Int), ∃ (v_23 : Int), ∃ (v_24 : Int), Js S0 w0 103 ([(20, Pt g_18 0), (21, I v_24)] ++ K) ([.dat (RowC v_5.from_.Entries_A v_5.from_.Entries_c KEntry.cells tr v_5.from_.Entries), .dat (RowC v_5.by_.Entries_A v_5.by_.Entries_c KEntry.cells tr v_5.by_.Entries), .dat (RowC v_5.pubs_A v_5.pubs_c c_i64 tr v_5.pubs), .dat (RowC v_9.Grow_A v_9.Grow_c c_u64 tr v_9.Grow), .dat (RowC v_9.By.Path_A v_9.By.Path_c c_u64 tr v_9.By.Path), .blk g_18 29 [I v_19, I v_20, U v_21, I v_22, I v_23]] ++ se E [0, 2]) ((v_19, v_20, v_21, v_22, v_23, v_24) = o_17) a w) ?_ ?_
  ·replace hG := bind_some hG; obtain ⟨v_12, hy_12, hG⟩ := hG; replace hG := bind_some hG; obtain ⟨v_13, hy_13, hG⟩ := hG; replace hG := bind_some hG; obtain ⟨⟨v_14, v_15⟩, hy_14, hG⟩ := hG; refine hb [0, 1, 2, 3, 4, 5, 6, 7, 8] ?_; refine ht [0, 1, 2, 3, 4, 5, 6, 7, 8] [0, 1, 2, 3, 4, 5, 6, 7, 8, 9, 10, 11, 12] [(1, 2, 2, 0), (4, 1, 2, 1), (1, 0, 0, 0), (2, 1, 2, 20)] (fc (fun W => run_rem (T := 3) (k := .i64) (p := IntKind.i64.wrap p_4) (q := ((v_5.from_.Entries.length : Nat) : Int)) (nz_of (whenG_some hy_12).1) W) f0) [(53, .agg #[I v_5.from_.ID, .slice v_5.from_.Entries_A v_5.from_.Entries.length v_5.from_.Entries_c]), (61, I (IntKind.i64.wrap (1 + (Int.tmod (IntKind.i64.wrap p_4) ((v_5.from_.Entries.length : Nat) : Int))))), (63, I v_5.key), (64, U p_6)] ?_; refine ho [13, 18] ⟨?_, ?_, trivial⟩
   ·refine h1 ?_; refine cl 65 (z_regulatorref06_Secret F p_6 _ hy_13) hT trivial ?_; refine hk [0, 1, 2, 3, 4, 5, 6, 7, 8] ?_; refine ho [14, 18] ⟨?_, ?_, trivial⟩
    ·refine h1 ?_; refine cl 66 (z_office_Sign F v_5.from_ (IntKind.i64.wrap (1 + (Int.tmod (IntKind.i64.wrap p_4) ((v_5.from_.Entries.length : Nat) : Int)))) v_5.key v_13 _ hy_14) hT ⟨(gm (Kregulatorlaw26_loggedL.ok v_5) 3 fun _ _ h => h.b_from_).a, trivial⟩ ?_; refine hk [0, 1, 2, 3, 4, 5, 6, 7, 8] ?_; refine ht [0, 1, 2, 3, 4, 5, 6, 7, 8] [15, 16, 17] [] f0 [(67, .agg #[I v_14.Office, I v_14.Size, U v_14.Root, I v_14.Sig.C, I v_14.Sig.S]), (68, I v_15)] ?_; refine ho [18] ⟨?_, trivial⟩; refine h1 ?_; refine nw 20 vp [I 0, I 0, U 0, I 0, I 0] 29 fun g_16 => ?_
     refine hk [1, 2, 3, 4, 5, 6, 7, 8, 9] ?_; refine ho [19] ⟨?_, trivial⟩; refine h1 ?_; refine sr 0 g_16 [(0, I v_14.Office), (1, I v_14.Size), (2, U v_14.Root), (3, I v_14.Sig.C), (4, I v_14.Sig.S)] ?_; refine hk [1, 2, 3, 4, 5, 6, 7, 8, 9] ?_; refine ht [1, 2, 3, 4, 5, 6, 7, 8, 9] [20] [] f0 [(21, I v_15)] ?_; refine he ?_; refine tN ?_; refine fm (RowC v_5.from_.Entries_A v_5.from_.Entries_c KEntry.cells tr v_5.from_.Entries) (gm (Kregulatorlaw26_loggedL.ok v_5) 4 fun _ _ h => h.b_from_.f_Entries) ?_; refine fm (RowC v_5.by_.Entries_A v_5.by_.Entries_c KEntry.cells tr v_5.by_.Entries) (gm (Kregulatorlaw26_loggedL.ok v_5) 5 fun _ _ h => h.b_by_.f_Entries) ?_; refine fm (RowC v_5.pubs_A v_5.pubs_c c_i64 tr v_5.pubs) (gm (Kregulatorlaw26_loggedL.ok v_5) 6 fun _ _ h => h.f_pubs) ?_; refine fm (RowC v_9.Grow_A v_9.Grow_c c_u64 tr v_9.Grow) (gm (KHopL.ok v_9) 5 fun _ _ h => h.f_Grow) ?_; refine fm (RowC v_9.By.Path_A v_9.By.Path_c c_u64 tr v_9.By.Path) (gm (KHopL.ok v_9) 6 fun _ _ h => h.b_By.f_Path) ?_; exact fun a w S hK hE => ⟨g_16, v_14.Office, v_14.Size, v_14.Root, v_14.Sig.C, v_14.Sig.S, v_15, S, hK.wk, hE.sel [4, 3, 2, 1, 0, 5, 6, 8], Option.some.inj hG⟩
    ·refine h1 ?_; refine nw 20 vp [I 0, I 0, U 0, I 0, I 0] 29 fun g_16 => ?_
     refine hk [1, 2, 3, 4, 5, 6, 7, 8, 9] ?_; refine ho [14] ⟨?_, trivial⟩; refine h1 ?_; refine cl 66 (z_office_Sign F v_5.from_ (IntKind.i64.wrap (1 + (Int.tmod (IntKind.i64.wrap p_4) ((v_5.from_.Entries.length : Nat) : Int)))) v_5.key v_13 _ hy_14) hT ⟨(gm (Kregulatorlaw26_loggedL.ok v_5) 4 fun _ _ h => h.b_from_).a, trivial⟩ ?_; refine hk [1, 2, 3, 4, 5, 6, 7, 8, 9] ?_; refine ht [1, 2, 3, 4, 5, 6, 7, 8, 9] [15, 16, 17] [] f0 [(67, .agg #[I v_14.Office, I v_14.Size, U v_14.Root, I v_14.Sig.C, I v_14.Sig.S]), (68, I v_15)] ?_; refine ho [19] ⟨?_, trivial⟩; refine h1 ?_; refine sr 0 g_16 [(0, I v_14.Office), (1, I v_14.Size), (2, U v_14.Root), (3, I v_14.Sig.C), (4, I v_14.Sig.S)] ?_; refine hk [1, 2, 3, 4, 5, 6, 7, 8, 9] ?_; refine ht [1, 2, 3, 4, 5, 6, 7, 8, 9] [20] [] f0 [(21, I v_15)] ?_; refine he ?_; refine tN ?_; refine fm (RowC v_5.from_.Entries_A v_5.from_.Entries_c KEntry.cells tr v_5.from_.Entries) (gm (Kregulatorlaw26_loggedL.ok v_5) 4 fun _ _ h => h.b_from_.f_Entries) ?_; refine fm (RowC v_5.by_.Entries_A v_5.by_.Entries_c KEntry.cells tr v_5.by_.Entries) (gm (Kregulatorlaw26_loggedL.ok v_5) 5 fun _ _ h => h.b_by_.f_Entries) ?_; refine fm (RowC v_5.pubs_A v_5.pubs_c c_i64 tr v_5.pubs) (gm (Kregulatorlaw26_loggedL.ok v_5) 6 fun _ _ h => h.f_pubs) ?_; refine fm (RowC v_9.Grow_A v_9.Grow_c c_u64 tr v_9.Grow) (gm (KHopL.ok v_9) 5 fun _ _ h => h.f_Grow) ?_; refine fm (RowC v_9.By.Path_A v_9.By.Path_c c_u64 tr v_9.By.Path) (gm (KHopL.ok v_9) 6 fun _ _ h => h.b_By.f_Path) ?_; exact fun a w S hK hE => ⟨g_16, v_14.Office, v_14.Size, v_14.Root, v_14.Sig.C, v_14.Sig.S, v_15, S, hK.wk, hE.sel [4, 3, 2, 1, 0, 5, 6, 8], Option.some.inj hG⟩
   ·refine h1 ?_; refine nw 20 vp [I 0, I 0, U 0, I 0, I 0] 29 fun g_16 => ?_
    refine hk [1, 2, 3, 4, 5, 6, 7, 8, 9] ?_; refine ho [13] ⟨?_, trivial⟩; refine h1 ?_; refine cl 65 (z_regulatorref06_Secret F p_6 _ hy_13) hT trivial ?_; refine hk [1, 2, 3, 4, 5, 6, 7, 8, 9] ?_; refine ho [14] ⟨?_, trivial⟩; refine h1 ?_; refine cl 66 (z_office_Sign F v_5.from_ (IntKind.i64.wrap (1 + (Int.tmod (IntKind.i64.wrap p_4) ((v_5.from_.Entries.length : Nat) : Int)))) v_5.key v_13 _ hy_14) hT ⟨(gm (Kregulatorlaw26_loggedL.ok v_5) 4 fun _ _ h => h.b_from_).a, trivial⟩ ?_; refine hk [1, 2, 3, 4, 5, 6, 7, 8, 9] ?_; refine ht [1, 2, 3, 4, 5, 6, 7, 8, 9] [15, 16, 17] [] f0 [(67, .agg #[I v_14.Office, I v_14.Size, U v_14.Root, I v_14.Sig.C, I v_14.Sig.S]), (68, I v_15)] ?_; refine ho [19] ⟨?_, trivial⟩; refine h1 ?_; refine sr 0 g_16 [(0, I v_14.Office), (1, I v_14.Size), (2, U v_14.Root), (3, I v_14.Sig.C), (4, I v_14.Sig.S)] ?_; refine hk [1, 2, 3, 4, 5, 6, 7, 8, 9] ?_; refine ht [1, 2, 3, 4, 5, 6, 7, 8, 9] [20] [] f0 [(21, I v_15)] ?_; refine he ?_; refine tN ?_; refine fm (RowC v_5.from_.Entries_A v_5.from_.Entries_c KEntry.cells tr v_5.from_.Entries) (gm (Kregulatorlaw26_loggedL.ok v_5) 4 fun _ _ h => h.b_from_.f_Entries) ?_; refine fm (RowC v_5.by_.Entries_A v_5.by_.Entries_c KEntry.cells tr v_5.by_.Entries) (gm (Kregulatorlaw26_loggedL.ok v_5) 5 fun _ _ h => h.b_by_.f_Entries) ?_; refine fm (RowC v_5.pubs_A v_5.pubs_c c_i64 tr v_5.pubs) (gm (Kregulatorlaw26_loggedL.ok v_5) 6 fun _ _ h => h.f_pubs) ?_; refine fm (RowC v_9.Grow_A v_9.Grow_c c_u64 tr v_9.Grow) (gm (KHopL.ok v_9) 5 fun _ _ h => h.f_Grow) ?_; refine fm (RowC v_9.By.Path_A v_9.By.Path_c c_u64 tr v_9.By.Path) (gm (KHopL.ok v_9) 6 fun _ _ h => h.b_By.f_Path) ?_; exact fun a w S hK hE => ⟨g_16, v_14.Office, v_14.Size, v_14.Root, v_14.Sig.C, v_14.Sig.S, v_15, S, hK.wk, hE.sel [4, 3, 2, 1, 0, 5, 6, 8], Option.some.inj hG⟩
  ·rintro a w ⟨g_18, v_19, v_20, v_21, v_22, v_23, v_24, hJ⟩; refine hJ.go fun ho_ => ?_
   clear hJ; subst ho_; replace hG := hG_17; refine sq ?_; obtain ⟨o_26, hG, hG_26⟩ := bind_some hG; refine jn (fun K E a w => ∃ (v_27 : Bool), Js S0 w0 103 ([(74, B v_27)] ++ K) (se E [0, 1, 2, 3, 4, 5, 6, 7]) (v_27 = o_26) a w) ?_ ?_
   ·replace hG := ifB_cases hG; rcases hG with ⟨h_25, hG⟩ | ⟨h_25, hG⟩
    ·refine rg ?_; refine rn 3 [] f0 [(71, B (!(v_10 == 0)))] ?_; refine sb 71 (nt h_25) ?_; refine ra [] f0 [(74, B (!(v_24 == 0)))] ?_; refine tN ?_; exact fun a w S hK hE => ⟨!(v_24 == 0), S, hK.wk, hE.sel [0, 1, 2, 3, 4, 5, 6, 7], Option.some.inj hG⟩
    ·refine rg ?_; refine rn 3 [] f0 [(71, B (!(v_10 == 0)))] ?_; refine sb 71 (nf h_25) ?_; refine ra [] f0 [(74, B true)] ?_; refine tN ?_; exact fun a w S hK hE => ⟨true, S, hK.wk, hE.sel [0, 1, 2, 3, 4, 5, 6, 7], Option.some.inj hG⟩
   ·rintro a w ⟨v_27, hJ⟩; refine hJ.go fun ho_ => ?_
    clear hJ; subst ho_; replace hG := hG_26; rcases ifB_cases hG with ⟨h_28, hG⟩ | ⟨h_28, hG⟩
    ·refine sb 74 (bt h_28) ?_; refine ct ?_; refine sq ?_; refine rg ?_; refine ra [] f0 [(14, B false)] ?_; refine tN ?_; refine kR ?_; refine tR ?_; obtain rfl := Option.some.inj hG; exact rt []
    ·refine sb 74 (bf h_28) ?_; refine cf ?_; refine kS ?_; refine tN ?_; refine sq ?_; refine rg ?_; refine rn 2 [(0, 5, 5, 0)] f0 [(75, .agg #[I v_19, I v_20, U v_21, I v_22, I v_23]), (76, Pt g_11 0)] ?_; refine l1 ?_; refine sr 6 g_11 [(0, I v_19), (1, I v_20), (2, U v_21), (3, I v_22), (4, I v_23)] ?_; refine nl ?_; refine tN ?_; refine sq ?_; replace hG := bind_some hG; obtain ⟨⟨v_29, v_30⟩, hy_29, hG⟩ := hG; refine rg ?_; refine rn 5 [(1, 1, 7, 19), (1, 5, 7, 4), (0, 16, 6, 0)] f0 [(79, .slice v_5.pubs_A v_5.pubs.length v_5.pubs_c), (81, .agg #[I v_5.first.Office, I v_5.first.Size, U v_5.first.Root, I v_5.first.Sig.C, I v_5.first.Sig.S]), (82, .agg #[I v_19, I v_20, U v_21, I v_22, I v_23, .slice v_9.Grow_A v_9.Grow.length v_9.Grow_c, I v_9.By.Head.Office, I v_9.By.Head.Size, U v_9.By.Head.Root, I v_9.By.Head.Sig.C, I v_9.By.Head.Sig.S, I v_9.By.Index, U v_9.By.Entry.Doc, I v_9.By.Entry.Stamp.Lo, I v_9.By.Entry.Stamp.Hi, .slice v_9.By.Path_A v_9.By.Path.length v_9.By.Path_c])] ?_; refine l1 ?_; refine cl 83 (z_cross_Check F v_5.pubs_A v_5.pubs_c v_5.pubs v_5.first (⟨(⟨v_19, v_20, v_21, (⟨v_22, v_23⟩ : KSig)⟩ : KHead), v_9.Grow_A, v_9.Grow_c, v_9.Grow, v_9.By⟩ : KHopL) _ hy_29) hT ⟨ga 2, ((Fd.two ((gd' (RowC v_9.Grow_A v_9.Grow_c c_u64 tr v_9.Grow) 3)) ((gd' (RowC v_9.By.Path_A v_9.By.Path_c c_u64 tr v_9.By.Path) 4))).m fun _ _ h => ⟨h.1, ⟨h.2⟩⟩).a, trivial⟩ ?_; refine ra [] f0 [(22, B v_29), (23, I v_30)] ?_; refine tN ?_; obtain ⟨o_36, hG, hG_36⟩ := bind_some hG; refine jn (fun K E a w => ∃ (v_37 : Bool), Js S0 w0 103 ([(14, B v_37)] ++ K) (se E []) (v_37 = o_36) a w) ?_ ?_
     ·replace hG := ifB_cases hG; rcases hG with ⟨h_31, hG⟩ | ⟨h_31, hG⟩
      ·replace hG := ifB_cases hG; rcases hG with ⟨h_32, hG⟩ | ⟨h_32, hG⟩
       ·replace hG := ifB_cases hG; rcases hG with ⟨h_33, hG⟩ | ⟨h_33, hG⟩
        ·replace hG := bind_some hG; obtain ⟨v_34, hy_34, hG⟩ := hG; replace hG := bind_some hG; obtain ⟨v_35, hy_35, hG⟩ := hG; refine qb ?_; refine qn 2 [] f0 [(87, B v_4)] ?_; refine sb 87 (bt h_31) ?_; refine qn 4 [] f0 [(91, B (v_30 == 0))] ?_; refine sb 91 (bt h_32) ?_; refine qn 3 [] f0 [(94, B (!v_29))] ?_; refine sb 94 (nt h_33) ?_; refine qn 1 [(0, 5, 5, 0)] f0 [(95, .agg #[I v_19, I v_20, U v_21, I v_22, I v_23])] ?_; refine qc 96 (z_cross_Digest F (⟨v_19, v_20, v_21, (⟨v_22, v_23⟩ : KSig)⟩ : KHead) _ hy_34) hT trivial ?_; refine qn 2 [(1, 5, 7, 9)] f0 [(98, .agg #[I v_5.of_.Office, I v_5.of_.Size, U v_5.of_.Root, I v_5.of_.Sig.C, I v_5.of_.Sig.S])] ?_; refine qc 99 (z_cross_Digest F v_5.of_ _ hy_35) hT trivial ?_; refine qa [] f0 [(14, B (v_34 == v_35))] ?_; refine tN ?_; exact fun a w S hK hE => ⟨(v_34 == v_35), S, hK.wk, hE.sel [], Option.some.inj hG⟩
        ·refine qb ?_; refine qn 2 [] f0 [(87, B v_4)] ?_; refine sb 87 (bt h_31) ?_; refine qn 4 [] f0 [(91, B (v_30 == 0))] ?_; refine sb 91 (bt h_32) ?_; refine qn 3 [] f0 [(94, B (!v_29))] ?_; refine sb 94 (nf h_33) ?_; refine qa [] f0 [(14, B true)] ?_; refine tN ?_; exact fun a w S hK hE => ⟨true, S, hK.wk, hE.sel [], Option.some.inj hG⟩
       ·refine qb ?_; refine qn 2 [] f0 [(87, B v_4)] ?_; refine sb 87 (bt h_31) ?_; refine qn 4 [] f0 [(91, B (v_30 == 0))] ?_; refine sb 91 (bf h_32) ?_; refine qa [] f0 [(14, B false)] ?_; refine tN ?_; exact fun a w S hK hE => ⟨false, S, hK.wk, hE.sel [], Option.some.inj hG⟩
      ·refine qb ?_; refine qn 2 [] f0 [(87, B v_4)] ?_; refine sb 87 (bf h_31) ?_; refine qa [] f0 [(14, B false)] ?_; refine tN ?_; exact fun a w S hK hE => ⟨false, S, hK.wk, hE.sel [], Option.some.inj hG⟩
     ·rintro a w ⟨v_37, hJ⟩; refine hJ.go fun ho_ => ?_
      clear hJ; subst ho_; replace hG := hG_36; refine kR ?_; obtain rfl := Option.some.inj hG; exact rt []
 ·refine sb 35 (nf h_8) ?_; refine ct ?_; refine sq ?_; refine rg ?_; refine ra [] f0 [(14, B v_4)] ?_; refine tN ?_; refine kR ?_; refine tR ?_; obtain rfl := Option.some.inj hG; exact rt []
end Go.Proofs.YtiijddjfiojfaaaDoor
namespace Go.Proofs.YtiijddjfiojfaaaDoor
open Go.RowKit Go.Maps
end Go.Proofs.YtiijddjfiojfaaaDoor
namespace Go.Proofs.YtiijddjfiojfaaaDoor
open Go.RowKit
def vI (i : KInterval) : Bool := decide (0 ≤ i.Lo ∧ i.Lo ≤ i.Hi ∧ i.Hi ≤ 3000000000000000)
theorem vI_p (F : Nat) (i : KInterval) : G_interval_Valid F i = some (vI i) := by
 unfold G_interval_Valid vI
 by_cases h1 : 0 ≤ i.Lo <;> by_cases h2 : i.Lo ≤ i.Hi <;> by_cases h3 : i.Hi ≤ 3000000000000000 <;> simp [ifB, h1, h2, h3]
theorem vI_r (F : Nat) (i : KInterval) : G_regulatorref02_Valid F i = some (vI i) := vI_p F i
theorem logged_p (F : Nat) (e : KEntry) : G_office_logged_formed F ⟨e⟩ = some (vI e.Stamp) := by unfold G_office_logged_formed; rw [vI_p]; rfl
theorem btw_p (F : Nat) (n a b : Int) : G_office_between F n a b = some (decide (a ≤ n ∧ n ≤ b)) := by
 unfold G_office_between
 by_cases h1 : a ≤ n <;> by_cases h2 : n ≤ b <;> simp [ifB, h1, h2]
theorem within_p (F : Nat) (n a : Int) : G_group_within F n a = some (decide (a ≤ n ∧ n < 1073741789)) := by
 unfold G_group_within
 by_cases h1 : a ≤ n <;> by_cases h2 : n < 1073741789 <;> simp [ifB, h1, h2]
def fH (h : KHead) : Bool := decide ((1 ≤ h.Office ∧ h.Office ≤ 16) ∧ (1 ≤ h.Size ∧ h.Size ≤ 4096) ∧ (0 ≤ h.Sig.C ∧ h.Sig.C < 1073741789) ∧ (0 ≤ h.Sig.S ∧ h.Sig.S < 1073741789))
theorem fH_p (F : Nat) (h : KHead) : G_office_formed F h = some (fH h) := by
 unfold G_office_formed fH; simp only [btw_p, ob_some]
 by_cases h1 : 1 ≤ h.Office ∧ h.Office ≤ 16 <;> by_cases h2 : 1 ≤ h.Size ∧ h.Size ≤ 4096 <;> by_cases h3 : 0 ≤ h.Sig.C ∧ h.Sig.C ≤ 1073741788 <;> by_cases h4 : 0 ≤ h.Sig.S ∧ h.Sig.S ≤ 1073741788 <;> simp [ifB, h1, h2, h3, h4] <;> omega
def msgF (h : KHead) : List Int := [h.Office, h.Size, IntKind.i64.wrap (Int.fdiv h.Root (2 ^ 32)), IntKind.i64.wrap (IntKind.u32.wrap h.Root)]
theorem msg_p (F : Nat) (h : KHead) : G_office_message F h = some (msgF h) := rfl
theorem low32 {n : Int} (h0 : 0 ≤ n) (h1 : n ≤ 18446744073709551615) : bits BinOp.and IntKind.u64 n 4294967295 = IntKind.u32.wrap n := by
 obtain ⟨k, rfl⟩ : ∃ k : Nat, n = k := ⟨n.toNat, by omega⟩; rw [IntKind.wrap_u32, show (4294967295 : Int) = ((4294967295 : Nat) : Int) from rfl, bits_and_u64_nat k 4294967295 (by omega) (by omega)]; have e : (k : Nat) &&& 4294967295 = k % 4294967296 := Nat.and_two_pow_sub_one_eq_mod k 32; rw [e]; omega
theorem xAt_le (X : Nat) : ∀ k, xAt X k ≤ X
 | 0 => Nat.le_refl _
 | k + 1 => by have := xAt_le X k; show xAt X k / 2 ≤ X; omega
theorem xAt_pow (X : Nat) : ∀ k, xAt X k = X / 2 ^ k
 | 0 => by show X = X / 1; omega
 | k + 1 => by
  show xAt X k / 2 = _
  rw [xAt_pow X k, Nat.div_div_eq_div_mul, Nat.pow_succ]
theorem xAt_end {X e : Nat} (h : X < 2 ^ e) : ∃ n, n ≤ e ∧ xAt X n = 0 ∧ ∀ k, k < n → 0 < xAt X k := by
 induction e with
 | zero => exact ⟨0, Nat.le_refl _, by show X = 0; simp at h; omega, fun k hk => absurd hk (Nat.not_lt_zero _)⟩
 | succ e ih =>
  rcases Nat.lt_or_ge X (2 ^ e) with h1 | h1
  ·obtain ⟨n, h2, h3, h4⟩ := ih h1; exact ⟨n, by omega, h3, h4⟩
  ·refine ⟨e + 1, Nat.le_refl _, by rw [xAt_pow, Nat.div_eq_of_lt h], fun k hk => ?_⟩; rw [xAt_pow]; exact Nat.div_pos (Nat.le_trans (Nat.pow_le_pow_right (by omega) (by omega)) h1) (Nat.two_pow_pos k)
theorem odd_test (n : Nat) (h : n < 9223372036854775808) : (bits BinOp.and IntKind.i64 ((n : Nat) : Int) 1 == 1) = decide (n % 2 = 1) := by
 rw [and_in h]
 by_cases hn : n % 2 = 1
 ·rw [hn]; rfl
 ·rw [show n % 2 = 0 by omega]; rfl
theorem pow_pn (A X : Nat) (hA : A < 2147483579) (hX : X < 2 ^ 62) {F : Nat} (hF : 64 ≤ F) : G_group_power F (A : Int) (X : Int) = some ((pw A X : Nat) : Int) := by
 obtain ⟨n, hn, h0, hp⟩ := xAt_end hX; unfold G_group_power; rw [show ((X : Int), (A : Int), (1 : Int)) = (fun k => (((xAt X k : Nat) : Int), ((aAt A k : Nat) : Int), ((oAt A X k : Nat) : Int))) 0 from rfl]; rw [iter_seq (fun k => (((xAt X k : Nat) : Int), ((aAt A k : Nat) : Int), ((oAt A X k : Nat) : Int))) n ((oAt A X n : Nat) : Int) ?_ ?_ (by omega)]
 ·simp only [ob_some]; rw [at_end h0]
 ·intro k hk; have hx := xAt_le X k; have hx2 : X < 9223372036854775808 := Nat.lt_of_lt_of_le hX (by decide); simp only [un3]; rw [show decide (((xAt X k : Nat) : Int) > 0) = true from decide_eq_true (by have := hp k hk; omega), ifB_t, odd_test _ (by omega), mul_in (aAt_lt hA k) (aAt_lt hA k), mod_in, shr_in]
  by_cases ho : xAt X k % 2 = 1
  ·rw [show decide (xAt X k % 2 = 1) = true from decide_eq_true ho, ifB_t, mul_in (oAt_lt A X k) (aAt_lt hA k), mod_in]; simp only [ob_some]; rw [oAt_odd ho]; rfl
  ·rw [show decide (xAt X k % 2 = 1) = false from decide_eq_false ho, ifB_f]; simp only [ob_some]; rw [oAt_even ho]; rfl
 ·simp only [un3]; rw [h0]; rfl
theorem pow_rn (A X : Nat) (hA : A < 2147483579) (hX : X < 2 ^ 62) {F : Nat} (hF : 64 ≤ F) : G_regulatorref06_Power F (A : Int) (X : Int) 2147483579 = some ((pw A X : Nat) : Int) := by
 obtain ⟨n, hn, h0, hp⟩ := xAt_end hX; unfold G_regulatorref06_Power; rw [show ((A : Int), (X : Int), (2147483579 : Int), (1 : Int)) = (fun k => (((aAt A k : Nat) : Int), ((xAt X k : Nat) : Int), (2147483579 : Int), ((oAt A X k : Nat) : Int))) 0 from rfl]; rw [iter_seq (fun k => (((aAt A k : Nat) : Int), ((xAt X k : Nat) : Int), (2147483579 : Int), ((oAt A X k : Nat) : Int))) n ((oAt A X n : Nat) : Int) ?_ ?_ (by omega)]
 ·simp only [ob_some]; rw [at_end h0]
 ·intro k hk; have hx := xAt_le X k; have hx2 : X < 9223372036854775808 := Nat.lt_of_lt_of_le hX (by decide); simp only [un4]; have hz : whenG (!((2147483579 : Int) == 0)) () = some () := rfl; have hodd : (Int.tmod ((xAt X k : Nat) : Int) 2 == 1) = decide (xAt X k % 2 = 1) := by
   rw [show Int.tmod ((xAt X k : Nat) : Int) 2 = ((xAt X k % 2 : Nat) : Int) from rfl]
   by_cases hn : xAt X k % 2 = 1
   ·rw [hn]; rfl
   ·rw [show xAt X k % 2 = 0 by omega]; rfl
  have hhalf : IntKind.i64.wrap (Int.tdiv ((xAt X k : Nat) : Int) 2) = ((xAt X k / 2 : Nat) : Int) := by
   rw [show Int.tdiv ((xAt X k : Nat) : Int) 2 = ((xAt X k / 2 : Nat) : Int) from rfl, IntKind.wrap_i64]; omega
  rw [show decide (((xAt X k : Nat) : Int) > 0) = true from decide_eq_true (by have := hp k hk; omega), ifB_t, hodd, hz, mul_in (aAt_lt hA k) (aAt_lt hA k), mod_in, hhalf]
  by_cases ho : xAt X k % 2 = 1
  ·rw [show decide (xAt X k % 2 = 1) = true from decide_eq_true ho, ifB_t, mul_in (oAt_lt A X k) (aAt_lt hA k), mod_in]; simp only [ob_some]; rw [oAt_odd ho]; rfl
  ·rw [show decide (xAt X k % 2 = 1) = false from decide_eq_false ho, ifB_f]; simp only [ob_some]; rw [oAt_even ho]; rfl
 ·simp only [un4]; rw [h0]; rfl
def memB (a : Int) : Bool := decide (0 < a ∧ a < 2147483579 ∧ pw a.toNat 1073741789 = 1)
theorem mem_p (a : Int) {F : Nat} (hF : 64 ≤ F) : G_group_Member F a = some (memB a) := by
 unfold G_group_Member memB
 by_cases h1 : 0 < a
 ·by_cases h2 : a < 2147483579
  ·have hp := pow_pn a.toNat 1073741789 (by omega) (by decide) hF; rw [show ((a.toNat : Nat) : Int) = a by omega, show ((1073741789 : Nat) : Int) = 1073741789 from rfl] at hp; rw [hp]
   by_cases h3 : pw a.toNat 1073741789 = 1 <;> simp [ifB, h1, h2, h3] <;> omega
  ·simp [ifB, h1, h2]
 ·simp [ifB, h1]
def pubB (a : Int) : Bool := memB a && !(a == 1)
theorem pub_p (a : Int) {F : Nat} (hF : 64 ≤ F) : G_office_isPublic F a = some (pubB a) := by
 unfold G_office_isPublic pubB; rw [mem_p a hF]; cases h : (a == 1) <;> simp [ifB]
end Go.Proofs.YtiijddjfiojfaaaDoor
namespace Go.Proofs.YtiijddjfiojfaaaDoor
open Go.ChangeShapes Go.WideShapes Go.ChangeAt Go.RowKit Go.Deep
theorem own : ownKnob Tryd.prog.godebug = none := by kernel_rfl
theorem laidOut : laidOutB Tryd.prog = true := by kernel_rfl
section
variable {H : Type} {enc : TypeId × Value → H}
theorem trodAll_below {P : Program} (hl : laidOutB P = true) {W W' : World} (hb : Below W.heap.size W W') : ∀ {ts : List TypeId} {vs : List Value} {ds : List (DataW H)} {ps : List MemPlace},
  (∀ t ∈ ts, P.readableRec t = true ∧ t < P.types.size) → DataW.TrodAll enc P W 0 (fun _ => true) true ts vs ds ps → (∀ x ∈ ps, x.block < W.heap.size) →
  DataW.TrodAll enc P W' 0 (fun b => decide (b < W.heap.size)) true ts vs ds ps
 | [], vs, ds, ps, _, h, _ => by
  obtain ⟨rfl, rfl, rfl⟩ := trodAll_nil h; rfl
 | t :: ts, vs, ds, ps, hr, h, hlt => by
  obtain ⟨v, vs', d, ds', p, q, rfl, rfl, rfl, h1, h2⟩ := trodAll_cons h; have h0 := hr t (by simp); exact trodAll_cons_mk (Below.trod hl h0.1 h0.2 h1 hb (fun x hx => hlt x (by simp [hx]))) (trodAll_below hl hb (fun t ht => hr t (by simp [ht])) h2 (fun x hx => hlt x (by simp [hx])))
theorem post_true {P : Program} {fn : Func} {s : ChangeSpec} {W W' : World} {args : Array Value} {ds gs : List (DataW H)} {before : List MemPlace} {b : TypeId} (hl : laidOutB P = true)
  (hr : ∀ t ∈ fn.params.toList, P.readableRec t = true ∧ t < P.types.size) (hb4 : P.underlying b = some .bool) (hrt : fn.resultTypes = #[b]) (hs : s.vars = [])
  (hW : DataW.Whole enc P fn.params.toList s.vars false W args.toList ds gs before) (hres : (s.fn H (ds ++ gs)).results = [.lit (.bool true)]) (hargs : (s.fn H (ds ++ gs)).args = ds) (hvs : (s.fn H (ds ++ gs)).vars = [])
  (hb : Below W.heap.size W W') : s.post enc P fn false true false false W args (.bool true) W' := by
 have hW' := hW; obtain ⟨p, q, hA, hV, rfl, _, _⟩ := hW; rw [hs] at hV; obtain ⟨rfl, rfl⟩ := trodVars_none hV; refine ⟨_, _, _, [], p, [], hW', ?_, ?_, ?_, hb.frame _, fun h => by cases h⟩
 ·rw [hres, hrt]; exact trodAll_mk1 (shut_bool hb4 true)
 ·rw [hargs]; exact trodAll_below hl hb hr hA (fun x hx => by simpa using hW'.lt x (by simp [hx]))
 ·rw [hvs, hs]; rfl
end
end Go.Proofs.YtiijddjfiojfaaaDoor
namespace Go.Proofs.YtiijddjfiojfaaaDoor
open Go.ChangeShapes Go.WideShapes Go.ChangeAt Go.RowKit Go.Deep
def inKd (k : IntKind) (n : Int) : Prop := (Lit.int k n).wf = true
theorem inKd_i64 {n : Int} (h : inKd .i64 n) : -9223372036854775808 ≤ n ∧ n ≤ 9223372036854775807 := by
 have : IntKind.i64.min ≤ n ∧ n ≤ IntKind.i64.max := by simpa [inKd, Lit.wf] using h
 rwa [show IntKind.i64.min = -9223372036854775808 by decide, show IntKind.i64.max = 9223372036854775807 by decide] at this
theorem inKd_u64 {n : Int} (h : inKd .u64 n) : 0 ≤ n ∧ n ≤ 18446744073709551615 := by
 have : IntKind.u64.min ≤ n ∧ n ≤ IntKind.u64.max := by simpa [inKd, Lit.wf] using h
 rwa [show IntKind.u64.min = 0 by decide, show IntKind.u64.max = 18446744073709551615 by decide] at this
theorem inKd_u8 {n : Int} (h : inKd .u8 n) : 0 ≤ n ∧ n ≤ 255 := by
 have : IntKind.u8.min ≤ n ∧ n ≤ IntKind.u8.max := by simpa [inKd, Lit.wf] using h
 rwa [show IntKind.u8.min = 0 by decide, show IntKind.u8.max = 255 by decide] at this
theorem rowS_all {w : World} {A : Option Addr} {xs : List Value} (h : Rd w A xs) : RowS (fun g => g < w.heap.size) w A xs := ⟨h, fun hn => by obtain ⟨b, o, e, hb, _⟩ := h hn; exact ⟨b, o, e, hb⟩⟩
theorem choose_ltK {α : Type} [Inhabited α] {n : Nat} {p : Nat → α → Prop} (h : ∀ i, i < n → ∃ v, p i v) : ∃ V : Nat → α, ∀ i, i < n → p i (V i) := by
 have h' : ∀ i, ∃ v, i < n → p i v := fun i => by
  rcases Nat.lt_or_ge i n with hi | hi
  ·obtain ⟨v, hv⟩ := h i hi; exact ⟨v, fun _ => hv⟩
  ·exact ⟨default, fun h => absurd h (Nat.not_lt.2 hi)⟩
 exact ⟨fun i => Classical.choose (h' i), fun i => Classical.choose_spec (h' i)⟩
theorem fl_get {α : Type} (f : α → List Value) (m : Nat) (hm : ∀ x, (f x).length = m) : ∀ (l : List α) (k j : Nat) (hk : k < l.length), j < m → (l.flatMap f)[k * m + j]? = (f l[k])[j]?
 | [], k, j, hk, _ => absurd hk (Nat.not_lt_zero _)
 | x :: l, 0, j, _, hj => by
  rw [List.flatMap_cons, Nat.zero_mul, Nat.zero_add, List.getElem?_append_left (by rw [hm]; exact hj)]; rfl
 | x :: l, k + 1, j, hk, hj => by
  rw [List.flatMap_cons, List.getElem?_append_right (by rw [hm, Nat.add_mul]; omega), hm]; have := fl_get f m hm l k j (by simpa using hk) hj; rw [← show (k + 1) * m + j - m = k * m + j from by rw [Nat.add_mul]; omega] at this; exact this
theorem cell_ltK {w : World} {b o : Nat} {u : Value} (h : w.cell? ⟨b, o, none⟩ = some u) : b < w.heap.size := World.block_lt_of_cell? w ⟨b, o, none⟩ h
section
variable {α : Type} {f : α → List Value} {m : Nat} {w : World}
theorem rd_mk {b o : Nat} {l : List α} (hm : ∀ x, (f x).length = m) (h0 : 0 < m) (h : ∀ i (hi : i < l.length) j, j < m → w.cell? ⟨b, o + i * m + j, none⟩ = (f l[i])[j]?) : Rd w (some ⟨b, o, none⟩) (l.flatMap f) := fun hne => by
 have hl : 0 < l.length := by
  cases l with
  | nil => exact absurd rfl hne
  | cons _ _ => simp
 have hlen := fl_len f m hm l; refine ⟨b, o, rfl, ?_, fun j u hu => ?_⟩
 ·have h1 := h 0 hl 0 h0; have h2 : (f l[0])[0]? = some ((f l[0])[0]'(by rw [hm]; exact h0)) := List.getElem?_eq_getElem _; rw [h2] at h1; exact cell_ltK h1
 ·have hj : j < l.length * m := by
   have := (List.getElem?_eq_some_iff.1 hu).1
   rwa [hlen] at this
  have hi : j / m < l.length := Nat.div_lt_of_lt_mul (by rw [Nat.mul_comm]; exact hj); have hr : j % m < m := Nat.mod_lt _ h0; have he : j / m * m + j % m = j := by rw [Nat.mul_comm]; exact Nat.div_add_mod _ _
  have hg := fl_get f m hm l (j / m) (j % m) hi hr; rw [he] at hg; rw [hg] at hu; have := h (j / m) hi (j % m) hr; rw [Nat.add_assoc, he] at this; rw [this]; exact hu
end
section
variable {H : Type} {enc : TypeId × Value → H} {w : World} {base : Nat} {spare : Nat → Bool} {held : Bool}
theorem trod_rowS {α : Type} [Inhabited α] (f : α → List Value) {m : Nat} (h0 : 0 < m) (hm : ∀ x, (f x).length = m) {T E : TypeId} (hu : Tryd.prog.underlying T = some (.slice E)) (hc : Tryd.prog.cellsOf E = m) (Q : α → Prop)
  (hE : ∀ n cs x, DataW.trod enc Tryd.prog w base spare held n E cs = some x → ∃ v, cs = f v ∧ Q v) {fuel : Nat} {cs : List Value} {x : DataW H × List MemPlace} (h : DataW.trod enc Tryd.prog w base spare held fuel T cs = some x) :
  ∃ (A : Option Addr) (c : Nat) (l : List α), cs = [.slice A l.length c] ∧ l.length ≤ c ∧ c ≤ maxLen ∧ Rd w A (l.flatMap f) ∧ ∀ v ∈ l, Q v := by
 obtain ⟨d, p⟩ := x; rcases open_slice hu h with ⟨hcs, _⟩ | ⟨a, len, cap, mm, n, D, Pl, hcs, _, hl, hmx, hmm, _, hx⟩
 ·exact ⟨none, 0, [], hcs, Nat.le_refl _, Nat.zero_le _, Rd.nil _ _, fun v hv => by cases hv⟩
 ·have hlm : len ≤ mm := by rw [hmm]; split <;> omega
  have hex : ∀ i, i < len → ∃ v : α, (∀ j, j < m → w.cell? ((a.add (i * m)).add j) = (f v)[j]?) ∧ Q v := fun i hi => by
   obtain ⟨cs', h1, h2⟩ := hx i (by omega); rw [hc] at h1; obtain ⟨v, rfl, hq⟩ := hE _ _ _ h2; exact ⟨v, (World.cells?_some h1).2.2, hq⟩
  obtain ⟨V, hV⟩ := choose_ltK hex; refine ⟨some a, cap, (List.range len).map V, by rw [hcs]; simp, by simpa using hl, hmx, ?_, ?_⟩
  ·rcases Nat.eq_zero_or_pos len with h00 | h00
   ·subst h00; exact Rd.nil _ _
   obtain ⟨b, o, spot⟩ := a; have hs : spot = none := by
    have := (hV 0 h00).1 0 h0; simp only [Nat.zero_mul, Addr.add, if_true] at this; have h2 : (f (V 0))[0]? = some ((f (V 0))[0]'(by rw [hm]; exact h0)) := List.getElem?_eq_getElem _; rw [h2] at this; exact World.cell?_spot this
   subst hs; refine rd_mk hm h0 fun i hi j hj => ?_
   have hi' : i < len := by simpa using hi
   have e : ∀ j, (((⟨b, o, none⟩ : Addr).add (i * m)).add j) = ⟨b, o + i * m + j, none⟩ := fun j => by rw [add_addr, add_addr]
   have hcc := (hV i hi').1 j hj; rw [e] at hcc; simp only [List.getElem_map, List.getElem_range]; exact hcc
  ·intro v hv; obtain ⟨i, hi, rfl⟩ := List.mem_map.1 hv; exact (hV i (List.mem_range.1 hi)).2
end
end Go.Proofs.YtiijddjfiojfaaaDoor
namespace Go.Proofs.YtiijddjfiojfaaaDoor
open Go.ChangeShapes Go.WideShapes Go.ChangeAt Go.RowKit Go.Deep
theorem okWide_arr {P : Program} {w : World} {r : Reach} {base : Nat} {t e : TypeId} {n : Nat} {v : Value} (ht : P.underlying t = some (.array n e)) (h : Value.okWide P w r base t v) : ∃ cs, v = .agg cs ∧ cs.size = P.cellsOf t := by
 simp only [Value.okWide, ht] at h; obtain ⟨cs, h1, h2, _⟩ := h; exact ⟨cs, h1, h2⟩
section
variable {H : Type} {enc : TypeId × Value → H} {w : World} {base : Nat} {spare : Nat → Bool} {held : Bool}
set_option maxRecDepth 10000
theorem trod_int {n : Nat} {cs : List Value} {x : DataW H × List MemPlace} (h : DataW.trod enc Tryd.prog w base spare held n 3 cs = some x) : ∃ v : Int, cs = c_i64 v ∧ inKd .i64 v := by
 obtain ⟨a, e, _, hw⟩ := DataW.trod_int Tryd.underlying3 h; exact ⟨a, e, hw⟩
theorem cl_int : Tryd.prog.cellsOf 3 = 1 := by kernel_rfl
theorem trod_uint64 {n : Nat} {cs : List Value} {x : DataW H × List MemPlace} (h : DataW.trod enc Tryd.prog w base spare held n 25 cs = some x) : ∃ v : Int, cs = c_u64 v ∧ inKd .u64 v := by
 obtain ⟨a, e, _, hw⟩ := DataW.trod_int Tryd.underlying25 h; exact ⟨a, e, hw⟩
theorem cl_uint64 : Tryd.prog.cellsOf 25 = 1 := by kernel_rfl
theorem cl_api_Interval : Tryd.prog.cellsOf 34 = 2 := by kernel_rfl
structure KInterval.rng (x : KInterval) : Prop where
 r_Lo : inKd .i64 x.Lo
 r_Hi : inKd .i64 x.Hi
theorem tf_api_Interval : ∃ f0 f1 : Field, Tryd.prog.underlying 34 = some (.struct #[f0, f1]) ∧ (f0.offset = 0 ∧ f0.type = 3) ∧ (f1.offset = 1 ∧ f1.type = 3) := ⟨_, _, Tryd.underlying34, ⟨by kernel_rfl, by kernel_rfl⟩, ⟨by kernel_rfl, by kernel_rfl⟩⟩
theorem trod_api_Interval {n : Nat} {cs : List Value} {x : DataW H × List MemPlace} (h : DataW.trod enc Tryd.prog w base spare held n 34 cs = some x) : ∃ v : KInterval, cs = v.cells ∧ KInterval.rng v := by
 obtain ⟨f0, f1, hu, ⟨o0, t0⟩, ⟨o1, t1⟩⟩ := tf_api_Interval; obtain ⟨xs, n', _, _, hlen, hxl, hf⟩ := DataW.trod_struct hu h; rw [cl_api_Interval] at hlen
 match cs, hlen with
 | [c0, c1], _ =>
  have q0 := hf 0 f0 rfl; obtain ⟨y0, hy0⟩ : ∃ y, xs[0]? = some y := ⟨_, List.getElem?_eq_getElem (by rw [hxl]; exact (by decide : 0 < 2))⟩; rw [hy0, o0, t0, cl_int] at q0; obtain ⟨v0, e0, hg0⟩ := trod_int q0; replace e0 : [c0] = [I v0] := e0; simp only [List.cons.injEq, and_true] at e0; obtain rfl := e0; have q1 := hf 1 f1 rfl; obtain ⟨y1, hy1⟩ : ∃ y, xs[1]? = some y := ⟨_, List.getElem?_eq_getElem (by rw [hxl]; exact (by decide : 1 < 2))⟩; rw [hy1, o1, t1, cl_int] at q1; obtain ⟨v1, e1, hg1⟩ := trod_int q1; replace e1 : [c1] = [I v1] := e1; simp only [List.cons.injEq, and_true] at e1; obtain rfl := e1; exact ⟨⟨v0, v1⟩, rfl, ⟨hg0, hg1⟩⟩
theorem cl_api_Entry : Tryd.prog.cellsOf 36 = 3 := by kernel_rfl
structure KEntry.rng (x : KEntry) : Prop where
 r_Doc : inKd .u64 x.Doc
 r_Stamp : KInterval.rng x.Stamp
theorem tf_api_Entry : ∃ f0 f1 : Field, Tryd.prog.underlying 36 = some (.struct #[f0, f1]) ∧ (f0.offset = 0 ∧ f0.type = 25) ∧ (f1.offset = 1 ∧ f1.type = 34) := ⟨_, _, Tryd.underlying36, ⟨by kernel_rfl, by kernel_rfl⟩, ⟨by kernel_rfl, by kernel_rfl⟩⟩
theorem trod_api_Entry {n : Nat} {cs : List Value} {x : DataW H × List MemPlace} (h : DataW.trod enc Tryd.prog w base spare held n 36 cs = some x) : ∃ v : KEntry, cs = v.cells ∧ KEntry.rng v := by
 obtain ⟨f0, f1, hu, ⟨o0, t0⟩, ⟨o1, t1⟩⟩ := tf_api_Entry; obtain ⟨xs, n', _, _, hlen, hxl, hf⟩ := DataW.trod_struct hu h; rw [cl_api_Entry] at hlen
 match cs, hlen with
 | [c0, c1, c2], _ =>
  have q0 := hf 0 f0 rfl; obtain ⟨y0, hy0⟩ : ∃ y, xs[0]? = some y := ⟨_, List.getElem?_eq_getElem (by rw [hxl]; exact (by decide : 0 < 2))⟩; rw [hy0, o0, t0, cl_uint64] at q0; obtain ⟨v0, e0, hg0⟩ := trod_uint64 q0; replace e0 : [c0] = [U v0] := e0; simp only [List.cons.injEq, and_true] at e0; obtain rfl := e0; have q1 := hf 1 f1 rfl; obtain ⟨y1, hy1⟩ : ∃ y, xs[1]? = some y := ⟨_, List.getElem?_eq_getElem (by rw [hxl]; exact (by decide : 1 < 2))⟩; rw [hy1, o1, t1, cl_api_Interval] at q1; obtain ⟨v1, e1, hg1⟩ := trod_api_Interval q1; replace e1 : [c1, c2] = [I v1.Lo, I v1.Hi] := e1; simp only [List.cons.injEq, and_true] at e1; obtain ⟨rfl, rfl⟩ := e1; exact ⟨⟨v0, v1⟩, rfl, ⟨hg0, hg1⟩⟩
instance : Inhabited KEntry := ⟨⟨0, ⟨0, 0⟩⟩⟩
theorem trod_Sl_api_Entry {n : Nat} {cs : List Value} {x : DataW H × List MemPlace} (h : DataW.trod enc Tryd.prog w base spare held n 22 cs = some x) :
  ∃ (A : Option Addr) (c : Nat) (l : List KEntry), cs = [.slice A l.length c] ∧ RowC A c KEntry.cells tr l (fun g => g < w.heap.size) w ∧ (∀ y ∈ l, KEntry.rng y) := by
 obtain ⟨A, c, l, h1, h2, h3, h4, h5⟩ := trod_rowS KEntry.cells (m := 3) (by decide) (fun _ => rfl) Tryd.underlying22 cl_api_Entry (fun v : KEntry => KEntry.rng v) (fun _ _ _ hx => trod_api_Entry hx) h; exact ⟨A, c, l, h1, ⟨rowS_all h4, h2, fun _ _ => trivial⟩, h5⟩
theorem cl_Sl_api_Entry : Tryd.prog.cellsOf 22 = 1 := by kernel_rfl
theorem cl_api_Office : Tryd.prog.cellsOf 24 = 2 := by kernel_rfl
structure KOffice.rng (x : KOffice) : Prop where
 r_ID : inKd .i64 x.ID
 r_Entries : (fun l : List KEntry => ∀ y ∈ l, KEntry.rng y) x.Entries
theorem tf_api_Office : ∃ f0 f1 : Field, Tryd.prog.underlying 24 = some (.struct #[f0, f1]) ∧ (f0.offset = 0 ∧ f0.type = 3) ∧ (f1.offset = 1 ∧ f1.type = 22) := ⟨_, _, Tryd.underlying24, ⟨by kernel_rfl, by kernel_rfl⟩, ⟨by kernel_rfl, by kernel_rfl⟩⟩
theorem trod_api_Office {n : Nat} {cs : List Value} {x : DataW H × List MemPlace} (h : DataW.trod enc Tryd.prog w base spare held n 24 cs = some x) : ∃ v : KOfficeL, cs = v.cells ∧ KOfficeL.ok v (fun g => g < w.heap.size) w ∧ KOffice.rng v.p := by
 obtain ⟨f0, f1, hu, ⟨o0, t0⟩, ⟨o1, t1⟩⟩ := tf_api_Office; obtain ⟨xs, n', _, _, hlen, hxl, hf⟩ := DataW.trod_struct hu h; rw [cl_api_Office] at hlen
 match cs, hlen with
 | [c0, c1], _ =>
  have q0 := hf 0 f0 rfl; obtain ⟨y0, hy0⟩ : ∃ y, xs[0]? = some y := ⟨_, List.getElem?_eq_getElem (by rw [hxl]; exact (by decide : 0 < 2))⟩; rw [hy0, o0, t0, cl_int] at q0; obtain ⟨v0, e0, hg0⟩ := trod_int q0; replace e0 : [c0] = [I v0] := e0; simp only [List.cons.injEq, and_true] at e0; obtain rfl := e0; have q1 := hf 1 f1 rfl; obtain ⟨y1, hy1⟩ : ∃ y, xs[1]? = some y := ⟨_, List.getElem?_eq_getElem (by rw [hxl]; exact (by decide : 1 < 2))⟩; rw [hy1, o1, t1, cl_Sl_api_Entry] at q1; obtain ⟨A1, k1, v1, e1, hr1, hg1⟩ := trod_Sl_api_Entry q1; replace e1 : [c1] = [.slice A1 v1.length k1] := e1; simp only [List.cons.injEq, and_true] at e1; obtain rfl := e1; exact ⟨⟨v0, A1, k1, v1⟩, rfl, ⟨hr1⟩, ⟨hg0, hg1⟩⟩
theorem opn_api_Office {r : Reach} {b0 : Nat} {v : Value} {d : DataW H} {p : List MemPlace} (hv : Value.okWide Tryd.prog w r b0 24 v) (h : DataW.Trod enc Tryd.prog w base spare held 24 v d p) : ∃ x : KOfficeL, v = .agg #[I x.ID, .slice x.Entries_A x.Entries.length x.Entries_c] ∧ KOfficeL.ok x (fun g => g < w.heap.size) w ∧ KOffice.rng x.p := by
 obtain ⟨f0, f1, hu, _⟩ := tf_api_Office; obtain ⟨cs, rfl, hsz⟩ := okWide_struct hu hv; obtain ⟨fuel, hf⟩ := h; obtain ⟨x, hx, hw⟩ := trod_api_Office hf; refine ⟨x, congrArg Value.agg ?_, hw⟩; have : cs.toList = x.cells := by simpa [Value.cells] using hx
 rw [← Array.toArray_toList (xs := cs), this]; rfl
structure KSig.rng (x : KSig) : Prop where
 r_C : inKd .i64 x.C
 r_S : inKd .i64 x.S
structure KHead.rng (x : KHead) : Prop where
 r_Office : inKd .i64 x.Office
 r_Size : inKd .i64 x.Size
 r_Root : inKd .u64 x.Root
 r_Sig : KSig.rng x.Sig
theorem cl_2_uint64 : Tryd.prog.cellsOf 46 = 2 := by kernel_rfl
structure K2_uint64.rng (x : K2_uint64) : Prop where
 r_f0 : inKd .u64 x.f0
 r_f1 : inKd .u64 x.f1
theorem trod_2_uint64 {n : Nat} {cs : List Value} {x : DataW H × List MemPlace} (h : DataW.trod enc Tryd.prog w base spare held n 46 cs = some x) : ∃ v : K2_uint64, cs = v.cells ∧ K2_uint64.rng v := by
 obtain ⟨xs, n', _, _, hlen, hxl, hf⟩ := DataW.trod_array Tryd.underlying46 h; rw [cl_2_uint64] at hlen
 match cs, hlen with
 | [c0, c1], _ =>
  have q0 := hf 0 (by decide); obtain ⟨y0, hy0⟩ : ∃ y, xs[0]? = some y := ⟨_, List.getElem?_eq_getElem (by rw [hxl]; exact (by decide : 0 < 2))⟩; rw [hy0, cl_uint64] at q0; obtain ⟨v0, e0, hg0⟩ := trod_uint64 q0; replace e0 : [c0] = [U v0] := e0; simp only [List.cons.injEq, and_true] at e0; obtain rfl := e0; have q1 := hf 1 (by decide); obtain ⟨y1, hy1⟩ : ∃ y, xs[1]? = some y := ⟨_, List.getElem?_eq_getElem (by rw [hxl]; exact (by decide : 1 < 2))⟩; rw [hy1, cl_uint64] at q1; obtain ⟨v1, e1, hg1⟩ := trod_uint64 q1; replace e1 : [c1] = [U v1] := e1; simp only [List.cons.injEq, and_true] at e1; obtain rfl := e1; exact ⟨⟨v0, v1⟩, rfl, ⟨hg0, hg1⟩⟩
theorem opn_2_uint64 {r : Reach} {b0 : Nat} {v : Value} {d : DataW H} {p : List MemPlace} (hv : Value.okWide Tryd.prog w r b0 46 v) (h : DataW.Trod enc Tryd.prog w base spare held 46 v d p) : ∃ x : K2_uint64, v = .agg #[U x.f0, U x.f1] ∧ K2_uint64.rng x := by
 obtain ⟨cs, rfl, hsz⟩ := okWide_arr Tryd.underlying46 hv; obtain ⟨fuel, hf⟩ := h; obtain ⟨x, hx, hw⟩ := trod_2_uint64 hf; refine ⟨x, congrArg Value.agg ?_, hw⟩; have : cs.toList = x.cells := by simpa [Value.cells] using hx
 rw [← Array.toArray_toList (xs := cs), this]; rfl
theorem opn_uint8 {r : Reach} {b0 : Nat} {v : Value} {d : DataW H} {p : List MemPlace} (hv : Value.okWide Tryd.prog w r b0 5 v) (h : DataW.Trod enc Tryd.prog w base spare held 5 v d p) : ∃ x : Int, v = .int .u8 x ∧ inKd .u8 x := by
 obtain ⟨x, rfl, _, _, hw⟩ := open_int Tryd.underlying5 hv h; exact ⟨x, rfl, hw⟩
theorem opn_uint64 {r : Reach} {b0 : Nat} {v : Value} {d : DataW H} {p : List MemPlace} (hv : Value.okWide Tryd.prog w r b0 25 v) (h : DataW.Trod enc Tryd.prog w base spare held 25 v d p) : ∃ x : Int, v = .int .u64 x ∧ inKd .u64 x := by
 obtain ⟨x, rfl, _, _, hw⟩ := open_int Tryd.underlying25 hv h; exact ⟨x, rfl, hw⟩
end
end Go.Proofs.YtiijddjfiojfaaaDoor
namespace Go.Proofs.YtiijddjfiojfaaaDoor
open Go.RowKit
theorem wrap_i64_rng (n : Int) : -9223372036854775808 ≤ IntKind.i64.wrap n ∧ IntKind.i64.wrap n ≤ 9223372036854775807 := by rw [IntKind.wrap_i64]; omega
theorem wrap_u64_rng (n : Int) : 0 ≤ IntKind.u64.wrap n ∧ IntKind.u64.wrap n ≤ 18446744073709551615 := by rw [IntKind.wrap_u64]; omega
theorem sumB_rng (l : List Int) : 0 ≤ sumB l ∧ sumB l ≤ 18446744073709551615 := by
 unfold sumB; have key : ∀ (l : List Int) (b : Int), 0 ≤ b ∧ b ≤ 18446744073709551615 → 0 ≤ l.foldl sumF b ∧ l.foldl sumF b ≤ 18446744073709551615 := by
  intro l
  induction l with
  | nil => intro b h; exact h
  | cons x l ih => intro b _; exact ih _ (wrap_u64_rng _)
 exact key l _ (by omega)
theorem rootF_rng (l : List Int) : 0 ≤ rootF l ∧ rootF l ≤ 18446744073709551615 := by
 rcases Classical.em (2 ≤ l.length) with h | h
 ·rw [rootF, rootT_split h]; exact sumB_rng _
 ·rw [rootF, rootT_one h]; exact sumB_rng _
theorem dnext {d : Int} {l : List Int} (h : inI l) (h1 : 1 ≤ l.length) (h2 : l.length ≤ 10000) {F : Nat} (hF : 64 ≤ F) : G_digest_Next F d l = some (nextF d l) := by
 obtain ⟨F', rfl⟩ : ∃ F', F = F' + 1 := ⟨F - 1, by omega⟩; exact whenG_t (decide_eq_true ⟨h, h2, h1⟩)
theorem dints {l : List Int} (h : inI l) (h2 : l.length ≤ 10000) {F : Nat} (hF : 64 ≤ F) : G_digest_Ints F l = some (intsF l) := by
 obtain ⟨F', rfl⟩ : ∃ F', F = F' + 1 := ⟨F - 1, by omega⟩; exact whenG_t (decide_eq_true ⟨h, by omega⟩)
def leafE (e : KEntry) : Int := nextF e.Doc [e.Stamp.Lo, e.Stamp.Hi]
theorem inI_two {a b : Int} (ha : inKd .i64 a) (hb : inKd .i64 b) : inI [a, b] := by
 intro z hz; rcases List.mem_cons.1 hz with rfl | hz
 ·exact inKd_i64 ha
 ·rcases List.mem_cons.1 hz with rfl | hz
  ·exact inKd_i64 hb
  ·cases hz
theorem leaf_p {e : KEntry} (h : e.rng) {F : Nat} (hF : 64 ≤ F) : G_office_Leaf F e = some (leafE e) := by
 unfold G_office_Leaf G_office_logged_value; rw [dnext (inI_two h.r_Stamp.r_Lo h.r_Stamp.r_Hi) (by simp) (by simp) hF]; rfl
def eAt (l : List KEntry) (k : Nat) : KEntry := l.getD k ⟨0, ⟨0, 0⟩⟩
theorem eAt_get {l : List KEntry} {k : Nat} (h : k < l.length) : l[k]? = some (eAt l k) := by
 unfold eAt; rw [List.getD_eq_getElem?_getD, List.getElem?_eq_getElem h]; rfl
def okAt (l : List KEntry) (k : Nat) : Bool := vI (eAt l k).Stamp && !(decide (0 < k) && decide ((eAt l k).Stamp.Lo < (eAt l (k - 1)).Stamp.Lo))
def ordB (l : List KEntry) : Bool := frB (okAt l) l.length 0
def vO (o : KOffice) : Bool := ordB o.Entries && (decide (1 ≤ o.ID ∧ o.ID ≤ 16) && decide (o.Entries.length ≤ 4096))
theorem pred_w {k : Nat} (h : 0 < k) (h2 : k < 1000000) : IntKind.i64.wrap ((k : Int) - 1) = ((k - 1 : Nat) : Int) := by rw [IntKind.wrap_i64]; omega
theorem valid_p {o : KOffice} (hl : o.Entries.length ≤ 50) {F : Nat} (hF : 64 ≤ F) : G_office_Valid F o = some (vO o) := by
 unfold G_office_Valid; rw [iter_all o.Entries.length (okAt o.Entries) (.inl ()) (.inr ()) ?_ ?_ (by omega)]
 ·unfold vO; rw [btw_p]
  show _ = some (ordB o.Entries && _)
  unfold ordB; cases frB (okAt o.Entries) o.Entries.length 0 with
  | true =>
   simp only [if_true, ob_some, Sum.elim_inl, Bool.true_and]
   by_cases h1 : 1 ≤ o.ID ∧ o.ID ≤ 16 <;> by_cases h2 : o.Entries.length ≤ 4096 <;> simp [ifB, h1, h2] <;> omega
  | false => rfl
 ·rw [show decide ((o.Entries.length : Int) < ((o.Entries.length : Nat) : Int)) = false from decide_eq_false (by omega)]; rfl
 ·intro k hk; rw [show decide ((k : Int) < ((o.Entries.length : Nat) : Int)) = true from decide_eq_true (by omega), ifB_t, ixI_nat, eAt_get hk]; simp only [ob_some, logged_p]; unfold okAt; rw [w64_nat (by omega)]; cases hv : vI (eAt o.Entries k).Stamp with
  | false => rfl
  | true =>
   rw [ifB_t]
   by_cases h0 : 0 < k
   ·rw [show decide ((k : Int) > 0) = true from decide_eq_true (by omega), ifB_t, pred_w h0 (by omega), ixI_nat, eAt_get (by omega)]; simp only [ob_some]; rw [show decide (0 < k) = true from decide_eq_true h0]; cases decide ((eAt o.Entries k).Stamp.Lo < (eAt o.Entries (k - 1)).Stamp.Lo) <;> rfl
   ·rw [show decide ((k : Int) > 0) = false from decide_eq_false (by omega), ifB_f, show decide (0 < k) = false from decide_eq_false h0]; rfl
theorem valid_r {o : KOffice} (hl : o.Entries.length ≤ 50) {F : Nat} (hF : 64 ≤ F) : G_regulatorref25_Valid F o = some (vO o) := by
 unfold G_regulatorref25_Valid; have h4 : decide (((o.Entries.length : Nat) : Int) > 4096) = false := decide_eq_false (by omega); have h4' : decide (o.Entries.length ≤ 4096) = true := decide_eq_true (by omega); rw [h4]
 by_cases hid : 1 ≤ o.ID ∧ o.ID ≤ 16
 ·rw [show decide (o.ID < 1) = false from decide_eq_false (by omega), show decide (o.ID > 16) = false from decide_eq_false (by omega)]; simp only [ifB_f, ob_some]; rw [iter_all o.Entries.length (okAt o.Entries) (.inl ()) (.inr ()) ?_ ?_ (by omega)]
  ·unfold vO ordB; rw [h4', show decide (1 ≤ o.ID ∧ o.ID ≤ 16) = true from decide_eq_true hid]; cases frB (okAt o.Entries) o.Entries.length 0 <;> rfl
  ·rw [show decide ((o.Entries.length : Int) < ((o.Entries.length : Nat) : Int)) = false from decide_eq_false (by omega)]; rfl
  ·intro k hk; rw [show decide ((k : Int) < ((o.Entries.length : Nat) : Int)) = true from decide_eq_true (by omega), ifB_t, ixI_nat, eAt_get hk]; simp only [ob_some, vI_r]; unfold okAt; rw [w64_nat (by omega)]; cases hv : vI (eAt o.Entries k).Stamp with
   | false => rfl
   | true =>
    rw [ifB_t]
    by_cases h0 : 0 < k
    ·rw [show decide ((k : Int) > 0) = true from decide_eq_true (by omega), ifB_t, pred_w h0 (by omega), ixI_nat, eAt_get (by omega)]; simp only [ob_some]; rw [show decide (0 < k) = true from decide_eq_true h0]; cases decide ((eAt o.Entries k).Stamp.Lo < (eAt o.Entries (k - 1)).Stamp.Lo) <;> rfl
    ·rw [show decide ((k : Int) > 0) = false from decide_eq_false (by omega), ifB_f, show decide (0 < k) = false from decide_eq_false h0]; rfl
 ·have hv : vO o = false := by unfold vO; rw [show decide (1 ≤ o.ID ∧ o.ID ≤ 16) = false from decide_eq_false hid]; simp
  rw [hv]
  by_cases h1 : o.ID < 1
  ·rw [show decide (o.ID < 1) = true from decide_eq_true h1]; rfl
  ·rw [show decide (o.ID < 1) = false from decide_eq_false h1, show decide (o.ID > 16) = true from decide_eq_true (by omega)]; rfl
def appS (o : KOffice) (e : KEntry) : KOffice × Int :=
 if !(vO o && vI e.Stamp) then (⟨0, []⟩, 1) else if decide (0 < o.Entries.length) && decide (e.Stamp.Lo < (eAt o.Entries (o.Entries.length - 1)).Stamp.Lo) then (⟨0, []⟩, 30) else (⟨o.ID, o.Entries ++ [e]⟩, 0)
theorem app_p {o : KOffice} {e : KEntry} (hl : o.Entries.length ≤ 50) {F : Nat} (hF : 64 ≤ F) : G_office_Append F o e = some (appS o e) := by
 unfold G_office_Append appS; rw [valid_p hl hF, logged_p]; simp only [ob_some]; cases vO o with
 | false => rfl
 | true =>
  cases vI e.Stamp with
  | false => rfl
  | true =>
   simp only [ifB_t, ob_some, Bool.not_true, ifB_f, Bool.and_self, Bool.false_eq_true, if_false]; rw [show (((o.Entries.length : Nat) : Int) == 4096) = false from beq_eq_false_iff_ne.2 (by omega), ifB_f]
   by_cases h0 : 0 < o.Entries.length
   ·rw [show decide (((o.Entries.length : Nat) : Int) > 0) = true from decide_eq_true (by omega), ifB_t, pred_w h0 (by omega), ixI_nat, eAt_get (by omega), show decide (0 < o.Entries.length) = true from decide_eq_true h0]; simp only [ob_some, Bool.true_and]; cases decide (e.Stamp.Lo < (eAt o.Entries (o.Entries.length - 1)).Stamp.Lo) with
    | true => rfl
    | false =>
     rw [ifB_f, whenG_t (decide_eq_true (by rw [w64_nat (by omega)]; omega))]; simp only [ob_some]; rw [apG_ok (by simp; omega)]; simp only [ob_some, List.nil_append]; rw [apG_ok (by simp; omega)]; rfl
   ·rw [show decide (((o.Entries.length : Nat) : Int) > 0) = false from decide_eq_false (by omega), ifB_f, show decide (0 < o.Entries.length) = false from decide_eq_false h0]; simp only [ob_some]; rw [ifB_f, whenG_t (decide_eq_true (by rw [w64_nat (by omega)]; omega))]; simp only [ob_some]; rw [apG_ok (by simp; omega)]; simp only [ob_some, List.nil_append]; rw [apG_ok (by simp; omega)]; rfl
def valsF (o : KOffice) (n : Nat) : List Int := (o.Entries.take n).map leafE
theorem take_map_succ {l : List KEntry} {k : Nat} (h : k < l.length) : (l.take (k + 1)).map leafE = (l.take k).map leafE ++ [leafE (eAt l k)] := by
 rw [List.take_add_one, eAt_get h]
 simp
theorem coll_p {l : List KEntry} (hr : ∀ e ∈ l, e.rng) (hl : l.length ≤ 60) {F : Nat} (hF : 64 ≤ F) : iter (σ := Int × (List Int)) (ρ := (List Int)) (un2 fun (v_43 : Int) (v_44 : (List Int)) => 
          (ifB (decide (v_43 < ((l.length : Nat) : Int)))
            (Option.bind (ixI l v_43) (fun v_52 =>
            Option.bind (G_office_Leaf F v_52) (fun v_59 =>
            Option.bind (apG 8 v_44 ([v_59] : List Int)) (fun v_61 =>
            some (.inl (IntKind.i64.wrap (v_43 + 1), v_61))))))
            (some (.inr v_44)) : Option ((Int × (List Int)) ⊕ (List Int)))) F (0, ([] : List Int)) = some (l.map leafE) := by
  rw [show ((0 : Int), ([] : List Int)) = (fun k : Nat => ((k : Int), (l.take k).map leafE)) 0 from rfl]
  rw [iter_seq (fun k : Nat => ((k : Int), (l.take k).map leafE)) l.length (l.map leafE) ?_ ?_ (by omega)]
  · intro k hk
    simp only [un2]
    rw [show decide ((k : Int) < ((l.length : Nat) : Int)) = true from decide_eq_true (by omega), ifB_t, ixI_nat, eAt_get hk]
    simp only [ob_some]
    rw [leaf_p (hr _ (List.mem_of_getElem? (eAt_get hk))) hF]
    simp only [ob_some]
    rw [apG_ok (by simp only [List.length_map, List.length_take, List.length_cons, List.length_nil]; omega), w64_nat (by omega), take_map_succ hk]
    rfl
  · simp only [un2]
    rw [show decide ((l.length : Int) < ((l.length : Nat) : Int)) = false from decide_eq_false (by omega), List.take_length]
    rfl
theorem root_p {o : KOffice} (hr : o.rng) {n : Nat} (hn : n ≤ o.Entries.length) (hl : n ≤ 60) {F : Nat} (hF : 64 ≤ F) : G_office_root F o (n : Int) = some (rootS (valsF o n)) := by
 obtain ⟨F', rfl⟩ : ∃ F', F = F' + 1 := ⟨F - 1, by omega⟩; unfold G_office_root; rw [show (0 : Int) = ((0 : Nat) : Int) from rfl, slI_ok (Nat.zero_le n) hn]; simp only [ob_some, List.drop_zero]; rw [show ((0 : Nat) : Int) = 0 from rfl, coll_p (fun e he => hr.r_Entries e (List.mem_of_mem_take he)) (by rw [List.length_take]; omega) hF]; rfl
theorem valsF_len {o : KOffice} {n : Nat} (hn : n ≤ o.Entries.length) : (valsF o n).length = n := by unfold valsF; rw [List.length_map, List.length_take]; omega
end Go.Proofs.YtiijddjfiojfaaaDoor
namespace Go.Proofs.YtiijddjfiojfaaaDoor
open Go.RowKit
def chF (b p : Int) (m : List Int) : Int := intsF ([b, p] ++ m) % 1073741789
theorem chF_rng (b p : Int) (m : List Int) : 0 ≤ chF b p m ∧ chF b p m < 1073741789 := by unfold chF; omega
theorem ch_w (l : List Int) : IntKind.i64.wrap (Int.tmod (intsF l) 1073741789) = intsF l % 1073741789 := by
 have := sumB_rng (textL l); unfold intsF; rw [Int.tmod_eq_emod_of_nonneg this.1, w64_id (by omega) (by omega)]
theorem ch_p {b p : Int} {m : List Int} (h : inI ([b, p] ++ m)) (hl : m.length ≤ 100) {F : Nat} (hF : 64 ≤ F) : G_group_challenge F b p m = some (chF b p m) := by
 unfold G_group_challenge; rw [apG_ok (by simp; omega)]; simp only [ob_some]; rw [dints h (by simp; omega) hF]; simp only [ob_some]; rw [ch_w]; rfl
theorem inI_app {a b : List Int} (ha : inI a) (hb : inI b) : inI (a ++ b) := fun z hz => by
 rcases List.mem_append.1 hz with hz | hz
 ·exact ha z hz
 ·exact hb z hz
theorem inI_pair {a b : Int} (ha : -9223372036854775808 ≤ a ∧ a ≤ 9223372036854775807) (hb : -9223372036854775808 ≤ b ∧ b ≤ 9223372036854775807) : inI [a, b] := by
 intro z hz; rcases List.mem_cons.1 hz with rfl | hz
 ·exact ha
 ·rcases List.mem_cons.1 hz with rfl | hz
  ·exact hb
  ·cases hz
theorem inI_msg {h : KHead} (h1 : inKd .i64 h.Office) (h2 : inKd .i64 h.Size) : inI (msgF h) := by
 show inI ([h.Office, h.Size] ++ [_, _])
 exact inI_app (inI_pair (inKd_i64 h1) (inKd_i64 h2)) (inI_pair (wrap_i64_rng _) (wrap_i64_rng _))
theorem pw_rng (a x : Nat) : -9223372036854775808 ≤ ((pw a x : Nat) : Int) ∧ ((pw a x : Nat) : Int) ≤ 9223372036854775807 := by have := pw_lt a x; omega
def isK (n : Int) : Bool := decide (1 ≤ n ∧ n < 1073741789)
def sigS (key once : Int) (m : List Int) : KSig × Int :=
 if isK key && isK once then (⟨chF ((pw 4 once.toNat : Nat) : Int) ((pw 4 key.toNat : Nat) : Int) m, (once + chF ((pw 4 once.toNat : Nat) : Int) ((pw 4 key.toNat : Nat) : Int) m * key) % 1073741789⟩, 0) else (⟨0, 0⟩, 1)
theorem pow4 (n : Int) (h0 : 0 ≤ n) (h1 : n ≤ 1073741789) {F : Nat} (hF : 64 ≤ F) : G_group_power F 4 n = some ((pw 4 n.toNat : Nat) : Int) ∧ G_regulatorref06_Power F 4 n 2147483579 = some ((pw 4 n.toNat : Nat) : Int) := by
  have hX : n.toNat < 2 ^ 62 := by have : (2 : Nat) ^ 62 = 4611686018427387904 := by decide
                                   omega
  have h1' := pow_pn 4 n.toNat (by decide) hX hF
  have h2' := pow_rn 4 n.toNat (by decide) hX hF
  rw [show ((n.toNat : Nat) : Int) = n by omega] at h1' h2'
  exact ⟨h1', h2'⟩
theorem sum_w {o c k : Int} (ho : 0 ≤ o ∧ o < 1073741789) (hc : 0 ≤ c ∧ c < 1073741789) (hk : 0 ≤ k ∧ k < 1073741789) : Int.tmod (IntKind.i64.wrap (o + IntKind.i64.wrap (c * k))) 1073741789 = (o + c * k) % 1073741789 := by
 have h1 : 0 ≤ c * k := Int.mul_nonneg hc.1 hk.1; have h2 : c * k ≤ 1073741789 * 1073741789 := Int.mul_le_mul (by omega) (by omega) hk.1 (by omega); rw [w64_id (n := c * k) (by omega) (by omega), w64_id (by omega) (by omega), Int.tmod_eq_emod_of_nonneg (by omega)]
theorem sig_p {key once : Int} {m : List Int} (hm : inI m) (hl : m.length ≤ 100) {F : Nat} (hF : 64 ≤ F) : G_group_Sign F key once m = some (sigS key once m) := by
 unfold G_group_Sign sigS isK; simp only [within_p, ob_some]
 by_cases h1 : 1 ≤ key ∧ key < 1073741789
 ·by_cases h2 : 1 ≤ once ∧ once < 1073741789
  ·simp only [h1, h2, and_self, decide_true, ifB_t, ob_some, Bool.not_true, ifB_f, Bool.and_self, if_true]; rw [(pow4 once (by omega) (by omega) hF).1, (pow4 key (by omega) (by omega) hF).1]; simp only [ob_some]; rw [ch_p (inI_app (inI_pair (pw_rng _ _) (pw_rng _ _)) hm) hl hF]; simp only [ob_some]; rw [sum_w ⟨by omega, h2.2⟩ (chF_rng _ _ _) ⟨by omega, h1.2⟩]
  ·simp only [h1, h2, and_self, decide_true, decide_false, ifB_t, ob_some, Bool.not_false, Bool.and_false, Bool.false_eq_true, if_false]
 ·simp only [h1, decide_false, ifB_f, ob_some, ifB_t, Bool.false_and, Bool.false_eq_true, if_false]
def begS (pub : Int) (s : KSig) : Nat := pw 4 s.S.toNat * pw pub.toNat (1073741789 - s.C.toNat) % 2147483579
def expB (s : KSig) : Bool := decide ((0 ≤ s.C ∧ s.C < 1073741789) ∧ (0 ≤ s.S ∧ s.S < 1073741789))
def verS (pub : Int) (s : KSig) (m : List Int) : Bool × Int :=
 if memB pub && expB s then (decide (chF (begS pub s : Int) pub m = s.C), 0) else (false, 1)
theorem memB_spec {a : Int} (h : memB a = true) : 0 < a ∧ a < 2147483579 ∧ pw a.toNat 1073741789 = 1 := of_decide_eq_true h
theorem mem_rng {a : Int} (h : memB a = true) : -9223372036854775808 ≤ a ∧ a ≤ 9223372036854775807 := by have := memB_spec h; omega
theorem beg_w (x y : Nat) (hx : x < 2147483579) (hy : y < 2147483579) : Int.tmod (IntKind.i64.wrap ((x : Int) * (y : Int))) 2147483579 = ((x * y % 2147483579 : Nat) : Int) := by rw [mul_in hx hy, mod_in]
theorem ver_p {pub : Int} {s : KSig} {m : List Int} (hm : inI m) (hl : m.length ≤ 100) {F : Nat} (hF : 64 ≤ F) : G_group_Verify F pub s m = some (verS pub s m) := by
  unfold G_group_Verify verS expB
  rw [mem_p pub hF]
  simp only [within_p, ob_some]
  cases hb : memB pub with
  | false => simp only [ifB_f, ifB_t, ob_some, Bool.false_and, Bool.false_eq_true, if_false]
  | true =>
    obtain ⟨m1, m2, m3⟩ := memB_spec hb
    by_cases h1 : 0 ≤ s.C ∧ s.C < 1073741789
    · by_cases h2 : 0 ≤ s.S ∧ s.S < 1073741789
      · simp only [h1, h2, and_self, decide_true, ifB_t, ob_some, Bool.not_true, ifB_f, Bool.and_self, if_true]
        have hp := pow_pn pub.toNat (1073741789 - s.C.toNat) (by omega) (by have : (2 : Nat) ^ 62 = 4611686018427387904 := by decide
                                                                            omega) hF
        rw [show ((pub.toNat : Nat) : Int) = pub by omega, show (((1073741789 - s.C.toNat : Nat)) : Int) = IntKind.i64.wrap (1073741789 - s.C) by rw [w64_id (by omega) (by omega)]; omega] at hp
        rw [(pow4 s.S (by omega) (by omega) hF).1, hp]
        simp only [ob_some]
        rw [beg_w _ _ (pw_lt _ _) (pw_lt _ _), ch_p (inI_app (inI_pair (by have := Nat.mod_lt (pw 4 s.S.toNat * pw pub.toNat (1073741789 - s.C.toNat)) (show 0 < 2147483579 by decide); omega) (mem_rng hb)) hm) hl hF]
        simp only [ob_some]
        congr 2
        rw [decide_eq_decide]
        constructor
        · intro h
          have := congrArg KSig.C h
          exact this.symm
        · intro h
          cases s
          simp only [KSig.mk.injEq, and_true]
          exact h.symm
      · simp only [h1, h2, and_self, and_false, decide_true, decide_false, ifB_t, ob_some, Bool.not_false, Bool.and_false, Bool.false_eq_true, if_false]
    · simp only [h1, false_and, decide_false, ifB_t, ifB_f, ob_some, Bool.and_false, Bool.false_eq_true, if_false]
def rightS (pub : Int) (h : KHead) : Bool × Int := if pubB pub && fH h then ((verS pub h.Sig (msgF h)).1, 0) else (false, 1)
theorem pub_mem' {a : Int} (h : pubB a = true) : memB a = true := by unfold pubB at h; simp at h; exact h.1
theorem fH_exp {h : KHead} (hh : fH h = true) : expB h.Sig = true := by
 have := of_decide_eq_true hh; exact decide_eq_true ⟨this.2.2.1, this.2.2.2⟩
theorem verS_ok {pub : Int} {s : KSig} {m : List Int} (h1 : memB pub = true) (h2 : expB s = true) : verS pub s m = (decide (chF (begS pub s : Int) pub m = s.C), 0) := by unfold verS; rw [h1, h2]; rfl
theorem right_p {pub : Int} {h : KHead} (h1 : inKd .i64 h.Office) (h2 : inKd .i64 h.Size) {F : Nat} (hF : 64 ≤ F) : G_office_Right F pub h = some (rightS pub h) := by
 unfold G_office_Right rightS; rw [pub_p pub hF]; simp only [fH_p, ob_some]; cases hp : pubB pub with
 | false => simp only [ifB_f, ifB_t, ob_some, Bool.false_and, Bool.false_eq_true, if_false]
 | true =>
  cases hh : fH h with
  | false => simp only [ifB_t, ob_some, Bool.not_false, Bool.and_false, Bool.false_eq_true, if_false]
  | true =>
   simp only [ifB_t, ob_some, Bool.not_true, ifB_f, Bool.and_self, if_true, msg_p]; rw [ver_p (inI_msg h1 h2) (by simp [msgF]) hF, verS_ok (pub_mem' hp) (fH_exp hh)]; rfl
end Go.Proofs.YtiijddjfiojfaaaDoor
namespace Go.Proofs.YtiijddjfiojfaaaDoor
open Go.RowKit
end Go.Proofs.YtiijddjfiojfaaaDoor
namespace Go.Proofs.YtiijddjfiojfaaaDoor
open Go.RowKit
theorem inclS_lead {r x : Int} {i n : Nat} {path : List Int} (hi : i < n) (hn : n ≤ 4096) : inclS r x i n path = decide (leadO leafF pairF x i n path = some r) := by
 unfold inclS; rw [if_neg (by omega), Int.toNat_natCast, Int.toNat_natCast, lead_walk n x i path hi]; rfl
theorem inclS_law {l : List Int} {i : Nat} {x r : Int} (hi : i < l.length) (hn : l.length ≤ 4096) : inclS r x i l.length (inclF l i) = decide (rootF (l.set i x) = r) := by
 rw [inclS_lead hi hn]; unfold leadO inclF rootF; rw [lead_incl l.length l rfl i x hi]
 simp
theorem inclF_le {l : List Int} {i : Nat} (h : l.length ≤ 4096) : (inclF l i).length ≤ 12 := by
 unfold inclF; rw [incl_len l.length l rfl i]; exact plen_le 12 _ _ h
theorem extF_le {l : List Int} {m : Nat} {mark : Bool} (h : l.length ≤ 4096) : (extF l m mark).length ≤ 13 := by
 unfold extF; rw [ext_len l.length l rfl m mark]; exact glen_le 12 _ _ _ h
theorem rootS_ok {l : List Int} (h1 : 1 ≤ l.length) (h2 : l.length ≤ 4096) : rootS l = (rootF l, 0) := by
 have hc : checkS l = 0 := by unfold checkS; rw [if_neg (by omega), if_neg (by omega)]
 unfold rootS; rw [if_neg (by simp [hc])]
theorem incS_ok {l : List Int} {i : Nat} (h : i < l.length) (h2 : l.length ≤ 4096) : incS l i = (inclF l i, 0) := by
 have hc : checkS l = 0 := by unfold checkS; rw [if_neg (by omega), if_neg (by omega)]
 unfold incS; rw [if_neg (by simp [hc]), if_neg (by omega), Int.toNat_natCast]
theorem extS_ok {l : List Int} {m : Nat} (h1 : 1 ≤ m) (h : m ≤ l.length) (h2 : l.length ≤ 4096) : extS l m = (extF l m true, 0) := by
 have hc : checkS l = 0 := by unfold checkS; rw [if_neg (by omega), if_neg (by omega)]
 unfold extS; rw [if_neg (by simp [hc]), if_neg (by omega), Int.toNat_natCast]
end Go.Proofs.YtiijddjfiojfaaaDoor
namespace Go.Proofs.YtiijddjfiojfaaaDoor
open Go.RowKit
theorem inKd_w {n : Int} (h0 : -9223372036854775808 ≤ n) (h1 : n ≤ 9223372036854775807) : inKd .i64 n := by
 have : IntKind.i64.min ≤ n ∧ n ≤ IntKind.i64.max := by
  rw [show IntKind.i64.min = -9223372036854775808 by decide, show IntKind.i64.max = 9223372036854775807 by decide]; exact ⟨h0, h1⟩
 simpa [inKd, Lit.wf] using this
theorem inKd_wu {n : Int} (h0 : 0 ≤ n) (h1 : n ≤ 18446744073709551615) : inKd .u64 n := by
 have : IntKind.u64.min ≤ n ∧ n ≤ IntKind.u64.max := by
  rw [show IntKind.u64.min = 0 by decide, show IntKind.u64.max = 18446744073709551615 by decide]; exact ⟨h0, h1⟩
 simpa [inKd, Lit.wf] using this
def bareF (o : KOffice) (n : Nat) : KHead := ⟨o.ID, n, rootF (valsF o n), ⟨0, 0⟩⟩
def signS (o : KOffice) (n key once : Int) : KHead × Int :=
 if vO o && decide (1 ≤ n ∧ n ≤ o.Entries.length) && (isK key && isK once) then
  (⟨o.ID, n, rootF (valsF o n.toNat), (sigS key once (msgF (bareF o n.toNat))).1⟩, 0)
 else (⟨0, 0, 0, ⟨0, 0⟩⟩, 1)
theorem sigS_ok {k o : Int} {m : List Int} (h : (isK k && isK o) = true) : sigS k o m = ((sigS k o m).1, 0) := by unfold sigS; rw [h]; rfl
theorem sigS_no {k o : Int} {m : List Int} (h : (isK k && isK o) = false) : sigS k o m = (⟨0, 0⟩, 1) := by unfold sigS; rw [h]; rfl
theorem inI_bare {o : KOffice} (hr : o.rng) {k : Nat} (hk : k ≤ 1000) : inI (msgF (bareF o k)) := inI_msg hr.r_ID (show inKd .i64 (k : Int) from inKd_w (by omega) (by omega))
theorem sign_p {o : KOffice} (hr : o.rng) (hl : o.Entries.length ≤ 50) {n key once : Int} {F : Nat} (hF : 64 ≤ F) : G_office_Sign F o n key once = some (signS o n key once) := by
 unfold G_office_Sign signS; rw [valid_p hl hF]; simp only [ob_some]; cases hv : vO o with
 | false => simp only [ifB_f, ifB_t, ob_some, Bool.false_and, Bool.false_eq_true, if_false]
 | true =>
  rw [ifB_t, btw_p]; simp only [ob_some]
  by_cases hn : 1 ≤ n ∧ n ≤ (o.Entries.length : Int)
  ·rw [show decide (1 ≤ n ∧ n ≤ ((o.Entries.length : Nat) : Int)) = true from decide_eq_true hn]; obtain ⟨k, rfl⟩ : ∃ k : Nat, n = k := ⟨n.toNat, by omega⟩; simp only [Bool.not_true, ifB_f, Bool.true_and]; rw [root_p hr (by omega) (by omega) hF, rootS_ok (by rw [valsF_len (by omega)]; omega) (by rw [valsF_len (by omega)]; omega)]; simp only [un2, msg_p, ob_some, beq_self_eq_true, ifB_t, Int.toNat_natCast]; rw [show (⟨o.ID, (k : Int), rootF (valsF o k), ⟨0, 0⟩⟩ : KHead) = bareF o k from rfl, sig_p (inI_bare hr (by omega)) (by simp [msgF]) hF]; cases hk : (isK key && isK once) with
   | true =>
    rw [sigS_ok hk]; rfl
   | false =>
    rw [sigS_no hk]; rfl
  ·rw [show decide (1 ≤ n ∧ n ≤ ((o.Entries.length : Nat) : Int)) = false from decide_eq_false hn]; simp only [ifB_t, Bool.not_false, Bool.true_and, Bool.false_and, Bool.false_eq_true, if_false]
end Go.Proofs.YtiijddjfiojfaaaDoor
namespace Go.Proofs.YtiijddjfiojfaaaDoor
open Go.RowKit
def zR : KReceipt := ⟨⟨0, 0, 0, ⟨0, 0⟩⟩, 0, ⟨0, ⟨0, 0⟩⟩, []⟩
def provS (o : KOffice) (h : KHead) (i : Int) : KReceipt × Int :=
 if vO o && (fH h && decide (h.Size ≤ o.Entries.length ∧ 0 ≤ i ∧ i < h.Size)) then
  (if decide (h.Office = o.ID ∧ h.Root = rootF (valsF o h.Size.toNat)) then (⟨h, i, eAt o.Entries i.toNat, inclF (valsF o h.Size.toNat) i.toNat⟩, 0) else (zR, 33))
 else (zR, 1)
theorem fH_size {h : KHead} (hh : fH h = true) : 1 ≤ h.Size ∧ h.Size ≤ 4096 := (of_decide_eq_true hh).2.1
theorem pinc_p (l : List Int) (i : Int) {F : Nat} (hF : 64 ≤ F) : G_tree_Include F l i = some (incS l i) := by
 obtain ⟨F', rfl⟩ : ∃ F', F = F' + 1 := ⟨F - 1, by omega⟩; rfl
theorem prove_p {o : KOffice} (hr : o.rng) (hl : o.Entries.length ≤ 50) {h : KHead} {i : Int} {F : Nat} (hF : 64 ≤ F) : G_office_Prove F o h i = some (provS o h i) := by
 unfold G_office_Prove provS; rw [valid_p hl hF]; simp only [ob_some, fH_p]; cases hv : vO o with
 | false => simp only [ifB_f, ifB_t, ob_some, Bool.false_and, Bool.false_eq_true, if_false]; rfl
 | true =>
  cases hf : fH h with
  | false => simp only [ifB_f, ifB_t, ob_some, Bool.false_and, Bool.and_false, Bool.false_eq_true, if_false]; rfl
  | true =>
   obtain ⟨s1, s2⟩ := fH_size hf; obtain ⟨k, hk⟩ : ∃ k : Nat, h.Size = k := ⟨h.Size.toNat, by omega⟩; simp only [ifB_t, ob_some, Bool.true_and, hk]; rw [hk] at s1 s2
   by_cases h1 : (k : Int) ≤ ((o.Entries.length : Nat) : Int)
   ·rw [show decide ((k : Int) > ((o.Entries.length : Nat) : Int)) = false from decide_eq_false (by omega), ifB_f, btw_p, w64_id (n := (k : Int) - 1) (by omega) (by omega)]; simp only [ob_some]
    by_cases h2 : 0 ≤ i ∧ i ≤ (k : Int) - 1
    ·rw [show decide (0 ≤ i ∧ i ≤ (k : Int) - 1) = true from decide_eq_true h2, show decide ((k : Int) ≤ ((o.Entries.length : Nat) : Int) ∧ 0 ≤ i ∧ i < (k : Int)) = true from decide_eq_true (by omega)]; obtain ⟨j, rfl⟩ : ∃ j : Nat, i = j := ⟨i.toNat, by omega⟩; have hL : (valsF o k).length = k := valsF_len (by omega); simp only [Bool.not_true, ifB_f]; rw [root_p hr (by omega) (by omega) hF, rootS_ok (by rw [hL]; omega) (by rw [hL]; omega)]; simp only [un2, ob_some, beq_self_eq_true, ifB_t, Int.toNat_natCast, if_true]
     by_cases h3 : h.Office = o.ID
     ·by_cases h4 : h.Root = rootF (valsF o k)
      ·rw [show (h.Office == o.ID) = true from beq_iff_eq.2 h3, show (rootF (valsF o k) == h.Root) = true from beq_iff_eq.2 h4.symm, show decide (h.Office = o.ID ∧ h.Root = rootF (valsF o k)) = true from decide_eq_true ⟨h3, h4⟩]; simp only [ifB_t, ob_some, Bool.not_true, ifB_f, if_true]; rw [show (0 : Int) = ((0 : Nat) : Int) from rfl, slI_ok (Nat.zero_le k) (by omega)]; simp only [ob_some, List.drop_zero]; rw [show ((0 : Nat) : Int) = 0 from rfl, coll_p (fun e he => hr.r_Entries e (List.mem_of_mem_take he)) (by rw [List.length_take]; omega) hF]; simp only [ob_some]; rw [pinc_p _ _ hF, show (List.map leafE (o.Entries.take k)) = valsF o k from rfl, incS_ok (by rw [hL]; omega) (by rw [hL]; omega)]; simp only [ob_some, un2, beq_self_eq_true, ifB_t]; rw [ixI_nat, eAt_get (by omega)]; rfl
      ·rw [show (h.Office == o.ID) = true from beq_iff_eq.2 h3, show (rootF (valsF o k) == h.Root) = false from beq_eq_false_iff_ne.2 fun e => h4 e.symm, show decide (h.Office = o.ID ∧ h.Root = rootF (valsF o k)) = false from decide_eq_false fun e => h4 e.2]; rfl
     ·rw [show (h.Office == o.ID) = false from beq_eq_false_iff_ne.2 h3, show decide (h.Office = o.ID ∧ h.Root = rootF (valsF o k)) = false from decide_eq_false fun e => h3 e.1]; rfl
    ·rw [show decide (0 ≤ i ∧ i ≤ (k : Int) - 1) = false from decide_eq_false h2, show decide ((k : Int) ≤ ((o.Entries.length : Nat) : Int) ∧ 0 ≤ i ∧ i < (k : Int)) = false from decide_eq_false (by omega)]; rfl
   ·rw [show decide ((k : Int) > ((o.Entries.length : Nat) : Int)) = true from decide_eq_true (by omega), show decide ((k : Int) ≤ ((o.Entries.length : Nat) : Int) ∧ 0 ≤ i ∧ i < (k : Int)) = false from decide_eq_false (by omega)]; rfl
def chkB (pub : Int) (r : KReceipt) : Bool := pubB pub && (fH r.Head && (vI r.Entry.Stamp && decide ((0 ≤ r.Index ∧ r.Index < r.Head.Size) ∧ r.Path.length ≤ 20)))
def chkS (pub : Int) (r : KReceipt) : Bool × Int :=
 if chkB pub r then ((verS pub r.Head.Sig (msgF r.Head)).1 && inclS r.Head.Root (leafE r.Entry) r.Index r.Head.Size r.Path, 0) else (false, 1)
theorem rightS_ok {pub : Int} {h : KHead} (h1 : pubB pub = true) (h2 : fH h = true) : rightS pub h = ((verS pub h.Sig (msgF h)).1, 0) := by unfold rightS; rw [h1, h2]; rfl
theorem pincl_p (a b i n : Int) (l : List Int) (hl : l.length ≤ 100) {F : Nat} (hF : 64 ≤ F) : G_tree_Included F a b i n l = some (inclS a b i n l) := by
 obtain ⟨F', rfl⟩ : ∃ F', F = F' + 1 := ⟨F - 1, by omega⟩; exact whenG_t (decide_eq_true (by omega))
theorem check_p {pub : Int} {r : KReceipt} (q1 : inKd .i64 r.Head.Office) (q2 : inKd .i64 r.Head.Size) (q3 : r.Entry.rng) {F : Nat} (hF : 64 ≤ F) : G_office_Check F pub r = some (chkS pub r) := by
 unfold G_office_Check chkS chkB; rw [pub_p pub hF]; simp only [ob_some, fH_p, logged_p]; cases hp : pubB pub with
 | false => rfl
 | true =>
  cases hf : fH r.Head with
  | false => rfl
  | true =>
   cases hv : vI r.Entry.Stamp with
   | false => rfl
   | true =>
    obtain ⟨s1, s2⟩ := fH_size hf; simp only [ifB_t, ob_some, Bool.true_and, btw_p]; rw [w64_id (n := r.Head.Size - 1) (by omega) (by omega)]
    by_cases h1 : 0 ≤ r.Index ∧ r.Index < r.Head.Size
    ·rw [show decide (0 ≤ r.Index ∧ r.Index ≤ r.Head.Size - 1) = true from decide_eq_true (by omega)]
     by_cases h2 : r.Path.length ≤ 20
     ·rw [show decide (((r.Path.length : Nat) : Int) > 20) = false from decide_eq_false (by omega), show decide ((0 ≤ r.Index ∧ r.Index < r.Head.Size) ∧ r.Path.length ≤ 20) = true from decide_eq_true ⟨h1, h2⟩]; simp only [ifB_t, ob_some, ifB_f, if_true]; rw [right_p q1 q2 hF, rightS_ok hp hf]; simp only [un2, ob_some]; rw [leaf_p q3 hF]; simp only [ob_some]; rw [pincl_p _ _ _ _ _ (by omega) hF]; cases (verS pub r.Head.Sig (msgF r.Head)).1 <;> rfl
     ·rw [show decide (((r.Path.length : Nat) : Int) > 20) = true from decide_eq_true (by omega), show decide ((0 ≤ r.Index ∧ r.Index < r.Head.Size) ∧ r.Path.length ≤ 20) = false from decide_eq_false fun e => h2 e.2]; rfl
    ·rw [show decide (0 ≤ r.Index ∧ r.Index ≤ r.Head.Size - 1) = false from decide_eq_false (by omega), show decide ((0 ≤ r.Index ∧ r.Index < r.Head.Size) ∧ r.Path.length ≤ 20) = false from decide_eq_false fun e => h1 e.1]; rfl
end Go.Proofs.YtiijddjfiojfaaaDoor
namespace Go.Proofs.YtiijddjfiojfaaaDoor
open Go.RowKit
theorem few_eq (F : Nat) (o : KOffice) : G_regulatorref25_Few F o = some (decide (((o.Entries.length : Nat) : Int) ≤ 40)) := rfl
theorem vO_iff {o : KOffice} : vO o = true ↔ (∀ j, j < o.Entries.length → okAt o.Entries j = true) ∧ (1 ≤ o.ID ∧ o.ID ≤ 16) ∧ o.Entries.length ≤ 4096 := by
 unfold vO ordB; simp only [Bool.and_eq_true, decide_eq_true_eq, frB_iff]; constructor
 ·rintro ⟨h1, h2, h3⟩; exact ⟨fun j hj => h1 j (Nat.zero_le _) (by omega), h2, h3⟩
 ·rintro ⟨h1, h2, h3⟩; exact ⟨fun j _ hj => h1 j (by omega), h2, h3⟩
theorem okAt_iff {l : List KEntry} {j : Nat} : okAt l j = true ↔ vI (eAt l j).Stamp = true ∧ (0 < j → (eAt l (j - 1)).Stamp.Lo ≤ (eAt l j).Stamp.Lo) := by
 unfold okAt
 by_cases h0 : 0 < j <;> by_cases h1 : (eAt l j).Stamp.Lo < (eAt l (j - 1)).Stamp.Lo <;> simp [h0, h1] <;> omega
theorem modL {s L : Nat} (hs : s ≤ 65535) : Int.tmod (IntKind.i64.wrap ((s : Nat) : Int)) ((L : Nat) : Int) = ((s % L : Nat) : Int) := by rw [w64_id (by omega) (by omega)]; rfl
theorem pickL {s L : Nat} (hs : s ≤ 65535) (h0 : 0 < L) (hL : L ≤ 5000) : IntKind.i64.wrap (1 + Int.tmod (IntKind.i64.wrap ((s : Nat) : Int)) ((L : Nat) : Int)) = ((1 + s % L : Nat) : Int) := by
 rw [modL hs]; have := Nat.mod_lt s h0; rw [w64_id (by omega) (by omega)]; omega
theorem inKd_nat8 {n : Int} (h : inKd .u8 n) : ∃ s : Nat, n = s ∧ s ≤ 65535 := by have := inKd_u8 h; exact ⟨n.toNat, by omega, by omega⟩
def secF (n : Int) : Int := n % 1073741788 + 1
theorem sec_eq {n : Int} (h : inKd .u64 n) (F : Nat) : G_regulatorref06_Secret F n = some (secF n) := by
 have := inKd_u64 h; unfold G_regulatorref06_Secret secF; rw [Int.tmod_eq_emod_of_nonneg this.1, w64_id (n := n % 1073741788) (by omega) (by omega), w64_id (by omega) (by omega), Int.add_comm]
theorem sec_isK (n : Int) : isK (secF n) = true := decide_eq_true (by unfold secF; omega)
theorem isK_spec {k : Int} (h : isK k = true) : 1 ≤ k ∧ k < 1073741789 := of_decide_eq_true h
def pubF (k : Int) : Int := ((pw 4 k.toNat : Nat) : Int)
theorem pubF_eq {k : Int} (h : isK k = true) {F : Nat} (hF : 64 ≤ F) : G_regulatorref06_Public F k = some (pubF k) := by
 have := isK_spec h; unfold G_regulatorref06_Public; rw [(pow4 k (by omega) (by omega) hF).2]; rfl
theorem pubF_mem (k : Int) : memB (pubF k) = true := by
 have h1 := pub_pos k.toNat; have h2 := pw_lt 4 k.toNat; exact decide_eq_true ⟨by unfold pubF; omega, by unfold pubF; omega, by unfold pubF; rw [Int.toNat_natCast]; exact pub_mem _⟩
theorem pubF_pub {k : Int} (h : isK k = true) : pubB (pubF k) = true := by
 have hk := isK_spec h; have h1 := pub_ne (k := k.toNat) (by omega) (by omega); unfold pubB; rw [pubF_mem, show (pubF k == 1) = false from beq_eq_false_iff_ne.2 (by unfold pubF; omega)]; rfl
theorem sig_C {k m : Int} {l : List Int} (h : (isK k && isK m) = true) : (sigS k m l).1 = ⟨chF (pubF m) (pubF k) l, (m + chF (pubF m) (pubF k) l * k) % 1073741789⟩ := by unfold sigS; rw [h]; rfl
theorem sig_exp {k m : Int} {l : List Int} (h : (isK k && isK m) = true) : expB (sigS k m l).1 = true := by
 rw [sig_C h]; have := chF_rng (pubF m) (pubF k) l; refine decide_eq_true ⟨this, ?_⟩; constructor <;> simp only <;> omega
theorem sig_beg {k m : Int} {l : List Int} (h : (isK k && isK m) = true) : (begS (pubF k) (sigS k m l).1 : Int) = pubF m := by
 rw [sig_C h]; have hk : isK k = true ∧ isK m = true := by simpa using h
 have h1 := isK_spec hk.1; have h2 := isK_spec hk.2; have hc := chF_rng (pubF m) (pubF k) l; generalize chF (pubF m) (pubF k) l = c at hc; obtain ⟨C, rfl⟩ : ∃ C : Nat, c = C := ⟨c.toNat, by omega⟩; obtain ⟨K, rfl⟩ : ∃ K : Nat, k = K := ⟨k.toNat, by omega⟩; obtain ⟨M, rfl⟩ : ∃ M : Nat, m = M := ⟨m.toNat, by omega⟩; unfold begS pubF; simp only [Int.toNat_natCast]; have e : (((M : Int) + (C : Int) * (K : Int)) % 1073741789).toNat = (M + C * K) % 1073741789 := by
  rw [show ((M : Int) + (C : Int) * (K : Int)) % 1073741789 = (((M + C * K) % 1073741789 : Nat) : Int) by rw [Int.natCast_emod, Int.natCast_add, Int.natCast_mul]; rfl, Int.toNat_natCast]
 rw [e, sig_back K M C (by omega)]
theorem ver_own {k m : Int} {l : List Int} (h : (isK k && isK m) = true) : verS (pubF k) (sigS k m l).1 l = (true, 0) := by
 rw [verS_ok (pubF_mem k) (sig_exp h), sig_beg h]; rw [sig_C h]
 simp
def headF (o : KOffice) (n : Nat) (k m : Int) : KHead := ⟨o.ID, n, rootF (valsF o n), (sigS k m (msgF (bareF o n))).1⟩
theorem sign_ok {o : KOffice} {n : Nat} {k m : Int} (hv : vO o = true) (h1 : 1 ≤ n) (h2 : n ≤ o.Entries.length) (h : (isK k && isK m) = true) : signS o n k m = (headF o n k m, 0) := by
 unfold signS; rw [hv, h, show decide (1 ≤ (n : Int) ∧ (n : Int) ≤ ((o.Entries.length : Nat) : Int)) = true from decide_eq_true (by omega)]; rfl
theorem msg_head (o : KOffice) (n : Nat) (k m : Int) : msgF (headF o n k m) = msgF (bareF o n) := rfl
theorem headF_fH {o : KOffice} {n : Nat} {k m : Int} (hv : vO o = true) (h1 : 1 ≤ n) (h2 : n ≤ 4096) (h : (isK k && isK m) = true) : fH (headF o n k m) = true := by
 have hi := (vO_iff.1 hv).2.1; have he : expB (headF o n k m).Sig = true := sig_exp h; have he := of_decide_eq_true he; exact decide_eq_true ⟨hi, ⟨by show 1 ≤ (n : Int); omega, by show (n : Int) ≤ 4096; omega⟩, he.1, he.2⟩
theorem valsF_get {o : KOffice} {n i : Nat} (hi : i < n) (hn : n ≤ o.Entries.length) : (valsF o n)[i]? = some (leafE (eAt o.Entries i)) := by
 unfold valsF; rw [List.getElem?_map, List.getElem?_take, if_pos hi, eAt_get (by omega)]; rfl
theorem set_own {l : List Int} {i : Nat} {x : Int} (h : l[i]? = some x) : l.set i x = l := by
  apply List.ext_getElem?
  intro j
  rw [List.getElem?_set]
  split
  · next e => subst e; split
              · exact h.symm
              · next hl => rw [List.getElem?_eq_none (by omega)]
  · rfl
theorem incl_own {o : KOffice} {n i : Nat} (hi : i < n) (hn : n ≤ o.Entries.length) (h3 : o.Entries.length ≤ 4096) : inclS (rootF (valsF o n)) (leafE (eAt o.Entries i)) i n (inclF (valsF o n) i) = true := by
 have hL : (valsF o n).length = n := valsF_len hn; have h := inclS_law (l := valsF o n) (i := i) (x := leafE (eAt o.Entries i)) (r := rootF (valsF o n)) (by omega) (by omega); rw [hL] at h; rw [h, set_own (valsF_get hi hn)]
 simp
theorem inclV_le {o : KOffice} {n : Nat} (hn : n ≤ o.Entries.length) (h3 : o.Entries.length ≤ 4096) (i : Nat) : (inclF (valsF o n) i).length ≤ 12 := inclF_le (by rw [valsF_len hn]; omega)
theorem vI_at {o : KOffice} (hv : vO o = true) {i : Nat} (hi : i < o.Entries.length) : vI (eAt o.Entries i).Stamp = true := (okAt_iff.1 ((vO_iff.1 hv).1 i hi)).1
theorem eAt_rng {o : KOffice} (hr : o.rng) {i : Nat} (hi : i < o.Entries.length) : (eAt o.Entries i).rng := hr.r_Entries _ (List.mem_of_getElem? (eAt_get hi))
theorem eAt_app {l : List KEntry} {e : KEntry} {i : Nat} (h : i < l.length) : eAt (l ++ [e]) i = eAt l i := by
 unfold eAt; rw [List.getD_eq_getElem?_getD, List.getD_eq_getElem?_getD, List.getElem?_append_left h]
theorem eAt_last {l : List KEntry} {e : KEntry} : eAt (l ++ [e]) l.length = e := by
 unfold eAt; rw [List.getD_eq_getElem?_getD, List.getElem?_append_right (Nat.le_refl _)]
 simp
theorem vO_app {o : KOffice} {e : KEntry} (hl : o.Entries.length ≤ 4000) : vO ⟨o.ID, o.Entries ++ [e]⟩ = (vO o && (vI e.Stamp && !(decide (0 < o.Entries.length) && decide (e.Stamp.Lo < (eAt o.Entries (o.Entries.length - 1)).Stamp.Lo)))) := by
 rw [Bool.eq_iff_iff, Bool.and_eq_true, vO_iff, vO_iff]; have hlast : okAt (o.Entries ++ [e]) o.Entries.length = (vI e.Stamp && !(decide (0 < o.Entries.length) && decide (e.Stamp.Lo < (eAt o.Entries (o.Entries.length - 1)).Stamp.Lo))) := by
  unfold okAt; rw [eAt_last]
  by_cases h0 : 0 < o.Entries.length
  ·rw [eAt_app (i := o.Entries.length - 1) (by omega)]
  ·rw [show decide (0 < o.Entries.length) = false from decide_eq_false h0]; simp
 have hother : ∀ j, j < o.Entries.length → okAt (o.Entries ++ [e]) j = okAt o.Entries j := by
  intro j hj; unfold okAt; rw [eAt_app hj, eAt_app (i := j - 1) (by omega)]
 rw [← hlast]; simp only [List.length_append, List.length_cons, List.length_nil]; constructor
 ·rintro ⟨h1, h2, h3⟩; exact ⟨⟨fun j hj => by rw [← hother j hj]; exact h1 j (by omega), h2, by omega⟩, h1 _ (by omega)⟩
 ·rintro ⟨⟨h1, h2, h3⟩, h4⟩; refine ⟨fun j hj => ?_, h2, by omega⟩; rcases Nat.lt_or_ge j o.Entries.length with hj' | hj'
  ·rw [hother j hj']; exact h1 j hj'
  ·have : j = o.Entries.length := by omega
   subst this; exact h4
theorem hF : 64 ≤ 300 := by decide
theorem un2_p {a b c : Type} (f : a → b → c) (p : a × b) : un2 f p = f p.1 p.2 := rfl
theorem both {k m : Int} (h1 : isK k = true) (h2 : isK m = true) : (isK k && isK m) = true := by rw [h1, h2]; rfl
theorem nz {n : Nat} (h : 0 < n) : (!(((n : Nat) : Int) == 0)) = true := by
 rw [show (((n : Nat) : Int) == 0) = false from beq_eq_false_iff_ne.2 (by omega)]; rfl
theorem pext (l : List Int) (i : Int) {F : Nat} (hF : 64 ≤ F) : G_tree_Extend F l i = some (extS l i) := by
 obtain ⟨F', rfl⟩ : ∃ F', F = F' + 1 := ⟨F - 1, by omega⟩; rfl
theorem pgrow (a b m n : Int) (l : List Int) (hl : l.length ≤ 1000) {F : Nat} (hF : 64 ≤ F) : G_tree_Extended F a b m n l = some (growS a b m n l) := by
 obtain ⟨F', rfl⟩ : ∃ F', F = F' + 1 := ⟨F - 1, by omega⟩; exact whenG_t (decide_eq_true hl)
end Go.Proofs.YtiijddjfiojfaaaDoor
namespace Go.Proofs.YtiijddjfiojfaaaDoor
open Go.RowKit
section
variable {ρ : Type}
def fdN (p : Nat → Bool) : Nat → Nat → Option Nat
 | 0, _ => none
 | m + 1, k => if p k = true then some k else fdN p m (k + 1)
theorem fdN_some {p : Nat → Bool} : ∀ {m k j : Nat}, fdN p m k = some j → (k ≤ j ∧ j < k + m) ∧ p j = true ∧ ∀ i, k ≤ i → i < j → p i = false
 | m + 1, k, j, h => by
  unfold fdN at h
  split at h
  ·next hp => cases h; exact ⟨⟨Nat.le_refl _, by omega⟩, hp, fun i h1 h2 => absurd h2 (by omega)⟩
  ·next hp =>
   obtain ⟨h1, h2, h3⟩ := fdN_some h; refine ⟨⟨by omega, by omega⟩, h2, fun i h4 h5 => ?_⟩; rcases Nat.eq_or_lt_of_le h4 with rfl | h4
   ·simpa using hp
   ·exact h3 i h4 h5
theorem fdN_none {p : Nat → Bool} : ∀ {m k : Nat}, fdN p m k = none → ∀ i, k ≤ i → i < k + m → p i = false
 | 0, k, _, i, h1, h2 => absurd h2 (by omega)
 | m + 1, k, h, i, h1, h2 => by
  unfold fdN at h
  split at h
  ·cases h
  ·next hp =>
   rcases Nat.eq_or_lt_of_le h1 with rfl | h1
   ·simpa using hp
   ·exact fdN_none h i h1 (by omega)
theorem iter_fd {f : Int → Option (Int ⊕ ρ)} (n : Nat) (p : Nat → Bool) (a : ρ) (b : Nat → ρ) (hn : f (n : Int) = some (.inr a)) (hk : ∀ k, k < n → f (k : Int) = some (if p k = true then .inr (b k) else .inl ((k + 1 : Nat) : Int))) {F : Nat} (hF : n < F) :
  iter f F 0 = some (match fdN p n 0 with | some k => b k | none => a) := by
 have key : ∀ (m k F : Nat), k + m = n → m < F → iter f F (k : Int) = some (match fdN p m k with | some k => b k | none => a) := by
  intro m
  induction m with
  | zero =>
   intro k F hm hF; obtain ⟨F', rfl⟩ : ∃ F', F = F' + 1 := ⟨F - 1, by omega⟩; have : k = n := by omega
   subst this; unfold iter; rw [hn]; rfl
  | succ m ih =>
   intro k F hm hF; obtain ⟨F', rfl⟩ : ∃ F', F = F' + 1 := ⟨F - 1, by omega⟩; unfold iter fdN; rw [hk k (by omega)]; cases hp : p k with
   | true => simp
   | false =>
    simp only [Bool.false_eq_true, if_false]; exact ih (k + 1) F' (by omega) (by omega)
 exact key n 0 F (by omega) hF
end
theorem pub4 : pubB 4 = true := by
 have := pubF_pub (k := 1) rfl
 rwa [show pubF 1 = 4 by unfold pubF; rw [show (1 : Int).toNat = 1 from rfl, pw_m]; rfl] at this
def digF (h : KHead) : Int := intsF (msgF h ++ [h.Sig.C, h.Sig.S])
theorem inI_dig {h : KHead} (hr : h.rng) : inI (msgF h ++ [h.Sig.C, h.Sig.S]) := inI_app (inI_msg hr.r_Office hr.r_Size) (inI_pair (inKd_i64 hr.r_Sig.r_C) (inKd_i64 hr.r_Sig.r_S))
theorem dig_p {h : KHead} (hr : h.rng) {F : Nat} (hF : 64 ≤ F) : G_cross_Digest F h = some (digF h) := by
 unfold G_cross_Digest; rw [low32 (inKd_u64 hr.r_Root).1 (inKd_u64 hr.r_Root).2]; have h := dints (inI_dig hr) (by simp [msgF]) hF; unfold msgF at h; simp only [List.cons_append, List.nil_append] at h; rw [h]; rfl
theorem rightS_e {pub : Int} {h : KHead} : ((rightS pub h).2 == 0) = (pubB pub && fH h) := by
 unfold rightS; cases pubB pub && fH h <;> rfl
theorem formed_p {h : KHead} (h1 : inKd .i64 h.Office) (h2 : inKd .i64 h.Size) {F : Nat} (hF : 64 ≤ F) : G_cross_formed F h = some (fH h) := by
 unfold G_cross_formed; rw [right_p h1 h2 hF]; rw [ob_some, un2_p]; rw [rightS_e, pub4]; rfl
theorem vals_c {o : KOffice} (hr : o.rng) {n : Nat} (hn : n ≤ o.Entries.length) (hl : n ≤ 60) {F : Nat} (hF : 64 ≤ F) : G_cross_values F o (n : Int) = some (valsF o n) := by
 unfold G_cross_values; rw [show (0 : Int) = ((0 : Nat) : Int) from rfl, slI_ok (Nat.zero_le n) hn]; simp only [ob_some, List.drop_zero]; rw [show ((0 : Nat) : Int) = 0 from rfl, coll_p (fun e he => hr.r_Entries e (List.mem_of_mem_take he)) (by rw [List.length_take]; omega) hF]; rfl
def hasS (o : KOffice) (h : KHead) : Bool := decide (h.Office = o.ID) && (decide (h.Size ≤ (o.Entries.length : Int)) && decide (rootF (valsF o h.Size.toNat) = h.Root))
theorem pRoot (l : List Int) {F : Nat} (hF : 64 ≤ F) : G_tree_Root F l = some (rootS l) := by
 obtain ⟨F', rfl⟩ : ∃ F', F = F' + 1 := ⟨F - 1, by omega⟩; rfl
theorem has_p {o : KOffice} (hr : o.rng) (hl : o.Entries.length ≤ 50) {h : KHead} (h1 : 1 ≤ h.Size) {F : Nat} (hF : 64 ≤ F) : G_cross_has F o h = some (hasS o h) := by
 unfold G_cross_has hasS
 by_cases ho : h.Office = o.ID
 ·rw [show (h.Office == o.ID) = true from beq_iff_eq.2 ho, show decide (h.Office = o.ID) = true from decide_eq_true ho]; obtain ⟨k, hk⟩ : ∃ k : Nat, h.Size = k := ⟨h.Size.toNat, by omega⟩; simp only [ifB_t, ob_some, hk]; rw [hk] at h1
  by_cases hs : (k : Int) ≤ ((o.Entries.length : Nat) : Int)
  ·rw [show decide ((k : Int) > ((o.Entries.length : Nat) : Int)) = false from decide_eq_false (by omega), show decide ((k : Int) ≤ ((o.Entries.length : Nat) : Int)) = true from decide_eq_true hs, ifB_f, vals_c hr (by omega) (by omega) hF]; have hL : (valsF o k).length = k := valsF_len (by omega); simp only [ob_some]; rw [pRoot _ hF, rootS_ok (by rw [hL]; omega) (by rw [hL]; omega)]; simp only [un2, ob_some, beq_self_eq_true, ifB_t, Int.toNat_natCast, Bool.true_and]; rfl
  ·rw [show decide ((k : Int) > ((o.Entries.length : Nat) : Int)) = true from decide_eq_true (by omega), show decide ((k : Int) ≤ ((o.Entries.length : Nat) : Int)) = false from decide_eq_false hs]; rfl
 ·rw [show (h.Office == o.ID) = false from beq_eq_false_iff_ne.2 ho, show decide (h.Office = o.ID) = false from decide_eq_false ho]; rfl
def zH : KHop := ⟨⟨0, 0, 0, ⟨0, 0⟩⟩, [], zR⟩
def fndS (l : List KEntry) (n : Nat) (d : Int) : Option Nat := fdN (fun k => (eAt l k).Doc == d) n 0
def witC (a : KOffice) (f o : KHead) (b : KOffice) (h : KHead) : Bool := vO a && (vO b && (fH f && (fH o && (fH h && (!(a.ID == b.ID) && !decide (f.Size > o.Size))))))
def witS (a : KOffice) (f o : KHead) (b : KOffice) (h : KHead) : KHop × Int :=
 if witC a f o b h then
  (if hasS a f && (hasS a o && hasS b h) then
   (match fndS b.Entries h.Size.toNat (digF o) with
   | none => (zH, 4)
   | some i => (⟨o, extF (valsF a o.Size.toNat) f.Size.toNat true, ⟨h, i, eAt b.Entries i, inclF (valsF b h.Size.toNat) i⟩⟩, 0))
  else (zH, 33))
 else (zH, 1)
theorem hasS_spec {o : KOffice} {h : KHead} (hh : hasS o h = true) : h.Office = o.ID ∧ h.Size ≤ (o.Entries.length : Int) ∧ rootF (valsF o h.Size.toNat) = h.Root := by
 simp only [hasS, Bool.and_eq_true, decide_eq_true_eq] at hh; exact hh
theorem provS_has {o : KOffice} {h : KHead} {i : Nat} (hv : vO o = true) (hf : fH h = true) (hh : hasS o h = true) (hi : (i : Int) < h.Size) : provS o h i = (⟨h, i, eAt o.Entries i, inclF (valsF o h.Size.toNat) i⟩, 0) := by
 obtain ⟨h1, h2, h3⟩ := hasS_spec hh; unfold provS; rw [hv, hf, show decide (h.Size ≤ ((o.Entries.length : Nat) : Int) ∧ 0 ≤ (i : Int) ∧ (i : Int) < h.Size) = true from decide_eq_true ⟨h2, by omega, hi⟩, show decide (h.Office = o.ID ∧ h.Root = rootF (valsF o h.Size.toNat)) = true from decide_eq_true ⟨h1, h3.symm⟩]; rfl
theorem wit_p {a b : KOffice} (ha : a.rng) (hb : b.rng) (la : a.Entries.length ≤ 50) (lb : b.Entries.length ≤ 50) {f o h : KHead} (hf : f.rng) (ho : o.rng) (hh : h.rng) {F : Nat} (hF : 64 ≤ F) : G_cross_Witness F a f o b h = some (witS a f o b h) := by
 unfold G_cross_Witness witS witC; rw [valid_p la hF, valid_p lb hF, formed_p hf.r_Office hf.r_Size hF, formed_p ho.r_Office ho.r_Size hF, formed_p hh.r_Office hh.r_Size hF]; simp only [ob_some]; cases h1 : vO a with
 | false => rfl
 | true =>
 cases h2 : vO b with
 | false => rfl
 | true =>
 cases h3 : fH f with
 | false => rfl
 | true =>
 cases h4 : fH o with
 | false => rfl
 | true =>
 cases h5 : fH h with
 | false => rfl
 | true =>
 cases h6 : (a.ID == b.ID) with
 | true => rfl
 | false =>
 cases h7 : decide (f.Size > o.Size) with
 | true => rfl
 | false =>
  simp only [ifB_t, ifB_f, ob_some, Bool.true_and, Bool.not_false, if_true]; obtain ⟨s1, s2⟩ := fH_size h3; obtain ⟨t1, t2⟩ := fH_size h4; obtain ⟨u1, u2⟩ := fH_size h5; rw [has_p ha la s1 hF, has_p ha la t1 hF, has_p hb lb u1 hF]; simp only [ob_some]; cases h8 : hasS a f with
  | false => rfl
  | true =>
  cases h9 : hasS a o with
  | false => rfl
  | true =>
  cases h10 : hasS b h with
  | false => rfl
  | true =>
   simp only [ifB_t, ifB_f, ob_some, Bool.not_true, Bool.and_self, if_true]; obtain ⟨_, q1, _⟩ := hasS_spec h10; obtain ⟨_, q2, _⟩ := hasS_spec h9; obtain ⟨k, hk⟩ : ∃ k : Nat, h.Size = k := ⟨h.Size.toNat, by omega⟩; obtain ⟨n, hn⟩ : ∃ n : Nat, o.Size = n := ⟨o.Size.toNat, by omega⟩; obtain ⟨m, hm⟩ : ∃ m : Nat, f.Size = m := ⟨f.Size.toNat, by omega⟩; have h7' := of_decide_eq_false h7; rw [dig_p ho hF]; simp only [ob_some]; have hrec : ∀ i : Nat, i < k → G_office_Prove F b h i = some (⟨h, i, eAt b.Entries i, inclF (valsF b k) i⟩, 0) := fun i hi => by
    have := provS_has (i := i) h2 h5 h10 (by omega); rw [prove_p hb lb hF, this, hk]; rfl
   rw [hk] at q1 u1; rw [hn] at q2 t1; rw [hk, show (0 : Int) = ((0 : Nat) : Int) from rfl, slI_ok (Nat.zero_le k) (by omega)]; simp only [ob_some, List.drop_zero, Int.toNat_natCast]; have hlen : (b.Entries.take k).length = k := by rw [List.length_take]; omega
   rw [show ((0 : Nat) : Int) = 0 from rfl, iter_fd k (fun j => (eAt b.Entries j).Doc == digF o) (.inl ()) (fun j => .inr (j : Int)) ?_ ?_ (by omega)]
   ·show _ = some (match fndS b.Entries k (digF o) with | none => _ | some i => _)
    unfold fndS; cases hfd : fdN (fun j => (eAt b.Entries j).Doc == digF o) k 0 with
    | none => rfl
    | some i =>
     obtain ⟨⟨_, hi⟩, _⟩ := fdN_some hfd; simp only [ob_some, Sum.elim_inr]; rw [show decide ((i : Int) < 0) = false from decide_eq_false (by omega), ifB_f, hn, vals_c ha (by omega) (by omega) hF]; simp only [ob_some]; have hL : (valsF a n).length = n := valsF_len (by omega); rw [hm] at h7' s1 ⊢; rw [hn] at h7'; rw [pext _ _ hF, extS_ok (by omega) (by rw [hL]; omega) (by rw [hL]; omega), hrec i (by omega)]; rfl
   ·rw [hlen, show decide ((k : Int) < ((k : Nat) : Int)) = false from decide_eq_false (by omega)]; rfl
   ·intro j hj; rw [hlen, show decide ((j : Int) < ((k : Nat) : Int)) = true from decide_eq_true (by omega), ifB_t, ixI_nat, List.getElem?_take, if_pos hj, eAt_get (by omega)]; simp only [ob_some]; rw [w64_nat (by omega)]; cases (eAt b.Entries j).Doc == digF o <;> rfl
def kAt (l : List Int) (k : Nat) : Int := l.getD k 0
theorem kAt_get {l : List Int} {k : Nat} (h : k < l.length) : l[k]? = some (kAt l k) := by
 unfold kAt; rw [List.getD_eq_getElem?_getD, List.getElem?_eq_getElem h]; rfl
def sgnS (l : List Int) (h : KHead) : Bool := decide (1 ≤ h.Office ∧ h.Office ≤ (l.length : Int)) && (!(kAt l (h.Office - 1).toNat == 0) && (rightS (kAt l (h.Office - 1).toNat) h).1)
theorem sgn_p {l : List Int} {h : KHead} (h1 : inKd .i64 h.Office) (h2 : inKd .i64 h.Size) {F : Nat} (hF : 64 ≤ F) : G_cross_keyring_signed F l h = some (sgnS l h) := by
 unfold G_cross_keyring_signed sgnS
 by_cases ho : 1 ≤ h.Office
 ·by_cases hl : h.Office ≤ (l.length : Int)
  ·rw [show decide (h.Office < 1) = false from decide_eq_false (by omega), show decide (h.Office > ((l.length : Nat) : Int)) = false from decide_eq_false (by omega), show decide (1 ≤ h.Office ∧ h.Office ≤ (l.length : Int)) = true from decide_eq_true ⟨ho, hl⟩]; have hi := inKd_i64 h1; rw [w64_id (n := h.Office - 1) (by omega) (by omega), show h.Office - 1 = (((h.Office - 1).toNat : Nat) : Int) by omega, ixI_nat, kAt_get (by omega)]; simp only [ifB_f, ob_some, Int.toNat_natCast, Bool.true_and]; cases (kAt l (h.Office - 1).toNat == 0) with
   | true => rfl
   | false =>
    rw [right_p h1 h2 hF]; rfl
  ·rw [show decide (h.Office < 1) = false from decide_eq_false (by omega), show decide (h.Office > ((l.length : Nat) : Int)) = true from decide_eq_true (by omega), show decide (1 ≤ h.Office ∧ h.Office ≤ (l.length : Int)) = false from decide_eq_false fun e => hl e.2]; rfl
 ·rw [show decide (h.Office < 1) = true from decide_eq_true (by omega), show decide (1 ≤ h.Office ∧ h.Office ≤ (l.length : Int)) = false from decide_eq_false fun e => ho e.1]; rfl
def okK (k : Int) : Bool := (k == 0) || pubB k
def rgtS (l : List Int) : Bool := decide (l.length ≤ 16) && frB (fun j => okK (kAt l j)) l.length 0
theorem bad_p (k : Int) {F : Nat} (hF : 64 ≤ F) : G_cross_keyring_right_1 F k = some (!okK k) := by
 unfold G_cross_keyring_right_1 okK; rw [right_p (inKd_w (by decide) (by decide)) (inKd_w (by decide) (by decide)) hF]; rw [ob_some, un2_p]; rw [rightS_e, show fH ⟨1, 1, 0, ⟨0, 0⟩⟩ = true from rfl]; cases (k == 0) <;> cases pubB k <;> rfl
theorem fd_fr {p : Nat → Bool} : ∀ {m k : Nat}, frB p m k = (fdN (fun j => !p j) m k).isNone
 | 0, _ => rfl
 | m + 1, k => by
  unfold frB fdN; cases p k with
  | true => simp [fd_fr]
  | false => simp
theorem rgt_p {l : List Int} (hl : l.length ≤ 40) {F : Nat} (hF : 64 ≤ F) : G_cross_keyring_right F l = some (rgtS l) := by
 unfold G_cross_keyring_right rgtS
 by_cases h16 : l.length ≤ 16
 ·rw [show decide (((l.length : Nat) : Int) ≤ 16) = true from decide_eq_true (by omega), show decide (l.length ≤ 16) = true from decide_eq_true h16, ifB_t]; rw [iter_fd l.length (fun j => !okK (kAt l j)) (.inl ()) (fun j => .inr (j : Int)) ?_ ?_ (by omega)]
  ·rw [fd_fr]; cases hfd : fdN (fun j => !okK (kAt l j)) l.length 0 with
   | none => rfl
   | some i =>
    simp only [ob_some, Sum.elim_inr]; rw [show decide ((i : Int) ≥ 0) = true from decide_eq_true (by omega)]; rfl
  ·rw [show decide ((l.length : Int) < ((l.length : Nat) : Int)) = false from decide_eq_false (by omega)]; rfl
  ·intro j hj; rw [show decide ((j : Int) < ((l.length : Nat) : Int)) = true from decide_eq_true (by omega), ifB_t, ixI_nat, kAt_get hj]; simp only [ob_some]; rw [bad_p _ hF, w64_nat (by omega)]; cases okK (kAt l j) <;> rfl
 ·rw [show decide (((l.length : Nat) : Int) ≤ 16) = false from decide_eq_false (by omega), show decide (l.length ≤ 16) = false from decide_eq_false h16]; rfl
def recB (r : KReceipt) : Bool := fH r.Head && (vI r.Entry.Stamp && decide ((0 ≤ r.Index ∧ r.Index < r.Head.Size) ∧ r.Path.length ≤ 20))
theorem chkS_e {pub : Int} {r : KReceipt} : ((chkS pub r).2 == 0) = (pubB pub && recB r) := by
 unfold chkS chkB recB; cases pubB pub && (fH r.Head && (vI r.Entry.Stamp && decide ((0 ≤ r.Index ∧ r.Index < r.Head.Size) ∧ r.Path.length ≤ 20))) <;> rfl
def hopC (l : List Int) (f : KHead) (h : KHop) : Bool := recB h.By && (rgtS l && (fH f && (fH h.Of && decide (h.Grow.length ≤ 20))))
def hopB (l : List Int) (f : KHead) (h : KHop) : Bool :=
 (sgnS l f && (sgnS l h.Of && sgnS l h.By.Head)) && ((decide (h.Of.Office = f.Office) && !(h.By.Head.Office == f.Office)) && (growS f.Root h.Of.Root f.Size h.Of.Size h.Grow && ((h.By.Entry.Doc == digF h.Of) && inclS h.By.Head.Root (leafE h.By.Entry) h.By.Index h.By.Head.Size h.By.Path)))
def hopS (l : List Int) (f : KHead) (h : KHop) : Bool × Int := if hopC l f h then (hopB l f h, 0) else (false, 1)
theorem hop_p {l : List Int} {f : KHead} {h : KHop} (hl : l.length ≤ 40) (hf : f.rng) (ho : h.Of.rng) (hb : h.By.Head.rng) (he : h.By.Entry.rng) {F : Nat} (hF : 64 ≤ F) : G_cross_Check F l f h = some (hopS l f h) := by
 unfold G_cross_Check hopS hopC; rw [check_p hb.r_Office hb.r_Size he hF]; rw [ob_some, un2_p]; rw [chkS_e, pub4, Bool.true_and]; cases h1 : recB h.By with
 | false => rfl
 | true =>
 rw [ifB_t, rgt_p hl hF, formed_p hf.r_Office hf.r_Size hF, formed_p ho.r_Office ho.r_Size hF]; simp only [ob_some]; cases h2 : rgtS l with
 | false => rfl
 | true =>
 cases h3 : fH f with
 | false => rfl
 | true =>
 cases h4 : fH h.Of with
 | false => rfl
 | true =>
 by_cases h5 : h.Grow.length ≤ 20
 ·rw [show decide (((h.Grow.length : Nat) : Int) > 20) = false from decide_eq_false (by omega), show decide (h.Grow.length ≤ 20) = true from decide_eq_true h5]; simp only [ifB_t, ifB_f, ob_some, Bool.and_self, if_true]; unfold hopB; rw [sgn_p hf.r_Office hf.r_Size hF, sgn_p ho.r_Office ho.r_Size hF, sgn_p hb.r_Office hb.r_Size hF]; simp only [ob_some]; cases h6 : sgnS l f with
  | false => rfl
  | true =>
  cases h7 : sgnS l h.Of with
  | false => rfl
  | true =>
  cases h8 : sgnS l h.By.Head with
  | false => rfl
  | true =>
  by_cases h9 : h.Of.Office = f.Office
  ·cases h10 : (h.By.Head.Office == f.Office) with
   | true => rw [show (h.Of.Office == f.Office) = true from beq_iff_eq.2 h9, show decide (h.Of.Office = f.Office) = true from decide_eq_true h9]; rfl
   | false =>
    rw [show (h.Of.Office == f.Office) = true from beq_iff_eq.2 h9, show decide (h.Of.Office = f.Office) = true from decide_eq_true h9]; simp only [ifB_t, ob_some, Bool.not_false, Bool.and_self, Bool.true_and]; rw [pgrow _ _ _ _ _ (by omega) hF]; simp only [ob_some]; cases growS f.Root h.Of.Root f.Size h.Of.Size h.Grow with
    | false => rfl
    | true =>
     simp only [ifB_t, ob_some, Bool.true_and]; rw [dig_p ho hF]; simp only [ob_some]; cases (h.By.Entry.Doc == digF h.Of) with
     | false => rfl
     | true =>
      have h8' := h8; simp only [sgnS, Bool.and_eq_true, decide_eq_true_eq] at h8'; obtain ⟨⟨o1, o2⟩, _, o4⟩ := h8'; have hi := inKd_i64 hb.r_Office; rw [ifB_t, w64_id (n := h.By.Head.Office - 1) (by omega) (by omega), show h.By.Head.Office - 1 = (((h.By.Head.Office - 1).toNat : Nat) : Int) by omega, ixI_nat, kAt_get (by omega)]; simp only [ob_some]; rw [check_p hb.r_Office hb.r_Size he hF]; rw [ob_some, un2_p]; have hpub : pubB (kAt l (h.By.Head.Office - 1).toNat) = true ∧ (verS (kAt l (h.By.Head.Office - 1).toNat) h.By.Head.Sig (msgF h.By.Head)).1 = true := by
       unfold rightS at o4
       split at o4
       ·next hc => simp only [Bool.and_eq_true] at hc; exact ⟨hc.1, o4⟩
       ·cases o4
      have hch : chkS (kAt l (h.By.Head.Office - 1).toNat) h.By = ((verS (kAt l (h.By.Head.Office - 1).toNat) h.By.Head.Sig (msgF h.By.Head)).1 && inclS h.By.Head.Root (leafE h.By.Entry) h.By.Index h.By.Head.Size h.By.Path, 0) := by
       unfold chkS chkB; rw [hpub.1]; unfold recB at h1; rw [h1]; rfl
      rw [hch, hpub.2]; simp only [Bool.true_and]; cases inclS h.By.Head.Root (leafE h.By.Entry) h.By.Index h.By.Head.Size h.By.Path <;> rfl
  ·rw [show (h.Of.Office == f.Office) = false from beq_eq_false_iff_ne.2 h9, show decide (h.Of.Office = f.Office) = false from decide_eq_false h9]; rfl
 ·rw [show decide (((h.Grow.length : Nat) : Int) > 20) = true from decide_eq_true (by omega), show decide (h.Grow.length ≤ 20) = false from decide_eq_false h5]; rfl
end Go.Proofs.YtiijddjfiojfaaaDoor
namespace Go.Proofs.YtiijddjfiojfaaaDoor
open Go.RowKit
theorem headF_rng {o : KOffice} (hr : o.rng) {n : Nat} (hn : n ≤ 5000) {k m : Int} (h : (isK k && isK m) = true) : (headF o n k m).rng := by
 have he := of_decide_eq_true (sig_exp (l := msgF (bareF o n)) h); have hR := rootF_rng (valsF o n); exact ⟨hr.r_ID, inKd_w (by show -9223372036854775808 ≤ (n : Int); omega) (by show (n : Int) ≤ 9223372036854775807; omega), inKd_wu hR.1 hR.2, ⟨inKd_w (by show -9223372036854775808 ≤ (sigS k m (msgF (bareF o n))).1.C; omega) (by show (sigS k m (msgF (bareF o n))).1.C ≤ 9223372036854775807; omega), inKd_w (by show -9223372036854775808 ≤ (sigS k m (msgF (bareF o n))).1.S; omega) (by show (sigS k m (msgF (bareF o n))).1.S ≤ 9223372036854775807; omega)⟩⟩
theorem right_own {o : KOffice} {n : Nat} {k m : Int} (hv : vO o = true) (h1 : 1 ≤ n) (h2 : n ≤ 4096) (h : (isK k && isK m) = true) : rightS (pubF k) (headF o n k m) = (true, 0) := by
 have hk : isK k = true := by simp only [Bool.and_eq_true] at h; exact h.1
 rw [rightS_ok (pubF_pub hk) (headF_fH hv h1 h2 h), msg_head, show (headF o n k m).Sig = (sigS k m (msgF (bareF o n))).1 from rfl, ver_own h]
theorem has_own {o : KOffice} {n : Nat} {k m : Int} (hn : n ≤ o.Entries.length) : hasS o (headF o n k m) = true := by
 unfold hasS; rw [show decide ((headF o n k m).Office = o.ID) = true from decide_eq_true rfl, show decide ((headF o n k m).Size ≤ ((o.Entries.length : Nat) : Int)) = true from decide_eq_true (by show (n : Int) ≤ _; omega), show decide (rootF (valsF o (headF o n k m).Size.toNat) = (headF o n k m).Root) = true from decide_eq_true rfl]; rfl
theorem few2 (F : Nat) (a b : KOffice) : G_regulatorlaw26_few F a b = some (decide (a.Entries.length ≤ 40) && decide (b.Entries.length ≤ 40)) := by
 unfold G_regulatorlaw26_few; rw [few_eq, few_eq, show decide (((a.Entries.length : Nat) : Int) ≤ 40) = decide (a.Entries.length ≤ 40) from decide_eq_decide.2 (by omega), show decide (((b.Entries.length : Nat) : Int) ≤ 40) = decide (b.Entries.length ≤ 40) from decide_eq_decide.2 (by omega)]; cases decide (a.Entries.length ≤ 40) <;> cases decide (b.Entries.length ≤ 40) <;> rfl
theorem head26 : G_regulatorlaw26_head 300 = some true := by kernel_rfl
def stmS (l : List KEntry) : KInterval := if 0 < l.length then (eAt l (l.length - 1)).Stamp else ⟨0, 0⟩
def logO (b : KOffice) (d : Int) : KOffice := ⟨b.ID, b.Entries ++ [⟨d, stmS b.Entries⟩] ++ [⟨1, stmS b.Entries⟩]⟩
theorem stm_ok {b : KOffice} (hv : vO b = true) : vI (stmS b.Entries) = true := by
 unfold stmS
 split
 ·next h => exact vI_at hv (by omega)
 ·rfl
theorem app_stm {b : KOffice} {d : Int} (hl : b.Entries.length ≤ 4000) (hv : vO b = true) : vO ⟨b.ID, b.Entries ++ [⟨d, stmS b.Entries⟩]⟩ = true ∧ appS b ⟨d, stmS b.Entries⟩ = (⟨b.ID, b.Entries ++ [⟨d, stmS b.Entries⟩]⟩, 0) := by
 have hs := stm_ok hv; have hc : (decide (0 < b.Entries.length) && decide ((stmS b.Entries).Lo < (eAt b.Entries (b.Entries.length - 1)).Stamp.Lo)) = false := by
  unfold stmS
  by_cases h0 : 0 < b.Entries.length
  ·rw [if_pos h0]; simp
  ·simp [h0]
 constructor
 ·rw [vO_app hl, hv]; simp only [hs, Bool.true_and]; rw [hc]; rfl
 ·unfold appS; rw [hv]; simp only [hs, Bool.and_self, Bool.not_true, Bool.false_eq_true, if_false]; rw [hc]
  simp
theorem stm_app {l : List KEntry} {d : Int} : stmS (l ++ [⟨d, stmS l⟩]) = stmS l := by
 unfold stmS; rw [if_pos (by simp)]; rw [show (l ++ [(⟨d, if 0 < l.length then (eAt l (l.length - 1)).Stamp else ⟨0, 0⟩⟩ : KEntry)]).length - 1 = l.length by simp, eAt_last]
theorem vO_stm {id : Int} {l : List KEntry} (h1 : l.length ≤ 4000) (h2 : vO ⟨id, l⟩ = true) {e : KInterval} (he : stmS l = e) : vO ⟨id, l ++ [⟨1, e⟩]⟩ = true := by
 subst he; exact (app_stm (b := ⟨id, l⟩) h1 h2).1
theorem app_stm2 {id : Int} {l : List KEntry} (h1 : l.length ≤ 4000) (h2 : vO ⟨id, l⟩ = true) {e : KInterval} (he : stmS l = e) : appS ⟨id, l⟩ ⟨1, e⟩ = (⟨id, l ++ [⟨1, e⟩]⟩, 0) := by
 subst he; exact (app_stm (b := ⟨id, l⟩) h1 h2).2
theorem logO_ok {b : KOffice} {d : Int} (hl : b.Entries.length ≤ 3000) (hv : vO b = true) : vO (logO b d) = true := by
 have v1 := (app_stm (d := d) (by omega) hv).1; have h2 : (b.Entries ++ [(⟨d, stmS b.Entries⟩ : KEntry)]).length ≤ 4000 := by rw [List.length_append]; simp only [List.length_cons, List.length_nil]; omega
 exact vO_stm h2 v1 stm_app
def pubsS (a b : Int) (k m : Int) : List Int := ((List.replicate 16 0).set (a - 1).toNat (pubF k)).set (b - 1).toNat (pubF m)
def madeS (a b : KOffice) (m n : Nat) (k s : Int) : Kregulatorlaw26_logged :=
 ⟨a, logO b (digF (headF a (1 + n % a.Entries.length) k (1 + s % 1000))), headF a (1 + m % (1 + n % a.Entries.length)) k (1 + s % 999), headF a (1 + n % a.Entries.length) k (1 + s % 1000),
  headF (logO b (digF (headF a (1 + n % a.Entries.length) k (1 + s % 1000)))) (b.Entries.length + 1 + m % 2) s (1 + k % 1000), pubsS a.ID b.ID k s, k, s⟩
def madeC (a b : KOffice) : Bool := (decide (a.Entries.length ≤ 40) && decide (b.Entries.length ≤ 40)) && (vO a && (vO b && (decide (0 < a.Entries.length) && !(a.ID == b.ID))))
theorem once_K {s : Int} (h : isK s = true) {q : Int} (h0 : 0 < q) (h1 : q ≤ 1000) : isK (1 + s % q) = true := by
 have := Int.emod_nonneg s (show q ≠ 0 by omega); have := Int.emod_lt_of_pos s h0; exact decide_eq_true ⟨by omega, by omega⟩
theorem tmod_K {s : Int} (h : isK s = true) {q : Int} (h0 : 0 < q) (h1 : q ≤ 1000) : IntKind.i64.wrap (1 + Int.tmod s q) = 1 + s % q := by
 have hs := isK_spec h; rw [Int.tmod_eq_emod_of_nonneg (by omega)]; have := Int.emod_nonneg s (show q ≠ 0 by omega); have := Int.emod_lt_of_pos s h0; rw [w64_id (by omega) (by omega)]
theorem stI_ok {α : Type} {l : List α} {k : Nat} {x : α} (h : k < l.length) : stI l (k : Int) x = some (l.set k x) := by
 unfold stI; rw [if_pos (by omega), Int.toNat_natCast]
set_option maxHeartbeats 4000000 in
theorem made_eq' {a b : KOffice} (ha : a.rng) (hb : b.rng) {m n : Nat} (hm : m ≤ 255) (hn : n ≤ 255) {ks : K2_uint64} (h0 : inKd .u64 ks.f0) (h1 : inKd .u64 ks.f1) :
  ∃ x, G_regulatorlaw26_made 300 a b m n ks = some (x, madeC a b) ∧ (madeC a b = true → x = madeS a b m n (secF ks.f0) (secF ks.f1)) := by
 unfold G_regulatorlaw26_made; rw [sec_eq h0, sec_eq h1, few2]; simp only [ob_some, un2]; unfold madeC; cases hf : (decide (a.Entries.length ≤ 40) && decide (b.Entries.length ≤ 40)) with
 | false => exact ⟨_, rfl, fun h => by cases h⟩
 | true =>
 simp only [Bool.and_eq_true, decide_eq_true_eq] at hf; obtain ⟨la, lb⟩ := hf; rw [ifB_t, valid_r (by omega) hF, valid_r (by omega) hF]; simp only [ob_some]; cases hva : vO a with
 | false => exact ⟨_, rfl, fun h => by cases h⟩
 | true =>
 cases hvb : vO b with
 | false => exact ⟨_, rfl, fun h => by cases h⟩
 | true =>
 by_cases hz : 0 < a.Entries.length
 ·rw [show ((((a.Entries.length : Nat) : Int)) == 0) = false from beq_eq_false_iff_ne.2 (by omega), show decide (0 < a.Entries.length) = true from decide_eq_true hz]; cases hid : (a.ID == b.ID) with
  | true => exact ⟨_, rfl, fun h => by cases h⟩
  | false =>
   simp only [ifB_t, ifB_f, ob_some, Bool.not_false]; have hk := sec_isK ks.f0; have hs := sec_isK ks.f1; generalize secF ks.f0 = K at hk; generalize secF ks.f1 = M at hs; have hL : 1 + n % a.Entries.length ≤ a.Entries.length := by have := Nat.mod_lt n hz; omega
   rw [whenG_t rfl, pickL (by omega) hz (by omega), modL (by omega)]; generalize hLL : 1 + n % a.Entries.length = N at hL; have hN : 1 ≤ N := by omega
   have hS : 1 + m % N ≤ N := by have := Nat.mod_lt m (show 0 < N by omega); omega
   have b1 : (isK K && isK (1 + M % 1000)) = true := both hk (once_K hs (by decide) (by decide)); have b2 : (isK K && isK (1 + M % 999)) = true := both hk (once_K hs (by decide) (by decide)); have b3 : (isK M && isK (1 + K % 1000)) = true := both hs (once_K hk (by decide) (by decide)); rw [tmod_K hs (by decide) (by decide), tmod_K hs (by decide) (by decide), tmod_K hk (by decide) (by decide)]; simp only [ob_some]; rw [sign_p ha (by omega) hF, sign_ok hva hN hL b1, whenG_t (nz hN)]; simp only [ob_some, un2]; rw [show IntKind.i64.wrap (1 + ((m % N : Nat) : Int)) = ((1 + m % N : Nat) : Int) by rw [w64_id (by omega) (by omega)]; omega, sign_p ha (by omega) hF, sign_ok hva (by omega) (by omega) b2]; simp only [ob_some, un2, un6]; have hst : (ifB (decide (((b.Entries.length : Nat) : Int) > 0)) (Option.bind (ixI b.Entries (IntKind.i64.wrap (((b.Entries.length : Nat) : Int) - 1))) (fun v_37 => some (v_37.Stamp.Lo, v_37.Stamp.Hi))) (some (0, 0))) = some ((stmS b.Entries).Lo, (stmS b.Entries).Hi) := by
    unfold stmS
    by_cases h00 : 0 < b.Entries.length
    ·rw [show decide (((b.Entries.length : Nat) : Int) > 0) = true from decide_eq_true (by omega), ifB_t, pred_w h00 (by omega), ixI_nat, eAt_get (by omega), if_pos h00]; rfl
    ·rw [show decide (((b.Entries.length : Nat) : Int) > 0) = false from decide_eq_false (by omega), if_neg h00]; rfl
   rw [hst]; simp only [ob_some, un2]; rw [dig_p (headF_rng ha (by omega) b1) hF]; simp only [ob_some]; have hD : 0 ≤ digF (headF a N K (1 + M % 1000)) ∧ digF (headF a N K (1 + M % 1000)) ≤ 18446744073709551615 := sumB_rng _; unfold madeS; rw [hLL]; generalize digF (headF a N K (1 + M % 1000)) = D at hD ⊢; obtain ⟨v1, a1⟩ := app_stm (d := D) (by omega) hvb; rw [app_p (by omega) hF, show (⟨(stmS b.Entries).Lo, (stmS b.Entries).Hi⟩ : KInterval) = stmS b.Entries from rfl, a1]; simp only [ob_some, un2]; have hl1 : (b.Entries ++ [(⟨D, stmS b.Entries⟩ : KEntry)]).length = b.Entries.length + 1 := by simp
   have v2 := logO_ok (d := D) (by omega) hvb; have a2 : appS ⟨b.ID, b.Entries ++ [⟨D, stmS b.Entries⟩]⟩ ⟨1, stmS b.Entries⟩ = (logO b D, 0) := app_stm2 (by rw [hl1]; omega) v1 stm_app; rw [app_p (by show (b.Entries ++ [(⟨D, stmS b.Entries⟩ : KEntry)]).length ≤ 50; omega) hF, a2]; simp only [ob_some, un2]; have hstm := stm_ok hvb; have hst2 := of_decide_eq_true hstm; have hOr : (logO b D).rng := ⟨hb.r_ID, fun y hy => by
    have hst' : KInterval.rng (stmS b.Entries) := ⟨inKd_w (by omega) (by omega), inKd_w (by omega) (by omega)⟩; rcases List.mem_append.1 hy with hy | hy
    ·rcases List.mem_append.1 hy with hy | hy
     ·exact hb.r_Entries y hy
     ·rcases List.mem_cons.1 hy with rfl | hy
      ·exact ⟨inKd_wu hD.1 hD.2, hst'⟩
      ·cases hy
    ·rcases List.mem_cons.1 hy with rfl | hy
     ·exact ⟨inKd_wu (n := 1) (by decide) (by decide), hst'⟩
     ·cases hy⟩
   have hOl : (logO b D).Entries.length = b.Entries.length + 2 := by unfold logO; simp
   have hm2 : m % 2 < 2 := Nat.mod_lt m (by decide); have hw : IntKind.i64.wrap (IntKind.i64.wrap (((b.Entries.length : Nat) : Int) + 1) + Int.tmod (IntKind.i64.wrap ((m : Nat) : Int)) 2) = ((b.Entries.length + 1 + m % 2 : Nat) : Int) := by
    rw [w64_nat (by omega), show Int.tmod (IntKind.i64.wrap ((m : Nat) : Int)) 2 = ((m % 2 : Nat) : Int) from modL (L := 2) (by omega), w64_id (by omega) (by omega)]; omega
   rw [hw, sign_p hOr (by omega) hF, sign_ok v2 (by omega) (by omega) b3]; simp only [ob_some, un2]; have ia := (vO_iff.1 hva).2.1; have ib := (vO_iff.1 hvb).2.1; obtain ⟨p, hp⟩ : ∃ p : Nat, a.ID - 1 = p := ⟨(a.ID - 1).toNat, by omega⟩; obtain ⟨q, hq⟩ : ∃ q : Nat, b.ID - 1 = q := ⟨(b.ID - 1).toNat, by omega⟩; rw [show repI 8 16 (0 : Int) = some (List.replicate 16 0) from rfl, pubF_eq hk hF, pubF_eq hs hF]; simp only [ob_some]; rw [w64_id (n := a.ID - 1) (by omega) (by omega), w64_id (n := b.ID - 1) (by omega) (by omega), hp, hq]; rw [whenG_t (decide_eq_true (by simp only [List.length_replicate]; omega)), ob_some, stI_ok (by simp only [List.length_replicate]; omega), ob_some, whenG_t (decide_eq_true (by simp only [List.length_set, List.length_replicate]; omega)), ob_some, stI_ok (by simp only [List.length_set, List.length_replicate]; omega), ob_some]; refine ⟨_, rfl, fun _ => ?_⟩; unfold pubsS; rw [hp, hq]; rfl
 ·rw [show ((((a.Entries.length : Nat) : Int)) == 0) = true from beq_iff_eq.2 (by omega), show decide (0 < a.Entries.length) = false from decide_eq_false hz]; exact ⟨_, rfl, fun h => by cases h⟩
end Go.Proofs.YtiijddjfiojfaaaDoor
namespace Go.Proofs.YtiijddjfiojfaaaDoor
open Go.RowKit
end Go.Proofs.YtiijddjfiojfaaaDoor
namespace Go.Proofs.YtiijddjfiojfaaaDoor
open Go.RowKit
theorem logO_len {b : KOffice} {d : Int} : (logO b d).Entries.length = b.Entries.length + 2 := by unfold logO; simp
theorem logO_rng {b : KOffice} {d : Int} (hb : b.rng) (hv : vO b = true) (hd : 0 ≤ d ∧ d ≤ 18446744073709551615) : (logO b d).rng := ⟨hb.r_ID, fun y hy => by
 have hst2 := of_decide_eq_true (stm_ok hv); have hst' : KInterval.rng (stmS b.Entries) := ⟨inKd_w (by omega) (by omega), inKd_w (by omega) (by omega)⟩; rcases List.mem_append.1 hy with hy | hy
 ·rcases List.mem_append.1 hy with hy | hy
  ·exact hb.r_Entries y hy
  ·rcases List.mem_cons.1 hy with rfl | hy
   ·exact ⟨inKd_wu hd.1 hd.2, hst'⟩
   ·cases hy
 ·rcases List.mem_cons.1 hy with rfl | hy
  ·exact ⟨inKd_wu (n := 1) (by decide) (by decide), hst'⟩
  ·cases hy⟩
theorem logO_at {b : KOffice} {d : Int} : eAt (logO b d).Entries b.Entries.length = ⟨d, stmS b.Entries⟩ := by
 unfold logO; simp only; rw [eAt_app (by simp), eAt_last]
theorem fnd_log {b : KOffice} {d : Int} {H : Nat} (h : b.Entries.length < H) : ∃ i, fndS (logO b d).Entries H d = some i ∧ i < H ∧ (eAt (logO b d).Entries i).Doc = d := by
 unfold fndS; cases hf : fdN (fun k => (eAt (logO b d).Entries k).Doc == d) H 0 with
 | none =>
  have := fdN_none hf b.Entries.length (Nat.zero_le _) (by omega); simp only [logO_at, beq_self_eq_true] at this; cases this
 | some i =>
  obtain ⟨⟨_, h1⟩, h2, _⟩ := fdN_some hf; exact ⟨i, rfl, by omega, beq_iff_eq.1 h2⟩
theorem kAt_set {l : List Int} {k j : Nat} {x : Int} (hk : k < l.length) : kAt (l.set k x) j = if k = j then x else kAt l j := by
 unfold kAt; rw [List.getD_eq_getElem?_getD, List.getD_eq_getElem?_getD, List.getElem?_set]
 split
 ·next e => simp [hk]
 ·rfl
theorem kAt_rep {n j : Nat} : kAt (List.replicate n 0) j = 0 := by
 unfold kAt; rw [List.getD_eq_getElem?_getD, List.getElem?_replicate]
 split <;> rfl
theorem pubs_len (a b k m : Int) : (pubsS a b k m).length = 16 := by simp [pubsS]
theorem pubs_at {a b k m : Int} (ha : 1 ≤ a ∧ a ≤ 16) (hb : 1 ≤ b ∧ b ≤ 16) (j : Nat) : kAt (pubsS a b k m) j = if (b - 1).toNat = j then pubF m else if (a - 1).toNat = j then pubF k else 0 := by
 unfold pubsS; rw [kAt_set (by simp only [List.length_set, List.length_replicate]; omega), kAt_set (by simp only [List.length_replicate]; omega), kAt_rep]
theorem okK_pub {k : Int} (h : isK k = true) : okK (pubF k) = true := by unfold okK; rw [pubF_pub h]; simp
theorem pubs_rgt {a b k m : Int} (ha : 1 ≤ a ∧ a ≤ 16) (hb : 1 ≤ b ∧ b ≤ 16) (hk : isK k = true) (hm : isK m = true) : rgtS (pubsS a b k m) = true := by
 unfold rgtS; rw [pubs_len, Bool.and_eq_true]; refine ⟨rfl, frB_iff.2 fun j _ _ => ?_⟩; rw [pubs_at ha hb]
 split
 ·exact okK_pub hm
 ·split
  ·exact okK_pub hk
  ·rfl
theorem pubF_nz (k : Int) : (pubF k == 0) = false := by
 have := pub_pos k.toNat; exact beq_eq_false_iff_ne.2 (by unfold pubF; omega)
theorem sgn_own {l : List Int} {o : KOffice} {n : Nat} {k m : Int} (hv : vO o = true) (h1 : 1 ≤ n) (h2 : n ≤ 4096) (h : (isK k && isK m) = true) (hl : o.ID ≤ (l.length : Int)) (hk : kAt l (o.ID - 1).toNat = pubF k) : sgnS l (headF o n k m) = true := by
 have hi := (vO_iff.1 hv).2.1; unfold sgnS; rw [show (headF o n k m).Office = o.ID from rfl, hk, pubF_nz, right_own hv h1 h2 h, show decide (1 ≤ o.ID ∧ o.ID ≤ (l.length : Int)) = true from decide_eq_true ⟨hi.1, hl⟩]; rfl
structure Mk (a b : KOffice) (K M : Int) : Prop where
 ha : a.rng
 hb : b.rng
 va : vO a = true
 vb : vO b = true
 la : a.Entries.length ≤ 40
 lb : b.Entries.length ≤ 40
 z : 0 < a.Entries.length
 id : (a.ID == b.ID) = false
 k : isK K = true
 m : isK M = true
theorem mk_of {a b : KOffice} {K M : Int} (ha : a.rng) (hb : b.rng) (hk : isK K = true) (hm : isK M = true) (h : madeC a b = true) : Mk a b K M := by
 simp only [madeC, Bool.and_eq_true, decide_eq_true_eq, Bool.not_eq_true'] at h; obtain ⟨⟨h1, h2⟩, h3, h4, h5, h6⟩ := h; exact ⟨ha, hb, h3, h4, h1, h2, h5, h6, hk, hm⟩
theorem wit_made {a b : KOffice} {K M : Int} {m n : Nat} (h : Mk a b K M) : ∃ i : Nat, ∃ N s H : Nat, N = 1 + n % a.Entries.length ∧ s = 1 + m % N ∧ H = b.Entries.length + 1 + m % 2 ∧ i < H ∧ 1 ≤ s ∧ s ≤ N ∧ N ≤ a.Entries.length ∧ H ≤ b.Entries.length + 2 ∧
  (eAt (madeS a b m n K M).by_.Entries i).Doc = digF (madeS a b m n K M).of_ ∧
  witS (madeS a b m n K M).from_ (madeS a b m n K M).first (madeS a b m n K M).of_ (madeS a b m n K M).by_ (madeS a b m n K M).head =
   (⟨(madeS a b m n K M).of_, extF (valsF a N) s true, ⟨(madeS a b m n K M).head, i, eAt (madeS a b m n K M).by_.Entries i, inclF (valsF (madeS a b m n K M).by_ H) i⟩⟩, 0) := by
 unfold madeS; simp only; have hL : 1 + n % a.Entries.length ≤ a.Entries.length := by have := Nat.mod_lt n h.z; omega
 generalize hN : 1 + n % a.Entries.length = N at hL; have hS : 1 + m % N ≤ N := by have := Nat.mod_lt m (show 0 < N by omega); omega
 generalize hs : 1 + m % N = s at hS; have hm2 : m % 2 < 2 := Nat.mod_lt m (by decide); have b1 : (isK K && isK (1 + M % 1000)) = true := both h.k (once_K h.m (by decide) (by decide)); have b2 : (isK K && isK (1 + M % 999)) = true := both h.k (once_K h.m (by decide) (by decide)); have b3 : (isK M && isK (1 + K % 1000)) = true := both h.m (once_K h.k (by decide) (by decide)); generalize 1 + M % 1000 = o1 at b1; generalize 1 + M % 999 = o2 at b2; generalize 1 + K % 1000 = o3 at b3; generalize hD : digF (headF a N K o1) = D; obtain ⟨i, hi, hiH, hdoc⟩ := fnd_log (b := b) (d := D) (H := b.Entries.length + 1 + m % 2) (by omega); generalize hH : b.Entries.length + 1 + m % 2 = H at *; have hvO := logO_ok (d := D) (by have := h.lb; omega) h.vb; have hlO : (logO b D).Entries.length = b.Entries.length + 2 := logO_len; refine ⟨i, N, s, H, rfl, hs.symm, rfl, hiH, by omega, hS, hL, by omega, hdoc, ?_⟩; have hwc : witC a (headF a s K o2) (headF a N K o1) (logO b D) (headF (logO b D) H M o3) = true := by
  have l1 := h.la; have l2 := h.lb; unfold witC; rw [h.va, hvO, headF_fH h.va (by omega) (by omega) b2, headF_fH h.va (by omega) (by omega) b1, headF_fH hvO (by omega) (by omega) b3, show (a.ID == (logO b D).ID) = false from h.id, show decide ((headF a s K o2).Size > (headF a N K o1).Size) = false from decide_eq_false (by show ¬((s : Int) > (N : Int)); omega)]; rfl
 unfold witS; rw [hwc, has_own (by omega), has_own hL, has_own (by omega), hD]; simp only [Bool.and_self, if_true]; rw [show (headF (logO b D) H M o3).Size.toNat = H from rfl, hi]; rfl
theorem hop_made {a b : KOffice} {K M o1 o2 o3 : Int} {N N' s H i : Nat} {D : Int} (h : Mk a b K M) (b1 : (isK K && isK o1) = true) (b2 : (isK K && isK o2) = true) (b3 : (isK M && isK o3) = true) (hs : 1 ≤ s) (hN : s ≤ N) (hL : N ≤ a.Entries.length) (hN1 : 1 ≤ N') (hN' : N' ≤ a.Entries.length) (hi : i < H) (hH1 : 1 ≤ H) (hH : H ≤ b.Entries.length + 2) (hd : (eAt (logO b D).Entries i).Doc = D) :
  hopS (pubsS a.ID b.ID K M) (headF a s K o2) ⟨headF a N' K o1, extF (valsF a N) s true, ⟨headF (logO b D) H M o3, i, eAt (logO b D).Entries i, inclF (valsF (logO b D) H) i⟩⟩ =
   ((growS (rootF (valsF a s)) (rootF (valsF a N')) (s : Int) (N' : Int) (extF (valsF a N) s true) && (D == digF (headF a N' K o1))), 0) := by
 have l1 := h.la; have l2 := h.lb; have hvO := logO_ok (d := D) (by omega) h.vb; have hlO : (logO b D).Entries.length = b.Entries.length + 2 := logO_len; have ia := (vO_iff.1 h.va).2.1; have ib := (vO_iff.1 h.vb).2.1; have hidn : a.ID ≠ b.ID := fun e => by have := h.id; rw [e] at this; simp at this
 have hpl := inclV_le (o := logO b D) (n := H) (by omega) (by omega) i; have hgl := extF_le (l := valsF a N) (m := s) (mark := true) (by rw [valsF_len hL]; omega); have hrec : recB ⟨headF (logO b D) H M o3, i, eAt (logO b D).Entries i, inclF (valsF (logO b D) H) i⟩ = true := by
  unfold recB; rw [headF_fH hvO hH1 (by omega) b3, vI_at hvO (by omega)]; simp only [Bool.true_and]; exact decide_eq_true ⟨⟨by omega, by show (i : Int) < (H : Int); omega⟩, by omega⟩
 have hc : hopC (pubsS a.ID b.ID K M) (headF a s K o2) ⟨headF a N' K o1, extF (valsF a N) s true, ⟨headF (logO b D) H M o3, i, eAt (logO b D).Entries i, inclF (valsF (logO b D) H) i⟩⟩ = true := by
  unfold hopC; simp only; rw [hrec, pubs_rgt ia ib h.k h.m, headF_fH h.va hs (by omega) b2, headF_fH h.va hN1 (by omega) b1, show decide ((extF (valsF a N) s true).length ≤ 20) = true from decide_eq_true (by omega)]; rfl
 unfold hopS; rw [hc, if_pos rfl]; unfold hopB; simp only; have kp : kAt (pubsS a.ID b.ID K M) (a.ID - 1).toNat = pubF K := by rw [pubs_at ia ib, if_neg (by omega), if_pos rfl]
 have kq : kAt (pubsS a.ID b.ID K M) ((logO b D).ID - 1).toNat = pubF M := by rw [show (logO b D).ID = b.ID from rfl, pubs_at ia ib, if_pos rfl]
 rw [sgn_own h.va hs (by omega) b2 (by rw [pubs_len]; omega) kp, sgn_own h.va hN1 (by omega) b1 (by rw [pubs_len]; omega) kp, sgn_own hvO hH1 (by omega) b3 (by rw [pubs_len]; show b.ID ≤ _; omega) kq, hd]; rw [show decide ((headF a N' K o1).Office = (headF a s K o2).Office) = true from decide_eq_true rfl, show ((headF (logO b D) H M o3).Office == (headF a s K o2).Office) = false from beq_eq_false_iff_ne.2 (fun e => hidn (show a.ID = b.ID from e.symm))]; rw [show inclS (headF (logO b D) H M o3).Root (leafE (eAt (logO b D).Entries i)) (i : Int) (headF (logO b D) H M o3).Size (inclF (valsF (logO b D) H) i) = true from incl_own hi (by omega) (by omega)]; rw [show growS (headF a s K o2).Root (headF a N' K o1).Root (headF a s K o2).Size (headF a N' K o1).Size (extF (valsF a N) s true) = growS (rootF (valsF a s)) (rootF (valsF a N')) (s : Int) (N' : Int) (extF (valsF a N) s true) from rfl]
 simp
theorem made_rng {a b : KOffice} {K M : Int} {m n : Nat} (h : Mk a b K M) : (madeS a b m n K M).from_.rng ∧ (madeS a b m n K M).by_.rng ∧ (madeS a b m n K M).first.rng ∧ (madeS a b m n K M).of_.rng ∧ (madeS a b m n K M).head.rng ∧ (madeS a b m n K M).from_.Entries.length ≤ 50 ∧ (madeS a b m n K M).by_.Entries.length ≤ 50 := by
 have l1 := h.la; have l2 := h.lb; have hL : 1 + n % a.Entries.length ≤ a.Entries.length := by have := Nat.mod_lt n h.z; omega
 have b1 : (isK K && isK (1 + M % 1000)) = true := both h.k (once_K h.m (by decide) (by decide)); have b2 : (isK K && isK (1 + M % 999)) = true := both h.k (once_K h.m (by decide) (by decide)); have b3 : (isK M && isK (1 + K % 1000)) = true := both h.m (once_K h.k (by decide) (by decide)); have hm2 : m % 2 < 2 := Nat.mod_lt m (by decide); have hS : 1 + m % (1 + n % a.Entries.length) ≤ 1 + n % a.Entries.length := by have := Nat.mod_lt m (show 0 < 1 + n % a.Entries.length by omega); omega
 have hO := logO_rng (d := digF (headF a (1 + n % a.Entries.length) K (1 + M % 1000))) h.hb h.vb (sumB_rng _); refine ⟨h.ha, hO, headF_rng h.ha (by omega) b2, headF_rng h.ha (by omega) b1, headF_rng hO (by omega) b3, ?_, ?_⟩
 ·show a.Entries.length ≤ 50; omega
 ·show (logO b _).Entries.length ≤ 50; rw [logO_len]; omega
theorem law26_other {a b : KOffice} {m n t c : Int} {ks : K2_uint64} (ha : a.rng) (hb : b.rng) (hm : inKd .u8 m) (hn : inKd .u8 n) (ht : inKd .u8 t) (hk : ks.rng) (hcc : inKd .u64 c) : G_regulatorlaw26_CrossOther 300 a b m n t ks c = some true := by
 have hm0 := inKd_u8 hm; have hn0 := inKd_u8 hn; obtain ⟨m, rfl, hm'⟩ := inKd_nat8 hm; obtain ⟨n, rfl, hn'⟩ := inKd_nat8 hn; obtain ⟨t, rfl, ht'⟩ := inKd_nat8 ht; unfold G_regulatorlaw26_CrossOther; obtain ⟨x, hx, hxe⟩ := made_eq' ha hb (m := m) (n := n) (by omega) (by omega) hk.r_f0 hk.r_f1; rw [head26, hx, ob_some, ob_some, un2_p]; cases hc : madeC a b with
 | false => rfl
 | true =>
  have h := mk_of ha hb (sec_isK ks.f0) (sec_isK ks.f1) hc; rw [hxe hc]; generalize secF ks.f0 = K at h; generalize secF ks.f1 = M at h; obtain ⟨r1, r2, r3, r4, r5, r6, r7⟩ := made_rng (m := m) (n := n) h; obtain ⟨i, N, s, H, hN, hs, hH, hi, s1, sN, NL, HL, hdoc, hw⟩ := wit_made (m := m) (n := n) h; have l1 := h.la; simp only [ifB_t]; rw [wit_p r1 r2 r6 r7 r3 r4 r5 hF, hw, ob_some, un2_p]; have e0 : (madeS a b m n K M).from_ = a := rfl; have ek : (madeS a b m n K M).key = K := rfl; rw [e0, ek, whenG_t (nz h.z), ob_some, sec_eq hcc, ob_some]; have hT : 1 + t % a.Entries.length ≤ a.Entries.length := by have := Nat.mod_lt t h.z; omega
  rw [pickL (by omega) h.z (by omega)]; generalize hNN : 1 + t % a.Entries.length = N' at hT; have hN1 : 1 ≤ N' := by omega
  have b1 : (isK K && isK (secF c)) = true := both h.k (sec_isK c); generalize secF c = o1 at b1; have b2 : (isK K && isK (1 + M % 999)) = true := both h.k (once_K h.m (by decide) (by decide)); have b3 : (isK M && isK (1 + K % 1000)) = true := both h.m (once_K h.k (by decide) (by decide)); rw [sign_p ha (by omega) hF, sign_ok h.va hN1 hT b1, ob_some, un2_p, ob_some]; simp only [un6]; rw [show (⟨(headF a N' K o1).Office, (headF a N' K o1).Size, (headF a N' K o1).Root, ⟨(headF a N' K o1).Sig.C, (headF a N' K o1).Sig.S⟩⟩ : KHead) = headF a N' K o1 from rfl]; have hhop := hop_made (D := digF (madeS a b m n K M).of_) (i := i) h b1 b2 b3 s1 sN NL (N' := N') hN1 hT hi (by omega) HL hdoc; have he : (eAt (madeS a b m n K M).by_.Entries i).rng := eAt_rng r2 (by show i < (logO b _).Entries.length; rw [logO_len]; omega); have hrn := headF_rng ha (n := N') (by omega) b1; rw [hop_p (by show (pubsS a.ID b.ID K M).length ≤ 40; rw [pubs_len]; omega) r3 hrn r5 he hF]; have e1 : (madeS a b m n K M).first = headF a s K (1 + M % 999) := by unfold madeS; rw [hs, hN]
  have e3 : (madeS a b m n K M).by_ = logO b (digF (madeS a b m n K M).of_) := rfl; have e4 : (madeS a b m n K M).head = headF (logO b (digF (madeS a b m n K M).of_)) H M (1 + K % 1000) := by rw [hH]; rfl
  have e5 : (madeS a b m n K M).pubs = pubsS a.ID b.ID K M := rfl; rw [e5, e1, e4, e3, hhop]; simp only [ob_some, un2, beq_self_eq_true, ifB_t, Bool.not_true, ifB_f]; cases growS (rootF (valsF a s)) (rootF (valsF a N')) (s : Int) (N' : Int) (extF (valsF a N) s true) with
  | false => rfl
  | true =>
   cases hdg : (digF (madeS a b m n K M).of_ == digF (headF a N' K o1)) with
   | false => rfl
   | true =>
    simp only [Bool.and_self, ifB_t]; rw [dig_p hrn hF, dig_p r4 hF]; simp only [ob_some]; rw [show (digF (headF a N' K o1) == digF (madeS a b m n K M).of_) = true by rw [← hdg]; exact Bool.beq_comm]
end Go.Proofs.YtiijddjfiojfaaaDoor
namespace Go.Proofs.YtiijddjfiojfaaaDoor
open Go.RowKit
theorem tb_of {W : World} {L : List (String × DataW Unit)} (h : laidMet Tryd.prog L W) (hm : ("internal/strconv.uint64pow10", Rows.laid_internal_strconv_uint64pow10) ∈ L) : Tb W := by
 refine Lib.tabBelow_of_tabIs ?_; obtain ⟨g, t, cs, fuel, p, hg, ht, hvar, hd⟩ := Lib.laidMet.reads h hm; have h1 : (Tryd.prog.globalNamed "internal/strconv.uint64pow10").bind (fun g => (Tryd.prog.globals[g]?).map (·.type)) = some 144 := by kernel_rfl
 rw [hg] at h1; obtain rfl : t = 144 := Option.some.inj (ht.symm.trans h1); unfold Lib.TabIs; rw [hvar, ← Lib.cells_of_tab (k := .u64) (zs := Lib.pow10Tab) Tryd.underlying144 Tryd.underlying25 (by kernel_rfl) (by kernel_rfl) hd]
end Go.Proofs.YtiijddjfiojfaaaDoor
