/-
  Texts joined: Z4, Z5, Z6, Z7, Z8, Z9, Z10, Za, Ma, OpA, OpR, OpZ, Mb, Mc, Rg, Lw24, Md, Me, Mf.
-/
import Derived.Test.YtiijddjfiojfaaaDoorProg
import Derived.Test.YtiijddjfiojfaaaDoorRows
import Derived.ProofKit
import Derived.OpenShut
import Derived.Carry
import Derived.ChangeSame
import Derived.Deep.Slices
import Derived.Lib.SmallJoins
import Derived.KernelRfl
import Derived.Test.YtiijddjfiojfaaaDoorK10
import Derived.Test.YtiijddjfiojfaaaDoorK11
import Derived.Test.YtiijddjfiojfaaaDoorK12
namespace Go.Proofs.YtiijddjfiojfaaaDoor
open Go.RowKit Go.Maps
def G_cross_formed (F : Nat) (p_0 : KHead) : Option (Bool) :=
 Option.bind (G_office_Right F 4 p_0) (un2 fun v_2 v_3 =>
 some (v_3 == 0))
set_option maxRecDepth 100000 in
set_option maxHeartbeats 16000000 in
theorem z_cross_formed (F : Nat) (p_0 : KHead) (r : Bool) (hG : G_cross_formed F p_0 = some r) :
  Cf Tryd.prog 27 [.agg #[I p_0.Office, I p_0.Size, U p_0.Root, I p_0.Sig.C, I p_0.Sig.S]] [] (B r) := by
 unfold G_cross_formed at hG; refine fi Tryd.func27 rfl rfl m0 fun S0 w0 hT => ?_
 refine sq ?_; refine rg ?_; refine l1 ?_; refine nw 1 vp [I p_0.Office, I p_0.Size, U p_0.Root, I p_0.Sig.C, I p_0.Sig.S] 29 fun g_1 => ?_
 refine ra [] f0 [] ?_; refine tN ?_; refine sq ?_; replace hG := bind_some hG; obtain ⟨⟨v_2, v_3⟩, hy_2, hG⟩ := hG; refine rg ?_; refine rn 1 [(0, 5, 0, 0)] f0 [(6, .agg #[I p_0.Office, I p_0.Size, U p_0.Root, I p_0.Sig.C, I p_0.Sig.S])] ?_; refine l1 ?_; refine cl 7 (z_office_Right F 4 p_0 _ hy_2) hT trivial ?_; refine ra [] f0 [(4, I v_3)] ?_; refine tN ?_; refine sq ?_; refine rg ?_; refine ra [] f0 [(2, B (v_3 == 0))] ?_; refine tN ?_; refine kR ?_; obtain rfl := Option.some.inj hG; exact rt []
def G_cross_keyring_right_1 (F : Nat) (p_0 : Int) : Option (Bool) :=
  Option.bind (G_office_Right F p_0 (⟨1, 1, 0, (⟨0, 0⟩ : KSig)⟩ : KHead)) (un2 fun v_1 v_2 =>
  Option.bind (ifB ((p_0 == 0))
      (some false)
      (some (!(v_2 == 0))) : Option (Bool)) (fun (v_5 : Bool) => 
    some v_5))
set_option maxRecDepth 100000 in
set_option maxHeartbeats 16000000 in
theorem z_cross_keyring_right_1 (F : Nat) (p_0 : Int) (r : Bool) (hG : G_cross_keyring_right_1 F p_0 = some r) :
  Cf Tryd.prog 80 [I p_0] [] (B r) := by
 unfold G_cross_keyring_right_1 at hG; refine fi Tryd.func80 rfl rfl m0 fun S0 w0 hT => ?_
 refine sq ?_; refine rg ?_; refine ra [] f0 [] ?_; refine tN ?_; refine sq ?_; replace hG := bind_some hG; obtain ⟨⟨v_1, v_2⟩, hy_1, hG⟩ := hG; refine rg ?_; refine rn 2 [] f0 [(6, I p_0), (7, .agg #[I 1, I 1, U 0, I 0, I 0])] ?_; refine l1 ?_; refine cl 8 (z_office_Right F p_0 (⟨1, 1, 0, (⟨0, 0⟩ : KSig)⟩ : KHead) _ hy_1) hT trivial ?_; refine ra [] f0 [(4, I v_2)] ?_; refine tN ?_; obtain ⟨o_4, hG, hG_4⟩ := bind_some hG; refine jn (fun K E a w => ∃ (v_5 : Bool), Js S0 w0 17 ([(2, B v_5)] ++ K) (se E []) (v_5 = o_4) a w) ?_ ?_
 ·replace hG := ifB_cases hG; rcases hG with ⟨h_3, hG⟩ | ⟨h_3, hG⟩
  ·refine rg ?_; refine rn 3 [] f0 [(13, B (!(p_0 == 0)))] ?_; refine sb 13 (nt h_3) ?_; refine ra [] f0 [(2, B false)] ?_; refine tN ?_; exact fun a w S hK hE => ⟨false, S, hK.wk, hE.sel [], Option.some.inj hG⟩
  ·refine rg ?_; refine rn 3 [] f0 [(13, B (!(p_0 == 0)))] ?_; refine sb 13 (nf h_3) ?_; refine ra [] f0 [(2, B (!(v_2 == 0)))] ?_; refine tN ?_; exact fun a w S hK hE => ⟨!(v_2 == 0), S, hK.wk, hE.sel [], Option.some.inj hG⟩
 ·rintro a w ⟨v_5, hJ⟩; refine hJ.go fun ho_ => ?_
  clear hJ; subst ho_; replace hG := hG_4; refine kR ?_; obtain rfl := Option.some.inj hG; exact rt []
def G_cross_keyring_signed (F : Nat) (p_0 : List Int) (p_1 : KHead) : Option (Bool) :=
  Option.bind (ifB (decide (p_1.Office < 1))
      (some true)
      (ifB (decide (p_1.Office > ((p_0.length : Nat) : Int)))
        (some true)
        (Option.bind (ixI p_0 (IntKind.i64.wrap (p_1.Office - 1))) (fun v_4 =>
        some (v_4 == 0)))) : Option (Bool)) (fun (v_8 : Bool) => 
    ifB (v_8)
      (some false)
      (Option.bind (ixI p_0 (IntKind.i64.wrap (p_1.Office - 1))) (fun v_10 =>
      Option.bind (G_office_Right F v_10 p_1) (un2 fun v_13 v_14 =>
      some v_13))))
set_option maxRecDepth 100000 in
set_option maxHeartbeats 16000000 in
theorem z_cross_keyring_signed (F : Nat) (p_0_A : Option Addr) (p_0_c : Nat) (p_0 : List Int) (p_1 : KHead) (r : Bool) (hG : G_cross_keyring_signed F p_0 p_1 = some r) :
  Cf Tryd.prog 55 [.slice p_0_A p_0.length p_0_c, .agg #[I p_1.Office, I p_1.Size, U p_1.Root, I p_1.Sig.C, I p_1.Sig.S]] [RowC p_0_A p_0_c c_i64 tr p_0] (B r) := by
 unfold G_cross_keyring_signed at hG; refine fi Tryd.func55 rfl rfl (mr tr_mv m0) fun S0 w0 hT => ?_
 refine sq ?_; refine rg ?_; refine l1 ?_; refine nw 3 vp [I p_1.Office, I p_1.Size, U p_1.Root, I p_1.Sig.C, I p_1.Sig.S] 29 fun g_1 => ?_
 refine ra [] f0 [] ?_; refine tN ?_; refine sq ?_; obtain ⟨o_7, hG, hG_7⟩ := bind_some hG; refine jn (fun K E a w => ∃ (v_8 : Bool), Js S0 w0 38 ([(25, B v_8)] ++ K) (se E [0, 1]) (v_8 = o_7) a w) ?_ ?_
 ·replace hG := ifB_cases hG; rcases hG with ⟨h_2, hG⟩ | ⟨h_2, hG⟩
  ·refine rg ?_; refine rn 4 [(1, 1, 0, 0)] f0 [(10, B (decide (p_1.Office < 1)))] ?_; refine sb 10 (bt h_2) ?_; refine ra [] f0 [(25, B true)] ?_; refine tN ?_; exact fun a w S hK hE => ⟨true, S, hK.wk, hE.sel [0, 1], Option.some.inj hG⟩
  ·replace hG := ifB_cases hG; rcases hG with ⟨h_3, hG⟩ | ⟨h_3, hG⟩
   ·refine rg ?_; refine rn 4 [(1, 1, 0, 0)] f0 [(10, B (decide (p_1.Office < 1)))] ?_; refine sb 10 (bf h_2) ?_; refine rn 7 [(1, 1, 0, 0)] f0 [(17, B (decide (p_1.Office > ((p_0.length : Nat) : Int))))] ?_; refine sb 17 (bt h_3) ?_; refine ra [] f0 [(25, B true)] ?_; refine tN ?_; exact fun a w S hK hE => ⟨true, S, hK.wk, hE.sel [0, 1], Option.some.inj hG⟩
   ·replace hG := bind_some hG; obtain ⟨v_4, hy_4, hG⟩ := hG; refine rg ?_; refine rn 4 [(1, 1, 0, 0)] f0 [(10, B (decide (p_1.Office < 1)))] ?_; refine sb 10 (bf h_2) ?_; refine rn 7 [(1, 1, 0, 0)] f0 [(17, B (decide (p_1.Office > ((p_0.length : Nat) : Int))))] ?_; refine sb 17 (bf h_3) ?_; refine fx inf102 (gd' (RowC p_0_A p_0_c c_i64 tr p_0) 1) hy_4 fun b_5 o_6 hi_4 => ?_
    refine ra [(2, 1, 1, 0), (1, 0, 0, 0), (0, 1, 0, 0)] (fc (hi_4 .i64) f0) [(25, B (v_4 == 0))] ?_; refine tN ?_; exact fun a w S hK hE => ⟨(v_4 == 0), S, hK.wk, hE.sel [1, 2], Option.some.inj hG⟩
 ·rintro a w ⟨v_8, hJ⟩; refine hJ.go fun ho_ => ?_
  clear hJ; subst ho_; replace hG := hG_7; rcases ifB_cases hG with ⟨h_9, hG⟩ | ⟨h_9, hG⟩
  ·refine sb 25 (bt h_9) ?_; refine ct ?_; refine sq ?_; refine rg ?_; refine ra [] f0 [(4, B false)] ?_; refine tN ?_; refine kR ?_; refine tR ?_; obtain rfl := Option.some.inj hG; exact rt []
  ·refine sb 25 (bf h_9) ?_; refine cf ?_; refine kS ?_; refine tN ?_; refine sq ?_; replace hG := bind_some hG; obtain ⟨v_10, hy_10, hG⟩ := hG; replace hG := bind_some hG; obtain ⟨⟨v_13, v_14⟩, hy_13, hG⟩ := hG; refine qb ?_; refine fx inf102 (gd' (RowC p_0_A p_0_c c_i64 tr p_0) 1) hy_10 fun b_11 o_12 hi_10 => ?_
   refine qn 7 [(2, 1, 1, 0), (1, 0, 0, 0), (0, 1, 0, 0), (0, 5, 1, 0)] (fc (hi_10 .i64) f0) [(32, I v_10), (33, .agg #[I p_1.Office, I p_1.Size, U p_1.Root, I p_1.Sig.C, I p_1.Sig.S])] ?_; refine qc 34 (z_office_Right F v_10 p_1 _ hy_13) hT trivial ?_; refine qa [] f0 [(5, B v_13)] ?_; refine tN ?_; refine sq ?_; refine rg ?_; refine ra [] f0 [(4, B v_13)] ?_; refine tN ?_; refine kR ?_; obtain rfl := Option.some.inj hG; exact rt []
def G_office_Check (F : Nat) (p_0 : Int) (p_1 : KReceipt) : Option (Bool × Int) :=
  Option.bind (Option.bind (G_office_isPublic F p_0) (fun v_2 =>
    ifB (v_2)
      (Option.bind (G_office_formed F p_1.Head) (fun v_4 =>
      ifB (v_4)
        (Option.bind (G_office_logged_formed F (⟨p_1.Entry⟩ : Koffice_logged)) (fun v_6 =>
        ifB (v_6)
          (Option.bind (G_office_between F p_1.Index 0 (IntKind.i64.wrap (p_1.Head.Size - 1))) (fun v_8 =>
          ifB (v_8)
            (some (decide (((p_1.Path.length : Nat) : Int) > 20)))
            (some true)))
          (some true)))
        (some true)))
      (some true)) : Option (Bool)) (fun (v_11 : Bool) => 
    ifB (v_11)
      (some (false, 1))
      (Option.bind (G_office_Right F p_0 p_1.Head) (un2 fun v_13 v_14 =>
      Option.bind (ifB (v_13)
          (Option.bind (G_office_Leaf F p_1.Entry) (fun v_16 =>
          Option.bind (G_tree_Included F p_1.Head.Root v_16 p_1.Index p_1.Head.Size p_1.Path) (fun v_17 =>
          some v_17)))
          (some false) : Option (Bool)) (fun (v_19 : Bool) => 
        some (v_19, v_14)))))
set_option maxRecDepth 100000 in
set_option maxHeartbeats 16000000 in
theorem z_office_Check (F : Nat) (p_0 : Int) (p_1 : KReceiptL) (r : Bool × Int) (hG : G_office_Check F p_0 p_1.p = some r) :
  Cf Tryd.prog 51 [I p_0, .agg #[I p_1.Head.Office, I p_1.Head.Size, U p_1.Head.Root, I p_1.Head.Sig.C, I p_1.Head.Sig.S, I p_1.Index, U p_1.Entry.Doc, I p_1.Entry.Stamp.Lo, I p_1.Entry.Stamp.Hi, .slice p_1.Path_A p_1.Path.length p_1.Path_c]] [KReceiptL.ok p_1] (.tuple #[B r.1, I r.2]) := by
 unfold G_office_Check at hG; refine fi Tryd.func51 rfl rfl (mc KReceiptL.mv m0) fun S0 w0 hT => ?_
 refine sq ?_; refine rg ?_; refine l1 ?_; refine nw 3 vp [I p_1.Head.Office, I p_1.Head.Size, U p_1.Head.Root, I p_1.Head.Sig.C, I p_1.Head.Sig.S, I p_1.Index, U p_1.Entry.Doc, I p_1.Entry.Stamp.Lo, I p_1.Entry.Stamp.Hi, .slice p_1.Path_A p_1.Path.length p_1.Path_c] 38 fun g_1 => ?_
 refine ra [] f0 [] ?_; refine tN ?_; refine sq ?_; obtain ⟨o_10, hG, hG_10⟩ := bind_some hG; refine jn (fun K E a w => ∃ (v_11 : Bool), Js S0 w0 65 ([(39, B v_11)] ++ K) ([.dat (RowC p_1.Path_A p_1.Path_c c_u64 tr p_1.Path)] ++ se E [0]) (v_11 = o_10) a w) ?_ ?_
 ·replace hG := bind_some hG; obtain ⟨v_2, hy_2, hG⟩ := hG; replace hG := ifB_cases hG; rcases hG with ⟨h_3, hG⟩ | ⟨h_3, hG⟩
  ·replace hG := bind_some hG; obtain ⟨v_4, hy_4, hG⟩ := hG; replace hG := ifB_cases hG; rcases hG with ⟨h_5, hG⟩ | ⟨h_5, hG⟩
   ·replace hG := bind_some hG; obtain ⟨v_6, hy_6, hG⟩ := hG; replace hG := ifB_cases hG; rcases hG with ⟨h_7, hG⟩ | ⟨h_7, hG⟩
    ·replace hG := bind_some hG; obtain ⟨v_8, hy_8, hG⟩ := hG; replace hG := ifB_cases hG; rcases hG with ⟨h_9, hG⟩ | ⟨h_9, hG⟩
     ·refine rg ?_; refine rn 1 [] f0 [(8, I p_0)] ?_; refine l1 ?_; refine cl 9 (z_office_isPublic F p_0 _ hy_2) hT trivial ?_; refine rn 2 [] f0 [(11, B (!v_2))] ?_; refine sb 11 (nt h_3) ?_; refine rn 2 [(1, 5, 0, 0)] f0 [(13, .agg #[I p_1.Head.Office, I p_1.Head.Size, U p_1.Head.Root, I p_1.Head.Sig.C, I p_1.Head.Sig.S])] ?_; refine l1 ?_; refine cl 14 (z_office_formed F p_1.Head _ hy_4) hT trivial ?_; refine rn 3 [] f0 [(17, B (!v_4))] ?_; refine sb 17 (nt h_5) ?_; refine rn 3 [(1, 3, 0, 6)] f0 [(20, .agg #[U p_1.Entry.Doc, I p_1.Entry.Stamp.Lo, I p_1.Entry.Stamp.Hi])] ?_; refine l1 ?_; refine cl 21 (z_office_logged_formed F (⟨p_1.Entry⟩ : Koffice_logged) _ hy_6) hT trivial ?_; refine rn 3 [] f0 [(24, B (!v_6))] ?_; refine sb 24 (nt h_7) ?_; refine rn 6 [(1, 1, 0, 5), (2, 1, 0, 1)] f0 [(26, I p_1.Index), (30, I (IntKind.i64.wrap (p_1.Head.Size - 1)))] ?_; refine l1 ?_; refine cl 31 (z_office_between F p_1.Index 0 (IntKind.i64.wrap (p_1.Head.Size - 1)) _ hy_8) hT trivial ?_; refine rn 3 [] f0 [(34, B (!v_8))] ?_; refine sb 34 (nt h_9) ?_; refine ra [(1, 1, 0, 9)] f0 [(39, B (decide (((p_1.Path.length : Nat) : Int) > 20)))] ?_; refine tN ?_; refine fm (RowC p_1.Path_A p_1.Path_c c_u64 tr p_1.Path) (gm (KReceiptL.ok p_1) 1 fun _ _ h => h.f_Path) ?_; exact fun a w S hK hE => ⟨decide (((p_1.Path.length : Nat) : Int) > 20), S, hK.wk, hE.sel [0, 1], Option.some.inj hG⟩
     ·refine rg ?_; refine rn 1 [] f0 [(8, I p_0)] ?_; refine l1 ?_; refine cl 9 (z_office_isPublic F p_0 _ hy_2) hT trivial ?_; refine rn 2 [] f0 [(11, B (!v_2))] ?_; refine sb 11 (nt h_3) ?_; refine rn 2 [(1, 5, 0, 0)] f0 [(13, .agg #[I p_1.Head.Office, I p_1.Head.Size, U p_1.Head.Root, I p_1.Head.Sig.C, I p_1.Head.Sig.S])] ?_; refine l1 ?_; refine cl 14 (z_office_formed F p_1.Head _ hy_4) hT trivial ?_; refine rn 3 [] f0 [(17, B (!v_4))] ?_; refine sb 17 (nt h_5) ?_; refine rn 3 [(1, 3, 0, 6)] f0 [(20, .agg #[U p_1.Entry.Doc, I p_1.Entry.Stamp.Lo, I p_1.Entry.Stamp.Hi])] ?_; refine l1 ?_; refine cl 21 (z_office_logged_formed F (⟨p_1.Entry⟩ : Koffice_logged) _ hy_6) hT trivial ?_; refine rn 3 [] f0 [(24, B (!v_6))] ?_; refine sb 24 (nt h_7) ?_; refine rn 6 [(1, 1, 0, 5), (2, 1, 0, 1)] f0 [(26, I p_1.Index), (30, I (IntKind.i64.wrap (p_1.Head.Size - 1)))] ?_; refine l1 ?_; refine cl 31 (z_office_between F p_1.Index 0 (IntKind.i64.wrap (p_1.Head.Size - 1)) _ hy_8) hT trivial ?_; refine rn 3 [] f0 [(34, B (!v_8))] ?_; refine sb 34 (nf h_9) ?_; refine ra [] f0 [(39, B true)] ?_; refine tN ?_; refine fm (RowC p_1.Path_A p_1.Path_c c_u64 tr p_1.Path) (gm (KReceiptL.ok p_1) 1 fun _ _ h => h.f_Path) ?_; exact fun a w S hK hE => ⟨true, S, hK.wk, hE.sel [0, 1], Option.some.inj hG⟩
    ·refine rg ?_; refine rn 1 [] f0 [(8, I p_0)] ?_; refine l1 ?_; refine cl 9 (z_office_isPublic F p_0 _ hy_2) hT trivial ?_; refine rn 2 [] f0 [(11, B (!v_2))] ?_; refine sb 11 (nt h_3) ?_; refine rn 2 [(1, 5, 0, 0)] f0 [(13, .agg #[I p_1.Head.Office, I p_1.Head.Size, U p_1.Head.Root, I p_1.Head.Sig.C, I p_1.Head.Sig.S])] ?_; refine l1 ?_; refine cl 14 (z_office_formed F p_1.Head _ hy_4) hT trivial ?_; refine rn 3 [] f0 [(17, B (!v_4))] ?_; refine sb 17 (nt h_5) ?_; refine rn 3 [(1, 3, 0, 6)] f0 [(20, .agg #[U p_1.Entry.Doc, I p_1.Entry.Stamp.Lo, I p_1.Entry.Stamp.Hi])] ?_; refine l1 ?_; refine cl 21 (z_office_logged_formed F (⟨p_1.Entry⟩ : Koffice_logged) _ hy_6) hT trivial ?_; refine rn 3 [] f0 [(24, B (!v_6))] ?_; refine sb 24 (nf h_7) ?_; refine ra [] f0 [(39, B true)] ?_; refine tN ?_; refine fm (RowC p_1.Path_A p_1.Path_c c_u64 tr p_1.Path) (gm (KReceiptL.ok p_1) 1 fun _ _ h => h.f_Path) ?_; exact fun a w S hK hE => ⟨true, S, hK.wk, hE.sel [0, 1], Option.some.inj hG⟩
   ·refine rg ?_; refine rn 1 [] f0 [(8, I p_0)] ?_; refine l1 ?_; refine cl 9 (z_office_isPublic F p_0 _ hy_2) hT trivial ?_; refine rn 2 [] f0 [(11, B (!v_2))] ?_; refine sb 11 (nt h_3) ?_; refine rn 2 [(1, 5, 0, 0)] f0 [(13, .agg #[I p_1.Head.Office, I p_1.Head.Size, U p_1.Head.Root, I p_1.Head.Sig.C, I p_1.Head.Sig.S])] ?_; refine l1 ?_; refine cl 14 (z_office_formed F p_1.Head _ hy_4) hT trivial ?_; refine rn 3 [] f0 [(17, B (!v_4))] ?_; refine sb 17 (nf h_5) ?_; refine ra [] f0 [(39, B true)] ?_; refine tN ?_; refine fm (RowC p_1.Path_A p_1.Path_c c_u64 tr p_1.Path) (gm (KReceiptL.ok p_1) 1 fun _ _ h => h.f_Path) ?_; exact fun a w S hK hE => ⟨true, S, hK.wk, hE.sel [0, 1], Option.some.inj hG⟩
  ·refine rg ?_; refine rn 1 [] f0 [(8, I p_0)] ?_; refine l1 ?_; refine cl 9 (z_office_isPublic F p_0 _ hy_2) hT trivial ?_; refine rn 2 [] f0 [(11, B (!v_2))] ?_; refine sb 11 (nf h_3) ?_; refine ra [] f0 [(39, B true)] ?_; refine tN ?_; refine fm (RowC p_1.Path_A p_1.Path_c c_u64 tr p_1.Path) (gm (KReceiptL.ok p_1) 1 fun _ _ h => h.f_Path) ?_; exact fun a w S hK hE => ⟨true, S, hK.wk, hE.sel [0, 1], Option.some.inj hG⟩
 ·rintro a w ⟨v_11, hJ⟩; refine hJ.go fun ho_ => ?_
  clear hJ; subst ho_; replace hG := hG_10; rcases ifB_cases hG with ⟨h_12, hG⟩ | ⟨h_12, hG⟩
  ·refine sb 39 (bt h_12) ?_; refine ct ?_; refine sq ?_; refine rg ?_; refine ra [] f0 [(4, B false), (5, I 1)] ?_; refine tN ?_; refine kR ?_; refine tR ?_; obtain rfl := Option.some.inj hG; exact rt []
  ·refine sb 39 (bf h_12) ?_; refine cf ?_; refine kS ?_; refine tN ?_; refine sq ?_; replace hG := bind_some hG; obtain ⟨⟨v_13, v_14⟩, hy_13, hG⟩ := hG; refine rg ?_; refine rn 3 [(2, 5, 1, 0)] f0 [(41, I p_0), (43, .agg #[I p_1.Head.Office, I p_1.Head.Size, U p_1.Head.Root, I p_1.Head.Sig.C, I p_1.Head.Sig.S])] ?_; refine l1 ?_; refine cl 44 (z_office_Right F p_0 p_1.Head _ hy_13) hT trivial ?_; refine ra [] f0 [(6, B v_13), (7, I v_14)] ?_; refine tN ?_; obtain ⟨o_18, hG, hG_18⟩ := bind_some hG; refine jn (fun K E a w => ∃ (v_19 : Bool), Js S0 w0 65 ([(4, B v_19), (5, I v_14)] ++ K) (se E []) (v_19 = o_18) a w) ?_ ?_
   ·replace hG := ifB_cases hG; rcases hG with ⟨h_15, hG⟩ | ⟨h_15, hG⟩
    ·replace hG := bind_some hG; obtain ⟨v_16, hy_16, hG⟩ := hG; replace hG := bind_some hG; obtain ⟨v_17, hy_17, hG⟩ := hG; refine qb ?_; refine qn 2 [] f0 [(48, B v_13)] ?_; refine sb 48 (bt h_15) ?_; refine qn 5 [(2, 1, 1, 2), (1, 3, 1, 6)] f0 [(51, U p_1.Head.Root), (53, .agg #[U p_1.Entry.Doc, I p_1.Entry.Stamp.Lo, I p_1.Entry.Stamp.Hi])] ?_; refine qc 54 (z_office_Leaf F p_1.Entry _ hy_16) hT trivial ?_; refine qn 7 [(1, 1, 1, 5), (2, 1, 1, 1), (1, 1, 1, 9)] f0 [(56, I p_1.Index), (59, I p_1.Head.Size), (61, .slice p_1.Path_A p_1.Path.length p_1.Path_c)] ?_; refine qc 62 (z_tree_Included F p_1.Head.Root v_16 p_1.Index p_1.Head.Size p_1.Path_A p_1.Path_c p_1.Path _ hy_17) hT ⟨ga 0, trivial⟩ ?_; refine qa [] f0 [(4, B v_17), (5, I v_14)] ?_; refine tN ?_; exact fun a w S hK hE => ⟨v_17, S, hK.wk, hE.sel [], Option.some.inj hG⟩
    ·refine qb ?_; refine qn 2 [] f0 [(48, B v_13)] ?_; refine sb 48 (bf h_15) ?_; refine qa [] f0 [(4, B false), (5, I v_14)] ?_; refine tN ?_; exact fun a w S hK hE => ⟨false, S, hK.wk, hE.sel [], Option.some.inj hG⟩
   ·rintro a w ⟨v_19, hJ⟩; refine hJ.go fun ho_ => ?_
    clear hJ; subst ho_; replace hG := hG_18; refine kR ?_; obtain rfl := Option.some.inj hG; exact rt []
def G_cross_Forks (F : Nat) (p_0 : Int) (p_1 : KHead) (p_2 : KHead) (p_3 : List Int) : Option (Bool × Int) :=
  Option.bind (G_office_Right F p_0 p_1) (un2 fun v_3 v_4 =>
  Option.bind (G_office_Right F p_0 p_2) (un2 fun v_5 v_6 =>
  Option.bind (ifB ((v_4 == 0))
      (ifB ((v_6 == 0))
        (some (decide (((p_3.length : Nat) : Int) > 21)))
        (some true))
      (some true) : Option (Bool)) (fun (v_10 : Bool) => 
    ifB (v_10)
      (some (false, 1))
      (Option.bind (ifB (v_3)
          (ifB (v_5)
            (ifB ((p_1.Office == p_2.Office))
              (some (decide (p_1.Size > p_2.Size)))
              (some true))
            (some true))
          (some true) : Option (Bool)) (fun (v_16 : Bool) => 
        ifB (v_16)
          (some (false, 0))
          (ifB ((p_1.Size == p_2.Size))
            (Option.bind (ifB ((((p_3.length : Nat) : Int) == 0))
                (some (!(p_1.Root == p_2.Root)))
                (some false) : Option (Bool)) (fun (v_21 : Bool) => 
              some (v_21, 0)))
            (Option.bind (ifB ((((p_3.length : Nat) : Int) == 0))
                (some true)
                (Option.bind (ixI p_3 0) (fun v_23 =>
                some (v_23 == p_1.Root))) : Option (Bool)) (fun (v_27 : Bool) => 
              ifB (v_27)
                (some (false, 0))
                (Option.bind (ixI p_3 0) (fun v_29 =>
                Option.bind (slI p_3 1 ((p_3.length : Nat) : Int)) (fun v_32 =>
                Option.bind (G_tree_Extended F v_29 p_2.Root p_1.Size p_2.Size v_32) (fun v_33 =>
                some (v_33, 0)))))))))))))
set_option maxRecDepth 100000 in
set_option maxHeartbeats 16000000 in
theorem z_cross_Forks (F : Nat) (p_0 : Int) (p_1 : KHead) (p_2 : KHead) (p_3_A : Option Addr) (p_3_c : Nat) (p_3 : List Int) (r : Bool × Int) (hG : G_cross_Forks F p_0 p_1 p_2 p_3 = some r) :
  Cf Tryd.prog 19 [I p_0, .agg #[I p_1.Office, I p_1.Size, U p_1.Root, I p_1.Sig.C, I p_1.Sig.S], .agg #[I p_2.Office, I p_2.Size, U p_2.Root, I p_2.Sig.C, I p_2.Sig.S], .slice p_3_A p_3.length p_3_c] [RowC p_3_A p_3_c c_u64 tr p_3] (.tuple #[B r.1, I r.2]) := by
 unfold G_cross_Forks at hG; refine fi Tryd.func19 rfl rfl (mr tr_mv m0) fun S0 w0 hT => ?_
 refine sq ?_; refine rg ?_; refine l1 ?_; refine nw 5 vp [I p_1.Office, I p_1.Size, U p_1.Root, I p_1.Sig.C, I p_1.Sig.S] 29 fun g_1 => ?_
 refine l1 ?_; refine nw 6 vp [I p_2.Office, I p_2.Size, U p_2.Root, I p_2.Sig.C, I p_2.Sig.S] 29 fun g_2 => ?_
 refine ra [] f0 [] ?_; refine tN ?_; refine sq ?_; replace hG := bind_some hG; obtain ⟨⟨v_3, v_4⟩, hy_3, hG⟩ := hG; refine rg ?_; refine rn 2 [(1, 5, 1, 0)] f0 [(15, I p_0), (16, .agg #[I p_1.Office, I p_1.Size, U p_1.Root, I p_1.Sig.C, I p_1.Sig.S])] ?_; refine l1 ?_; refine cl 17 (z_office_Right F p_0 p_1 _ hy_3) hT trivial ?_; refine ra [] f0 [(10, B v_3), (11, I v_4)] ?_; refine tN ?_; refine sq ?_; replace hG := bind_some hG; obtain ⟨⟨v_5, v_6⟩, hy_5, hG⟩ := hG; refine rg ?_; refine rn 2 [(1, 5, 0, 0)] f0 [(21, I p_0), (22, .agg #[I p_2.Office, I p_2.Size, U p_2.Root, I p_2.Sig.C, I p_2.Sig.S])] ?_; refine l1 ?_; refine cl 23 (z_office_Right F p_0 p_2 _ hy_5) hT trivial ?_; refine ra [] f0 [(12, B v_5), (13, I v_6)] ?_; refine tN ?_; refine sq ?_; obtain ⟨o_9, hG, hG_9⟩ := bind_some hG; refine jn (fun K E a w => ∃ (v_10 : Bool), Js S0 w0 98 ([(36, B v_10)] ++ K) (se E [0, 1, 2]) (v_10 = o_9) a w) ?_ ?_
 ·replace hG := ifB_cases hG; rcases hG with ⟨h_7, hG⟩ | ⟨h_7, hG⟩
  ·replace hG := ifB_cases hG; rcases hG with ⟨h_8, hG⟩ | ⟨h_8, hG⟩
   ·refine rg ?_; refine rn 3 [] f0 [(28, B (!(v_4 == 0)))] ?_; refine sb 28 (nt h_7) ?_; refine rn 4 [] f0 [(32, B (!(v_6 == 0)))] ?_; refine sb 32 (nt h_8) ?_; refine ra [] f0 [(36, B (decide (((p_3.length : Nat) : Int) > 21)))] ?_; refine tN ?_; exact fun a w S hK hE => ⟨decide (((p_3.length : Nat) : Int) > 21), S, hK.wk, hE.sel [0, 1, 2], Option.some.inj hG⟩
   ·refine rg ?_; refine rn 3 [] f0 [(28, B (!(v_4 == 0)))] ?_; refine sb 28 (nt h_7) ?_; refine rn 4 [] f0 [(32, B (!(v_6 == 0)))] ?_; refine sb 32 (nf h_8) ?_; refine ra [] f0 [(36, B true)] ?_; refine tN ?_; exact fun a w S hK hE => ⟨true, S, hK.wk, hE.sel [0, 1, 2], Option.some.inj hG⟩
  ·refine rg ?_; refine rn 3 [] f0 [(28, B (!(v_4 == 0)))] ?_; refine sb 28 (nf h_7) ?_; refine ra [] f0 [(36, B true)] ?_; refine tN ?_; exact fun a w S hK hE => ⟨true, S, hK.wk, hE.sel [0, 1, 2], Option.some.inj hG⟩
 ·rintro a w ⟨v_10, hJ⟩; refine hJ.go fun ho_ => ?_
  clear hJ; subst ho_; replace hG := hG_9; rcases ifB_cases hG with ⟨h_11, hG⟩ | ⟨h_11, hG⟩
  ·refine sb 36 (bt h_11) ?_; refine ct ?_; refine sq ?_; refine rg ?_; refine ra [] f0 [(8, B false), (9, I 1)] ?_; refine tN ?_; refine kR ?_; refine tR ?_; obtain rfl := Option.some.inj hG; exact rt []
  ·refine sb 36 (bf h_11) ?_; refine cf ?_; refine kS ?_; refine tN ?_; refine sq ?_; refine bk ?_; obtain ⟨o_15, hG, hG_15⟩ := bind_some hG; refine jn (fun K E a w => ∃ (v_16 : Bool), Js S0 w0 98 ([(37, B v_16)] ++ K) (se E [0, 1, 2]) (v_16 = o_15) a w) ?_ ?_
   ·replace hG := ifB_cases hG; rcases hG with ⟨h_12, hG⟩ | ⟨h_12, hG⟩
    ·replace hG := ifB_cases hG; rcases hG with ⟨h_13, hG⟩ | ⟨h_13, hG⟩
     ·replace hG := ifB_cases hG; rcases hG with ⟨h_14, hG⟩ | ⟨h_14, hG⟩
      ·refine rg ?_; refine rn 3 [] f0 [(40, B (!v_3))] ?_; refine sb 40 (nt h_12) ?_; refine rn 4 [] f0 [(44, B (!v_5))] ?_; refine sb 44 (nt h_13) ?_; refine rn 7 [(1, 1, 1, 0), (1, 1, 0, 0)] f0 [(51, B (!(p_1.Office == p_2.Office)))] ?_; refine sb 51 (nt h_14) ?_; refine ra [(1, 1, 1, 1), (1, 1, 0, 1)] f0 [(37, B (decide (p_1.Size > p_2.Size)))] ?_; refine tN ?_; exact fun a w S hK hE => ⟨decide (p_1.Size > p_2.Size), S, hK.wk, hE.sel [0, 1, 2], Option.some.inj hG⟩
      ·refine rg ?_; refine rn 3 [] f0 [(40, B (!v_3))] ?_; refine sb 40 (nt h_12) ?_; refine rn 4 [] f0 [(44, B (!v_5))] ?_; refine sb 44 (nt h_13) ?_; refine rn 7 [(1, 1, 1, 0), (1, 1, 0, 0)] f0 [(51, B (!(p_1.Office == p_2.Office)))] ?_; refine sb 51 (nf h_14) ?_; refine ra [] f0 [(37, B true)] ?_; refine tN ?_; exact fun a w S hK hE => ⟨true, S, hK.wk, hE.sel [0, 1, 2], Option.some.inj hG⟩
     ·refine rg ?_; refine rn 3 [] f0 [(40, B (!v_3))] ?_; refine sb 40 (nt h_12) ?_; refine rn 4 [] f0 [(44, B (!v_5))] ?_; refine sb 44 (nf h_13) ?_; refine ra [] f0 [(37, B true)] ?_; refine tN ?_; exact fun a w S hK hE => ⟨true, S, hK.wk, hE.sel [0, 1, 2], Option.some.inj hG⟩
    ·refine rg ?_; refine rn 3 [] f0 [(40, B (!v_3))] ?_; refine sb 40 (nf h_12) ?_; refine ra [] f0 [(37, B true)] ?_; refine tN ?_; exact fun a w S hK hE => ⟨true, S, hK.wk, hE.sel [0, 1, 2], Option.some.inj hG⟩
   ·rintro a w ⟨v_16, hJ⟩; refine hJ.go fun ho_ => ?_
    clear hJ; subst ho_; replace hG := hG_15; rcases ifB_cases hG with ⟨h_17, hG⟩ | ⟨h_17, hG⟩
    ·refine sb 37 (bt h_17) ?_; refine ct ?_; refine sq ?_; refine rg ?_; refine ra [] f0 [(8, B false), (9, I 0)] ?_; refine tN ?_; refine kR ?_; refine hR ?_; refine tR ?_; obtain rfl := Option.some.inj hG; exact rt []
    ·refine sb 37 (bf h_17) ?_; refine cf ?_; refine sq ?_; refine rg ?_; refine ra [(1, 1, 1, 1), (1, 1, 0, 1)] f0 [(58, B (p_1.Size == p_2.Size))] ?_; refine tN ?_; rcases ifB_cases hG with ⟨h_18, hG⟩ | ⟨h_18, hG⟩
     ·refine sb 58 (bt h_18) ?_; refine ct ?_; obtain ⟨o_20, hG, hG_20⟩ := bind_some hG; refine jn (fun K E a w => ∃ (v_21 : Bool), Js S0 w0 98 ([(8, B v_21), (9, I 0)] ++ K) (se E []) (v_21 = o_20) a w) ?_ ?_
      ·replace hG := ifB_cases hG; rcases hG with ⟨h_19, hG⟩ | ⟨h_19, hG⟩
       ·refine rg ?_; refine rn 4 [] f0 [(67, B (((p_3.length : Nat) : Int) == 0))] ?_; refine sb 67 (bt h_19) ?_; refine ra [(1, 1, 1, 2), (1, 1, 0, 2)] f0 [(8, B (!(p_1.Root == p_2.Root))), (9, I 0)] ?_; refine tN ?_; exact fun a w S hK hE => ⟨!(p_1.Root == p_2.Root), S, hK.wk, hE.sel [], Option.some.inj hG⟩
       ·refine rg ?_; refine rn 4 [] f0 [(67, B (((p_3.length : Nat) : Int) == 0))] ?_; refine sb 67 (bf h_19) ?_; refine ra [] f0 [(8, B false), (9, I 0)] ?_; refine tN ?_; exact fun a w S hK hE => ⟨false, S, hK.wk, hE.sel [], Option.some.inj hG⟩
      ·rintro a w ⟨v_21, hJ⟩; refine hJ.go fun ho_ => ?_
       clear hJ; subst ho_; replace hG := hG_20; refine kR ?_; refine hR ?_; refine tR ?_; obtain rfl := Option.some.inj hG; exact rt []
     ·refine sb 58 (bf h_18) ?_; refine cf ?_; obtain ⟨o_26, hG, hG_26⟩ := bind_some hG; refine jn (fun K E a w => ∃ (v_27 : Bool), Js S0 w0 98 ([(74, B v_27)] ++ K) (se E [0, 1, 2]) (v_27 = o_26) a w) ?_ ?_
      ·replace hG := ifB_cases hG; rcases hG with ⟨h_22, hG⟩ | ⟨h_22, hG⟩
       ·refine qb ?_; refine qn 4 [] f0 [(78, B (((p_3.length : Nat) : Int) == 0))] ?_; refine sb 78 (bt h_22) ?_; refine qa [] f0 [(74, B true)] ?_; refine tN ?_; exact fun a w S hK hE => ⟨true, S, hK.wk, hE.sel [0, 1, 2], Option.some.inj hG⟩
       ·replace hG := bind_some hG; obtain ⟨v_23, hy_23, hG⟩ := hG; refine qb ?_; refine qn 4 [] f0 [(78, B (((p_3.length : Nat) : Int) == 0))] ?_; refine sb 78 (bf h_22) ?_; refine fx inf32 (gd' (RowC p_3_A p_3_c c_u64 tr p_3) 2) hy_23 fun b_24 o_25 hi_23 => ?_
        refine qa [(1, 0, 0, 0), (0, 1, 0, 0), (1, 1, 2, 2)] (fc (hi_23 .i64) f0) [(74, B (v_23 == p_1.Root))] ?_; refine tN ?_; exact fun a w S hK hE => ⟨(v_23 == p_1.Root), S, hK.wk, hE.sel [1, 2, 3], Option.some.inj hG⟩
      ·rintro a w ⟨v_27, hJ⟩; refine hJ.go fun ho_ => ?_
       clear hJ; subst ho_; replace hG := hG_26; rcases ifB_cases hG with ⟨h_28, hG⟩ | ⟨h_28, hG⟩
       ·refine sb 74 (bt h_28) ?_; refine ct ?_; refine sq ?_; refine rg ?_; refine ra [] f0 [(8, B false), (9, I 0)] ?_; refine tN ?_; refine kR ?_; refine hR ?_; refine tR ?_; obtain rfl := Option.some.inj hG; exact rt []
       ·refine sb 74 (bf h_28) ?_; refine cf ?_; refine kS ?_; refine hN ?_; refine tN ?_; refine sq ?_; replace hG := bind_some hG; obtain ⟨v_29, hy_29, hG⟩ := hG; replace hG := bind_some hG; obtain ⟨v_32, hy_32, hG⟩ := hG; replace hG := bind_some hG; obtain ⟨v_33, hy_33, hG⟩ := hG; refine qb ?_; refine fx inf32 (gd' (RowC p_3_A p_3_c c_u64 tr p_3) 2) hy_29 fun b_30 o_31 hi_29 => ?_
        refine fp true false inf32 (gd' (RowC p_3_A p_3_c c_u64 tr p_3) 3) hy_32 fun v_32_A v_32_c hp_32 => ?_
        refine qn 11 [(1, 0, 0, 0), (0, 1, 1, 0), (1, 1, 2, 2), (1, 1, 3, 1), (1, 1, 2, 1), (1, 0, 0, 0)] (fc (hi_29 .i64) (fc (hp_32 .i64 .i64) f0)) [(88, U v_29), (90, U p_2.Root), (92, I p_1.Size), (94, I p_2.Size), (96, .slice v_32_A v_32.length v_32_c)] ?_; refine qc 97 (z_tree_Extended F v_29 p_2.Root p_1.Size p_2.Size v_32_A v_32_c v_32 _ hy_33) hT ⟨ga 0, trivial⟩ ?_; refine qa [] f0 [(8, B v_33), (9, I 0)] ?_; refine tN ?_; refine kR ?_; obtain rfl := Option.some.inj hG; exact rt []
end Go.Proofs.YtiijddjfiojfaaaDoor
namespace Go.Proofs.YtiijddjfiojfaaaDoor
open Go.RowKit Go.Maps
end Go.Proofs.YtiijddjfiojfaaaDoor
namespace Go.Proofs.YtiijddjfiojfaaaDoor
open Go.RowKit Go.Maps
def G_cross_Witness (F : Nat) (p_0 : KOffice) (p_1 : KHead) (p_2 : KHead) (p_3 : KOffice) (p_4 : KHead) : Option (KHop × Int) :=
  Option.bind (Option.bind (G_office_Valid F p_0) (fun v_7 =>
    ifB (v_7)
      (Option.bind (G_office_Valid F p_3) (fun v_9 =>
      ifB (v_9)
        (Option.bind (G_cross_formed F p_1) (fun v_11 =>
        ifB (v_11)
          (Option.bind (G_cross_formed F p_2) (fun v_13 =>
          ifB (v_13)
            (Option.bind (G_cross_formed F p_4) (fun v_15 =>
            ifB (v_15)
              (ifB ((p_0.ID == p_3.ID))
                (some true)
                (some (decide (p_1.Size > p_2.Size))))
              (some true)))
            (some true)))
          (some true)))
        (some true)))
      (some true)) : Option (Bool)) (fun (v_19 : Bool) => 
    ifB (v_19)
      (some ((⟨(⟨0, 0, 0, (⟨0, 0⟩ : KSig)⟩ : KHead), ([] : List Int), (⟨(⟨0, 0, 0, (⟨0, 0⟩ : KSig)⟩ : KHead), 0, (⟨0, (⟨0, 0⟩ : KInterval)⟩ : KEntry), ([] : List Int)⟩ : KReceipt)⟩ : KHop), 1))
      (Option.bind (Option.bind (G_cross_has F p_0 p_1) (fun v_21 =>
        ifB (v_21)
          (Option.bind (G_cross_has F p_0 p_2) (fun v_23 =>
          ifB (v_23)
            (Option.bind (G_cross_has F p_3 p_4) (fun v_25 =>
            some (!v_25)))
            (some true)))
          (some true)) : Option (Bool)) (fun (v_27 : Bool) => 
        ifB (v_27)
          (some ((⟨(⟨0, 0, 0, (⟨0, 0⟩ : KSig)⟩ : KHead), ([] : List Int), (⟨(⟨0, 0, 0, (⟨0, 0⟩ : KSig)⟩ : KHead), 0, (⟨0, (⟨0, 0⟩ : KInterval)⟩ : KEntry), ([] : List Int)⟩ : KReceipt)⟩ : KHop), 33))
          (Option.bind (G_cross_Digest F p_2) (fun v_29 =>
          Option.bind (slI p_3.Entries 0 p_4.Size) (fun v_31 =>
          Option.bind (Option.bind (Option.bind (iter (σ := Int) (ρ := Unit ⊕ Int) (fun (v_49 : Int) => 
                  (ifB (decide (v_49 < ((v_31.length : Nat) : Int)))
                    (Option.bind (ixI v_31 v_49) (fun v_52 =>
                    Option.bind (some () : Option (Unit)) (fun (_ : Unit) => 
                      ifB ((v_52.Doc == v_29))
                        (some (.inr (.inr v_49)))
                        (some (.inl (IntKind.i64.wrap (v_49 + 1)))))))
                    (some (.inr (.inl ()))) : Option (Int ⊕ (Unit ⊕ Int)))) F 0) (Sum.elim (fun (_ : Unit) => 
                some (.inl ())) (fun (v_59 : Int) => 
                some (.inr v_59))) : Option (Unit ⊕ Int)) (Sum.elim (fun (_ : Unit) => 
              some (-1)) (fun (v_61 : Int) => 
              some v_61)) : Option (Int)) (fun (v_62 : Int) => 
            ifB (decide (v_62 < 0))
              (some ((⟨(⟨0, 0, 0, (⟨0, 0⟩ : KSig)⟩ : KHead), ([] : List Int), (⟨(⟨0, 0, 0, (⟨0, 0⟩ : KSig)⟩ : KHead), 0, (⟨0, (⟨0, 0⟩ : KInterval)⟩ : KEntry), ([] : List Int)⟩ : KReceipt)⟩ : KHop), 4))
              (Option.bind (G_cross_values F p_0 p_2.Size) (fun v_95 =>
              Option.bind (G_tree_Extend F v_95 p_1.Size) (un2 fun v_96 v_97 =>
              ifB ((v_97 == 0))
                (Option.bind (G_office_Prove F p_3 p_4 v_62) (un2 fun v_99 v_100 =>
                some ((⟨p_2, v_96, v_99⟩ : KHop), v_100)))
                (some ((⟨(⟨0, 0, 0, (⟨0, 0⟩ : KSig)⟩ : KHead), ([] : List Int), (⟨(⟨0, 0, 0, (⟨0, 0⟩ : KSig)⟩ : KHead), 0, (⟨0, (⟨0, 0⟩ : KInterval)⟩ : KEntry), ([] : List Int)⟩ : KReceipt)⟩ : KHop), v_97))))))))))))
set_option maxRecDepth 100000 in
set_option maxHeartbeats 16000000 in
theorem z_cross_Witness (F : Nat) (p_0 : KOfficeL) (p_1 : KHead) (p_2 : KHead) (p_3 : KOfficeL) (p_4 : KHead) (r : KHop × Int) (hG : G_cross_Witness F p_0.p p_1 p_2 p_3.p p_4 = some r) :
  Cn Tryd.prog 10 [.agg #[I p_0.ID, .slice p_0.Entries_A p_0.Entries.length p_0.Entries_c], .agg #[I p_1.Office, I p_1.Size, U p_1.Root, I p_1.Sig.C, I p_1.Sig.S], .agg #[I p_2.Office, I p_2.Size, U p_2.Root, I p_2.Sig.C, I p_2.Sig.S], .agg #[I p_3.ID, .slice p_3.Entries_A p_3.Entries.length p_3.Entries_c], .agg #[I p_4.Office, I p_4.Size, U p_4.Root, I p_4.Sig.C, I p_4.Sig.S]] [KOfficeL.ok p_0, KOfficeL.ok p_3] (fun q : KHopL => r.1 = q.p) (fun q => .tuple #[.agg #[I q.Of.Office, I q.Of.Size, U q.Of.Root, I q.Of.Sig.C, I q.Of.Sig.S, .slice q.Grow_A q.Grow.length q.Grow_c, I q.By.Head.Office, I q.By.Head.Size, U q.By.Head.Root, I q.By.Head.Sig.C, I q.By.Head.Sig.S, I q.By.Index, U q.By.Entry.Doc, I q.By.Entry.Stamp.Lo, I q.By.Entry.Stamp.Hi, .slice q.By.Path_A q.By.Path.length q.By.Path_c], I r.2]) (fun q => [KHopL.ok q]) := by
 unfold G_cross_Witness at hG; refine fin Tryd.func10 rfl rfl (mc KOfficeL.mv (mc KOfficeL.mv m0)) fun S0 w0 hT => ?_
 refine sq ?_; refine rg ?_; refine l1 ?_; refine nw 5 vp [I p_0.ID, .slice p_0.Entries_A p_0.Entries.length p_0.Entries_c] 24 fun g_1 => ?_
 refine l1 ?_; refine nw 6 vp [I p_1.Office, I p_1.Size, U p_1.Root, I p_1.Sig.C, I p_1.Sig.S] 29 fun g_2 => ?_
 refine l1 ?_; refine nw 7 vp [I p_2.Office, I p_2.Size, U p_2.Root, I p_2.Sig.C, I p_2.Sig.S] 29 fun g_3 => ?_
 refine l1 ?_; refine nw 8 vp [I p_3.ID, .slice p_3.Entries_A p_3.Entries.length p_3.Entries_c] 24 fun g_4 => ?_
 refine l1 ?_; refine nw 9 vp [I p_4.Office, I p_4.Size, U p_4.Root, I p_4.Sig.C, I p_4.Sig.S] 29 fun g_5 => ?_
 refine l1 ?_; refine nw 10 vp [I 0, I 0, U 0, I 0, I 0, .slice none 0 0, I 0, I 0, U 0, I 0, I 0, I 0, U 0, I 0, I 0, .slice none 0 0] 40 fun g_6 => ?_
 refine ra [] f0 [] ?_; refine tN ?_; refine sq ?_; obtain ⟨o_18, hG, hG_18⟩ := bind_some hG; refine jn (fun K E a w => ∃ (v_19 : Bool), Js S0 w0 110 ([(53, B v_19)] ++ K) ([.dat (RowC p_0.Entries_A p_0.Entries_c KEntry.cells tr p_0.Entries), .dat (RowC p_3.Entries_A p_3.Entries_c KEntry.cells tr p_3.Entries)] ++ se E [0, 1, 2, 3, 4, 5]) (v_19 = o_18) a w) ?_ ?_
 ·replace hG := bind_some hG; obtain ⟨v_7, hy_7, hG⟩ := hG; replace hG := ifB_cases hG; rcases hG with ⟨h_8, hG⟩ | ⟨h_8, hG⟩
  ·replace hG := bind_some hG; obtain ⟨v_9, hy_9, hG⟩ := hG; replace hG := ifB_cases hG; rcases hG with ⟨h_10, hG⟩ | ⟨h_10, hG⟩
   ·replace hG := bind_some hG; obtain ⟨v_11, hy_11, hG⟩ := hG; replace hG := ifB_cases hG; rcases hG with ⟨h_12, hG⟩ | ⟨h_12, hG⟩
    ·replace hG := bind_some hG; obtain ⟨v_13, hy_13, hG⟩ := hG; replace hG := ifB_cases hG; rcases hG with ⟨h_14, hG⟩ | ⟨h_14, hG⟩
     ·replace hG := bind_some hG; obtain ⟨v_15, hy_15, hG⟩ := hG; replace hG := ifB_cases hG; rcases hG with ⟨h_16, hG⟩ | ⟨h_16, hG⟩
      ·replace hG := ifB_cases hG; rcases hG with ⟨h_17, hG⟩ | ⟨h_17, hG⟩
       ·refine rg ?_; refine rn 1 [(0, 2, 5, 0)] f0 [(17, .agg #[I p_0.ID, .slice p_0.Entries_A p_0.Entries.length p_0.Entries_c])] ?_; refine l1 ?_; refine cl 18 (z_office_Valid F p_0 _ hy_7) hT ⟨(gi 6).a, trivial⟩ ?_; refine rn 2 [] f0 [(20, B (!v_7))] ?_; refine sb 20 (nt h_8) ?_; refine rn 1 [(0, 2, 2, 0)] f0 [(21, .agg #[I p_3.ID, .slice p_3.Entries_A p_3.Entries.length p_3.Entries_c])] ?_; refine l1 ?_; refine cl 22 (z_office_Valid F p_3 _ hy_9) hT ⟨(gi 7).a, trivial⟩ ?_; refine rn 3 [] f0 [(25, B (!v_9))] ?_; refine sb 25 (nt h_10) ?_; refine rn 1 [(0, 5, 4, 0)] f0 [(26, .agg #[I p_1.Office, I p_1.Size, U p_1.Root, I p_1.Sig.C, I p_1.Sig.S])] ?_; refine l1 ?_; refine cl 27 (z_cross_formed F p_1 _ hy_11) hT trivial ?_; refine rn 3 [] f0 [(30, B (!v_11))] ?_; refine sb 30 (nt h_12) ?_; refine rn 1 [(0, 5, 3, 0)] f0 [(31, .agg #[I p_2.Office, I p_2.Size, U p_2.Root, I p_2.Sig.C, I p_2.Sig.S])] ?_; refine l1 ?_; refine cl 32 (z_cross_formed F p_2 _ hy_13) hT trivial ?_; refine rn 3 [] f0 [(35, B (!v_13))] ?_; refine sb 35 (nt h_14) ?_; refine rn 1 [(0, 5, 1, 0)] f0 [(36, .agg #[I p_4.Office, I p_4.Size, U p_4.Root, I p_4.Sig.C, I p_4.Sig.S])] ?_; refine l1 ?_; refine cl 37 (z_cross_formed F p_4 _ hy_15) hT trivial ?_; refine rn 3 [] f0 [(40, B (!v_15))] ?_; refine sb 40 (nt h_16) ?_; refine rn 7 [(1, 1, 5, 0), (1, 1, 2, 0)] f0 [(47, B (p_0.ID == p_3.ID))] ?_; refine sb 47 (bt h_17) ?_; refine ra [] f0 [(53, B true)] ?_; refine tN ?_; refine fm (RowC p_0.Entries_A p_0.Entries_c KEntry.cells tr p_0.Entries) (gm (KOfficeL.ok p_0) 6 fun _ _ h => h.f_Entries) ?_; refine fm (RowC p_3.Entries_A p_3.Entries_c KEntry.cells tr p_3.Entries) (gm (KOfficeL.ok p_3) 8 fun _ _ h => h.f_Entries) ?_; exact fun a w S hK hE => ⟨true, S, hK.wk, hE.sel [1, 0, 2, 3, 4, 5, 6, 7], Option.some.inj hG⟩
       ·refine rg ?_; refine rn 1 [(0, 2, 5, 0)] f0 [(17, .agg #[I p_0.ID, .slice p_0.Entries_A p_0.Entries.length p_0.Entries_c])] ?_; refine l1 ?_; refine cl 18 (z_office_Valid F p_0 _ hy_7) hT ⟨(gi 6).a, trivial⟩ ?_; refine rn 2 [] f0 [(20, B (!v_7))] ?_; refine sb 20 (nt h_8) ?_; refine rn 1 [(0, 2, 2, 0)] f0 [(21, .agg #[I p_3.ID, .slice p_3.Entries_A p_3.Entries.length p_3.Entries_c])] ?_; refine l1 ?_; refine cl 22 (z_office_Valid F p_3 _ hy_9) hT ⟨(gi 7).a, trivial⟩ ?_; refine rn 3 [] f0 [(25, B (!v_9))] ?_; refine sb 25 (nt h_10) ?_; refine rn 1 [(0, 5, 4, 0)] f0 [(26, .agg #[I p_1.Office, I p_1.Size, U p_1.Root, I p_1.Sig.C, I p_1.Sig.S])] ?_; refine l1 ?_; refine cl 27 (z_cross_formed F p_1 _ hy_11) hT trivial ?_; refine rn 3 [] f0 [(30, B (!v_11))] ?_; refine sb 30 (nt h_12) ?_; refine rn 1 [(0, 5, 3, 0)] f0 [(31, .agg #[I p_2.Office, I p_2.Size, U p_2.Root, I p_2.Sig.C, I p_2.Sig.S])] ?_; refine l1 ?_; refine cl 32 (z_cross_formed F p_2 _ hy_13) hT trivial ?_; refine rn 3 [] f0 [(35, B (!v_13))] ?_; refine sb 35 (nt h_14) ?_; refine rn 1 [(0, 5, 1, 0)] f0 [(36, .agg #[I p_4.Office, I p_4.Size, U p_4.Root, I p_4.Sig.C, I p_4.Sig.S])] ?_; refine l1 ?_; refine cl 37 (z_cross_formed F p_4 _ hy_15) hT trivial ?_; refine rn 3 [] f0 [(40, B (!v_15))] ?_; refine sb 40 (nt h_16) ?_; refine rn 7 [(1, 1, 5, 0), (1, 1, 2, 0)] f0 [(47, B (p_0.ID == p_3.ID))] ?_; refine sb 47 (bf h_17) ?_; refine ra [(1, 1, 4, 1), (1, 1, 3, 1)] f0 [(53, B (decide (p_1.Size > p_2.Size)))] ?_; refine tN ?_; refine fm (RowC p_0.Entries_A p_0.Entries_c KEntry.cells tr p_0.Entries) (gm (KOfficeL.ok p_0) 6 fun _ _ h => h.f_Entries) ?_; refine fm (RowC p_3.Entries_A p_3.Entries_c KEntry.cells tr p_3.Entries) (gm (KOfficeL.ok p_3) 8 fun _ _ h => h.f_Entries) ?_; exact fun a w S hK hE => ⟨decide (p_1.Size > p_2.Size), S, hK.wk, hE.sel [1, 0, 2, 3, 4, 5, 6, 7], Option.some.inj hG⟩
      ·refine rg ?_; refine rn 1 [(0, 2, 5, 0)] f0 [(17, .agg #[I p_0.ID, .slice p_0.Entries_A p_0.Entries.length p_0.Entries_c])] ?_; refine l1 ?_; refine cl 18 (z_office_Valid F p_0 _ hy_7) hT ⟨(gi 6).a, trivial⟩ ?_; refine rn 2 [] f0 [(20, B (!v_7))] ?_; refine sb 20 (nt h_8) ?_; refine rn 1 [(0, 2, 2, 0)] f0 [(21, .agg #[I p_3.ID, .slice p_3.Entries_A p_3.Entries.length p_3.Entries_c])] ?_; refine l1 ?_; refine cl 22 (z_office_Valid F p_3 _ hy_9) hT ⟨(gi 7).a, trivial⟩ ?_; refine rn 3 [] f0 [(25, B (!v_9))] ?_; refine sb 25 (nt h_10) ?_; refine rn 1 [(0, 5, 4, 0)] f0 [(26, .agg #[I p_1.Office, I p_1.Size, U p_1.Root, I p_1.Sig.C, I p_1.Sig.S])] ?_; refine l1 ?_; refine cl 27 (z_cross_formed F p_1 _ hy_11) hT trivial ?_; refine rn 3 [] f0 [(30, B (!v_11))] ?_; refine sb 30 (nt h_12) ?_; refine rn 1 [(0, 5, 3, 0)] f0 [(31, .agg #[I p_2.Office, I p_2.Size, U p_2.Root, I p_2.Sig.C, I p_2.Sig.S])] ?_; refine l1 ?_; refine cl 32 (z_cross_formed F p_2 _ hy_13) hT trivial ?_; refine rn 3 [] f0 [(35, B (!v_13))] ?_; refine sb 35 (nt h_14) ?_; refine rn 1 [(0, 5, 1, 0)] f0 [(36, .agg #[I p_4.Office, I p_4.Size, U p_4.Root, I p_4.Sig.C, I p_4.Sig.S])] ?_; refine l1 ?_; refine cl 37 (z_cross_formed F p_4 _ hy_15) hT trivial ?_; refine rn 3 [] f0 [(40, B (!v_15))] ?_; refine sb 40 (nf h_16) ?_; refine ra [] f0 [(53, B true)] ?_; refine tN ?_; refine fm (RowC p_0.Entries_A p_0.Entries_c KEntry.cells tr p_0.Entries) (gm (KOfficeL.ok p_0) 6 fun _ _ h => h.f_Entries) ?_; refine fm (RowC p_3.Entries_A p_3.Entries_c KEntry.cells tr p_3.Entries) (gm (KOfficeL.ok p_3) 8 fun _ _ h => h.f_Entries) ?_; exact fun a w S hK hE => ⟨true, S, hK.wk, hE.sel [1, 0, 2, 3, 4, 5, 6, 7], Option.some.inj hG⟩
     ·refine rg ?_; refine rn 1 [(0, 2, 5, 0)] f0 [(17, .agg #[I p_0.ID, .slice p_0.Entries_A p_0.Entries.length p_0.Entries_c])] ?_; refine l1 ?_; refine cl 18 (z_office_Valid F p_0 _ hy_7) hT ⟨(gi 6).a, trivial⟩ ?_; refine rn 2 [] f0 [(20, B (!v_7))] ?_; refine sb 20 (nt h_8) ?_; refine rn 1 [(0, 2, 2, 0)] f0 [(21, .agg #[I p_3.ID, .slice p_3.Entries_A p_3.Entries.length p_3.Entries_c])] ?_; refine l1 ?_; refine cl 22 (z_office_Valid F p_3 _ hy_9) hT ⟨(gi 7).a, trivial⟩ ?_; refine rn 3 [] f0 [(25, B (!v_9))] ?_; refine sb 25 (nt h_10) ?_; refine rn 1 [(0, 5, 4, 0)] f0 [(26, .agg #[I p_1.Office, I p_1.Size, U p_1.Root, I p_1.Sig.C, I p_1.Sig.S])] ?_; refine l1 ?_; refine cl 27 (z_cross_formed F p_1 _ hy_11) hT trivial ?_; refine rn 3 [] f0 [(30, B (!v_11))] ?_; refine sb 30 (nt h_12) ?_; refine rn 1 [(0, 5, 3, 0)] f0 [(31, .agg #[I p_2.Office, I p_2.Size, U p_2.Root, I p_2.Sig.C, I p_2.Sig.S])] ?_; refine l1 ?_; refine cl 32 (z_cross_formed F p_2 _ hy_13) hT trivial ?_; refine rn 3 [] f0 [(35, B (!v_13))] ?_; refine sb 35 (nf h_14) ?_; refine ra [] f0 [(53, B true)] ?_; refine tN ?_; refine fm (RowC p_0.Entries_A p_0.Entries_c KEntry.cells tr p_0.Entries) (gm (KOfficeL.ok p_0) 6 fun _ _ h => h.f_Entries) ?_; refine fm (RowC p_3.Entries_A p_3.Entries_c KEntry.cells tr p_3.Entries) (gm (KOfficeL.ok p_3) 8 fun _ _ h => h.f_Entries) ?_; exact fun a w S hK hE => ⟨true, S, hK.wk, hE.sel [1, 0, 2, 3, 4, 5, 6, 7], Option.some.inj hG⟩
    ·refine rg ?_; refine rn 1 [(0, 2, 5, 0)] f0 [(17, .agg #[I p_0.ID, .slice p_0.Entries_A p_0.Entries.length p_0.Entries_c])] ?_; refine l1 ?_; refine cl 18 (z_office_Valid F p_0 _ hy_7) hT ⟨(gi 6).a, trivial⟩ ?_; refine rn 2 [] f0 [(20, B (!v_7))] ?_; refine sb 20 (nt h_8) ?_; refine rn 1 [(0, 2, 2, 0)] f0 [(21, .agg #[I p_3.ID, .slice p_3.Entries_A p_3.Entries.length p_3.Entries_c])] ?_; refine l1 ?_; refine cl 22 (z_office_Valid F p_3 _ hy_9) hT ⟨(gi 7).a, trivial⟩ ?_; refine rn 3 [] f0 [(25, B (!v_9))] ?_; refine sb 25 (nt h_10) ?_; refine rn 1 [(0, 5, 4, 0)] f0 [(26, .agg #[I p_1.Office, I p_1.Size, U p_1.Root, I p_1.Sig.C, I p_1.Sig.S])] ?_; refine l1 ?_; refine cl 27 (z_cross_formed F p_1 _ hy_11) hT trivial ?_; refine rn 3 [] f0 [(30, B (!v_11))] ?_; refine sb 30 (nf h_12) ?_; refine ra [] f0 [(53, B true)] ?_; refine tN ?_; refine fm (RowC p_0.Entries_A p_0.Entries_c KEntry.cells tr p_0.Entries) (gm (KOfficeL.ok p_0) 6 fun _ _ h => h.f_Entries) ?_; refine fm (RowC p_3.Entries_A p_3.Entries_c KEntry.cells tr p_3.Entries) (gm (KOfficeL.ok p_3) 8 fun _ _ h => h.f_Entries) ?_; exact fun a w S hK hE => ⟨true, S, hK.wk, hE.sel [1, 0, 2, 3, 4, 5, 6, 7], Option.some.inj hG⟩
   ·refine rg ?_; refine rn 1 [(0, 2, 5, 0)] f0 [(17, .agg #[I p_0.ID, .slice p_0.Entries_A p_0.Entries.length p_0.Entries_c])] ?_; refine l1 ?_; refine cl 18 (z_office_Valid F p_0 _ hy_7) hT ⟨(gi 6).a, trivial⟩ ?_; refine rn 2 [] f0 [(20, B (!v_7))] ?_; refine sb 20 (nt h_8) ?_; refine rn 1 [(0, 2, 2, 0)] f0 [(21, .agg #[I p_3.ID, .slice p_3.Entries_A p_3.Entries.length p_3.Entries_c])] ?_; refine l1 ?_; refine cl 22 (z_office_Valid F p_3 _ hy_9) hT ⟨(gi 7).a, trivial⟩ ?_; refine rn 3 [] f0 [(25, B (!v_9))] ?_; refine sb 25 (nf h_10) ?_; refine ra [] f0 [(53, B true)] ?_; refine tN ?_; refine fm (RowC p_0.Entries_A p_0.Entries_c KEntry.cells tr p_0.Entries) (gm (KOfficeL.ok p_0) 6 fun _ _ h => h.f_Entries) ?_; refine fm (RowC p_3.Entries_A p_3.Entries_c KEntry.cells tr p_3.Entries) (gm (KOfficeL.ok p_3) 8 fun _ _ h => h.f_Entries) ?_; exact fun a w S hK hE => ⟨true, S, hK.wk, hE.sel [1, 0, 2, 3, 4, 5, 6, 7], Option.some.inj hG⟩
  ·refine rg ?_; refine rn 1 [(0, 2, 5, 0)] f0 [(17, .agg #[I p_0.ID, .slice p_0.Entries_A p_0.Entries.length p_0.Entries_c])] ?_; refine l1 ?_; refine cl 18 (z_office_Valid F p_0 _ hy_7) hT ⟨(gi 6).a, trivial⟩ ?_; refine rn 2 [] f0 [(20, B (!v_7))] ?_; refine sb 20 (nf h_8) ?_; refine ra [] f0 [(53, B true)] ?_; refine tN ?_; refine fm (RowC p_0.Entries_A p_0.Entries_c KEntry.cells tr p_0.Entries) (gm (KOfficeL.ok p_0) 6 fun _ _ h => h.f_Entries) ?_; refine fm (RowC p_3.Entries_A p_3.Entries_c KEntry.cells tr p_3.Entries) (gm (KOfficeL.ok p_3) 8 fun _ _ h => h.f_Entries) ?_; exact fun a w S hK hE => ⟨true, S, hK.wk, hE.sel [1, 0, 2, 3, 4, 5, 6, 7], Option.some.inj hG⟩
 ·rintro a w ⟨v_19, hJ⟩; refine hJ.go fun ho_ => ?_
  clear hJ; subst ho_; replace hG := hG_18; rcases ifB_cases hG with ⟨h_20, hG⟩ | ⟨h_20, hG⟩
  ·refine sb 53 (bt h_20) ?_; refine ct ?_; refine sq ?_; refine rg ?_; refine rn 1 [] f0 [(54, .agg #[I 0, I 0, U 0, I 0, I 0, .slice none 0 0, I 0, I 0, U 0, I 0, I 0, I 0, U 0, I 0, I 0, .slice none 0 0])] ?_; refine l1 ?_; refine sr 2 g_6 [(0, I 0), (1, I 0), (2, U 0), (3, I 0), (4, I 0), (5, .slice none 0 0), (6, I 0), (7, I 0), (8, U 0), (9, I 0), (10, I 0), (11, I 0), (12, U 0), (13, I 0), (14, I 0), (15, .slice none 0 0)] ?_; refine ra [] f0 [(11, I 1)] ?_; refine tN ?_; refine kR ?_; refine tR ?_; obtain rfl := Option.some.inj hG; exact rtn [(2, 0, 16)] (⟨(⟨0, 0, 0, (⟨0, 0⟩ : KSig)⟩ : KHead), none, 0, ([] : List Int), (⟨(⟨0, 0, 0, (⟨0, 0⟩ : KSig)⟩ : KHead), 0, (⟨0, (⟨0, 0⟩ : KInterval)⟩ : KEntry), none, 0, ([] : List Int)⟩ : KReceiptL)⟩ : KHopL) rfl ⟨((Fd.two ((gn : Fd _ (RowC none 0 c_u64 tr ([] : List Int)))) ((gn : Fd _ (RowC none 0 c_u64 tr ([] : List Int))))).m fun _ _ h => ⟨h.1, ⟨h.2⟩⟩), trivial⟩
  ·refine sb 53 (bf h_20) ?_; refine cf ?_; refine kS ?_; refine tN ?_; refine sq ?_; obtain ⟨o_26, hG, hG_26⟩ := bind_some hG; refine jn (fun K E a w => ∃ (v_27 : Bool), Js S0 w0 110 ([(70, B v_27)] ++ K) (se E [0, 1, 2, 3, 4, 5, 6, 7]) (v_27 = o_26) a w) ?_ ?_
   ·replace hG := bind_some hG; obtain ⟨v_21, hy_21, hG⟩ := hG; replace hG := ifB_cases hG; rcases hG with ⟨h_22, hG⟩ | ⟨h_22, hG⟩
    ·replace hG := bind_some hG; obtain ⟨v_23, hy_23, hG⟩ := hG; replace hG := ifB_cases hG; rcases hG with ⟨h_24, hG⟩ | ⟨h_24, hG⟩
     ·replace hG := bind_some hG; obtain ⟨v_25, hy_25, hG⟩ := hG; refine rg ?_; refine rn 2 [(0, 2, 7, 0), (0, 5, 6, 0)] f0 [(55, .agg #[I p_0.ID, .slice p_0.Entries_A p_0.Entries.length p_0.Entries_c]), (56, .agg #[I p_1.Office, I p_1.Size, U p_1.Root, I p_1.Sig.C, I p_1.Sig.S])] ?_; refine l1 ?_; refine cl 57 (z_cross_has F p_0 p_1 _ hy_21) hT ⟨(((gd' (RowC p_0.Entries_A p_0.Entries_c KEntry.cells tr p_0.Entries) 0)).m fun _ _ h => ⟨h⟩).a, trivial⟩ ?_; refine rn 2 [] f0 [(59, B (!v_21))] ?_; refine sb 59 (nt h_22) ?_; refine rn 2 [(0, 2, 7, 0), (0, 5, 5, 0)] f0 [(60, .agg #[I p_0.ID, .slice p_0.Entries_A p_0.Entries.length p_0.Entries_c]), (61, .agg #[I p_2.Office, I p_2.Size, U p_2.Root, I p_2.Sig.C, I p_2.Sig.S])] ?_; refine l1 ?_; refine cl 62 (z_cross_has F p_0 p_2 _ hy_23) hT ⟨(((gd' (RowC p_0.Entries_A p_0.Entries_c KEntry.cells tr p_0.Entries) 0)).m fun _ _ h => ⟨h⟩).a, trivial⟩ ?_; refine rn 3 [] f0 [(65, B (!v_23))] ?_; refine sb 65 (nt h_24) ?_; refine rn 2 [(0, 2, 4, 0), (0, 5, 3, 0)] f0 [(66, .agg #[I p_3.ID, .slice p_3.Entries_A p_3.Entries.length p_3.Entries_c]), (67, .agg #[I p_4.Office, I p_4.Size, U p_4.Root, I p_4.Sig.C, I p_4.Sig.S])] ?_; refine l1 ?_; refine cl 68 (z_cross_has F p_3 p_4 _ hy_25) hT ⟨(((gd' (RowC p_3.Entries_A p_3.Entries_c KEntry.cells tr p_3.Entries) 1)).m fun _ _ h => ⟨h⟩).a, trivial⟩ ?_; refine ra [] f0 [(70, B (!v_25))] ?_; refine tN ?_; exact fun a w S hK hE => ⟨!v_25, S, hK.wk, hE.sel [0, 1, 2, 3, 4, 5, 6, 7], Option.some.inj hG⟩
     ·refine rg ?_; refine rn 2 [(0, 2, 7, 0), (0, 5, 6, 0)] f0 [(55, .agg #[I p_0.ID, .slice p_0.Entries_A p_0.Entries.length p_0.Entries_c]), (56, .agg #[I p_1.Office, I p_1.Size, U p_1.Root, I p_1.Sig.C, I p_1.Sig.S])] ?_; refine l1 ?_; refine cl 57 (z_cross_has F p_0 p_1 _ hy_21) hT ⟨(((gd' (RowC p_0.Entries_A p_0.Entries_c KEntry.cells tr p_0.Entries) 0)).m fun _ _ h => ⟨h⟩).a, trivial⟩ ?_; refine rn 2 [] f0 [(59, B (!v_21))] ?_; refine sb 59 (nt h_22) ?_; refine rn 2 [(0, 2, 7, 0), (0, 5, 5, 0)] f0 [(60, .agg #[I p_0.ID, .slice p_0.Entries_A p_0.Entries.length p_0.Entries_c]), (61, .agg #[I p_2.Office, I p_2.Size, U p_2.Root, I p_2.Sig.C, I p_2.Sig.S])] ?_; refine l1 ?_; refine cl 62 (z_cross_has F p_0 p_2 _ hy_23) hT ⟨(((gd' (RowC p_0.Entries_A p_0.Entries_c KEntry.cells tr p_0.Entries) 0)).m fun _ _ h => ⟨h⟩).a, trivial⟩ ?_; refine rn 3 [] f0 [(65, B (!v_23))] ?_; refine sb 65 (nf h_24) ?_; refine ra [] f0 [(70, B true)] ?_; refine tN ?_; exact fun a w S hK hE => ⟨true, S, hK.wk, hE.sel [0, 1, 2, 3, 4, 5, 6, 7], Option.some.inj hG⟩
    ·refine rg ?_; refine rn 2 [(0, 2, 7, 0), (0, 5, 6, 0)] f0 [(55, .agg #[I p_0.ID, .slice p_0.Entries_A p_0.Entries.length p_0.Entries_c]), (56, .agg #[I p_1.Office, I p_1.Size, U p_1.Root, I p_1.Sig.C, I p_1.Sig.S])] ?_; refine l1 ?_; refine cl 57 (z_cross_has F p_0 p_1 _ hy_21) hT ⟨(((gd' (RowC p_0.Entries_A p_0.Entries_c KEntry.cells tr p_0.Entries) 0)).m fun _ _ h => ⟨h⟩).a, trivial⟩ ?_; refine rn 2 [] f0 [(59, B (!v_21))] ?_; refine sb 59 (nf h_22) ?_; refine ra [] f0 [(70, B true)] ?_; refine tN ?_; exact fun a w S hK hE => ⟨true, S, hK.wk, hE.sel [0, 1, 2, 3, 4, 5, 6, 7], Option.some.inj hG⟩
   ·rintro a w ⟨v_27, hJ⟩; refine hJ.go fun ho_ => ?_
    clear hJ; subst ho_; replace hG := hG_26; rcases ifB_cases hG with ⟨h_28, hG⟩ | ⟨h_28, hG⟩
    ·refine sb 70 (bt h_28) ?_; refine ct ?_; refine sq ?_; refine rg ?_; refine rn 1 [] f0 [(71, .agg #[I 0, I 0, U 0, I 0, I 0, .slice none 0 0, I 0, I 0, U 0, I 0, I 0, I 0, U 0, I 0, I 0, .slice none 0 0])] ?_; refine l1 ?_; refine sr 2 g_6 [(0, I 0), (1, I 0), (2, U 0), (3, I 0), (4, I 0), (5, .slice none 0 0), (6, I 0), (7, I 0), (8, U 0), (9, I 0), (10, I 0), (11, I 0), (12, U 0), (13, I 0), (14, I 0), (15, .slice none 0 0)] ?_; refine ra [] f0 [(11, I 33)] ?_; refine tN ?_; refine kR ?_; refine tR ?_; obtain rfl := Option.some.inj hG; exact rtn [(2, 0, 16)] (⟨(⟨0, 0, 0, (⟨0, 0⟩ : KSig)⟩ : KHead), none, 0, ([] : List Int), (⟨(⟨0, 0, 0, (⟨0, 0⟩ : KSig)⟩ : KHead), 0, (⟨0, (⟨0, 0⟩ : KInterval)⟩ : KEntry), none, 0, ([] : List Int)⟩ : KReceiptL)⟩ : KHopL) rfl ⟨((Fd.two ((gn : Fd _ (RowC none 0 c_u64 tr ([] : List Int)))) ((gn : Fd _ (RowC none 0 c_u64 tr ([] : List Int))))).m fun _ _ h => ⟨h.1, ⟨h.2⟩⟩), trivial⟩
    ·refine sb 70 (bf h_28) ?_; refine cf ?_; refine kS ?_; refine tN ?_; refine sq ?_; replace hG := bind_some hG; obtain ⟨v_29, hy_29, hG⟩ := hG; refine rg ?_; refine rn 1 [(0, 5, 5, 0)] f0 [(72, .agg #[I p_2.Office, I p_2.Size, U p_2.Root, I p_2.Sig.C, I p_2.Sig.S])] ?_; refine l1 ?_; refine cl 73 (z_cross_Digest F p_2 _ hy_29) hT trivial ?_; refine l1 ?_; refine nw 12 vp [U 0] 25 fun g_30 => ?_
     refine l1 ?_; refine sr 0 g_30 [(0, U v_29)] ?_; refine nl ?_; refine tN ?_; refine sq ?_; replace hG := bind_some hG; obtain ⟨v_31, hy_31, hG⟩ := hG; replace hG := bind_some hG; obtain ⟨v_62o, hy_63, hG⟩ := hG; refine rg ?_; refine fp false true inf22 (gd' (RowC p_3.Entries_A p_3.Entries_c KEntry.cells tr p_3.Entries) 2) hy_31 fun v_31_A v_31_c hp_31 => ?_
     refine rn 6 [(1, 1, 6, 1), (1, 1, 5, 1), (0, 0, 0, 0)] (fc (hp_31 .i64 .i64) f0) [(78, .slice v_31_A v_31.length v_31_c), (79, .func (.func 30) #[] #[Pt g_30 0])] ?_; refine l1 ?_; refine ci 80 (args := [.slice v_31_A v_31.length v_31_c, .func (.func 30) #[] #[Pt g_30 0]]) (fun E e w => ∃ (v_62 : Int), Rs S0 w0 (I v_62) (se E [0, 1, 2, 3, 4, 5, 6, 7, 8, 9]) (v_62 = v_62o) e w) Tryd.func29 rfl rfl ?_ ?_
     ·replace hG := hy_63; refine sq ?_; refine rg ?_; refine ra [] f0 [] ?_; refine tN ?_; obtain ⟨o_92, hG, hG_92⟩ := bind_some hG; refine jn (fun K E a w => Js S0 w0 19 (K) (se E [0, 1, 2, 3, 4, 5, 6, 7, 8, 9]) (.inl () = o_92) a w) ?_ ?_
      ·refine sq ?_; refine rg ?_; refine ra [] f0 [(7, I ((v_31.length : Nat) : Int)), (8, I 0)] ?_; refine tN ?_; refine bk ?_; obtain ⟨e_82, hL, hG_82⟩ := bind_some hG; clear hG; obtain ⟨stp_82, hs_82, hL⟩ := iter_gen hL; refine lp (fun K E n_ a w => ∃ (v_81 : Int), Js S0 w0 19 ([(8, I v_81)] ++ K) (se E [0, 1, 2, 3, 4, 5, 6, 7, 8, 9]) (iter stp_82 n_ v_81 = some e_82) a w) F ?_ ?_
       ·exact fun a w S hK hE => ⟨0, S, hK.wk, hE.sel [0, 1, 2, 3, 4, 5, 6, 7, 8, 9], hL⟩
       ·clear hL; rintro n_82 a w ⟨v_81, hJ⟩; refine hJ.go fun hL => ?_
        clear hJ; obtain ⟨m_82, o_82, rfl, hG, hO1_82, hO2_82⟩ := iter_step hL; clear hL; rw [hs_82] at hG; refine sq ?_; refine rg ?_; refine ra [] f0 [(9, B (decide (v_81 < ((v_31.length : Nat) : Int))))] ?_; refine tN ?_; refine sq ?_; rcases ifB_cases hG with ⟨h_83, hG⟩ | ⟨h_83, hG⟩
        ·refine sb 9 (bt h_83) ?_; refine ct ?_; refine kS ?_; refine tN ?_; refine sq ?_; refine bk ?_; refine sq ?_; refine rg ?_; refine ra [] f0 [(5, I v_81)] ?_; refine tN ?_; refine sq ?_; replace hG := bind_some hG; obtain ⟨v_84, hy_84, hG⟩ := hG; replace hG := bind_some hG; obtain ⟨⟨⟩, hy_88, hG⟩ := hG; refine rg ?_; refine fx inf22 (gd' (RowC v_31_A v_31_c KEntry.cells tr v_31) 0) hy_84 fun b_85 o_86 hi_84 => ?_
         refine rn 5 [(3, 0, 0, 0), (0, 3, 0, 0)] (fc (hi_84 .i64) f0) [(11, .func (.func 30) #[] #[Pt g_30 0]), (15, .agg #[U v_84.Doc, I v_84.Stamp.Lo, I v_84.Stamp.Hi])] ?_; refine l1 ?_; refine ci 16 (args := [.agg #[U v_84.Doc, I v_84.Stamp.Lo, I v_84.Stamp.Hi], Pt g_30 0]) (fun E e w => Rs S0 w0 (B (v_84.Doc == v_29)) (se E [0, 1, 2, 3, 4, 5, 6, 7, 8, 9, 10]) (() = ()) e w) Tryd.func30 rfl rfl ?_ ?_
         ·replace hG := hy_88; refine sq ?_; refine rg ?_; refine l1 ?_; refine nw 2 vp [U v_84.Doc, I v_84.Stamp.Lo, I v_84.Stamp.Hi] 36 fun g_89 => ?_
          refine ra [] f0 [] ?_; refine tN ?_; refine sq ?_; refine rg ?_; refine ra [(1, 1, 0, 0), (0, 1, 3, 0)] f0 [(3, B (v_84.Doc == v_29))] ?_; refine tN ?_; refine kR ?_; refine ri [] (B (v_84.Doc == v_29)) ?_; exact fun a w S hK hE => ⟨rfl, ⟨S, hE.sel [1, 2, 3, 4, 5, 6, 7, 8, 9, 10, 11]⟩, Option.some.inj hG⟩
         ·rintro e w hJ; refine hJ.go fun ho_ => ?_
          clear hJ; refine nl ?_; refine tN ?_; rcases ifB_cases hG with ⟨h_90, hG⟩ | ⟨h_90, hG⟩
          ·refine sb 16 (bt h_90) ?_; refine ct ?_; refine sq ?_; refine rg ?_; refine ra [] f0 [(4, I v_81)] ?_; refine tN ?_; refine kR ?_; refine hR ?_; refine tR ?_; refine tR ?_; have he_ := hO2_82 _ (Option.some.inj hG).symm; subst he_; replace hG := hG_82; refine hR ?_; refine tR ?_; obtain rfl := Option.some.inj hG; replace hG := hG_92; refine ri [] (I v_81) ?_; exact fun a w S hK hE => ⟨v_81, rfl, ⟨S, hE.sel [1, 2, 3, 4, 5, 6, 7, 8, 9, 10]⟩, Option.some.inj hG⟩
          ·refine sb 16 (bf h_90) ?_; refine cf ?_; refine kS ?_; refine hN ?_; refine tN ?_; refine rg ?_; refine ra [] f0 [(8, I (IntKind.i64.wrap (v_81 + 1)))] ?_; refine tN ?_; exact fun a w S hK hE => ⟨m_82, ⟨IntKind.i64.wrap (v_81 + 1), S, hK.wk, hE.sel [1, 2, 3, 4, 5, 6, 7, 8, 9, 10], hO1_82 _ (Option.some.inj hG).symm⟩, Nat.lt_succ_self _⟩
        ·refine sb 9 (bf h_83) ?_; refine cf ?_; refine kX ?_; refine tX ?_; refine tX ?_; have he_ := hO2_82 _ (Option.some.inj hG).symm; subst he_; replace hG := hG_82; refine hH ?_; refine tN ?_; exact fun a w S hK hE => ⟨S, hK.wk, hE.sel [0, 1, 2, 3, 4, 5, 6, 7, 8, 9], Option.some.inj hG⟩
      ·rintro a w hJ; refine hJ.go fun ho_ => ?_
       clear hJ; subst ho_; replace hG := hG_92; refine sq ?_; refine rg ?_; refine ra [] f0 [(4, I (-1))] ?_; refine tN ?_; refine kR ?_; refine ri [] (I (-1)) ?_; exact fun a w S hK hE => ⟨(-1), rfl, ⟨S, hE.sel [0, 1, 2, 3, 4, 5, 6, 7, 8, 9]⟩, Option.some.inj hG⟩
     ·rintro e w ⟨v_62, hJ⟩; refine hJ.go fun ho_ => ?_
      clear hJ; subst ho_; refine ra [] f0 [(13, I v_62)] ?_; refine tN ?_; refine sq ?_; refine sq ?_; refine rg ?_; refine ra [] f0 [(82, B (decide (v_62 < 0)))] ?_; refine tN ?_; rcases ifB_cases hG with ⟨h_94, hG⟩ | ⟨h_94, hG⟩
      ·refine sb 82 (bt h_94) ?_; refine ct ?_; refine sq ?_; refine rg ?_; refine rn 1 [] f0 [(83, .agg #[I 0, I 0, U 0, I 0, I 0, .slice none 0 0, I 0, I 0, U 0, I 0, I 0, I 0, U 0, I 0, I 0, .slice none 0 0])] ?_; refine l1 ?_; refine sr 4 g_6 [(0, I 0), (1, I 0), (2, U 0), (3, I 0), (4, I 0), (5, .slice none 0 0), (6, I 0), (7, I 0), (8, U 0), (9, I 0), (10, I 0), (11, I 0), (12, U 0), (13, I 0), (14, I 0), (15, .slice none 0 0)] ?_; refine ra [] f0 [(11, I 4)] ?_; refine tN ?_; refine kR ?_; refine tR ?_; obtain rfl := Option.some.inj hG; exact rtn [(4, 0, 16)] (⟨(⟨0, 0, 0, (⟨0, 0⟩ : KSig)⟩ : KHead), none, 0, ([] : List Int), (⟨(⟨0, 0, 0, (⟨0, 0⟩ : KSig)⟩ : KHead), 0, (⟨0, (⟨0, 0⟩ : KInterval)⟩ : KEntry), none, 0, ([] : List Int)⟩ : KReceiptL)⟩ : KHopL) rfl ⟨((Fd.two ((gn : Fd _ (RowC none 0 c_u64 tr ([] : List Int)))) ((gn : Fd _ (RowC none 0 c_u64 tr ([] : List Int))))).m fun _ _ h => ⟨h.1, ⟨h.2⟩⟩), trivial⟩
      ·refine sb 82 (bf h_94) ?_; refine cf ?_; refine kS ?_; refine tN ?_; refine sq ?_; replace hG := bind_some hG; obtain ⟨v_95o, hy_95, hG⟩ := hG; replace hG := bind_some hG; obtain ⟨⟨v_96o, v_97⟩, hy_96, hG⟩ := hG; refine hb [0, 1, 2, 3, 4, 5, 6, 7, 8, 9] ?_; refine ht [0, 1, 2, 3, 4, 5, 6, 7, 8, 9] [0, 1, 2, 4, 5] [(0, 2, 9, 0), (1, 1, 7, 1), (1, 1, 8, 1)] f0 [(85, .agg #[I p_0.ID, .slice p_0.Entries_A p_0.Entries.length p_0.Entries_c]), (87, I p_2.Size), (90, I p_1.Size)] ?_; refine ho [3] ⟨?_, trivial⟩; refine h1 ?_; refine cn 88 (z_cross_values F p_0 p_2.Size _ hy_95) hT (fun _ => (mr tr_mv m0)) ⟨(((gd' (RowC p_0.Entries_A p_0.Entries_c KEntry.cells tr p_0.Entries) 2)).m fun _ _ h => ⟨h⟩), trivial⟩ ?_; rintro ⟨v_95_A, v_95_c, v_95⟩ hq_95; obtain rfl : v_95 = v_95o := hq_95.symm; refine hk [1, 2, 3, 4, 5, 6, 7, 8, 9, 10] ?_; refine ho [6] ⟨?_, trivial⟩; refine h1 ?_; refine cn 91 (z_tree_Extend F v_95_A v_95_c v_95 p_1.Size _ hy_96) hT (fun _ => (mr tr_mv m0)) ⟨gi 0, trivial⟩ ?_; rintro ⟨v_96_A, v_96_c, v_96⟩ hq_96; obtain rfl : v_96 = v_96o := hq_96.symm; refine hk [2, 3, 4, 5, 6, 7, 8, 9, 10, 11] ?_; refine ht [2, 3, 4, 5, 6, 7, 8, 9, 10, 11] [7, 8, 9, 10, 11] [] f0 [(14, .slice v_96_A v_96.length v_96_c), (15, I v_97)] ?_; refine he ?_; refine tN ?_; refine sq ?_; refine sq ?_; refine rg ?_; refine ra [] f0 [(95, B (!(v_97 == 0)))] ?_; refine tN ?_; rcases ifB_cases hG with ⟨h_98, hG⟩ | ⟨h_98, hG⟩
       ·refine sb 95 (nt h_98) ?_; refine cf ?_; refine kS ?_; refine tN ?_; refine sq ?_; replace hG := bind_some hG; obtain ⟨⟨v_99o, v_100⟩, hy_99, hG⟩ := hG; refine rg ?_; refine rn 3 [(0, 2, 8, 0), (0, 5, 7, 0)] f0 [(99, .agg #[I p_3.ID, .slice p_3.Entries_A p_3.Entries.length p_3.Entries_c]), (100, .agg #[I p_4.Office, I p_4.Size, U p_4.Root, I p_4.Sig.C, I p_4.Sig.S]), (101, I v_62)] ?_; refine l1 ?_; refine cn 102 (z_office_Prove F p_3 p_4 v_62 _ hy_99) hT (fun _ => (mc KReceiptL.mv m0)) ⟨(((gd' (RowC p_3.Entries_A p_3.Entries_c KEntry.cells tr p_3.Entries) 5)).m fun _ _ h => ⟨h⟩), trivial⟩ ?_; rintro v_99 hq_99; obtain rfl : v_99.p = v_99o := hq_99.symm; refine rn 3 [] f0 [(103, .agg #[I v_99.Head.Office, I v_99.Head.Size, U v_99.Head.Root, I v_99.Head.Sig.C, I v_99.Head.Sig.S, I v_99.Index, U v_99.Entry.Doc, I v_99.Entry.Stamp.Lo, I v_99.Entry.Stamp.Hi, .slice v_99.Path_A v_99.Path.length v_99.Path_c]), (104, I v_100)] ?_; refine l1 ?_; refine nw 16 vp [I 0, I 0, U 0, I 0, I 0, I 0, U 0, I 0, I 0, .slice none 0 0] 38 fun g_101 => ?_
        refine l1 ?_; refine sr 0 g_101 [(0, I v_99.Head.Office), (1, I v_99.Head.Size), (2, U v_99.Head.Root), (3, I v_99.Head.Sig.C), (4, I v_99.Head.Sig.S), (5, I v_99.Index), (6, U v_99.Entry.Doc), (7, I v_99.Entry.Stamp.Lo), (8, I v_99.Entry.Stamp.Hi), (9, .slice v_99.Path_A v_99.Path.length v_99.Path_c)] ?_; refine ra [] f0 [(15, I v_100)] ?_; refine tN ?_; refine sq ?_; refine rg ?_; refine rn 5 [(0, 5, 11, 0), (1, 10, 0, 0)] f0 [(108, .agg #[I p_2.Office, I p_2.Size, U p_2.Root, I p_2.Sig.C, I p_2.Sig.S, .slice v_96_A v_96.length v_96_c, I v_99.Head.Office, I v_99.Head.Size, U v_99.Head.Root, I v_99.Head.Sig.C, I v_99.Head.Sig.S, I v_99.Index, U v_99.Entry.Doc, I v_99.Entry.Stamp.Lo, I v_99.Entry.Stamp.Hi, .slice v_99.Path_A v_99.Path.length v_99.Path_c]), (109, I v_100)] ?_; refine l1 ?_; refine sr 8 g_6 [(0, I p_2.Office), (1, I p_2.Size), (2, U p_2.Root), (3, I p_2.Sig.C), (4, I p_2.Sig.S), (5, .slice v_96_A v_96.length v_96_c), (6, I v_99.Head.Office), (7, I v_99.Head.Size), (8, U v_99.Head.Root), (9, I v_99.Head.Sig.C), (10, I v_99.Head.Sig.S), (11, I v_99.Index), (12, U v_99.Entry.Doc), (13, I v_99.Entry.Stamp.Lo), (14, I v_99.Entry.Stamp.Hi), (15, .slice v_99.Path_A v_99.Path.length v_99.Path_c)] ?_; refine ra [] f0 [(11, I v_100)] ?_; refine tN ?_; refine kR ?_; obtain rfl := Option.some.inj hG; exact rtn [(8, 0, 16)] (⟨p_2, v_96_A, v_96_c, v_96, v_99⟩ : KHopL) rfl ⟨((Fd.two ((gd' (RowC v_96_A v_96_c c_u64 tr v_96) 2)) ((gm (KReceiptL.ok v_99) 1 fun _ _ h => h))).m fun _ _ h => ⟨h.1, h.2⟩), trivial⟩
       ·refine sb 95 (nf h_98) ?_; refine ct ?_; refine sq ?_; refine rg ?_; refine rn 2 [] f0 [(96, .agg #[I 0, I 0, U 0, I 0, I 0, .slice none 0 0, I 0, I 0, U 0, I 0, I 0, I 0, U 0, I 0, I 0, .slice none 0 0]), (97, I v_97)] ?_; refine l1 ?_; refine sr 6 g_6 [(0, I 0), (1, I 0), (2, U 0), (3, I 0), (4, I 0), (5, .slice none 0 0), (6, I 0), (7, I 0), (8, U 0), (9, I 0), (10, I 0), (11, I 0), (12, U 0), (13, I 0), (14, I 0), (15, .slice none 0 0)] ?_; refine ra [] f0 [(11, I v_97)] ?_; refine tN ?_; refine kR ?_; refine tR ?_; obtain rfl := Option.some.inj hG; exact rtn [(6, 0, 16)] (⟨(⟨0, 0, 0, (⟨0, 0⟩ : KSig)⟩ : KHead), none, 0, ([] : List Int), (⟨(⟨0, 0, 0, (⟨0, 0⟩ : KSig)⟩ : KHead), 0, (⟨0, (⟨0, 0⟩ : KInterval)⟩ : KEntry), none, 0, ([] : List Int)⟩ : KReceiptL)⟩ : KHopL) rfl ⟨((Fd.two ((gn : Fd _ (RowC none 0 c_u64 tr ([] : List Int)))) ((gn : Fd _ (RowC none 0 c_u64 tr ([] : List Int))))).m fun _ _ h => ⟨h.1, ⟨h.2⟩⟩), trivial⟩
def G_cross_keyring_right (F : Nat) (p_0 : List Int) : Option (Bool) :=
  Option.bind (ifB (decide (((p_0.length : Nat) : Int) ≤ 16))
      (Option.bind (Option.bind (Option.bind (Option.bind (iter (σ := Int) (ρ := Unit ⊕ Int) (fun (v_15 : Int) => 
                (ifB (decide (v_15 < ((p_0.length : Nat) : Int)))
                  (Option.bind (ixI p_0 v_15) (fun v_18 =>
                  Option.bind (G_cross_keyring_right_1 F v_18) (fun v_21 =>
                  ifB (v_21)
                    (some (.inr (.inr v_15)))
                    (some (.inl (IntKind.i64.wrap (v_15 + 1)))))))
                  (some (.inr (.inl ()))) : Option (Int ⊕ (Unit ⊕ Int)))) F 0) (Sum.elim (fun (_ : Unit) => 
              some (.inl ())) (fun (v_23 : Int) => 
              some (.inr v_23))) : Option (Unit ⊕ Int)) (Sum.elim (fun (_ : Unit) => 
            some (-1)) (fun (v_25 : Int) => 
            some v_25)) : Option (Int)) (fun (v_26 : Int) => 
          some (decide (v_26 ≥ 0))) : Option (Bool)) (fun (v_52 : Bool) => 
        some (!v_52)))
      (some false) : Option (Bool)) (fun (v_105 : Bool) => 
    some v_105)
set_option maxRecDepth 100000 in
set_option maxHeartbeats 16000000 in
theorem z_cross_keyring_right (F : Nat) (p_0_A : Option Addr) (p_0_c : Nat) (p_0 : List Int) (r : Bool) (hG : G_cross_keyring_right F p_0 = some r) :
  Cf Tryd.prog 52 [.slice p_0_A p_0.length p_0_c] [RowC p_0_A p_0_c c_i64 tr p_0] (B r) := by
 unfold G_cross_keyring_right at hG; refine fi Tryd.func52 rfl rfl (mr tr_mv m0) fun S0 w0 hT => ?_
 refine sq ?_; refine rg ?_; refine ra [] f0 [] ?_; refine tN ?_; refine sq ?_; refine rg ?_; refine ra [] f0 [(3, .func (.func 80) #[] #[])] ?_; refine tN ?_; obtain ⟨o_104, hG, hG_104⟩ := bind_some hG; refine jn (fun K E a w => ∃ (v_105 : Bool), Js S0 w0 13 ([(2, B v_105)] ++ K) (se E []) (v_105 = o_104) a w) ?_ ?_
 ·replace hG := ifB_cases hG; rcases hG with ⟨h_1, hG⟩ | ⟨h_1, hG⟩
  ·replace hG := bind_some hG; obtain ⟨v_52o, hy_53, hG⟩ := hG; refine rg ?_; refine rn 4 [] f0 [(7, B (decide (((p_0.length : Nat) : Int) ≤ 16)))] ?_; refine sb 7 (bt h_1) ?_; refine rn 2 [] f0 [(8, .slice p_0_A p_0.length p_0_c), (9, .func (.func 80) #[] #[])] ?_; refine l1 ?_; refine ci 10 (args := [.slice p_0_A p_0.length p_0_c, .func (.func 80) #[] #[]]) (fun E e w => ∃ (v_52 : Bool), Rs S0 w0 (B v_52) (se E [0]) (v_52 = v_52o) e w) Tryd.func81 rfl rfl ?_ ?_
   ·replace hG := hy_53; refine sq ?_; refine rg ?_; refine ra [] f0 [] ?_; refine tN ?_; refine sq ?_; replace hG := bind_some hG; obtain ⟨v_78o, hy_79, hG⟩ := hG; refine rg ?_; refine rn 2 [] f0 [(5, .slice p_0_A p_0.length p_0_c), (6, .func (.func 80) #[] #[])] ?_; refine l1 ?_; refine ci 7 (args := [.slice p_0_A p_0.length p_0_c, .func (.func 80) #[] #[]]) (fun E e w => ∃ (v_78 : Int), Rs S0 w0 (I v_78) (se E [0]) (v_78 = v_78o) e w) Tryd.func94 rfl rfl ?_ ?_
    ·replace hG := hy_79; refine sq ?_; refine rg ?_; refine ra [] f0 [] ?_; refine tN ?_; obtain ⟨o_102, hG, hG_102⟩ := bind_some hG; refine jn (fun K E a w => Js S0 w0 19 (K) (se E [0]) (.inl () = o_102) a w) ?_ ?_
     ·refine sq ?_; refine rg ?_; refine ra [] f0 [(7, I ((p_0.length : Nat) : Int)), (8, I 0)] ?_; refine tN ?_; refine bk ?_; obtain ⟨e_94, hL, hG_94⟩ := bind_some hG; clear hG; obtain ⟨stp_94, hs_94, hL⟩ := iter_gen hL; refine lp (fun K E n_ a w => ∃ (v_93 : Int), Js S0 w0 19 ([(8, I v_93)] ++ K) (se E [0]) (iter stp_94 n_ v_93 = some e_94) a w) F ?_ ?_
      ·exact fun a w S hK hE => ⟨0, S, hK.wk, hE.sel [0], hL⟩
      ·clear hL; rintro n_94 a w ⟨v_93, hJ⟩; refine hJ.go fun hL => ?_
       clear hJ; obtain ⟨m_94, o_94, rfl, hG, hO1_94, hO2_94⟩ := iter_step hL; clear hL; rw [hs_94] at hG; refine sq ?_; refine rg ?_; refine ra [] f0 [(9, B (decide (v_93 < ((p_0.length : Nat) : Int))))] ?_; refine tN ?_; refine sq ?_; rcases ifB_cases hG with ⟨h_95, hG⟩ | ⟨h_95, hG⟩
       ·refine sb 9 (bt h_95) ?_; refine ct ?_; refine kS ?_; refine tN ?_; refine sq ?_; refine bk ?_; refine sq ?_; refine rg ?_; refine ra [] f0 [(5, I v_93)] ?_; refine tN ?_; refine sq ?_; replace hG := bind_some hG; obtain ⟨v_96, hy_96, hG⟩ := hG; replace hG := bind_some hG; obtain ⟨v_99, hy_99, hG⟩ := hG; refine rg ?_; refine fx inf102 (gd' (RowC p_0_A p_0_c c_i64 tr p_0) 0) hy_96 fun b_97 o_98 hi_96 => ?_
        refine rn 5 [(3, 0, 0, 0), (0, 1, 0, 0)] (fc (hi_96 .i64) f0) [(11, .func (.func 80) #[] #[]), (15, I v_96)] ?_; refine l1 ?_; refine cl 16 (z_cross_keyring_right_1 F v_96 _ hy_99) hT trivial ?_; refine nl ?_; refine tN ?_; rcases ifB_cases hG with ⟨h_100, hG⟩ | ⟨h_100, hG⟩
        ·refine sb 16 (bt h_100) ?_; refine ct ?_; refine sq ?_; refine rg ?_; refine ra [] f0 [(4, I v_93)] ?_; refine tN ?_; refine kR ?_; refine hR ?_; refine tR ?_; refine tR ?_; have he_ := hO2_94 _ (Option.some.inj hG).symm; subst he_; replace hG := hG_94; refine hR ?_; refine tR ?_; obtain rfl := Option.some.inj hG; replace hG := hG_102; refine ri [] (I v_93) ?_; exact fun a w S hK hE => ⟨v_93, rfl, ⟨S, hE.sel [1]⟩, Option.some.inj hG⟩
        ·refine sb 16 (bf h_100) ?_; refine cf ?_; refine kS ?_; refine hN ?_; refine tN ?_; refine rg ?_; refine ra [] f0 [(8, I (IntKind.i64.wrap (v_93 + 1)))] ?_; refine tN ?_; exact fun a w S hK hE => ⟨m_94, ⟨IntKind.i64.wrap (v_93 + 1), S, hK.wk, hE.sel [1], hO1_94 _ (Option.some.inj hG).symm⟩, Nat.lt_succ_self _⟩
       ·refine sb 9 (bf h_95) ?_; refine cf ?_; refine kX ?_; refine tX ?_; refine tX ?_; have he_ := hO2_94 _ (Option.some.inj hG).symm; subst he_; replace hG := hG_94; refine hH ?_; refine tN ?_; exact fun a w S hK hE => ⟨S, hK.wk, hE.sel [0], Option.some.inj hG⟩
     ·rintro a w hJ; refine hJ.go fun ho_ => ?_
      clear hJ; subst ho_; replace hG := hG_102; refine sq ?_; refine rg ?_; refine ra [] f0 [(4, I (-1))] ?_; refine tN ?_; refine kR ?_; refine ri [] (I (-1)) ?_; exact fun a w S hK hE => ⟨(-1), rfl, ⟨S, hE.sel [0]⟩, Option.some.inj hG⟩
    ·rintro e w ⟨v_78, hJ⟩; refine hJ.go fun ho_ => ?_
     clear hJ; subst ho_; refine ra [] f0 [(4, B (decide (v_78 ≥ 0)))] ?_; refine tN ?_; refine kR ?_; refine ri [] (B (decide (v_78 ≥ 0))) ?_; exact fun a w S hK hE => ⟨decide (v_78 ≥ 0), rfl, ⟨S, hE.sel [0]⟩, Option.some.inj hG⟩
   ·rintro e w ⟨v_52, hJ⟩; refine hJ.go fun ho_ => ?_
    clear hJ; subst ho_; refine ra [] f0 [(2, B (!v_52))] ?_; refine tN ?_; exact fun a w S hK hE => ⟨!v_52, S, hK.wk, hE.sel [], Option.some.inj hG⟩
  ·refine rg ?_; refine rn 4 [] f0 [(7, B (decide (((p_0.length : Nat) : Int) ≤ 16)))] ?_; refine sb 7 (bf h_1) ?_; refine ra [] f0 [(2, B false)] ?_; refine tN ?_; exact fun a w S hK hE => ⟨false, S, hK.wk, hE.sel [], Option.some.inj hG⟩
 ·rintro a w ⟨v_105, hJ⟩; refine hJ.go fun ho_ => ?_
  clear hJ; subst ho_; replace hG := hG_104; refine kR ?_; obtain rfl := Option.some.inj hG; exact rt []
end Go.Proofs.YtiijddjfiojfaaaDoor
namespace Go.Proofs.YtiijddjfiojfaaaDoor
open Go.RowKit Go.Maps
def G_cross_Check (F : Nat) (p_0 : List Int) (p_1 : KHead) (p_2 : KHop) : Option (Bool × Int) :=
  Option.bind (G_office_Check F 4 p_2.By) (un2 fun v_4 v_5 =>
  Option.bind (ifB ((v_5 == 0))
      (Option.bind (G_cross_keyring_right F p_0) (fun v_7 =>
      ifB (v_7)
        (Option.bind (G_cross_formed F p_1) (fun v_9 =>
        ifB (v_9)
          (Option.bind (G_cross_formed F p_2.Of) (fun v_11 =>
          ifB (v_11)
            (some (decide (((p_2.Grow.length : Nat) : Int) > 20)))
            (some true)))
          (some true)))
        (some true)))
      (some true) : Option (Bool)) (fun (v_14 : Bool) => 
    ifB (v_14)
      (some (false, 1))
      (Option.bind (Option.bind (Option.bind (Option.bind (G_cross_keyring_signed F p_0 p_1) (fun v_18 =>
            ifB (v_18)
              (Option.bind (G_cross_keyring_signed F p_0 p_2.Of) (fun v_20 =>
              ifB (v_20)
                (Option.bind (G_cross_keyring_signed F p_0 p_2.By.Head) (fun v_22 =>
                some v_22))
                (some false)))
              (some false)) : Option (Bool)) (fun (v_24 : Bool) => 
            some v_24) : Option (Bool)) (fun (v_25 : Bool) => 
          ifB (v_25)
            (Option.bind (Option.bind (ifB ((p_2.Of.Office == p_1.Office))
                  (some (!(p_2.By.Head.Office == p_1.Office)))
                  (some false) : Option (Bool)) (fun (v_38 : Bool) => 
                some v_38) : Option (Bool)) (fun (v_39 : Bool) => 
              ifB (v_39)
                (Option.bind (Option.bind (G_tree_Extended F p_1.Root p_2.Of.Root p_1.Size p_2.Of.Size p_2.Grow) (fun v_46 =>
                  some v_46) : Option (Bool)) (fun (v_47 : Bool) => 
                  ifB (v_47)
                    (Option.bind (Option.bind (G_cross_Digest F p_2.Of) (fun v_52 =>
                      some (p_2.By.Entry.Doc == v_52)) : Option (Bool)) (fun (v_53 : Bool) => 
                      ifB (v_53)
                        (Option.bind (Option.bind (ixI p_0 (IntKind.i64.wrap (p_2.By.Head.Office - 1))) (fun v_58 =>
                          Option.bind (G_office_Check F v_58 p_2.By) (un2 fun v_61 v_62 =>
                          some v_61)) : Option (Bool)) (fun (v_63 : Bool) => 
                          ifB (v_63)
                            (some true)
                            (some false)))
                        (some false)))
                    (some false)))
                (some false)))
            (some false)) : Option (Bool)) (fun (v_71 : Bool) => 
        some (v_71, 0)))))
set_option maxRecDepth 100000 in
set_option maxHeartbeats 16000000 in
theorem z_cross_Check (F : Nat) (p_0_A : Option Addr) (p_0_c : Nat) (p_0 : List Int) (p_1 : KHead) (p_2 : KHopL) (r : Bool × Int) (hG : G_cross_Check F p_0 p_1 p_2.p = some r) :
  Cf Tryd.prog 23 [.slice p_0_A p_0.length p_0_c, .agg #[I p_1.Office, I p_1.Size, U p_1.Root, I p_1.Sig.C, I p_1.Sig.S], .agg #[I p_2.Of.Office, I p_2.Of.Size, U p_2.Of.Root, I p_2.Of.Sig.C, I p_2.Of.Sig.S, .slice p_2.Grow_A p_2.Grow.length p_2.Grow_c, I p_2.By.Head.Office, I p_2.By.Head.Size, U p_2.By.Head.Root, I p_2.By.Head.Sig.C, I p_2.By.Head.Sig.S, I p_2.By.Index, U p_2.By.Entry.Doc, I p_2.By.Entry.Stamp.Lo, I p_2.By.Entry.Stamp.Hi, .slice p_2.By.Path_A p_2.By.Path.length p_2.By.Path_c]] [RowC p_0_A p_0_c c_i64 tr p_0, KHopL.ok p_2] (.tuple #[B r.1, I r.2]) := by
 unfold G_cross_Check at hG; refine fi Tryd.func23 rfl rfl (mr tr_mv (mc KHopL.mv m0)) fun S0 w0 hT => ?_
 refine sq ?_; refine rg ?_; refine l1 ?_; refine nw 4 vp [I p_1.Office, I p_1.Size, U p_1.Root, I p_1.Sig.C, I p_1.Sig.S] 29 fun g_1 => ?_
 refine l1 ?_; refine nw 5 vp [I p_2.Of.Office, I p_2.Of.Size, U p_2.Of.Root, I p_2.Of.Sig.C, I p_2.Of.Sig.S, .slice p_2.Grow_A p_2.Grow.length p_2.Grow_c, I p_2.By.Head.Office, I p_2.By.Head.Size, U p_2.By.Head.Root, I p_2.By.Head.Sig.C, I p_2.By.Head.Sig.S, I p_2.By.Index, U p_2.By.Entry.Doc, I p_2.By.Entry.Stamp.Lo, I p_2.By.Entry.Stamp.Hi, .slice p_2.By.Path_A p_2.By.Path.length p_2.By.Path_c] 40 fun g_2 => ?_
 refine ra [] f0 [] ?_; refine tN ?_; refine sq ?_; refine rg ?_; refine rn 1 [] f0 [(11, .slice p_0_A p_0.length p_0_c)] ?_; refine l1 ?_; refine nw 8 vp [.slice none 0 0] 102 fun g_3 => ?_
 refine l1 ?_; refine sr 0 g_3 [(0, .slice p_0_A p_0.length p_0_c)] ?_; refine nl ?_; refine tN ?_; refine sq ?_; refine sq ?_; replace hG := bind_some hG; obtain ⟨⟨v_4, v_5⟩, hy_4, hG⟩ := hG; refine rg ?_; refine rn 2 [(1, 10, 1, 6)] f0 [(14, .agg #[I p_2.By.Head.Office, I p_2.By.Head.Size, U p_2.By.Head.Root, I p_2.By.Head.Sig.C, I p_2.By.Head.Sig.S, I p_2.By.Index, U p_2.By.Entry.Doc, I p_2.By.Entry.Stamp.Lo, I p_2.By.Entry.Stamp.Hi, .slice p_2.By.Path_A p_2.By.Path.length p_2.By.Path_c])] ?_; refine l1 ?_; refine cl 15 (z_office_Check F 4 p_2.By _ hy_4) hT ⟨(gm (KHopL.ok p_2) 4 fun _ _ h => h.b_By).a, trivial⟩ ?_; refine ra [] f0 [(10, I v_5)] ?_; refine tN ?_; obtain ⟨o_13, hG, hG_13⟩ := bind_some hG; refine jn (fun K E a w => ∃ (v_14 : Bool), Js S0 w0 54 ([(41, B v_14)] ++ K) ([.dat (RowC p_2.Grow_A p_2.Grow_c c_u64 tr p_2.Grow), .dat (RowC p_2.By.Path_A p_2.By.Path_c c_u64 tr p_2.By.Path)] ++ se E [0, 1, 2, 3]) (v_14 = o_13) a w) ?_ ?_
 ·replace hG := ifB_cases hG; rcases hG with ⟨h_6, hG⟩ | ⟨h_6, hG⟩
  ·replace hG := bind_some hG; obtain ⟨v_7, hy_7, hG⟩ := hG; replace hG := ifB_cases hG; rcases hG with ⟨h_8, hG⟩ | ⟨h_8, hG⟩
   ·replace hG := bind_some hG; obtain ⟨v_9, hy_9, hG⟩ := hG; replace hG := ifB_cases hG; rcases hG with ⟨h_10, hG⟩ | ⟨h_10, hG⟩
    ·replace hG := bind_some hG; obtain ⟨v_11, hy_11, hG⟩ := hG; replace hG := ifB_cases hG; rcases hG with ⟨h_12, hG⟩ | ⟨h_12, hG⟩
     ·refine rg ?_; refine rn 3 [] f0 [(20, B (!(v_5 == 0)))] ?_; refine sb 20 (nt h_6) ?_; refine rn 1 [(0, 1, 0, 0)] f0 [(21, .slice p_0_A p_0.length p_0_c)] ?_; refine l1 ?_; refine cl 22 (z_cross_keyring_right F p_0_A p_0_c p_0 _ hy_7) hT ⟨ga 3, trivial⟩ ?_; refine rn 3 [] f0 [(25, B (!v_7))] ?_; refine sb 25 (nt h_8) ?_; refine rn 1 [(0, 5, 2, 0)] f0 [(26, .agg #[I p_1.Office, I p_1.Size, U p_1.Root, I p_1.Sig.C, I p_1.Sig.S])] ?_; refine l1 ?_; refine cl 27 (z_cross_formed F p_1 _ hy_9) hT trivial ?_; refine rn 3 [] f0 [(30, B (!v_9))] ?_; refine sb 30 (nt h_10) ?_; refine rn 2 [(1, 5, 1, 0)] f0 [(32, .agg #[I p_2.Of.Office, I p_2.Of.Size, U p_2.Of.Root, I p_2.Of.Sig.C, I p_2.Of.Sig.S])] ?_; refine l1 ?_; refine cl 33 (z_cross_formed F p_2.Of _ hy_11) hT trivial ?_; refine rn 3 [] f0 [(36, B (!v_11))] ?_; refine sb 36 (nt h_12) ?_; refine ra [(1, 1, 1, 5)] f0 [(41, B (decide (((p_2.Grow.length : Nat) : Int) > 20)))] ?_; refine tN ?_; refine fm (RowC p_2.Grow_A p_2.Grow_c c_u64 tr p_2.Grow) (gm (KHopL.ok p_2) 4 fun _ _ h => h.f_Grow) ?_; refine fm (RowC p_2.By.Path_A p_2.By.Path_c c_u64 tr p_2.By.Path) (gm (KHopL.ok p_2) 5 fun _ _ h => h.b_By.f_Path) ?_; exact fun a w S hK hE => ⟨decide (((p_2.Grow.length : Nat) : Int) > 20), S, hK.wk, hE.sel [1, 0, 2, 3, 4, 5], Option.some.inj hG⟩
     ·refine rg ?_; refine rn 3 [] f0 [(20, B (!(v_5 == 0)))] ?_; refine sb 20 (nt h_6) ?_; refine rn 1 [(0, 1, 0, 0)] f0 [(21, .slice p_0_A p_0.length p_0_c)] ?_; refine l1 ?_; refine cl 22 (z_cross_keyring_right F p_0_A p_0_c p_0 _ hy_7) hT ⟨ga 3, trivial⟩ ?_; refine rn 3 [] f0 [(25, B (!v_7))] ?_; refine sb 25 (nt h_8) ?_; refine rn 1 [(0, 5, 2, 0)] f0 [(26, .agg #[I p_1.Office, I p_1.Size, U p_1.Root, I p_1.Sig.C, I p_1.Sig.S])] ?_; refine l1 ?_; refine cl 27 (z_cross_formed F p_1 _ hy_9) hT trivial ?_; refine rn 3 [] f0 [(30, B (!v_9))] ?_; refine sb 30 (nt h_10) ?_; refine rn 2 [(1, 5, 1, 0)] f0 [(32, .agg #[I p_2.Of.Office, I p_2.Of.Size, U p_2.Of.Root, I p_2.Of.Sig.C, I p_2.Of.Sig.S])] ?_; refine l1 ?_; refine cl 33 (z_cross_formed F p_2.Of _ hy_11) hT trivial ?_; refine rn 3 [] f0 [(36, B (!v_11))] ?_; refine sb 36 (nf h_12) ?_; refine ra [] f0 [(41, B true)] ?_; refine tN ?_; refine fm (RowC p_2.Grow_A p_2.Grow_c c_u64 tr p_2.Grow) (gm (KHopL.ok p_2) 4 fun _ _ h => h.f_Grow) ?_; refine fm (RowC p_2.By.Path_A p_2.By.Path_c c_u64 tr p_2.By.Path) (gm (KHopL.ok p_2) 5 fun _ _ h => h.b_By.f_Path) ?_; exact fun a w S hK hE => ⟨true, S, hK.wk, hE.sel [1, 0, 2, 3, 4, 5], Option.some.inj hG⟩
    ·refine rg ?_; refine rn 3 [] f0 [(20, B (!(v_5 == 0)))] ?_; refine sb 20 (nt h_6) ?_; refine rn 1 [(0, 1, 0, 0)] f0 [(21, .slice p_0_A p_0.length p_0_c)] ?_; refine l1 ?_; refine cl 22 (z_cross_keyring_right F p_0_A p_0_c p_0 _ hy_7) hT ⟨ga 3, trivial⟩ ?_; refine rn 3 [] f0 [(25, B (!v_7))] ?_; refine sb 25 (nt h_8) ?_; refine rn 1 [(0, 5, 2, 0)] f0 [(26, .agg #[I p_1.Office, I p_1.Size, U p_1.Root, I p_1.Sig.C, I p_1.Sig.S])] ?_; refine l1 ?_; refine cl 27 (z_cross_formed F p_1 _ hy_9) hT trivial ?_; refine rn 3 [] f0 [(30, B (!v_9))] ?_; refine sb 30 (nf h_10) ?_; refine ra [] f0 [(41, B true)] ?_; refine tN ?_; refine fm (RowC p_2.Grow_A p_2.Grow_c c_u64 tr p_2.Grow) (gm (KHopL.ok p_2) 4 fun _ _ h => h.f_Grow) ?_; refine fm (RowC p_2.By.Path_A p_2.By.Path_c c_u64 tr p_2.By.Path) (gm (KHopL.ok p_2) 5 fun _ _ h => h.b_By.f_Path) ?_; exact fun a w S hK hE => ⟨true, S, hK.wk, hE.sel [1, 0, 2, 3, 4, 5], Option.some.inj hG⟩
   ·refine rg ?_; refine rn 3 [] f0 [(20, B (!(v_5 == 0)))] ?_; refine sb 20 (nt h_6) ?_; refine rn 1 [(0, 1, 0, 0)] f0 [(21, .slice p_0_A p_0.length p_0_c)] ?_; refine l1 ?_; refine cl 22 (z_cross_keyring_right F p_0_A p_0_c p_0 _ hy_7) hT ⟨ga 3, trivial⟩ ?_; refine rn 3 [] f0 [(25, B (!v_7))] ?_; refine sb 25 (nf h_8) ?_; refine ra [] f0 [(41, B true)] ?_; refine tN ?_; refine fm (RowC p_2.Grow_A p_2.Grow_c c_u64 tr p_2.Grow) (gm (KHopL.ok p_2) 4 fun _ _ h => h.f_Grow) ?_; refine fm (RowC p_2.By.Path_A p_2.By.Path_c c_u64 tr p_2.By.Path) (gm (KHopL.ok p_2) 5 fun _ _ h => h.b_By.f_Path) ?_; exact fun a w S hK hE => ⟨true, S, hK.wk, hE.sel [1, 0, 2, 3, 4, 5], Option.some.inj hG⟩
  ·refine rg ?_; refine rn 3 [] f0 [(20, B (!(v_5 == 0)))] ?_; refine sb 20 (nf h_6) ?_; refine ra [] f0 [(41, B true)] ?_; refine tN ?_; refine fm (RowC p_2.Grow_A p_2.Grow_c c_u64 tr p_2.Grow) (gm (KHopL.ok p_2) 4 fun _ _ h => h.f_Grow) ?_; refine fm (RowC p_2.By.Path_A p_2.By.Path_c c_u64 tr p_2.By.Path) (gm (KHopL.ok p_2) 5 fun _ _ h => h.b_By.f_Path) ?_; exact fun a w S hK hE => ⟨true, S, hK.wk, hE.sel [1, 0, 2, 3, 4, 5], Option.some.inj hG⟩
 ·rintro a w ⟨v_14, hJ⟩; refine hJ.go fun ho_ => ?_
  clear hJ; subst ho_; replace hG := hG_13; rcases ifB_cases hG with ⟨h_15, hG⟩ | ⟨h_15, hG⟩
  ·refine sb 41 (bt h_15) ?_; refine ct ?_; refine sq ?_; refine rg ?_; refine ra [] f0 [(6, B false), (7, I 1)] ?_; refine tN ?_; refine kR ?_; refine tR ?_; obtain rfl := Option.some.inj hG; exact rt []
  ·refine sb 41 (bf h_15) ?_; refine cf ?_; refine kS ?_; refine tN ?_; refine sq ?_; replace hG := bind_some hG; obtain ⟨v_71o, hy_72, hG⟩ := hG; refine rg ?_; refine rn 10 [] f0 [(43, .agg #[.func (.func 54) #[] #[Pt g_3 0, Pt g_1 0, Pt g_2 0]]), (45, .agg #[.func (.func 56) #[] #[Pt g_2 0, Pt g_1 0]]), (47, .agg #[.func (.func 57) #[] #[Pt g_1 0, Pt g_2 0]]), (49, .agg #[.func (.func 58) #[] #[Pt g_2 0]]), (51, .agg #[.func (.func 59) #[] #[Pt g_3 0, Pt g_2 0]])] ?_; refine l1 ?_; refine nw 52 (vs 5) [.func (.func 54) #[] #[Pt g_3 0, Pt g_1 0, Pt g_2 0], .func (.func 56) #[] #[Pt g_2 0, Pt g_1 0], .func (.func 57) #[] #[Pt g_1 0, Pt g_2 0], .func (.func 58) #[] #[Pt g_2 0], .func (.func 59) #[] #[Pt g_3 0, Pt g_2 0]] 106 fun g_16 => ?_
   refine l1 ?_; refine ci 53 (args := [Sb g_16 5 5]) (fun E e w => ∃ (v_71 : Bool), Rs S0 w0 (B v_71) (se E [0, 1, 2, 3, 4, 5, 6]) (v_71 = v_71o) e w) Tryd.func53 rfl rfl ?_ ?_
   ·replace hG := hy_72; refine sq ?_; refine rg ?_; refine ra [] f0 [] ?_; refine tN ?_; refine sq ?_; refine sq ?_; refine rg ?_; refine ra [] f0 [(5, Sb g_16 5 5), (6, I 5), (7, I 0)] ?_; refine tN ?_; refine bk ?_; refine ul ?_; refine ur ?_; refine sq ?_; refine rg ?_; refine ra [] f0 [(8, B true)] ?_; refine tN ?_; refine sq ?_; refine ct ?_; refine kS ?_; refine tN ?_; refine sq ?_; refine bk ?_; refine sq ?_; refine rg ?_; refine rn 2 [(1, 1, 0, 0)] f0 [(10, .agg #[.func (.func 54) #[] #[Pt g_3 0, Pt g_1 0, Pt g_2 0]])] ?_; refine l1 ?_; refine nw 4 vp [.nilFunc] 106 fun g_73 => ?_
    refine l1 ?_; refine sr 0 g_73 [(0, .func (.func 54) #[] #[Pt g_3 0, Pt g_1 0, Pt g_2 0])] ?_; refine nl ?_; refine tN ?_; refine sq ?_; replace hG := bind_some hG; obtain ⟨v_81o, hy_82, hG⟩ := hG; refine rg ?_; refine rn 2 [(1, 1, 0, 0)] f0 [(12, .func (.func 54) #[] #[Pt g_3 0, Pt g_1 0, Pt g_2 0])] ?_; refine l1 ?_; refine ci 13 (args := [Pt g_3 0, Pt g_1 0, Pt g_2 0]) (fun E e w => ∃ (v_81 : Bool), Rs S0 w0 (B v_81) (se E [0, 1, 2, 3, 4, 5, 6, 7]) (v_81 = v_81o) e w) Tryd.func54 rfl rfl ?_ ?_
    ·replace hG := hy_82; refine sq ?_; refine rg ?_; refine ra [] f0 [] ?_; refine tN ?_; obtain ⟨o_88, hG, hG_88⟩ := bind_some hG; refine jn (fun K E a w => ∃ (v_89 : Bool), Js S0 w0 20 ([(3, B v_89)] ++ K) (se E [0, 1, 2, 3, 4, 5, 6, 7]) (v_89 = o_88) a w) ?_ ?_
     ·replace hG := bind_some hG; obtain ⟨v_83, hy_83, hG⟩ := hG; replace hG := ifB_cases hG; rcases hG with ⟨h_84, hG⟩ | ⟨h_84, hG⟩
      ·replace hG := bind_some hG; obtain ⟨v_85, hy_85, hG⟩ := hG; replace hG := ifB_cases hG; rcases hG with ⟨h_86, hG⟩ | ⟨h_86, hG⟩
       ·replace hG := bind_some hG; obtain ⟨v_87, hy_87, hG⟩ := hG; refine rg ?_; refine rn 2 [(0, 1, 4, 0), (0, 5, 6, 0)] f0 [(4, .slice p_0_A p_0.length p_0_c), (5, .agg #[I p_1.Office, I p_1.Size, U p_1.Root, I p_1.Sig.C, I p_1.Sig.S])] ?_; refine l1 ?_; refine cl 6 (z_cross_keyring_signed F p_0_A p_0_c p_0 p_1 _ hy_83) hT ⟨ga 7, trivial⟩ ?_; refine rn 1 [] f0 [(7, B v_83)] ?_; refine sb 7 (bt h_84) ?_; refine rn 3 [(0, 1, 4, 0), (1, 5, 5, 0)] f0 [(8, .slice p_0_A p_0.length p_0_c), (10, .agg #[I p_2.Of.Office, I p_2.Of.Size, U p_2.Of.Root, I p_2.Of.Sig.C, I p_2.Of.Sig.S])] ?_; refine l1 ?_; refine cl 11 (z_cross_keyring_signed F p_0_A p_0_c p_0 p_2.Of _ hy_85) hT ⟨ga 7, trivial⟩ ?_; refine rn 2 [] f0 [(13, B v_85)] ?_; refine sb 13 (bt h_86) ?_; refine rn 4 [(0, 1, 4, 0), (2, 5, 5, 6)] f0 [(14, .slice p_0_A p_0.length p_0_c), (17, .agg #[I p_2.By.Head.Office, I p_2.By.Head.Size, U p_2.By.Head.Root, I p_2.By.Head.Sig.C, I p_2.By.Head.Sig.S])] ?_; refine l1 ?_; refine cl 18 (z_cross_keyring_signed F p_0_A p_0_c p_0 p_2.By.Head _ hy_87) hT ⟨ga 7, trivial⟩ ?_; refine ra [] f0 [(3, B v_87)] ?_; refine tN ?_; exact fun a w S hK hE => ⟨v_87, S, hK.wk, hE.sel [0, 1, 2, 3, 4, 5, 6, 7], Option.some.inj hG⟩
       ·refine rg ?_; refine rn 2 [(0, 1, 4, 0), (0, 5, 6, 0)] f0 [(4, .slice p_0_A p_0.length p_0_c), (5, .agg #[I p_1.Office, I p_1.Size, U p_1.Root, I p_1.Sig.C, I p_1.Sig.S])] ?_; refine l1 ?_; refine cl 6 (z_cross_keyring_signed F p_0_A p_0_c p_0 p_1 _ hy_83) hT ⟨ga 7, trivial⟩ ?_; refine rn 1 [] f0 [(7, B v_83)] ?_; refine sb 7 (bt h_84) ?_; refine rn 3 [(0, 1, 4, 0), (1, 5, 5, 0)] f0 [(8, .slice p_0_A p_0.length p_0_c), (10, .agg #[I p_2.Of.Office, I p_2.Of.Size, U p_2.Of.Root, I p_2.Of.Sig.C, I p_2.Of.Sig.S])] ?_; refine l1 ?_; refine cl 11 (z_cross_keyring_signed F p_0_A p_0_c p_0 p_2.Of _ hy_85) hT ⟨ga 7, trivial⟩ ?_; refine rn 2 [] f0 [(13, B v_85)] ?_; refine sb 13 (bf h_86) ?_; refine ra [] f0 [(3, B false)] ?_; refine tN ?_; exact fun a w S hK hE => ⟨false, S, hK.wk, hE.sel [0, 1, 2, 3, 4, 5, 6, 7], Option.some.inj hG⟩
      ·refine rg ?_; refine rn 2 [(0, 1, 4, 0), (0, 5, 6, 0)] f0 [(4, .slice p_0_A p_0.length p_0_c), (5, .agg #[I p_1.Office, I p_1.Size, U p_1.Root, I p_1.Sig.C, I p_1.Sig.S])] ?_; refine l1 ?_; refine cl 6 (z_cross_keyring_signed F p_0_A p_0_c p_0 p_1 _ hy_83) hT ⟨ga 7, trivial⟩ ?_; refine rn 1 [] f0 [(7, B v_83)] ?_; refine sb 7 (bf h_84) ?_; refine ra [] f0 [(3, B false)] ?_; refine tN ?_; exact fun a w S hK hE => ⟨false, S, hK.wk, hE.sel [0, 1, 2, 3, 4, 5, 6, 7], Option.some.inj hG⟩
     ·rintro a w ⟨v_89, hJ⟩; refine hJ.go fun ho_ => ?_
      clear hJ; subst ho_; replace hG := hG_88; refine kR ?_; refine ri [] (B v_89) ?_; exact fun a w S hK hE => ⟨v_89, rfl, ⟨S, hE.sel [0, 1, 2, 3, 4, 5, 6, 7]⟩, Option.some.inj hG⟩
    ·rintro e w ⟨v_81, hJ⟩; refine hJ.go fun ho_ => ?_
     clear hJ; subst ho_; refine ra [] f0 [(14, B (!v_81))] ?_; refine tN ?_; rcases ifB_cases hG with ⟨h_90, hG⟩ | ⟨h_90, hG⟩
     ·refine sb 14 (nt h_90) ?_; refine cf ?_; refine kS ?_; refine hN ?_; refine tN ?_; refine rg ?_; refine ra [] f0 [(7, I 1)] ?_; refine tN ?_; refine ur ?_; refine sq ?_; refine rg ?_; refine ra [] f0 [(8, B true)] ?_; refine tN ?_; refine sq ?_; refine ct ?_; refine kS ?_; refine tN ?_; refine sq ?_; refine bk ?_; refine sq ?_; refine rg ?_; refine rn 2 [(1, 1, 1, 1)] f0 [(10, .agg #[.func (.func 56) #[] #[Pt g_2 0, Pt g_1 0]])] ?_; refine l1 ?_; refine nw 4 vp [.nilFunc] 106 fun g_91 => ?_
      refine l1 ?_; refine sr 0 g_91 [(0, .func (.func 56) #[] #[Pt g_2 0, Pt g_1 0])] ?_; refine nl ?_; refine tN ?_; refine sq ?_; replace hG := bind_some hG; obtain ⟨v_95o, hy_96, hG⟩ := hG; refine rg ?_; refine rn 2 [(1, 1, 0, 0)] f0 [(12, .func (.func 56) #[] #[Pt g_2 0, Pt g_1 0])] ?_; refine l1 ?_; refine ci 13 (args := [Pt g_2 0, Pt g_1 0]) (fun E e w => ∃ (v_95 : Bool), Rs S0 w0 (B v_95) (se E [0, 2, 3, 4, 5, 6, 7, 8]) (v_95 = v_95o) e w) Tryd.func56 rfl rfl ?_ ?_
      ·replace hG := hy_96; refine sq ?_; refine rg ?_; refine ra [] f0 [] ?_; refine tN ?_; obtain ⟨o_98, hG, hG_98⟩ := bind_some hG; refine jn (fun K E a w => ∃ (v_99 : Bool), Js S0 w0 18 ([(2, B v_99)] ++ K) (se E [0, 2, 3, 4, 5, 6, 7, 8]) (v_99 = o_98) a w) ?_ ?_
       ·replace hG := ifB_cases hG; rcases hG with ⟨h_97, hG⟩ | ⟨h_97, hG⟩
        ·refine rg ?_; refine rn 7 [(2, 1, 6, 0), (1, 1, 7, 0)] f0 [(9, B (p_2.Of.Office == p_1.Office))] ?_; refine sb 9 (bt h_97) ?_; refine ra [(3, 1, 6, 6), (1, 1, 7, 0)] f0 [(2, B (!(p_2.By.Head.Office == p_1.Office)))] ?_; refine tN ?_; exact fun a w S hK hE => ⟨!(p_2.By.Head.Office == p_1.Office), S, hK.wk, hE.sel [0, 2, 3, 4, 5, 6, 7, 8], Option.some.inj hG⟩
        ·refine rg ?_; refine rn 7 [(2, 1, 6, 0), (1, 1, 7, 0)] f0 [(9, B (p_2.Of.Office == p_1.Office))] ?_; refine sb 9 (bf h_97) ?_; refine ra [] f0 [(2, B false)] ?_; refine tN ?_; exact fun a w S hK hE => ⟨false, S, hK.wk, hE.sel [0, 2, 3, 4, 5, 6, 7, 8], Option.some.inj hG⟩
       ·rintro a w ⟨v_99, hJ⟩; refine hJ.go fun ho_ => ?_
        clear hJ; subst ho_; replace hG := hG_98; refine kR ?_; refine ri [] (B v_99) ?_; exact fun a w S hK hE => ⟨v_99, rfl, ⟨S, hE.sel [0, 1, 2, 3, 4, 5, 6, 7]⟩, Option.some.inj hG⟩
      ·rintro e w ⟨v_95, hJ⟩; refine hJ.go fun ho_ => ?_
       clear hJ; subst ho_; refine ra [] f0 [(14, B (!v_95))] ?_; refine tN ?_; rcases ifB_cases hG with ⟨h_100, hG⟩ | ⟨h_100, hG⟩
       ·refine sb 14 (nt h_100) ?_; refine cf ?_; refine kS ?_; refine hN ?_; refine tN ?_; refine rg ?_; refine ra [] f0 [(7, I 2)] ?_; refine tN ?_; refine ur ?_; refine sq ?_; refine rg ?_; refine ra [] f0 [(8, B true)] ?_; refine tN ?_; refine sq ?_; refine ct ?_; refine kS ?_; refine tN ?_; refine sq ?_; refine bk ?_; refine sq ?_; refine rg ?_; refine rn 2 [(1, 1, 1, 2)] f0 [(10, .agg #[.func (.func 57) #[] #[Pt g_1 0, Pt g_2 0]])] ?_; refine l1 ?_; refine nw 4 vp [.nilFunc] 106 fun g_101 => ?_
        refine l1 ?_; refine sr 0 g_101 [(0, .func (.func 57) #[] #[Pt g_1 0, Pt g_2 0])] ?_; refine nl ?_; refine tN ?_; refine sq ?_; replace hG := bind_some hG; obtain ⟨v_103o, hy_104, hG⟩ := hG; refine rg ?_; refine rn 2 [(1, 1, 0, 0)] f0 [(12, .func (.func 57) #[] #[Pt g_1 0, Pt g_2 0])] ?_; refine l1 ?_; refine ci 13 (args := [Pt g_1 0, Pt g_2 0]) (fun E e w => ∃ (v_103 : Bool), Rs S0 w0 (B v_103) (se E [0, 2, 3, 4, 5, 6, 7, 8]) (v_103 = v_103o) e w) Tryd.func57 rfl rfl ?_ ?_
        ·replace hG := hy_104; refine sq ?_; refine rg ?_; refine ra [] f0 [] ?_; refine tN ?_; refine sq ?_; replace hG := bind_some hG; obtain ⟨v_105, hy_105, hG⟩ := hG; refine rg ?_; refine rn 12 [(1, 1, 7, 2), (2, 1, 6, 2), (1, 1, 7, 1), (2, 1, 6, 1), (1, 1, 6, 5)] f0 [(4, U p_1.Root), (7, U p_2.Of.Root), (9, I p_1.Size), (12, I p_2.Of.Size), (14, .slice p_2.Grow_A p_2.Grow.length p_2.Grow_c)] ?_; refine l1 ?_; refine cl 15 (z_tree_Extended F p_1.Root p_2.Of.Root p_1.Size p_2.Of.Size p_2.Grow_A p_2.Grow_c p_2.Grow _ hy_105) hT ⟨ga 3, trivial⟩ ?_; refine ra [] f0 [(2, B v_105)] ?_; refine tN ?_; refine kR ?_; refine ri [] (B v_105) ?_; exact fun a w S hK hE => ⟨v_105, rfl, ⟨S, hE.sel [0, 2, 3, 4, 5, 6, 7, 8]⟩, Option.some.inj hG⟩
        ·rintro e w ⟨v_103, hJ⟩; refine hJ.go fun ho_ => ?_
         clear hJ; subst ho_; refine ra [] f0 [(14, B (!v_103))] ?_; refine tN ?_; rcases ifB_cases hG with ⟨h_106, hG⟩ | ⟨h_106, hG⟩
         ·refine sb 14 (nt h_106) ?_; refine cf ?_; refine kS ?_; refine hN ?_; refine tN ?_; refine rg ?_; refine ra [] f0 [(7, I 3)] ?_; refine tN ?_; refine ur ?_; refine sq ?_; refine rg ?_; refine ra [] f0 [(8, B true)] ?_; refine tN ?_; refine sq ?_; refine ct ?_; refine kS ?_; refine tN ?_; refine sq ?_; refine bk ?_; refine sq ?_; refine rg ?_; refine rn 2 [(1, 1, 1, 3)] f0 [(10, .agg #[.func (.func 58) #[] #[Pt g_2 0]])] ?_; refine l1 ?_; refine nw 4 vp [.nilFunc] 106 fun g_107 => ?_
          refine l1 ?_; refine sr 0 g_107 [(0, .func (.func 58) #[] #[Pt g_2 0])] ?_; refine nl ?_; refine tN ?_; refine sq ?_; replace hG := bind_some hG; obtain ⟨v_109o, hy_110, hG⟩ := hG; refine rg ?_; refine rn 2 [(1, 1, 0, 0)] f0 [(12, .func (.func 58) #[] #[Pt g_2 0])] ?_; refine l1 ?_; refine ci 13 (args := [Pt g_2 0]) (fun E e w => ∃ (v_109 : Bool), Rs S0 w0 (B v_109) (se E [0, 2, 3, 4, 5, 6, 7, 8]) (v_109 = v_109o) e w) Tryd.func58 rfl rfl ?_ ?_
          ·replace hG := hy_110; refine sq ?_; refine rg ?_; refine ra [] f0 [] ?_; refine tN ?_; refine sq ?_; replace hG := bind_some hG; obtain ⟨v_111, hy_111, hG⟩ := hG; refine qb ?_; refine qn 6 [(3, 1, 6, 12), (1, 5, 6, 0)] f0 [(5, U p_2.By.Entry.Doc), (7, .agg #[I p_2.Of.Office, I p_2.Of.Size, U p_2.Of.Root, I p_2.Of.Sig.C, I p_2.Of.Sig.S])] ?_; refine qc 8 (z_cross_Digest F p_2.Of _ hy_111) hT trivial ?_; refine qa [] f0 [(1, B (p_2.By.Entry.Doc == v_111))] ?_; refine tN ?_; refine kR ?_; refine ri [] (B (p_2.By.Entry.Doc == v_111)) ?_; exact fun a w S hK hE => ⟨(p_2.By.Entry.Doc == v_111), rfl, ⟨S, hE.sel [0, 2, 3, 4, 5, 6, 7, 8]⟩, Option.some.inj hG⟩
          ·rintro e w ⟨v_109, hJ⟩; refine hJ.go fun ho_ => ?_
           clear hJ; subst ho_; refine ra [] f0 [(14, B (!v_109))] ?_; refine tN ?_; rcases ifB_cases hG with ⟨h_112, hG⟩ | ⟨h_112, hG⟩
           ·refine sb 14 (nt h_112) ?_; refine cf ?_; refine kS ?_; refine hN ?_; refine tN ?_; refine rg ?_; refine ra [] f0 [(7, I 4)] ?_; refine tN ?_; refine ur ?_; refine sq ?_; refine rg ?_; refine ra [] f0 [(8, B true)] ?_; refine tN ?_; refine sq ?_; refine ct ?_; refine kS ?_; refine tN ?_; refine sq ?_; refine bk ?_; refine sq ?_; refine rg ?_; refine rn 2 [(1, 1, 1, 4)] f0 [(10, .agg #[.func (.func 59) #[] #[Pt g_3 0, Pt g_2 0]])] ?_; refine l1 ?_; refine nw 4 vp [.nilFunc] 106 fun g_113 => ?_
            refine l1 ?_; refine sr 0 g_113 [(0, .func (.func 59) #[] #[Pt g_3 0, Pt g_2 0])] ?_; refine nl ?_; refine tN ?_; refine sq ?_; replace hG := bind_some hG; obtain ⟨v_119o, hy_120, hG⟩ := hG; refine rg ?_; refine rn 2 [(1, 1, 0, 0)] f0 [(12, .func (.func 59) #[] #[Pt g_3 0, Pt g_2 0])] ?_; refine l1 ?_; refine ci 13 (args := [Pt g_3 0, Pt g_2 0]) (fun E e w => ∃ (v_119 : Bool), Rs S0 w0 (B v_119) (se E [0, 2, 3, 4, 5, 6, 7, 8]) (v_119 = v_119o) e w) Tryd.func59 rfl rfl ?_ ?_
            ·replace hG := hy_120; refine sq ?_; refine rg ?_; refine ra [] f0 [] ?_; refine tN ?_; refine sq ?_; replace hG := bind_some hG; obtain ⟨v_121, hy_121, hG⟩ := hG; replace hG := bind_some hG; obtain ⟨⟨v_124, v_125⟩, hy_124, hG⟩ := hG; refine qb ?_; refine fx inf102 (gd' (RowC p_0_A p_0_c c_i64 tr p_0) 8) hy_121 fun b_122 o_123 hi_121 => ?_
             refine qn 10 [(0, 1, 6, 0), (3, 1, 7, 6), (1, 0, 0, 0), (0, 1, 0, 0), (1, 10, 7, 6)] (fc (hi_121 .i64) f0) [(13, I v_121), (15, .agg #[I p_2.By.Head.Office, I p_2.By.Head.Size, U p_2.By.Head.Root, I p_2.By.Head.Sig.C, I p_2.By.Head.Sig.S, I p_2.By.Index, U p_2.By.Entry.Doc, I p_2.By.Entry.Stamp.Lo, I p_2.By.Entry.Stamp.Hi, .slice p_2.By.Path_A p_2.By.Path.length p_2.By.Path_c])] ?_; refine qc 16 (z_office_Check F v_121 p_2.By _ hy_124) hT ⟨(((gd' (RowC p_2.By.Path_A p_2.By.Path_c c_u64 tr p_2.By.Path) 5)).m fun _ _ h => ⟨h⟩).a, trivial⟩ ?_; refine qa [] f0 [(3, B v_124)] ?_; refine tN ?_; refine sq ?_; refine rg ?_; refine ra [] f0 [(2, B v_124)] ?_; refine tN ?_; refine kR ?_; refine ri [] (B v_124) ?_; exact fun a w S hK hE => ⟨v_124, rfl, ⟨S, hE.sel [1, 3, 4, 5, 6, 7, 8, 9]⟩, Option.some.inj hG⟩
            ·rintro e w ⟨v_119, hJ⟩; refine hJ.go fun ho_ => ?_
             clear hJ; subst ho_; refine ra [] f0 [(14, B (!v_119))] ?_; refine tN ?_; rcases ifB_cases hG with ⟨h_126, hG⟩ | ⟨h_126, hG⟩
             ·refine sb 14 (nt h_126) ?_; refine cf ?_; refine kS ?_; refine hN ?_; refine tN ?_; refine rg ?_; refine ra [] f0 [(7, I 5)] ?_; refine tN ?_; refine ur ?_; refine sq ?_; refine rg ?_; refine ra [] f0 [(8, B false)] ?_; refine tN ?_; refine sq ?_; refine cf ?_; refine kX ?_; refine tX ?_; refine tX ?_; refine hH ?_; refine tN ?_; refine sq ?_; refine rg ?_; refine ra [] f0 [(2, B true)] ?_; refine tN ?_; refine kR ?_; refine ri [] (B true) ?_; exact fun a w S hK hE => ⟨true, rfl, ⟨S, hE.sel [1, 2, 3, 4, 5, 6, 7]⟩, Option.some.inj hG⟩
             ·refine sb 14 (nf h_126) ?_; refine ct ?_; refine sq ?_; refine rg ?_; refine ra [] f0 [(2, B false)] ?_; refine tN ?_; refine kR ?_; refine hR ?_; refine tR ?_; refine tR ?_; refine hR ?_; refine tR ?_; refine ri [] (B false) ?_; exact fun a w S hK hE => ⟨false, rfl, ⟨S, hE.sel [1, 2, 3, 4, 5, 6, 7]⟩, Option.some.inj hG⟩
           ·refine sb 14 (nf h_112) ?_; refine ct ?_; refine sq ?_; refine rg ?_; refine ra [] f0 [(2, B false)] ?_; refine tN ?_; refine kR ?_; refine hR ?_; refine tR ?_; refine tR ?_; refine hR ?_; refine tR ?_; refine ri [] (B false) ?_; exact fun a w S hK hE => ⟨false, rfl, ⟨S, hE.sel [1, 2, 3, 4, 5, 6, 7]⟩, Option.some.inj hG⟩
         ·refine sb 14 (nf h_106) ?_; refine ct ?_; refine sq ?_; refine rg ?_; refine ra [] f0 [(2, B false)] ?_; refine tN ?_; refine kR ?_; refine hR ?_; refine tR ?_; refine tR ?_; refine hR ?_; refine tR ?_; refine ri [] (B false) ?_; exact fun a w S hK hE => ⟨false, rfl, ⟨S, hE.sel [1, 2, 3, 4, 5, 6, 7]⟩, Option.some.inj hG⟩
       ·refine sb 14 (nf h_100) ?_; refine ct ?_; refine sq ?_; refine rg ?_; refine ra [] f0 [(2, B false)] ?_; refine tN ?_; refine kR ?_; refine hR ?_; refine tR ?_; refine tR ?_; refine hR ?_; refine tR ?_; refine ri [] (B false) ?_; exact fun a w S hK hE => ⟨false, rfl, ⟨S, hE.sel [1, 2, 3, 4, 5, 6, 7]⟩, Option.some.inj hG⟩
     ·refine sb 14 (nf h_90) ?_; refine ct ?_; refine sq ?_; refine rg ?_; refine ra [] f0 [(2, B false)] ?_; refine tN ?_; refine kR ?_; refine hR ?_; refine tR ?_; refine tR ?_; refine hR ?_; refine tR ?_; refine ri [] (B false) ?_; exact fun a w S hK hE => ⟨false, rfl, ⟨S, hE.sel [1, 2, 3, 4, 5, 6, 7]⟩, Option.some.inj hG⟩
   ·rintro e w ⟨v_71, hJ⟩; refine hJ.go fun ho_ => ?_
    clear hJ; subst ho_; refine ra [] f0 [(6, B v_71), (7, I 0)] ?_; refine tN ?_; refine kR ?_; obtain rfl := Option.some.inj hG; exact rt []
end Go.Proofs.YtiijddjfiojfaaaDoor
namespace Go.Proofs.YtiijddjfiojfaaaDoor
open Go.RowKit Go.Maps
def G_regulatorlaw26_head (F : Nat)  : Option (Bool) :=
  Option.bind (G_office_Sign F (⟨1, ([(⟨7, (⟨0, 0⟩ : KInterval)⟩ : KEntry), (⟨8, (⟨0, 0⟩ : KInterval)⟩ : KEntry)] : List KEntry)⟩ : KOffice) 1 5 7) (un2 fun v_5 v_6 =>
  Option.bind (G_office_Sign F (⟨1, ([(⟨7, (⟨0, 0⟩ : KInterval)⟩ : KEntry), (⟨8, (⟨0, 0⟩ : KInterval)⟩ : KEntry)] : List KEntry)⟩ : KOffice) 2 5 8) (un2 fun v_8 v_9 =>
  Option.bind (G_office_Sign F (⟨1, ([(⟨7, (⟨0, 0⟩ : KInterval)⟩ : KEntry), (⟨9, (⟨0, 0⟩ : KInterval)⟩ : KEntry)] : List KEntry)⟩ : KOffice) 2 5 9) (un2 fun v_11 v_12 =>
  Option.bind (G_cross_Digest F v_8) (fun v_14 =>
  Option.bind (G_office_Sign F (⟨2, ([(⟨v_14, (⟨0, 0⟩ : KInterval)⟩ : KEntry)] : List KEntry)⟩ : KOffice) 1 6 7) (un2 fun v_17 v_18 =>
  Option.bind (G_cross_Witness F (⟨1, ([(⟨7, (⟨0, 0⟩ : KInterval)⟩ : KEntry), (⟨8, (⟨0, 0⟩ : KInterval)⟩ : KEntry)] : List KEntry)⟩ : KOffice) v_5 v_8 (⟨2, ([(⟨v_14, (⟨0, 0⟩ : KInterval)⟩ : KEntry)] : List KEntry)⟩ : KOffice) v_17) (un2 fun v_20 v_21 =>
  Option.bind (G_cross_Check F ([1024, 4096] : List Int) v_5 v_20) (un2 fun v_24 v_25 =>
  Option.bind (G_cross_Check F ([1024] : List Int) v_5 v_20) (un2 fun v_27 v_28 =>
  Option.bind (G_cross_Forks F 1024 v_8 v_11 ([] : List Int)) (un2 fun v_29 v_30 =>
  Option.bind (G_cross_Witness F (⟨1, ([(⟨7, (⟨0, 0⟩ : KInterval)⟩ : KEntry), (⟨8, (⟨0, 0⟩ : KInterval)⟩ : KEntry)] : List KEntry)⟩ : KOffice) v_5 v_5 (⟨2, ([(⟨v_14, (⟨0, 0⟩ : KInterval)⟩ : KEntry)] : List KEntry)⟩ : KOffice) v_17) (un2 fun v_31 v_32 =>
  Option.bind (ifB ((v_6 == 0))
      (ifB ((v_9 == 0))
        (ifB ((v_12 == 0))
          (ifB ((v_18 == 0))
            (ifB ((v_21 == 0))
              (ifB ((v_25 == 0))
                (ifB ((v_28 == 0))
                  (ifB ((v_30 == 0))
                    (some (v_32 == 4))
                    (some false))
                  (some false))
                (some false))
              (some false))
            (some false))
          (some false))
        (some false))
      (some false) : Option (Bool)) (fun (v_43 : Bool) => 
    Option.bind (ifB (v_43)
        (ifB (decide (v_20.Of = v_8))
          (ifB ((((v_20.Grow.length : Nat) : Int) == 1))
            (Option.bind (ixI v_20.Grow 0) (fun v_47 =>
            Option.bind (ixI ([(⟨7, (⟨0, 0⟩ : KInterval)⟩ : KEntry), (⟨8, (⟨0, 0⟩ : KInterval)⟩ : KEntry)] : List KEntry) 1) (fun v_50 =>
            Option.bind (G_regulatorref25_Leaf F v_50) (fun v_53 =>
            Option.bind (G_regulatorref24_Leaf F v_53) (fun v_54 =>
            ifB ((v_47 == v_54))
              (ifB (v_24)
                (ifB (v_27)
                  (some false)
                  (some v_29))
                (some false))
              (some false))))))
            (some false))
          (some false))
        (some false) : Option (Bool)) (fun (v_59 : Bool) => 
      some v_59))))))))))))
set_option maxRecDepth 100000 in
set_option maxHeartbeats 16000000 in
theorem z_regulatorlaw26_head (F : Nat)  (r : Bool) (hG : G_regulatorlaw26_head F  = some r) :
  Cf Tryd.prog 8 [] [] (B r) := by
 unfold G_regulatorlaw26_head at hG; refine fi Tryd.func8 rfl rfl m0 fun S0 w0 hT => ?_
 refine sq ?_; refine rg ?_; refine ra [] f0 [] ?_; refine tN ?_; refine sq ?_; refine rg ?_; refine rn 2 [] f0 [(24, .agg #[U 7, I 0, I 0]), (25, .agg #[U 8, I 0, I 0])] ?_; refine l1 ?_; refine nw 26 (vs 2) [U 7, I 0, I 0, U 8, I 0, I 0] 36 fun g_1 => ?_
 refine rn 1 [] f0 [(27, .agg #[I 1, Sb g_1 2 2])] ?_; refine l1 ?_; refine nw 1 vp [I 0, .slice none 0 0] 24 fun g_2 => ?_
 refine l1 ?_; refine sr 0 g_2 [(0, I 1), (1, Sb g_1 2 2)] ?_; refine nl ?_; refine tN ?_; refine sq ?_; refine rg ?_; refine rn 2 [] f0 [(28, .agg #[U 7, I 0, I 0]), (29, .agg #[U 9, I 0, I 0])] ?_; refine l1 ?_; refine nw 30 (vs 2) [U 7, I 0, I 0, U 9, I 0, I 0] 36 fun g_3 => ?_
 refine rn 1 [] f0 [(31, .agg #[I 1, Sb g_3 2 2])] ?_; refine l1 ?_; refine nw 2 vp [I 0, .slice none 0 0] 24 fun g_4 => ?_
 refine l1 ?_; refine sr 0 g_4 [(0, I 1), (1, Sb g_3 2 2)] ?_; refine nl ?_; refine tN ?_; refine sq ?_; replace hG := bind_some hG; obtain ⟨⟨v_5, v_6⟩, hy_5, hG⟩ := hG; refine rg ?_; refine rn 1 [(0, 2, 2, 0)] f0 [(33, .agg #[I 1, Sb g_1 2 2])] ?_; refine l1 ?_; refine cl 34 (z_office_Sign F (⟨1, (some ⟨g_1, 0, none⟩), 2, ([(⟨7, (⟨0, 0⟩ : KInterval)⟩ : KEntry), (⟨8, (⟨0, 0⟩ : KInterval)⟩ : KEntry)] : List KEntry)⟩ : KOfficeL) 1 5 7 _ hy_5) hT ⟨Fa.m (bA (f := KEntry.cells) (ok := tr) (l := ([(⟨7, (⟨0, 0⟩ : KInterval)⟩ : KEntry), (⟨8, (⟨0, 0⟩ : KInterval)⟩ : KEntry)] : List KEntry)) g_1 3 (et.a)) fun _ _ h => ⟨h⟩, trivial⟩ ?_; refine rn 3 [] f0 [(35, .agg #[I v_5.Office, I v_5.Size, U v_5.Root, I v_5.Sig.C, I v_5.Sig.S]), (36, I v_6)] ?_; refine l1 ?_; refine nw 3 vp [I 0, I 0, U 0, I 0, I 0] 29 fun g_7 => ?_
 refine l1 ?_; refine sr 0 g_7 [(0, I v_5.Office), (1, I v_5.Size), (2, U v_5.Root), (3, I v_5.Sig.C), (4, I v_5.Sig.S)] ?_; refine ra [] f0 [(4, I v_6)] ?_; refine tN ?_; refine sq ?_; replace hG := bind_some hG; obtain ⟨⟨v_8, v_9⟩, hy_8, hG⟩ := hG; refine rg ?_; refine rn 1 [(0, 2, 3, 0)] f0 [(38, .agg #[I 1, Sb g_1 2 2])] ?_; refine l1 ?_; refine cl 39 (z_office_Sign F (⟨1, (some ⟨g_1, 0, none⟩), 2, ([(⟨7, (⟨0, 0⟩ : KInterval)⟩ : KEntry), (⟨8, (⟨0, 0⟩ : KInterval)⟩ : KEntry)] : List KEntry)⟩ : KOfficeL) 2 5 8 _ hy_8) hT ⟨Fa.m (bA (f := KEntry.cells) (ok := tr) (l := ([(⟨7, (⟨0, 0⟩ : KInterval)⟩ : KEntry), (⟨8, (⟨0, 0⟩ : KInterval)⟩ : KEntry)] : List KEntry)) g_1 4 (et.a)) fun _ _ h => ⟨h⟩, trivial⟩ ?_; refine rn 3 [] f0 [(40, .agg #[I v_8.Office, I v_8.Size, U v_8.Root, I v_8.Sig.C, I v_8.Sig.S]), (41, I v_9)] ?_; refine l1 ?_; refine nw 5 vp [I 0, I 0, U 0, I 0, I 0] 29 fun g_10 => ?_
 refine l1 ?_; refine sr 0 g_10 [(0, I v_8.Office), (1, I v_8.Size), (2, U v_8.Root), (3, I v_8.Sig.C), (4, I v_8.Sig.S)] ?_; refine ra [] f0 [(6, I v_9)] ?_; refine tN ?_; refine sq ?_; replace hG := bind_some hG; obtain ⟨⟨v_11, v_12⟩, hy_11, hG⟩ := hG; refine rg ?_; refine rn 1 [(0, 2, 2, 0)] f0 [(43, .agg #[I 1, Sb g_3 2 2])] ?_; refine l1 ?_; refine cl 44 (z_office_Sign F (⟨1, (some ⟨g_3, 0, none⟩), 2, ([(⟨7, (⟨0, 0⟩ : KInterval)⟩ : KEntry), (⟨9, (⟨0, 0⟩ : KInterval)⟩ : KEntry)] : List KEntry)⟩ : KOfficeL) 2 5 9 _ hy_11) hT ⟨Fa.m (bA (f := KEntry.cells) (ok := tr) (l := ([(⟨7, (⟨0, 0⟩ : KInterval)⟩ : KEntry), (⟨9, (⟨0, 0⟩ : KInterval)⟩ : KEntry)] : List KEntry)) g_3 3 (et.a)) fun _ _ h => ⟨h⟩, trivial⟩ ?_; refine rn 3 [] f0 [(45, .agg #[I v_11.Office, I v_11.Size, U v_11.Root, I v_11.Sig.C, I v_11.Sig.S]), (46, I v_12)] ?_; refine l1 ?_; refine nw 7 vp [I 0, I 0, U 0, I 0, I 0] 29 fun g_13 => ?_
 refine l1 ?_; refine sr 0 g_13 [(0, I v_11.Office), (1, I v_11.Size), (2, U v_11.Root), (3, I v_11.Sig.C), (4, I v_11.Sig.S)] ?_; refine ra [] f0 [(8, I v_12)] ?_; refine tN ?_; refine sq ?_; replace hG := bind_some hG; obtain ⟨v_14, hy_14, hG⟩ := hG; refine rg ?_; refine rn 1 [(0, 5, 1, 0)] f0 [(47, .agg #[I v_8.Office, I v_8.Size, U v_8.Root, I v_8.Sig.C, I v_8.Sig.S])] ?_; refine l1 ?_; refine cl 48 (z_cross_Digest F v_8 _ hy_14) hT trivial ?_; refine rn 1 [] f0 [(49, .agg #[U v_14, I 0, I 0])] ?_; refine l1 ?_; refine nw 50 (vs 1) [U v_14, I 0, I 0] 36 fun g_15 => ?_
 refine rn 1 [] f0 [(51, .agg #[I 2, Sb g_15 1 1])] ?_; refine l1 ?_; refine nw 9 vp [I 0, .slice none 0 0] 24 fun g_16 => ?_
 refine l1 ?_; refine sr 0 g_16 [(0, I 2), (1, Sb g_15 1 1)] ?_; refine nl ?_; refine tN ?_; refine sq ?_; replace hG := bind_some hG; obtain ⟨⟨v_17, v_18⟩, hy_17, hG⟩ := hG; refine rg ?_; refine rn 1 [(0, 2, 0, 0)] f0 [(53, .agg #[I 2, Sb g_15 1 1])] ?_; refine l1 ?_; refine cl 54 (z_office_Sign F (⟨2, (some ⟨g_15, 0, none⟩), 1, ([(⟨v_14, (⟨0, 0⟩ : KInterval)⟩ : KEntry)] : List KEntry)⟩ : KOfficeL) 1 6 7 _ hy_17) hT ⟨Fa.m (bA (f := KEntry.cells) (ok := tr) (l := ([(⟨v_14, (⟨0, 0⟩ : KInterval)⟩ : KEntry)] : List KEntry)) g_15 1 (et.a)) fun _ _ h => ⟨h⟩, trivial⟩ ?_; refine rn 3 [] f0 [(55, .agg #[I v_17.Office, I v_17.Size, U v_17.Root, I v_17.Sig.C, I v_17.Sig.S]), (56, I v_18)] ?_; refine l1 ?_; refine nw 10 vp [I 0, I 0, U 0, I 0, I 0] 29 fun g_19 => ?_
 refine l1 ?_; refine sr 0 g_19 [(0, I v_17.Office), (1, I v_17.Size), (2, U v_17.Root), (3, I v_17.Sig.C), (4, I v_17.Sig.S)] ?_; refine ra [] f0 [(11, I v_18)] ?_; refine tN ?_; refine sq ?_; replace hG := bind_some hG; obtain ⟨⟨v_20o, v_21⟩, hy_20, hG⟩ := hG; refine rg ?_; refine rn 5 [(0, 2, 8, 0), (0, 5, 5, 0), (0, 5, 4, 0), (0, 2, 1, 0), (0, 5, 0, 0)] f0 [(58, .agg #[I 1, Sb g_1 2 2]), (59, .agg #[I v_5.Office, I v_5.Size, U v_5.Root, I v_5.Sig.C, I v_5.Sig.S]), (60, .agg #[I v_8.Office, I v_8.Size, U v_8.Root, I v_8.Sig.C, I v_8.Sig.S]), (61, .agg #[I 2, Sb g_15 1 1]), (62, .agg #[I v_17.Office, I v_17.Size, U v_17.Root, I v_17.Sig.C, I v_17.Sig.S])] ?_; refine sB 9 g_1 KEntry.cells tr ([(⟨7, (⟨0, 0⟩ : KInterval)⟩ : KEntry), (⟨8, (⟨0, 0⟩ : KInterval)⟩ : KEntry)] : List KEntry) tr_mv et ?_; refine sB 2 g_15 KEntry.cells tr ([(⟨v_14, (⟨0, 0⟩ : KInterval)⟩ : KEntry)] : List KEntry) tr_mv et ?_; refine l1 ?_; refine cn 63 (z_cross_Witness F (⟨1, (some ⟨g_1, 0, none⟩), 2, ([(⟨7, (⟨0, 0⟩ : KInterval)⟩ : KEntry), (⟨8, (⟨0, 0⟩ : KInterval)⟩ : KEntry)] : List KEntry)⟩ : KOfficeL) v_5 v_8 (⟨2, (some ⟨g_15, 0, none⟩), 1, ([(⟨v_14, (⟨0, 0⟩ : KInterval)⟩ : KEntry)] : List KEntry)⟩ : KOfficeL) v_17 _ hy_20) hT (fun _ => (mc KHopL.mv m0)) ⟨(((gd' (RowC (some ⟨g_1, 0, none⟩) 2 KEntry.cells tr ([(⟨7, (⟨0, 0⟩ : KInterval)⟩ : KEntry), (⟨8, (⟨0, 0⟩ : KInterval)⟩ : KEntry)] : List KEntry)) 9)).m fun _ _ h => ⟨h⟩), (((gd' (RowC (some ⟨g_15, 0, none⟩) 1 KEntry.cells tr ([(⟨v_14, (⟨0, 0⟩ : KInterval)⟩ : KEntry)] : List KEntry)) 2)).m fun _ _ h => ⟨h⟩), trivial⟩ ?_; rintro v_20 hq_20; obtain rfl : v_20.p = v_20o := hq_20.symm; refine rn 3 [] f0 [(64, .agg #[I v_20.Of.Office, I v_20.Of.Size, U v_20.Of.Root, I v_20.Of.Sig.C, I v_20.Of.Sig.S, .slice v_20.Grow_A v_20.Grow.length v_20.Grow_c, I v_20.By.Head.Office, I v_20.By.Head.Size, U v_20.By.Head.Root, I v_20.By.Head.Sig.C, I v_20.By.Head.Sig.S, I v_20.By.Index, U v_20.By.Entry.Doc, I v_20.By.Entry.Stamp.Lo, I v_20.By.Entry.Stamp.Hi, .slice v_20.By.Path_A v_20.By.Path.length v_20.By.Path_c]), (65, I v_21)] ?_; refine l1 ?_; refine nw 12 vp [I 0, I 0, U 0, I 0, I 0, .slice none 0 0, I 0, I 0, U 0, I 0, I 0, I 0, U 0, I 0, I 0, .slice none 0 0] 40 fun g_22 => ?_
 refine l1 ?_; refine sr 0 g_22 [(0, I v_20.Of.Office), (1, I v_20.Of.Size), (2, U v_20.Of.Root), (3, I v_20.Of.Sig.C), (4, I v_20.Of.Sig.S), (5, .slice v_20.Grow_A v_20.Grow.length v_20.Grow_c), (6, I v_20.By.Head.Office), (7, I v_20.By.Head.Size), (8, U v_20.By.Head.Root), (9, I v_20.By.Head.Sig.C), (10, I v_20.By.Head.Sig.S), (11, I v_20.By.Index), (12, U v_20.By.Entry.Doc), (13, I v_20.By.Entry.Stamp.Lo), (14, I v_20.By.Entry.Stamp.Hi), (15, .slice v_20.By.Path_A v_20.By.Path.length v_20.By.Path_c)] ?_; refine ra [] f0 [(13, I v_21)] ?_; refine tN ?_; refine sq ?_; refine rg ?_; refine l1 ?_; refine nw 66 (vs 2) [I 1024, I 4096] 3 fun g_23 => ?_
 refine ra [] f0 [(14, Sb g_23 2 2)] ?_; refine tN ?_; refine sq ?_; replace hG := bind_some hG; obtain ⟨⟨v_24, v_25⟩, hy_24, hG⟩ := hG; refine rg ?_; refine rn 3 [(1, 5, 8, 0), (0, 16, 1, 0)] f0 [(68, Sb g_23 2 2), (69, .agg #[I v_5.Office, I v_5.Size, U v_5.Root, I v_5.Sig.C, I v_5.Sig.S]), (70, .agg #[I v_20.Of.Office, I v_20.Of.Size, U v_20.Of.Root, I v_20.Of.Sig.C, I v_20.Of.Sig.S, .slice v_20.Grow_A v_20.Grow.length v_20.Grow_c, I v_20.By.Head.Office, I v_20.By.Head.Size, U v_20.By.Head.Root, I v_20.By.Head.Sig.C, I v_20.By.Head.Sig.S, I v_20.By.Index, U v_20.By.Entry.Doc, I v_20.By.Entry.Stamp.Lo, I v_20.By.Entry.Stamp.Hi, .slice v_20.By.Path_A v_20.By.Path.length v_20.By.Path_c])] ?_; refine l1 ?_; refine cl 71 (z_cross_Check F (some ⟨g_23, 0, none⟩) 2 ([1024, 4096] : List Int) v_5 v_20 _ hy_24) hT ⟨ba 0 et.a, (gi 2).a, trivial⟩ ?_; refine ra [] f0 [(15, B v_24), (16, I v_25)] ?_; refine tN ?_; refine sq ?_; replace hG := bind_some hG; obtain ⟨⟨v_27, v_28⟩, hy_27, hG⟩ := hG; refine rg ?_; refine l1 ?_; refine nw 75 (vs 1) [I 1024] 3 fun g_26 => ?_
 refine rn 2 [(0, 5, 9, 0), (0, 16, 2, 0)] f0 [(76, .agg #[I v_5.Office, I v_5.Size, U v_5.Root, I v_5.Sig.C, I v_5.Sig.S]), (77, .agg #[I v_20.Of.Office, I v_20.Of.Size, U v_20.Of.Root, I v_20.Of.Sig.C, I v_20.Of.Sig.S, .slice v_20.Grow_A v_20.Grow.length v_20.Grow_c, I v_20.By.Head.Office, I v_20.By.Head.Size, U v_20.By.Head.Root, I v_20.By.Head.Sig.C, I v_20.By.Head.Sig.S, I v_20.By.Index, U v_20.By.Entry.Doc, I v_20.By.Entry.Stamp.Lo, I v_20.By.Entry.Stamp.Hi, .slice v_20.By.Path_A v_20.By.Path.length v_20.By.Path_c])] ?_; refine l1 ?_; refine cl 78 (z_cross_Check F (some ⟨g_26, 0, none⟩) 1 ([1024] : List Int) v_5 v_20 _ hy_27) hT ⟨ba 0 et.a, (gi 3).a, trivial⟩ ?_; refine ra [] f0 [(17, B v_27), (18, I v_28)] ?_; refine tN ?_; refine sq ?_; replace hG := bind_some hG; obtain ⟨⟨v_29, v_30⟩, hy_29, hG⟩ := hG; refine rg ?_; refine rn 2 [(0, 5, 8, 0), (0, 5, 7, 0)] f0 [(82, .agg #[I v_8.Office, I v_8.Size, U v_8.Root, I v_8.Sig.C, I v_8.Sig.S]), (83, .agg #[I v_11.Office, I v_11.Size, U v_11.Root, I v_11.Sig.C, I v_11.Sig.S])] ?_; refine l1 ?_; refine cl 84 (z_cross_Forks F 1024 v_8 v_11 none 0 ([] : List Int) _ hy_29) hT ⟨gn.a, trivial⟩ ?_; refine ra [] f0 [(19, B v_29), (20, I v_30)] ?_; refine tN ?_; refine sq ?_; replace hG := bind_some hG; obtain ⟨⟨v_31o, v_32⟩, hy_31, hG⟩ := hG; refine rg ?_; refine rn 5 [(0, 2, 12, 0), (0, 5, 9, 0), (0, 5, 9, 0), (0, 2, 5, 0), (0, 5, 4, 0)] f0 [(88, .agg #[I 1, Sb g_1 2 2]), (89, .agg #[I v_5.Office, I v_5.Size, U v_5.Root, I v_5.Sig.C, I v_5.Sig.S]), (90, .agg #[I v_5.Office, I v_5.Size, U v_5.Root, I v_5.Sig.C, I v_5.Sig.S]), (91, .agg #[I 2, Sb g_15 1 1]), (92, .agg #[I v_17.Office, I v_17.Size, U v_17.Root, I v_17.Sig.C, I v_17.Sig.S])] ?_; refine l1 ?_; refine cn 93 (z_cross_Witness F (⟨1, (some ⟨g_1, 0, none⟩), 2, ([(⟨7, (⟨0, 0⟩ : KInterval)⟩ : KEntry), (⟨8, (⟨0, 0⟩ : KInterval)⟩ : KEntry)] : List KEntry)⟩ : KOfficeL) v_5 v_5 (⟨2, (some ⟨g_15, 0, none⟩), 1, ([(⟨v_14, (⟨0, 0⟩ : KInterval)⟩ : KEntry)] : List KEntry)⟩ : KOfficeL) v_17 _ hy_31) hT (fun _ => (mc KHopL.mv m0)) ⟨(((gd' (RowC (some ⟨g_1, 0, none⟩) 2 KEntry.cells tr ([(⟨7, (⟨0, 0⟩ : KInterval)⟩ : KEntry), (⟨8, (⟨0, 0⟩ : KInterval)⟩ : KEntry)] : List KEntry)) 13)).m fun _ _ h => ⟨h⟩), (((gd' (RowC (some ⟨g_15, 0, none⟩) 1 KEntry.cells tr ([(⟨v_14, (⟨0, 0⟩ : KInterval)⟩ : KEntry)] : List KEntry)) 6)).m fun _ _ h => ⟨h⟩), trivial⟩ ?_; rintro v_31 hq_31; obtain rfl : v_31.p = v_31o := hq_31.symm; refine rn 3 [] f0 [(94, .agg #[I v_31.Of.Office, I v_31.Of.Size, U v_31.Of.Root, I v_31.Of.Sig.C, I v_31.Of.Sig.S, .slice v_31.Grow_A v_31.Grow.length v_31.Grow_c, I v_31.By.Head.Office, I v_31.By.Head.Size, U v_31.By.Head.Root, I v_31.By.Head.Sig.C, I v_31.By.Head.Sig.S, I v_31.By.Index, U v_31.By.Entry.Doc, I v_31.By.Entry.Stamp.Lo, I v_31.By.Entry.Stamp.Hi, .slice v_31.By.Path_A v_31.By.Path.length v_31.By.Path_c]), (95, I v_32)] ?_; refine l1 ?_; refine nw 21 vp [I 0, I 0, U 0, I 0, I 0, .slice none 0 0, I 0, I 0, U 0, I 0, I 0, I 0, U 0, I 0, I 0, .slice none 0 0] 40 fun g_33 => ?_
 refine l1 ?_; refine sr 0 g_33 [(0, I v_31.Of.Office), (1, I v_31.Of.Size), (2, U v_31.Of.Root), (3, I v_31.Of.Sig.C), (4, I v_31.Of.Sig.S), (5, .slice v_31.Grow_A v_31.Grow.length v_31.Grow_c), (6, I v_31.By.Head.Office), (7, I v_31.By.Head.Size), (8, U v_31.By.Head.Root), (9, I v_31.By.Head.Sig.C), (10, I v_31.By.Head.Sig.S), (11, I v_31.By.Index), (12, U v_31.By.Entry.Doc), (13, I v_31.By.Entry.Stamp.Lo), (14, I v_31.By.Entry.Stamp.Hi), (15, .slice v_31.By.Path_A v_31.By.Path.length v_31.By.Path_c)] ?_; refine ra [] f0 [(22, I v_32)] ?_; refine tN ?_; obtain ⟨o_42, hG, hG_42⟩ := bind_some hG; refine jn (fun K E a w => ∃ (v_43 : Bool), Js S0 w0 166 ([(23, B v_43)] ++ K) ([.dat (RowC v_20.Grow_A v_20.Grow_c c_u64 tr v_20.Grow), .dat (RowC v_20.By.Path_A v_20.By.Path_c c_u64 tr v_20.By.Path)] ++ se E [4, 10, 14, 15]) (v_43 = o_42) a w) ?_ ?_
 ·replace hG := ifB_cases hG; rcases hG with ⟨h_34, hG⟩ | ⟨h_34, hG⟩
  ·replace hG := ifB_cases hG; rcases hG with ⟨h_35, hG⟩ | ⟨h_35, hG⟩
   ·replace hG := ifB_cases hG; rcases hG with ⟨h_36, hG⟩ | ⟨h_36, hG⟩
    ·replace hG := ifB_cases hG; rcases hG with ⟨h_37, hG⟩ | ⟨h_37, hG⟩
     ·replace hG := ifB_cases hG; rcases hG with ⟨h_38, hG⟩ | ⟨h_38, hG⟩
      ·replace hG := ifB_cases hG; rcases hG with ⟨h_39, hG⟩ | ⟨h_39, hG⟩
       ·replace hG := ifB_cases hG; rcases hG with ⟨h_40, hG⟩ | ⟨h_40, hG⟩
        ·replace hG := ifB_cases hG; rcases hG with ⟨h_41, hG⟩ | ⟨h_41, hG⟩
         ·refine rg ?_; refine rn 3 [] f0 [(98, B (v_6 == 0))] ?_; refine sb 98 (bt h_34) ?_; refine rn 4 [] f0 [(102, B (v_9 == 0))] ?_; refine sb 102 (bt h_35) ?_; refine rn 4 [] f0 [(106, B (v_12 == 0))] ?_; refine sb 106 (bt h_36) ?_; refine rn 4 [] f0 [(110, B (v_18 == 0))] ?_; refine sb 110 (bt h_37) ?_; refine rn 4 [] f0 [(114, B (v_21 == 0))] ?_; refine sb 114 (bt h_38) ?_; refine rn 4 [] f0 [(118, B (v_25 == 0))] ?_; refine sb 118 (bt h_39) ?_; refine rn 4 [] f0 [(122, B (v_28 == 0))] ?_; refine sb 122 (bt h_40) ?_; refine rn 4 [] f0 [(126, B (v_30 == 0))] ?_; refine sb 126 (bt h_41) ?_; refine ra [] f0 [(23, B (v_32 == 4))] ?_; refine tN ?_; refine fm (RowC v_20.Grow_A v_20.Grow_c c_u64 tr v_20.Grow) (gm (KHopL.ok v_20) 5 fun _ _ h => h.f_Grow) ?_; refine fm (RowC v_20.By.Path_A v_20.By.Path_c c_u64 tr v_20.By.Path) (gm (KHopL.ok v_20) 6 fun _ _ h => h.b_By.f_Path) ?_; exact fun a w S hK hE => ⟨(v_32 == 4), S, hK.wk, hE.sel [1, 0, 6, 12, 16, 17], Option.some.inj hG⟩
         ·refine rg ?_; refine rn 3 [] f0 [(98, B (v_6 == 0))] ?_; refine sb 98 (bt h_34) ?_; refine rn 4 [] f0 [(102, B (v_9 == 0))] ?_; refine sb 102 (bt h_35) ?_; refine rn 4 [] f0 [(106, B (v_12 == 0))] ?_; refine sb 106 (bt h_36) ?_; refine rn 4 [] f0 [(110, B (v_18 == 0))] ?_; refine sb 110 (bt h_37) ?_; refine rn 4 [] f0 [(114, B (v_21 == 0))] ?_; refine sb 114 (bt h_38) ?_; refine rn 4 [] f0 [(118, B (v_25 == 0))] ?_; refine sb 118 (bt h_39) ?_; refine rn 4 [] f0 [(122, B (v_28 == 0))] ?_; refine sb 122 (bt h_40) ?_; refine rn 4 [] f0 [(126, B (v_30 == 0))] ?_; refine sb 126 (bf h_41) ?_; refine ra [] f0 [(23, B false)] ?_; refine tN ?_; refine fm (RowC v_20.Grow_A v_20.Grow_c c_u64 tr v_20.Grow) (gm (KHopL.ok v_20) 5 fun _ _ h => h.f_Grow) ?_; refine fm (RowC v_20.By.Path_A v_20.By.Path_c c_u64 tr v_20.By.Path) (gm (KHopL.ok v_20) 6 fun _ _ h => h.b_By.f_Path) ?_; exact fun a w S hK hE => ⟨false, S, hK.wk, hE.sel [1, 0, 6, 12, 16, 17], Option.some.inj hG⟩
        ·refine rg ?_; refine rn 3 [] f0 [(98, B (v_6 == 0))] ?_; refine sb 98 (bt h_34) ?_; refine rn 4 [] f0 [(102, B (v_9 == 0))] ?_; refine sb 102 (bt h_35) ?_; refine rn 4 [] f0 [(106, B (v_12 == 0))] ?_; refine sb 106 (bt h_36) ?_; refine rn 4 [] f0 [(110, B (v_18 == 0))] ?_; refine sb 110 (bt h_37) ?_; refine rn 4 [] f0 [(114, B (v_21 == 0))] ?_; refine sb 114 (bt h_38) ?_; refine rn 4 [] f0 [(118, B (v_25 == 0))] ?_; refine sb 118 (bt h_39) ?_; refine rn 4 [] f0 [(122, B (v_28 == 0))] ?_; refine sb 122 (bf h_40) ?_; refine ra [] f0 [(23, B false)] ?_; refine tN ?_; refine fm (RowC v_20.Grow_A v_20.Grow_c c_u64 tr v_20.Grow) (gm (KHopL.ok v_20) 5 fun _ _ h => h.f_Grow) ?_; refine fm (RowC v_20.By.Path_A v_20.By.Path_c c_u64 tr v_20.By.Path) (gm (KHopL.ok v_20) 6 fun _ _ h => h.b_By.f_Path) ?_; exact fun a w S hK hE => ⟨false, S, hK.wk, hE.sel [1, 0, 6, 12, 16, 17], Option.some.inj hG⟩
       ·refine rg ?_; refine rn 3 [] f0 [(98, B (v_6 == 0))] ?_; refine sb 98 (bt h_34) ?_; refine rn 4 [] f0 [(102, B (v_9 == 0))] ?_; refine sb 102 (bt h_35) ?_; refine rn 4 [] f0 [(106, B (v_12 == 0))] ?_; refine sb 106 (bt h_36) ?_; refine rn 4 [] f0 [(110, B (v_18 == 0))] ?_; refine sb 110 (bt h_37) ?_; refine rn 4 [] f0 [(114, B (v_21 == 0))] ?_; refine sb 114 (bt h_38) ?_; refine rn 4 [] f0 [(118, B (v_25 == 0))] ?_; refine sb 118 (bf h_39) ?_; refine ra [] f0 [(23, B false)] ?_; refine tN ?_; refine fm (RowC v_20.Grow_A v_20.Grow_c c_u64 tr v_20.Grow) (gm (KHopL.ok v_20) 5 fun _ _ h => h.f_Grow) ?_; refine fm (RowC v_20.By.Path_A v_20.By.Path_c c_u64 tr v_20.By.Path) (gm (KHopL.ok v_20) 6 fun _ _ h => h.b_By.f_Path) ?_; exact fun a w S hK hE => ⟨false, S, hK.wk, hE.sel [1, 0, 6, 12, 16, 17], Option.some.inj hG⟩
      ·refine rg ?_; refine rn 3 [] f0 [(98, B (v_6 == 0))] ?_; refine sb 98 (bt h_34) ?_; refine rn 4 [] f0 [(102, B (v_9 == 0))] ?_; refine sb 102 (bt h_35) ?_; refine rn 4 [] f0 [(106, B (v_12 == 0))] ?_; refine sb 106 (bt h_36) ?_; refine rn 4 [] f0 [(110, B (v_18 == 0))] ?_; refine sb 110 (bt h_37) ?_; refine rn 4 [] f0 [(114, B (v_21 == 0))] ?_; refine sb 114 (bf h_38) ?_; refine ra [] f0 [(23, B false)] ?_; refine tN ?_; refine fm (RowC v_20.Grow_A v_20.Grow_c c_u64 tr v_20.Grow) (gm (KHopL.ok v_20) 5 fun _ _ h => h.f_Grow) ?_; refine fm (RowC v_20.By.Path_A v_20.By.Path_c c_u64 tr v_20.By.Path) (gm (KHopL.ok v_20) 6 fun _ _ h => h.b_By.f_Path) ?_; exact fun a w S hK hE => ⟨false, S, hK.wk, hE.sel [1, 0, 6, 12, 16, 17], Option.some.inj hG⟩
     ·refine rg ?_; refine rn 3 [] f0 [(98, B (v_6 == 0))] ?_; refine sb 98 (bt h_34) ?_; refine rn 4 [] f0 [(102, B (v_9 == 0))] ?_; refine sb 102 (bt h_35) ?_; refine rn 4 [] f0 [(106, B (v_12 == 0))] ?_; refine sb 106 (bt h_36) ?_; refine rn 4 [] f0 [(110, B (v_18 == 0))] ?_; refine sb 110 (bf h_37) ?_; refine ra [] f0 [(23, B false)] ?_; refine tN ?_; refine fm (RowC v_20.Grow_A v_20.Grow_c c_u64 tr v_20.Grow) (gm (KHopL.ok v_20) 5 fun _ _ h => h.f_Grow) ?_; refine fm (RowC v_20.By.Path_A v_20.By.Path_c c_u64 tr v_20.By.Path) (gm (KHopL.ok v_20) 6 fun _ _ h => h.b_By.f_Path) ?_; exact fun a w S hK hE => ⟨false, S, hK.wk, hE.sel [1, 0, 6, 12, 16, 17], Option.some.inj hG⟩
    ·refine rg ?_; refine rn 3 [] f0 [(98, B (v_6 == 0))] ?_; refine sb 98 (bt h_34) ?_; refine rn 4 [] f0 [(102, B (v_9 == 0))] ?_; refine sb 102 (bt h_35) ?_; refine rn 4 [] f0 [(106, B (v_12 == 0))] ?_; refine sb 106 (bf h_36) ?_; refine ra [] f0 [(23, B false)] ?_; refine tN ?_; refine fm (RowC v_20.Grow_A v_20.Grow_c c_u64 tr v_20.Grow) (gm (KHopL.ok v_20) 5 fun _ _ h => h.f_Grow) ?_; refine fm (RowC v_20.By.Path_A v_20.By.Path_c c_u64 tr v_20.By.Path) (gm (KHopL.ok v_20) 6 fun _ _ h => h.b_By.f_Path) ?_; exact fun a w S hK hE => ⟨false, S, hK.wk, hE.sel [1, 0, 6, 12, 16, 17], Option.some.inj hG⟩
   ·refine rg ?_; refine rn 3 [] f0 [(98, B (v_6 == 0))] ?_; refine sb 98 (bt h_34) ?_; refine rn 4 [] f0 [(102, B (v_9 == 0))] ?_; refine sb 102 (bf h_35) ?_; refine ra [] f0 [(23, B false)] ?_; refine tN ?_; refine fm (RowC v_20.Grow_A v_20.Grow_c c_u64 tr v_20.Grow) (gm (KHopL.ok v_20) 5 fun _ _ h => h.f_Grow) ?_; refine fm (RowC v_20.By.Path_A v_20.By.Path_c c_u64 tr v_20.By.Path) (gm (KHopL.ok v_20) 6 fun _ _ h => h.b_By.f_Path) ?_; exact fun a w S hK hE => ⟨false, S, hK.wk, hE.sel [1, 0, 6, 12, 16, 17], Option.some.inj hG⟩
  ·refine rg ?_; refine rn 3 [] f0 [(98, B (v_6 == 0))] ?_; refine sb 98 (bf h_34) ?_; refine ra [] f0 [(23, B false)] ?_; refine tN ?_; refine fm (RowC v_20.Grow_A v_20.Grow_c c_u64 tr v_20.Grow) (gm (KHopL.ok v_20) 5 fun _ _ h => h.f_Grow) ?_; refine fm (RowC v_20.By.Path_A v_20.By.Path_c c_u64 tr v_20.By.Path) (gm (KHopL.ok v_20) 6 fun _ _ h => h.b_By.f_Path) ?_; exact fun a w S hK hE => ⟨false, S, hK.wk, hE.sel [1, 0, 6, 12, 16, 17], Option.some.inj hG⟩
 ·rintro a w ⟨v_43, hJ⟩; refine hJ.go fun ho_ => ?_
  clear hJ; subst ho_; replace hG := hG_42; obtain ⟨o_58, hG, hG_58⟩ := bind_some hG; refine jn (fun K E a w => ∃ (v_59 : Bool), Js S0 w0 166 ([(0, B v_59)] ++ K) (se E []) (v_59 = o_58) a w) ?_ ?_
  ·replace hG := ifB_cases hG; rcases hG with ⟨h_44, hG⟩ | ⟨h_44, hG⟩
   ·replace hG := ifB_cases hG; rcases hG with ⟨h_45, hG⟩ | ⟨h_45, hG⟩
    ·replace hG := ifB_cases hG; rcases hG with ⟨h_46, hG⟩ | ⟨h_46, hG⟩
     ·replace hG := bind_some hG; obtain ⟨v_47, hy_47, hG⟩ := hG; replace hG := bind_some hG; obtain ⟨v_50, hy_50, hG⟩ := hG; replace hG := bind_some hG; obtain ⟨v_53, hy_53, hG⟩ := hG; replace hG := bind_some hG; obtain ⟨v_54, hy_54, hG⟩ := hG; replace hG := ifB_cases hG; rcases hG with ⟨h_55, hG⟩ | ⟨h_55, hG⟩
      ·replace hG := ifB_cases hG; rcases hG with ⟨h_56, hG⟩ | ⟨h_56, hG⟩
       ·replace hG := ifB_cases hG; rcases hG with ⟨h_57, hG⟩ | ⟨h_57, hG⟩
        ·refine qb ?_; refine qn 2 [] f0 [(131, B v_43)] ?_; refine sb 131 (bt h_44) ?_; refine qn 6 [(1, 5, 2, 0), (0, 5, 3, 0), (0, 0, 0, 0)] (fc (eql_KHead v_20.Of v_8) f0) [(137, B (decide (v_20.Of = v_8)))] ?_; refine sb 137 (bt h_45) ?_; refine qn 6 [(1, 1, 2, 5)] f0 [(143, B (((v_20.Grow.length : Nat) : Int) == 1))] ?_; refine sb 143 (bt h_46) ?_; refine fx inf32 (gd' (RowC v_20.Grow_A v_20.Grow_c c_u64 tr v_20.Grow) 0) hy_47 fun b_48 o_49 hi_47 => ?_
         refine fx inf22 (gd' (RowC (some ⟨g_1, 0, none⟩) 2 KEntry.cells tr ([(⟨7, (⟨0, 0⟩ : KInterval)⟩ : KEntry), (⟨8, (⟨0, 0⟩ : KInterval)⟩ : KEntry)] : List KEntry)) 6) hy_50 fun b_51 o_52 hi_50 => ?_
         refine qn 8 [(1, 1, 4, 5), (0, 0, 0, 0), (0, 1, 1, 0), (1, 1, 6, 1), (0, 0, 0, 0), (0, 3, 0, 0)] (fc (hi_47 .i64) (fc (hi_50 .i64) f0)) [(147, U v_47), (151, .agg #[U v_50.Doc, I v_50.Stamp.Lo, I v_50.Stamp.Hi])] ?_; refine qc 152 (z_regulatorref25_Leaf F v_50 _ hy_53) hT trivial ?_; refine qc 153 (z_regulatorref24_Leaf F v_53 _ hy_54) hT trivial ?_; refine qn 3 [] f0 [(156, B (v_47 == v_54))] ?_; refine sb 156 (bt h_55) ?_; refine qn 3 [] f0 [(159, B v_24)] ?_; refine sb 159 (bt h_56) ?_; refine qn 4 [] f0 [(163, B (!v_27))] ?_; refine sb 163 (nt h_57) ?_; refine qa [] f0 [(0, B false)] ?_; refine tN ?_; exact fun a w S hK hE => ⟨false, S, hK.wk, hE.sel [], Option.some.inj hG⟩
        ·refine qb ?_; refine qn 2 [] f0 [(131, B v_43)] ?_; refine sb 131 (bt h_44) ?_; refine qn 6 [(1, 5, 2, 0), (0, 5, 3, 0), (0, 0, 0, 0)] (fc (eql_KHead v_20.Of v_8) f0) [(137, B (decide (v_20.Of = v_8)))] ?_; refine sb 137 (bt h_45) ?_; refine qn 6 [(1, 1, 2, 5)] f0 [(143, B (((v_20.Grow.length : Nat) : Int) == 1))] ?_; refine sb 143 (bt h_46) ?_; refine fx inf32 (gd' (RowC v_20.Grow_A v_20.Grow_c c_u64 tr v_20.Grow) 0) hy_47 fun b_48 o_49 hi_47 => ?_
         refine fx inf22 (gd' (RowC (some ⟨g_1, 0, none⟩) 2 KEntry.cells tr ([(⟨7, (⟨0, 0⟩ : KInterval)⟩ : KEntry), (⟨8, (⟨0, 0⟩ : KInterval)⟩ : KEntry)] : List KEntry)) 6) hy_50 fun b_51 o_52 hi_50 => ?_
         refine qn 8 [(1, 1, 4, 5), (0, 0, 0, 0), (0, 1, 1, 0), (1, 1, 6, 1), (0, 0, 0, 0), (0, 3, 0, 0)] (fc (hi_47 .i64) (fc (hi_50 .i64) f0)) [(147, U v_47), (151, .agg #[U v_50.Doc, I v_50.Stamp.Lo, I v_50.Stamp.Hi])] ?_; refine qc 152 (z_regulatorref25_Leaf F v_50 _ hy_53) hT trivial ?_; refine qc 153 (z_regulatorref24_Leaf F v_53 _ hy_54) hT trivial ?_; refine qn 3 [] f0 [(156, B (v_47 == v_54))] ?_; refine sb 156 (bt h_55) ?_; refine qn 3 [] f0 [(159, B v_24)] ?_; refine sb 159 (bt h_56) ?_; refine qn 4 [] f0 [(163, B (!v_27))] ?_; refine sb 163 (nf h_57) ?_; refine qa [] f0 [(0, B v_29)] ?_; refine tN ?_; exact fun a w S hK hE => ⟨v_29, S, hK.wk, hE.sel [], Option.some.inj hG⟩
       ·refine qb ?_; refine qn 2 [] f0 [(131, B v_43)] ?_; refine sb 131 (bt h_44) ?_; refine qn 6 [(1, 5, 2, 0), (0, 5, 3, 0), (0, 0, 0, 0)] (fc (eql_KHead v_20.Of v_8) f0) [(137, B (decide (v_20.Of = v_8)))] ?_; refine sb 137 (bt h_45) ?_; refine qn 6 [(1, 1, 2, 5)] f0 [(143, B (((v_20.Grow.length : Nat) : Int) == 1))] ?_; refine sb 143 (bt h_46) ?_; refine fx inf32 (gd' (RowC v_20.Grow_A v_20.Grow_c c_u64 tr v_20.Grow) 0) hy_47 fun b_48 o_49 hi_47 => ?_
        refine fx inf22 (gd' (RowC (some ⟨g_1, 0, none⟩) 2 KEntry.cells tr ([(⟨7, (⟨0, 0⟩ : KInterval)⟩ : KEntry), (⟨8, (⟨0, 0⟩ : KInterval)⟩ : KEntry)] : List KEntry)) 6) hy_50 fun b_51 o_52 hi_50 => ?_
        refine qn 8 [(1, 1, 4, 5), (0, 0, 0, 0), (0, 1, 1, 0), (1, 1, 6, 1), (0, 0, 0, 0), (0, 3, 0, 0)] (fc (hi_47 .i64) (fc (hi_50 .i64) f0)) [(147, U v_47), (151, .agg #[U v_50.Doc, I v_50.Stamp.Lo, I v_50.Stamp.Hi])] ?_; refine qc 152 (z_regulatorref25_Leaf F v_50 _ hy_53) hT trivial ?_; refine qc 153 (z_regulatorref24_Leaf F v_53 _ hy_54) hT trivial ?_; refine qn 3 [] f0 [(156, B (v_47 == v_54))] ?_; refine sb 156 (bt h_55) ?_; refine qn 3 [] f0 [(159, B v_24)] ?_; refine sb 159 (bf h_56) ?_; refine qa [] f0 [(0, B false)] ?_; refine tN ?_; exact fun a w S hK hE => ⟨false, S, hK.wk, hE.sel [], Option.some.inj hG⟩
      ·refine qb ?_; refine qn 2 [] f0 [(131, B v_43)] ?_; refine sb 131 (bt h_44) ?_; refine qn 6 [(1, 5, 2, 0), (0, 5, 3, 0), (0, 0, 0, 0)] (fc (eql_KHead v_20.Of v_8) f0) [(137, B (decide (v_20.Of = v_8)))] ?_; refine sb 137 (bt h_45) ?_; refine qn 6 [(1, 1, 2, 5)] f0 [(143, B (((v_20.Grow.length : Nat) : Int) == 1))] ?_; refine sb 143 (bt h_46) ?_; refine fx inf32 (gd' (RowC v_20.Grow_A v_20.Grow_c c_u64 tr v_20.Grow) 0) hy_47 fun b_48 o_49 hi_47 => ?_
       refine fx inf22 (gd' (RowC (some ⟨g_1, 0, none⟩) 2 KEntry.cells tr ([(⟨7, (⟨0, 0⟩ : KInterval)⟩ : KEntry), (⟨8, (⟨0, 0⟩ : KInterval)⟩ : KEntry)] : List KEntry)) 6) hy_50 fun b_51 o_52 hi_50 => ?_
       refine qn 8 [(1, 1, 4, 5), (0, 0, 0, 0), (0, 1, 1, 0), (1, 1, 6, 1), (0, 0, 0, 0), (0, 3, 0, 0)] (fc (hi_47 .i64) (fc (hi_50 .i64) f0)) [(147, U v_47), (151, .agg #[U v_50.Doc, I v_50.Stamp.Lo, I v_50.Stamp.Hi])] ?_; refine qc 152 (z_regulatorref25_Leaf F v_50 _ hy_53) hT trivial ?_; refine qc 153 (z_regulatorref24_Leaf F v_53 _ hy_54) hT trivial ?_; refine qn 3 [] f0 [(156, B (v_47 == v_54))] ?_; refine sb 156 (bf h_55) ?_; refine qa [] f0 [(0, B false)] ?_; refine tN ?_; exact fun a w S hK hE => ⟨false, S, hK.wk, hE.sel [], Option.some.inj hG⟩
     ·refine qb ?_; refine qn 2 [] f0 [(131, B v_43)] ?_; refine sb 131 (bt h_44) ?_; refine qn 6 [(1, 5, 2, 0), (0, 5, 3, 0), (0, 0, 0, 0)] (fc (eql_KHead v_20.Of v_8) f0) [(137, B (decide (v_20.Of = v_8)))] ?_; refine sb 137 (bt h_45) ?_; refine qn 6 [(1, 1, 2, 5)] f0 [(143, B (((v_20.Grow.length : Nat) : Int) == 1))] ?_; refine sb 143 (bf h_46) ?_; refine qa [] f0 [(0, B false)] ?_; refine tN ?_; exact fun a w S hK hE => ⟨false, S, hK.wk, hE.sel [], Option.some.inj hG⟩
    ·refine qb ?_; refine qn 2 [] f0 [(131, B v_43)] ?_; refine sb 131 (bt h_44) ?_; refine qn 6 [(1, 5, 2, 0), (0, 5, 3, 0), (0, 0, 0, 0)] (fc (eql_KHead v_20.Of v_8) f0) [(137, B (decide (v_20.Of = v_8)))] ?_; refine sb 137 (bf h_45) ?_; refine qa [] f0 [(0, B false)] ?_; refine tN ?_; exact fun a w S hK hE => ⟨false, S, hK.wk, hE.sel [], Option.some.inj hG⟩
   ·refine qb ?_; refine qn 2 [] f0 [(131, B v_43)] ?_; refine sb 131 (bf h_44) ?_; refine qa [] f0 [(0, B false)] ?_; refine tN ?_; exact fun a w S hK hE => ⟨false, S, hK.wk, hE.sel [], Option.some.inj hG⟩
  ·rintro a w ⟨v_59, hJ⟩; refine hJ.go fun ho_ => ?_
   clear hJ; subst ho_; replace hG := hG_58; refine kR ?_; obtain rfl := Option.some.inj hG; exact rt []
end Go.Proofs.YtiijddjfiojfaaaDoor
namespace Go.Proofs.YtiijddjfiojfaaaDoor
open Go.RowKit Go.Maps
def G_regulatorlaw26_CrossFinds (F : Nat) (p_0 : KOffice) (p_1 : KOffice) (p_2 : KHead) (p_3 : KHead) (p_4 : KHead) : Option (Bool) :=
  Option.bind (G_regulatorlaw26_head F ) (fun v_6 =>
  Option.bind (G_regulatorlaw26_few F p_0 p_1) (fun v_7 =>
  ifB (v_7)
    (Option.bind (G_cross_Witness F p_0 p_2 p_3 p_1 p_4) (un2 fun v_9 v_10 =>
    Option.bind (ifB ((v_10 == 0))
        (some false)
        (some (!(v_10 == 4))) : Option (Bool)) (fun (v_14 : Bool) => 
      ifB (v_14)
        (Option.bind (ifB (v_6)
            (some ((IntKind.i64.wrap (((v_9.Grow.length : Nat) : Int) + ((v_9.By.Path.length : Nat) : Int))) == 0))
            (some false) : Option (Bool)) (fun (v_18 : Bool) => 
          some v_18))
        (Option.bind (Option.bind (iter (σ := Int × Int) (ρ := Int) (un2 fun (v_37 : Int) (v_38 : Int) => 
              (ifB (decide (v_38 ≥ 0))
                (Option.bind (Option.bind (ixI p_1.Entries v_38) (fun v_41 =>
                  Option.bind (G_cross_Digest F p_3) (fun v_44 =>
                  ifB ((v_41.Doc == v_44))
                    (some v_38)
                    (some v_37))) : Option (Int)) (fun (v_47 : Int) => 
                  some (.inl (v_47, IntKind.i64.wrap (v_38 - 1)))))
                (some (.inr v_37)) : Option ((Int × Int) ⊕ Int))) F ((-1), IntKind.i64.wrap ((min p_4.Size ((p_1.Entries.length : Nat) : Int)) - 1))) (fun (v_48 : Int) => 
            some v_48) : Option (Int)) (fun (v_50 : Int) => 
          ifB ((v_10 == 4))
            (Option.bind (ifB (v_6)
                (some (decide (v_50 < 0)))
                (some false) : Option (Bool)) (fun (v_54 : Bool) => 
              some v_54))
            (Option.bind (ifB (v_6)
                (ifB ((v_9.By.Index == v_50))
                  (ifB (decide (v_50 ≥ 0))
                    (ifB (decide (v_9.By.Head = p_4))
                      (some (decide (v_9.Of = p_3)))
                      (some false))
                    (some false))
                  (some false))
                (some false) : Option (Bool)) (fun (v_60 : Bool) => 
              some v_60)))))))
    (some v_6)))
set_option maxRecDepth 100000 in
set_option maxHeartbeats 16000000 in
theorem z_regulatorlaw26_CrossFinds (F : Nat) (p_0 : KOfficeL) (p_1 : KOfficeL) (p_2 : KHead) (p_3 : KHead) (p_4 : KHead) (r : Bool) (hG : G_regulatorlaw26_CrossFinds F p_0.p p_1.p p_2 p_3 p_4 = some r) :
  Cf Tryd.prog 3 [.agg #[I p_0.ID, .slice p_0.Entries_A p_0.Entries.length p_0.Entries_c], .agg #[I p_1.ID, .slice p_1.Entries_A p_1.Entries.length p_1.Entries_c], .agg #[I p_2.Office, I p_2.Size, U p_2.Root, I p_2.Sig.C, I p_2.Sig.S], .agg #[I p_3.Office, I p_3.Size, U p_3.Root, I p_3.Sig.C, I p_3.Sig.S], .agg #[I p_4.Office, I p_4.Size, U p_4.Root, I p_4.Sig.C, I p_4.Sig.S]] [KOfficeL.ok p_0, KOfficeL.ok p_1] (B r) := by
 unfold G_regulatorlaw26_CrossFinds at hG; refine fi Tryd.func3 rfl rfl (mc KOfficeL.mv (mc KOfficeL.mv m0)) fun S0 w0 hT => ?_
 refine sq ?_; refine rg ?_; refine l1 ?_; refine nw 5 vp [I p_0.ID, .slice p_0.Entries_A p_0.Entries.length p_0.Entries_c] 24 fun g_1 => ?_
 refine l1 ?_; refine nw 6 vp [I p_1.ID, .slice p_1.Entries_A p_1.Entries.length p_1.Entries_c] 24 fun g_2 => ?_
 refine l1 ?_; refine nw 7 vp [I p_2.Office, I p_2.Size, U p_2.Root, I p_2.Sig.C, I p_2.Sig.S] 29 fun g_3 => ?_
 refine l1 ?_; refine nw 8 vp [I p_3.Office, I p_3.Size, U p_3.Root, I p_3.Sig.C, I p_3.Sig.S] 29 fun g_4 => ?_
 refine l1 ?_; refine nw 9 vp [I p_4.Office, I p_4.Size, U p_4.Root, I p_4.Sig.C, I p_4.Sig.S] 29 fun g_5 => ?_
 refine ra [] f0 [] ?_; refine tN ?_; refine sq ?_; replace hG := bind_some hG; obtain ⟨v_6, hy_6, hG⟩ := hG; refine rg ?_; refine l1 ?_; refine cl 16 (z_regulatorlaw26_head F  _ hy_6) hT trivial ?_; refine ra [] f0 [(11, B v_6)] ?_; refine tN ?_; refine sq ?_; refine sq ?_; replace hG := bind_some hG; obtain ⟨v_7, hy_7, hG⟩ := hG; refine rg ?_; refine rn 2 [(0, 2, 4, 0), (0, 2, 3, 0)] f0 [(17, .agg #[I p_0.ID, .slice p_0.Entries_A p_0.Entries.length p_0.Entries_c]), (18, .agg #[I p_1.ID, .slice p_1.Entries_A p_1.Entries.length p_1.Entries_c])] ?_; refine l1 ?_; refine cl 19 (z_regulatorlaw26_few F p_0 p_1 _ hy_7) hT ⟨(gi 5).a, (gi 6).a, trivial⟩ ?_; refine ra [] f0 [(20, B (!v_7))] ?_; refine tN ?_; rcases ifB_cases hG with ⟨h_8, hG⟩ | ⟨h_8, hG⟩
 ·refine sb 20 (nt h_8) ?_; refine cf ?_; refine kS ?_; refine tN ?_; refine sq ?_; replace hG := bind_some hG; obtain ⟨⟨v_9o, v_10⟩, hy_9, hG⟩ := hG; refine rg ?_; refine rn 5 [(0, 2, 4, 0), (0, 5, 2, 0), (0, 5, 1, 0), (0, 2, 3, 0), (0, 5, 0, 0)] f0 [(23, .agg #[I p_0.ID, .slice p_0.Entries_A p_0.Entries.length p_0.Entries_c]), (24, .agg #[I p_2.Office, I p_2.Size, U p_2.Root, I p_2.Sig.C, I p_2.Sig.S]), (25, .agg #[I p_3.Office, I p_3.Size, U p_3.Root, I p_3.Sig.C, I p_3.Sig.S]), (26, .agg #[I p_1.ID, .slice p_1.Entries_A p_1.Entries.length p_1.Entries_c]), (27, .agg #[I p_4.Office, I p_4.Size, U p_4.Root, I p_4.Sig.C, I p_4.Sig.S])] ?_; refine l1 ?_; refine cn 28 (z_cross_Witness F p_0 p_2 p_3 p_1 p_4 _ hy_9) hT (fun _ => (mc KHopL.mv m0)) ⟨(gi 5), (gi 6), trivial⟩ ?_; rintro v_9 hq_9; obtain rfl : v_9.p = v_9o := hq_9.symm; refine rn 3 [] f0 [(29, .agg #[I v_9.Of.Office, I v_9.Of.Size, U v_9.Of.Root, I v_9.Of.Sig.C, I v_9.Of.Sig.S, .slice v_9.Grow_A v_9.Grow.length v_9.Grow_c, I v_9.By.Head.Office, I v_9.By.Head.Size, U v_9.By.Head.Root, I v_9.By.Head.Sig.C, I v_9.By.Head.Sig.S, I v_9.By.Index, U v_9.By.Entry.Doc, I v_9.By.Entry.Stamp.Lo, I v_9.By.Entry.Stamp.Hi, .slice v_9.By.Path_A v_9.By.Path.length v_9.By.Path_c]), (30, I v_10)] ?_; refine l1 ?_; refine nw 12 vp [I 0, I 0, U 0, I 0, I 0, .slice none 0 0, I 0, I 0, U 0, I 0, I 0, I 0, U 0, I 0, I 0, .slice none 0 0] 40 fun g_11 => ?_
  refine l1 ?_; refine sr 0 g_11 [(0, I v_9.Of.Office), (1, I v_9.Of.Size), (2, U v_9.Of.Root), (3, I v_9.Of.Sig.C), (4, I v_9.Of.Sig.S), (5, .slice v_9.Grow_A v_9.Grow.length v_9.Grow_c), (6, I v_9.By.Head.Office), (7, I v_9.By.Head.Size), (8, U v_9.By.Head.Root), (9, I v_9.By.Head.Sig.C), (10, I v_9.By.Head.Sig.S), (11, I v_9.By.Index), (12, U v_9.By.Entry.Doc), (13, I v_9.By.Entry.Stamp.Lo), (14, I v_9.By.Entry.Stamp.Hi), (15, .slice v_9.By.Path_A v_9.By.Path.length v_9.By.Path_c)] ?_; refine ra [] f0 [(13, I v_10)] ?_; refine tN ?_; refine sq ?_; obtain ⟨o_13, hG, hG_13⟩ := bind_some hG; refine jn (fun K E a w => ∃ (v_14 : Bool), Js S0 w0 102 ([(36, B v_14)] ++ K) ([.dat (RowC v_9.Grow_A v_9.Grow_c c_u64 tr v_9.Grow), .dat (RowC v_9.By.Path_A v_9.By.Path_c c_u64 tr v_9.By.Path), .dat (RowC p_1.Entries_A p_1.Entries_c KEntry.cells tr p_1.Entries)] ++ se E [0, 2, 3, 5]) (v_14 = o_13) a w) ?_ ?_
  ·replace hG := ifB_cases hG; rcases hG with ⟨h_12, hG⟩ | ⟨h_12, hG⟩
   ·refine rg ?_; refine rn 3 [] f0 [(33, B (!(v_10 == 0)))] ?_; refine sb 33 (nt h_12) ?_; refine ra [] f0 [(36, B false)] ?_; refine tN ?_; refine fm (RowC v_9.Grow_A v_9.Grow_c c_u64 tr v_9.Grow) (gm (KHopL.ok v_9) 1 fun _ _ h => h.f_Grow) ?_; refine fm (RowC v_9.By.Path_A v_9.By.Path_c c_u64 tr v_9.By.Path) (gm (KHopL.ok v_9) 2 fun _ _ h => h.b_By.f_Path) ?_; refine fm (RowC p_1.Entries_A p_1.Entries_c KEntry.cells tr p_1.Entries) (gm (KOfficeL.ok p_1) 10 fun _ _ h => h.f_Entries) ?_; exact fun a w S hK hE => ⟨false, S, hK.wk, hE.sel [2, 1, 0, 3, 5, 6, 8], Option.some.inj hG⟩
   ·refine rg ?_; refine rn 3 [] f0 [(33, B (!(v_10 == 0)))] ?_; refine sb 33 (nf h_12) ?_; refine ra [] f0 [(36, B (!(v_10 == 4)))] ?_; refine tN ?_; refine fm (RowC v_9.Grow_A v_9.Grow_c c_u64 tr v_9.Grow) (gm (KHopL.ok v_9) 1 fun _ _ h => h.f_Grow) ?_; refine fm (RowC v_9.By.Path_A v_9.By.Path_c c_u64 tr v_9.By.Path) (gm (KHopL.ok v_9) 2 fun _ _ h => h.b_By.f_Path) ?_; refine fm (RowC p_1.Entries_A p_1.Entries_c KEntry.cells tr p_1.Entries) (gm (KOfficeL.ok p_1) 10 fun _ _ h => h.f_Entries) ?_; exact fun a w S hK hE => ⟨!(v_10 == 4), S, hK.wk, hE.sel [2, 1, 0, 3, 5, 6, 8], Option.some.inj hG⟩
  ·rintro a w ⟨v_14, hJ⟩; refine hJ.go fun ho_ => ?_
   clear hJ; subst ho_; replace hG := hG_13; rcases ifB_cases hG with ⟨h_15, hG⟩ | ⟨h_15, hG⟩
   ·refine sb 36 (bt h_15) ?_; refine ct ?_; obtain ⟨o_17, hG, hG_17⟩ := bind_some hG; refine jn (fun K E a w => ∃ (v_18 : Bool), Js S0 w0 102 ([(10, B v_18)] ++ K) (se E []) (v_18 = o_17) a w) ?_ ?_
    ·replace hG := ifB_cases hG; rcases hG with ⟨h_16, hG⟩ | ⟨h_16, hG⟩
     ·refine rg ?_; refine rn 2 [] f0 [(38, B v_6)] ?_; refine sb 38 (bt h_16) ?_; refine ra [(1, 1, 3, 5), (3, 1, 3, 15)] f0 [(10, B ((IntKind.i64.wrap (((v_9.Grow.length : Nat) : Int) + ((v_9.By.Path.length : Nat) : Int))) == 0))] ?_; refine tN ?_; exact fun a w S hK hE => ⟨((IntKind.i64.wrap (((v_9.Grow.length : Nat) : Int) + ((v_9.By.Path.length : Nat) : Int))) == 0), S, hK.wk, hE.sel [], Option.some.inj hG⟩
     ·refine rg ?_; refine rn 2 [] f0 [(38, B v_6)] ?_; refine sb 38 (bf h_16) ?_; refine ra [] f0 [(10, B false)] ?_; refine tN ?_; exact fun a w S hK hE => ⟨false, S, hK.wk, hE.sel [], Option.some.inj hG⟩
    ·rintro a w ⟨v_18, hJ⟩; refine hJ.go fun ho_ => ?_
     clear hJ; subst ho_; replace hG := hG_17; refine kR ?_; refine tR ?_; obtain rfl := Option.some.inj hG; exact rt []
   ·refine sb 36 (bf h_15) ?_; refine cf ?_; refine kS ?_; refine tN ?_; refine sq ?_; refine rg ?_; refine ra [] f0 [(14, I (-1))] ?_; refine tN ?_; obtain ⟨o_49, hG, hG_49⟩ := bind_some hG; refine jn (fun K E a w => ∃ (v_50 : Int), Js S0 w0 102 ([(14, I v_50)] ++ K) (se E [0, 1, 3, 4, 5]) (v_50 = o_49) a w) ?_ ?_
    ·refine sq ?_; refine rg ?_; refine rn 6 [(1, 1, 4, 1), (1, 1, 6, 1)] f0 [(54, I (if ((p_1.Entries.length : Nat) : Int) < p_4.Size then ((p_1.Entries.length : Nat) : Int) else p_4.Size))] ?_; refine sb 54 (v := I (if ((p_1.Entries.length : Nat) : Int) < p_4.Size then ((p_1.Entries.length : Nat) : Int) else p_4.Size)) (v' := I (min p_4.Size ((p_1.Entries.length : Nat) : Int))) (congrArg (Value.int .i64) (by omega)) ?_; refine ra [] f0 [(15, I (IntKind.i64.wrap ((min p_4.Size ((p_1.Entries.length : Nat) : Int)) - 1)))] ?_; refine tN ?_; refine bk ?_; obtain ⟨e_39, hL, hG_39⟩ := bind_some hG; clear hG; obtain ⟨stp_39, hs_39, hL⟩ := iter_gen hL; refine lp (fun K E n_ a w => ∃ (v_37 : Int), ∃ (v_38 : Int), Js S0 w0 102 ([(14, I v_37), (15, I v_38)] ++ K) (se E [0, 1, 2, 3, 4, 5, 6]) (iter stp_39 n_ (v_37, v_38) = some e_39) a w) F ?_ ?_
     ·exact fun a w S hK hE => ⟨(-1), IntKind.i64.wrap ((min p_4.Size ((p_1.Entries.length : Nat) : Int)) - 1), S, hK.wk, hE.sel [0, 1, 2, 3, 4, 5, 6], hL⟩
     ·clear hL; rintro n_39 a w ⟨v_37, v_38, hJ⟩; refine hJ.go fun hL => ?_
      clear hJ; obtain ⟨m_39, o_39, rfl, hG, hO1_39, hO2_39⟩ := iter_step hL; clear hL; rw [hs_39] at hG; refine sq ?_; refine sq ?_; refine rg ?_; refine ra [] f0 [(57, B (decide (v_38 ≥ 0)))] ?_; refine tN ?_; rcases ifB_cases hG with ⟨h_40, hG⟩ | ⟨h_40, hG⟩
      ·refine sb 57 (bt h_40) ?_; refine ct ?_; refine kS ?_; refine tN ?_; obtain ⟨o_46, hG, hG_46⟩ := bind_some hG; refine jn (fun K E a w => ∃ (v_47 : Int), Js S0 w0 102 ([(14, I v_47)] ++ K) (se E [0, 1, 2, 3, 4, 5, 6]) (v_47 = o_46) a w) ?_ ?_
       ·refine bk ?_; refine sq ?_; replace hG := bind_some hG; obtain ⟨v_41, hy_41, hG⟩ := hG; replace hG := bind_some hG; obtain ⟨v_44, hy_44, hG⟩ := hG; refine qb ?_; refine fx inf22 (gd' (RowC p_1.Entries_A p_1.Entries_c KEntry.cells tr p_1.Entries) 2) hy_41 fun b_42 o_43 hi_41 => ?_
        refine qn 7 [(1, 1, 7, 1), (1, 0, 0, 0), (1, 1, 0, 0), (0, 5, 6, 0)] (fc (hi_41 .i64) f0) [(65, U v_41.Doc), (66, .agg #[I p_3.Office, I p_3.Size, U p_3.Root, I p_3.Sig.C, I p_3.Sig.S])] ?_; refine qc 67 (z_cross_Digest F p_3 _ hy_44) hT trivial ?_; refine qa [] f0 [(68, B (v_41.Doc == v_44))] ?_; refine tN ?_; rcases ifB_cases hG with ⟨h_45, hG⟩ | ⟨h_45, hG⟩
        ·refine sb 68 (bt h_45) ?_; refine ct ?_; refine rg ?_; refine ra [] f0 [(14, I v_38)] ?_; refine hN ?_; refine tN ?_; exact fun a w S hK hE => ⟨v_38, S, hK.wk, hE.sel [1, 2, 3, 4, 5, 6, 7], Option.some.inj hG⟩
        ·refine sb 68 (bf h_45) ?_; refine cf ?_; refine kS ?_; refine hN ?_; refine tN ?_; exact fun a w S hK hE => ⟨v_37, S, hK.wk, hE.sel [1, 2, 3, 4, 5, 6, 7], Option.some.inj hG⟩
       ·rintro a w ⟨v_47, hJ⟩; refine hJ.go fun ho_ => ?_
        clear hJ; subst ho_; replace hG := hG_46; refine rg ?_; refine ra [] f0 [(15, I (IntKind.i64.wrap (v_38 - 1)))] ?_; refine tN ?_; exact fun a w S hK hE => ⟨m_39, ⟨v_47, IntKind.i64.wrap (v_38 - 1), S, hK.wk, hE.sel [0, 1, 2, 3, 4, 5, 6], hO1_39 _ (Option.some.inj hG).symm⟩, Nat.lt_succ_self _⟩
      ·refine sb 57 (bf h_40) ?_; refine cf ?_; refine kX ?_; refine tX ?_; refine tX ?_; have he_ := hO2_39 _ (Option.some.inj hG).symm; subst he_; replace hG := hG_39; refine hH ?_; refine tN ?_; exact fun a w S hK hE => ⟨v_37, S, hK.wk, hE.sel [0, 1, 3, 4, 5], Option.some.inj hG⟩
    ·rintro a w ⟨v_50, hJ⟩; refine hJ.go fun ho_ => ?_
     clear hJ; subst ho_; replace hG := hG_49; refine sq ?_; refine sq ?_; refine rg ?_; refine ra [] f0 [(71, B (v_10 == 4))] ?_; refine tN ?_; rcases ifB_cases hG with ⟨h_51, hG⟩ | ⟨h_51, hG⟩
     ·refine sb 71 (bt h_51) ?_; refine ct ?_; obtain ⟨o_53, hG, hG_53⟩ := bind_some hG; refine jn (fun K E a w => ∃ (v_54 : Bool), Js S0 w0 102 ([(10, B v_54)] ++ K) (se E []) (v_54 = o_53) a w) ?_ ?_
      ·replace hG := ifB_cases hG; rcases hG with ⟨h_52, hG⟩ | ⟨h_52, hG⟩
       ·refine rg ?_; refine rn 2 [] f0 [(73, B v_6)] ?_; refine sb 73 (bt h_52) ?_; refine ra [] f0 [(10, B (decide (v_50 < 0)))] ?_; refine tN ?_; exact fun a w S hK hE => ⟨decide (v_50 < 0), S, hK.wk, hE.sel [], Option.some.inj hG⟩
       ·refine rg ?_; refine rn 2 [] f0 [(73, B v_6)] ?_; refine sb 73 (bf h_52) ?_; refine ra [] f0 [(10, B false)] ?_; refine tN ?_; exact fun a w S hK hE => ⟨false, S, hK.wk, hE.sel [], Option.some.inj hG⟩
      ·rintro a w ⟨v_54, hJ⟩; refine hJ.go fun ho_ => ?_
       clear hJ; subst ho_; replace hG := hG_53; refine kR ?_; refine tR ?_; obtain rfl := Option.some.inj hG; exact rt []
     ·refine sb 71 (bf h_51) ?_; refine cf ?_; refine kS ?_; refine tN ?_; obtain ⟨o_59, hG, hG_59⟩ := bind_some hG; refine jn (fun K E a w => ∃ (v_60 : Bool), Js S0 w0 102 ([(10, B v_60)] ++ K) (se E []) (v_60 = o_59) a w) ?_ ?_
      ·replace hG := ifB_cases hG; rcases hG with ⟨h_55, hG⟩ | ⟨h_55, hG⟩
       ·replace hG := ifB_cases hG; rcases hG with ⟨h_56, hG⟩ | ⟨h_56, hG⟩
        ·replace hG := ifB_cases hG; rcases hG with ⟨h_57, hG⟩ | ⟨h_57, hG⟩
         ·replace hG := ifB_cases hG; rcases hG with ⟨h_58, hG⟩ | ⟨h_58, hG⟩
          ·refine rg ?_; refine rn 2 [] f0 [(78, B v_6)] ?_; refine sb 78 (bt h_55) ?_; refine rn 7 [(2, 1, 2, 11)] f0 [(85, B (v_9.By.Index == v_50))] ?_; refine sb 85 (bt h_56) ?_; refine rn 4 [] f0 [(89, B (decide (v_50 ≥ 0)))] ?_; refine sb 89 (bt h_57) ?_; refine rn 7 [(2, 5, 2, 6), (0, 5, 3, 0), (0, 0, 0, 0)] (fc (eql_KHead v_9.By.Head p_4) f0) [(96, B (decide (v_9.By.Head = p_4)))] ?_; refine sb 96 (bt h_58) ?_; refine ra [(1, 5, 2, 0), (0, 5, 4, 0), (0, 0, 0, 0)] (fc (eql_KHead v_9.Of p_3) f0) [(10, B (decide (v_9.Of = p_3)))] ?_; refine tN ?_; exact fun a w S hK hE => ⟨decide (v_9.Of = p_3), S, hK.wk, hE.sel [], Option.some.inj hG⟩
          ·refine rg ?_; refine rn 2 [] f0 [(78, B v_6)] ?_; refine sb 78 (bt h_55) ?_; refine rn 7 [(2, 1, 2, 11)] f0 [(85, B (v_9.By.Index == v_50))] ?_; refine sb 85 (bt h_56) ?_; refine rn 4 [] f0 [(89, B (decide (v_50 ≥ 0)))] ?_; refine sb 89 (bt h_57) ?_; refine rn 7 [(2, 5, 2, 6), (0, 5, 3, 0), (0, 0, 0, 0)] (fc (eql_KHead v_9.By.Head p_4) f0) [(96, B (decide (v_9.By.Head = p_4)))] ?_; refine sb 96 (bf h_58) ?_; refine ra [] f0 [(10, B false)] ?_; refine tN ?_; exact fun a w S hK hE => ⟨false, S, hK.wk, hE.sel [], Option.some.inj hG⟩
         ·refine rg ?_; refine rn 2 [] f0 [(78, B v_6)] ?_; refine sb 78 (bt h_55) ?_; refine rn 7 [(2, 1, 2, 11)] f0 [(85, B (v_9.By.Index == v_50))] ?_; refine sb 85 (bt h_56) ?_; refine rn 4 [] f0 [(89, B (decide (v_50 ≥ 0)))] ?_; refine sb 89 (bf h_57) ?_; refine ra [] f0 [(10, B false)] ?_; refine tN ?_; exact fun a w S hK hE => ⟨false, S, hK.wk, hE.sel [], Option.some.inj hG⟩
        ·refine rg ?_; refine rn 2 [] f0 [(78, B v_6)] ?_; refine sb 78 (bt h_55) ?_; refine rn 7 [(2, 1, 2, 11)] f0 [(85, B (v_9.By.Index == v_50))] ?_; refine sb 85 (bf h_56) ?_; refine ra [] f0 [(10, B false)] ?_; refine tN ?_; exact fun a w S hK hE => ⟨false, S, hK.wk, hE.sel [], Option.some.inj hG⟩
       ·refine rg ?_; refine rn 2 [] f0 [(78, B v_6)] ?_; refine sb 78 (bf h_55) ?_; refine ra [] f0 [(10, B false)] ?_; refine tN ?_; exact fun a w S hK hE => ⟨false, S, hK.wk, hE.sel [], Option.some.inj hG⟩
      ·rintro a w ⟨v_60, hJ⟩; refine hJ.go fun ho_ => ?_
       clear hJ; subst ho_; replace hG := hG_59; refine kR ?_; obtain rfl := Option.some.inj hG; exact rt []
 ·refine sb 20 (nf h_8) ?_; refine ct ?_; refine sq ?_; refine rg ?_; refine ra [] f0 [(10, B v_6)] ?_; refine tN ?_; refine kR ?_; refine tR ?_; obtain rfl := Option.some.inj hG; exact rt []
end Go.Proofs.YtiijddjfiojfaaaDoor
namespace Go.Proofs.YtiijddjfiojfaaaDoor
open Go.RowKit Go.Maps
end Go.Proofs.YtiijddjfiojfaaaDoor
namespace Go.Proofs.YtiijddjfiojfaaaDoor
open Go.RowKit Go.Maps
end Go.Proofs.YtiijddjfiojfaaaDoor
namespace Go.Proofs.YtiijddjfiojfaaaDoor
open Go.RowKit
def vI (i : KInterval) : Bool := decide (0 ≤ i.Lo ∧ i.Lo ≤ i.Hi ∧ i.Hi ≤ 3000000000000000)
theorem vI_p (F : Nat) (i : KInterval) : G_interval_Valid F i = some (vI i) := by
 unfold G_interval_Valid vI
 by_cases h1 : 0 ≤ i.Lo <;> by_cases h2 : i.Lo ≤ i.Hi <;> by_cases h3 : i.Hi ≤ 3000000000000000 <;> simp [ifB, h1, h2, h3]
theorem logged_p (F : Nat) (e : KEntry) : G_office_logged_formed F ⟨e⟩ = some (vI e.Stamp) := by unfold G_office_logged_formed; rw [vI_p]; rfl
theorem btw_p (F : Nat) (n a b : Int) : G_office_between F n a b = some (decide (a ≤ n ∧ n ≤ b)) := by
 unfold G_office_between
 by_cases h1 : a ≤ n <;> by_cases h2 : n ≤ b <;> simp [ifB, h1, h2]
theorem within_p (F : Nat) (n a : Int) : G_group_within F n a = some (decide (a ≤ n ∧ n < 1073741789)) := by
 unfold G_group_within
 by_cases h1 : a ≤ n <;> by_cases h2 : n < 1073741789 <;> simp [ifB, h1, h2]
def fH (h : KHead) : Bool := decide ((1 ≤ h.Office ∧ h.Office ≤ 16) ∧ (1 ≤ h.Size ∧ h.Size ≤ 4096) ∧ (0 ≤ h.Sig.C ∧ h.Sig.C < 1073741789) ∧ (0 ≤ h.Sig.S ∧ h.Sig.S < 1073741789))
theorem fH_p (F : Nat) (h : KHead) : G_office_formed F h = some (fH h) := by
 unfold G_office_formed fH; simp only [btw_p, ob_some]
 by_cases h1 : 1 ≤ h.Office ∧ h.Office ≤ 16 <;> by_cases h2 : 1 ≤ h.Size ∧ h.Size ≤ 4096 <;> by_cases h3 : 0 ≤ h.Sig.C ∧ h.Sig.C ≤ 1073741788 <;> by_cases h4 : 0 ≤ h.Sig.S ∧ h.Sig.S ≤ 1073741788 <;> simp [ifB, h1, h2, h3, h4] <;> omega
def msgF (h : KHead) : List Int := [h.Office, h.Size, IntKind.i64.wrap (Int.fdiv h.Root (2 ^ 32)), IntKind.i64.wrap (IntKind.u32.wrap h.Root)]
theorem msg_p (F : Nat) (h : KHead) : G_office_message F h = some (msgF h) := rfl
theorem low32 {n : Int} (h0 : 0 ≤ n) (h1 : n ≤ 18446744073709551615) : bits BinOp.and IntKind.u64 n 4294967295 = IntKind.u32.wrap n := by
 obtain ⟨k, rfl⟩ : ∃ k : Nat, n = k := ⟨n.toNat, by omega⟩; rw [IntKind.wrap_u32, show (4294967295 : Int) = ((4294967295 : Nat) : Int) from rfl, bits_and_u64_nat k 4294967295 (by omega) (by omega)]; have e : (k : Nat) &&& 4294967295 = k % 4294967296 := Nat.and_two_pow_sub_one_eq_mod k 32; rw [e]; omega
theorem xAt_le (X : Nat) : ∀ k, xAt X k ≤ X
 | 0 => Nat.le_refl _
 | k + 1 => by have := xAt_le X k; show xAt X k / 2 ≤ X; omega
theorem xAt_pow (X : Nat) : ∀ k, xAt X k = X / 2 ^ k
 | 0 => by show X = X / 1; omega
 | k + 1 => by
  show xAt X k / 2 = _
  rw [xAt_pow X k, Nat.div_div_eq_div_mul, Nat.pow_succ]
theorem xAt_end {X e : Nat} (h : X < 2 ^ e) : ∃ n, n ≤ e ∧ xAt X n = 0 ∧ ∀ k, k < n → 0 < xAt X k := by
 induction e with
 | zero => exact ⟨0, Nat.le_refl _, by show X = 0; simp at h; omega, fun k hk => absurd hk (Nat.not_lt_zero _)⟩
 | succ e ih =>
  rcases Nat.lt_or_ge X (2 ^ e) with h1 | h1
  ·obtain ⟨n, h2, h3, h4⟩ := ih h1; exact ⟨n, by omega, h3, h4⟩
  ·refine ⟨e + 1, Nat.le_refl _, by rw [xAt_pow, Nat.div_eq_of_lt h], fun k hk => ?_⟩; rw [xAt_pow]; exact Nat.div_pos (Nat.le_trans (Nat.pow_le_pow_right (by omega) (by omega)) h1) (Nat.two_pow_pos k)
theorem odd_test (n : Nat) (h : n < 9223372036854775808) : (bits BinOp.and IntKind.i64 ((n : Nat) : Int) 1 == 1) = decide (n % 2 = 1) := by
 rw [and_in h]
 by_cases hn : n % 2 = 1
 ·rw [hn]; rfl
 ·rw [show n % 2 = 0 by omega]; rfl
theorem pow_pn (A X : Nat) (hA : A < 2147483579) (hX : X < 2 ^ 62) {F : Nat} (hF : 64 ≤ F) : G_group_power F (A : Int) (X : Int) = some ((pw A X : Nat) : Int) := by
 obtain ⟨n, hn, h0, hp⟩ := xAt_end hX; unfold G_group_power; rw [show ((X : Int), (A : Int), (1 : Int)) = (fun k => (((xAt X k : Nat) : Int), ((aAt A k : Nat) : Int), ((oAt A X k : Nat) : Int))) 0 from rfl]; rw [iter_seq (fun k => (((xAt X k : Nat) : Int), ((aAt A k : Nat) : Int), ((oAt A X k : Nat) : Int))) n ((oAt A X n : Nat) : Int) ?_ ?_ (by omega)]
 ·simp only [ob_some]; rw [at_end h0]
 ·intro k hk; have hx := xAt_le X k; have hx2 : X < 9223372036854775808 := Nat.lt_of_lt_of_le hX (by decide); simp only [un3]; rw [show decide (((xAt X k : Nat) : Int) > 0) = true from decide_eq_true (by have := hp k hk; omega), ifB_t, odd_test _ (by omega), mul_in (aAt_lt hA k) (aAt_lt hA k), mod_in, shr_in]
  by_cases ho : xAt X k % 2 = 1
  ·rw [show decide (xAt X k % 2 = 1) = true from decide_eq_true ho, ifB_t, mul_in (oAt_lt A X k) (aAt_lt hA k), mod_in]; simp only [ob_some]; rw [oAt_odd ho]; rfl
  ·rw [show decide (xAt X k % 2 = 1) = false from decide_eq_false ho, ifB_f]; simp only [ob_some]; rw [oAt_even ho]; rfl
 ·simp only [un3]; rw [h0]; rfl
theorem pow_rn (A X : Nat) (hA : A < 2147483579) (hX : X < 2 ^ 62) {F : Nat} (hF : 64 ≤ F) : G_regulatorref06_Power F (A : Int) (X : Int) 2147483579 = some ((pw A X : Nat) : Int) := by
 obtain ⟨n, hn, h0, hp⟩ := xAt_end hX; unfold G_regulatorref06_Power; rw [show ((A : Int), (X : Int), (2147483579 : Int), (1 : Int)) = (fun k => (((aAt A k : Nat) : Int), ((xAt X k : Nat) : Int), (2147483579 : Int), ((oAt A X k : Nat) : Int))) 0 from rfl]; rw [iter_seq (fun k => (((aAt A k : Nat) : Int), ((xAt X k : Nat) : Int), (2147483579 : Int), ((oAt A X k : Nat) : Int))) n ((oAt A X n : Nat) : Int) ?_ ?_ (by omega)]
 ·simp only [ob_some]; rw [at_end h0]
 ·intro k hk; have hx := xAt_le X k; have hx2 : X < 9223372036854775808 := Nat.lt_of_lt_of_le hX (by decide); simp only [un4]; have hz : whenG (!((2147483579 : Int) == 0)) () = some () := rfl; have hodd : (Int.tmod ((xAt X k : Nat) : Int) 2 == 1) = decide (xAt X k % 2 = 1) := by
   rw [show Int.tmod ((xAt X k : Nat) : Int) 2 = ((xAt X k % 2 : Nat) : Int) from rfl]
   by_cases hn : xAt X k % 2 = 1
   ·rw [hn]; rfl
   ·rw [show xAt X k % 2 = 0 by omega]; rfl
  have hhalf : IntKind.i64.wrap (Int.tdiv ((xAt X k : Nat) : Int) 2) = ((xAt X k / 2 : Nat) : Int) := by
   rw [show Int.tdiv ((xAt X k : Nat) : Int) 2 = ((xAt X k / 2 : Nat) : Int) from rfl, IntKind.wrap_i64]; omega
  rw [show decide (((xAt X k : Nat) : Int) > 0) = true from decide_eq_true (by have := hp k hk; omega), ifB_t, hodd, hz, mul_in (aAt_lt hA k) (aAt_lt hA k), mod_in, hhalf]
  by_cases ho : xAt X k % 2 = 1
  ·rw [show decide (xAt X k % 2 = 1) = true from decide_eq_true ho, ifB_t, mul_in (oAt_lt A X k) (aAt_lt hA k), mod_in]; simp only [ob_some]; rw [oAt_odd ho]; rfl
  ·rw [show decide (xAt X k % 2 = 1) = false from decide_eq_false ho, ifB_f]; simp only [ob_some]; rw [oAt_even ho]; rfl
 ·simp only [un4]; rw [h0]; rfl
def memB (a : Int) : Bool := decide (0 < a ∧ a < 2147483579 ∧ pw a.toNat 1073741789 = 1)
theorem mem_p (a : Int) {F : Nat} (hF : 64 ≤ F) : G_group_Member F a = some (memB a) := by
 unfold G_group_Member memB
 by_cases h1 : 0 < a
 ·by_cases h2 : a < 2147483579
  ·have hp := pow_pn a.toNat 1073741789 (by omega) (by decide) hF; rw [show ((a.toNat : Nat) : Int) = a by omega, show ((1073741789 : Nat) : Int) = 1073741789 from rfl] at hp; rw [hp]
   by_cases h3 : pw a.toNat 1073741789 = 1 <;> simp [ifB, h1, h2, h3] <;> omega
  ·simp [ifB, h1, h2]
 ·simp [ifB, h1]
def pubB (a : Int) : Bool := memB a && !(a == 1)
theorem pub_p (a : Int) {F : Nat} (hF : 64 ≤ F) : G_office_isPublic F a = some (pubB a) := by
 unfold G_office_isPublic pubB; rw [mem_p a hF]; cases h : (a == 1) <;> simp [ifB]
end Go.Proofs.YtiijddjfiojfaaaDoor
namespace Go.Proofs.YtiijddjfiojfaaaDoor
open Go.ChangeShapes Go.WideShapes Go.ChangeAt Go.RowKit Go.Deep
theorem own : ownKnob Tryd.prog.godebug = none := by kernel_rfl
theorem laidOut : laidOutB Tryd.prog = true := by kernel_rfl
section
variable {H : Type} {enc : TypeId × Value → H}
theorem trodAll_below {P : Program} (hl : laidOutB P = true) {W W' : World} (hb : Below W.heap.size W W') : ∀ {ts : List TypeId} {vs : List Value} {ds : List (DataW H)} {ps : List MemPlace},
  (∀ t ∈ ts, P.readableRec t = true ∧ t < P.types.size) → DataW.TrodAll enc P W 0 (fun _ => true) true ts vs ds ps → (∀ x ∈ ps, x.block < W.heap.size) →
  DataW.TrodAll enc P W' 0 (fun b => decide (b < W.heap.size)) true ts vs ds ps
 | [], vs, ds, ps, _, h, _ => by
  obtain ⟨rfl, rfl, rfl⟩ := trodAll_nil h; rfl
 | t :: ts, vs, ds, ps, hr, h, hlt => by
  obtain ⟨v, vs', d, ds', p, q, rfl, rfl, rfl, h1, h2⟩ := trodAll_cons h; have h0 := hr t (by simp); exact trodAll_cons_mk (Below.trod hl h0.1 h0.2 h1 hb (fun x hx => hlt x (by simp [hx]))) (trodAll_below hl hb (fun t ht => hr t (by simp [ht])) h2 (fun x hx => hlt x (by simp [hx])))
theorem post_true {P : Program} {fn : Func} {s : ChangeSpec} {W W' : World} {args : Array Value} {ds gs : List (DataW H)} {before : List MemPlace} {b : TypeId} (hl : laidOutB P = true)
  (hr : ∀ t ∈ fn.params.toList, P.readableRec t = true ∧ t < P.types.size) (hb4 : P.underlying b = some .bool) (hrt : fn.resultTypes = #[b]) (hs : s.vars = [])
  (hW : DataW.Whole enc P fn.params.toList s.vars false W args.toList ds gs before) (hres : (s.fn H (ds ++ gs)).results = [.lit (.bool true)]) (hargs : (s.fn H (ds ++ gs)).args = ds) (hvs : (s.fn H (ds ++ gs)).vars = [])
  (hb : Below W.heap.size W W') : s.post enc P fn false true false false W args (.bool true) W' := by
 have hW' := hW; obtain ⟨p, q, hA, hV, rfl, _, _⟩ := hW; rw [hs] at hV; obtain ⟨rfl, rfl⟩ := trodVars_none hV; refine ⟨_, _, _, [], p, [], hW', ?_, ?_, ?_, hb.frame _, fun h => by cases h⟩
 ·rw [hres, hrt]; exact trodAll_mk1 (shut_bool hb4 true)
 ·rw [hargs]; exact trodAll_below hl hb hr hA (fun x hx => by simpa using hW'.lt x (by simp [hx]))
 ·rw [hvs, hs]; rfl
end
end Go.Proofs.YtiijddjfiojfaaaDoor
namespace Go.Proofs.YtiijddjfiojfaaaDoor
open Go.ChangeShapes Go.WideShapes Go.ChangeAt Go.RowKit Go.Deep
def inKd (k : IntKind) (n : Int) : Prop := (Lit.int k n).wf = true
theorem inKd_i64 {n : Int} (h : inKd .i64 n) : -9223372036854775808 ≤ n ∧ n ≤ 9223372036854775807 := by
 have : IntKind.i64.min ≤ n ∧ n ≤ IntKind.i64.max := by simpa [inKd, Lit.wf] using h
 rwa [show IntKind.i64.min = -9223372036854775808 by decide, show IntKind.i64.max = 9223372036854775807 by decide] at this
theorem inKd_u64 {n : Int} (h : inKd .u64 n) : 0 ≤ n ∧ n ≤ 18446744073709551615 := by
 have : IntKind.u64.min ≤ n ∧ n ≤ IntKind.u64.max := by simpa [inKd, Lit.wf] using h
 rwa [show IntKind.u64.min = 0 by decide, show IntKind.u64.max = 18446744073709551615 by decide] at this
theorem rowS_all {w : World} {A : Option Addr} {xs : List Value} (h : Rd w A xs) : RowS (fun g => g < w.heap.size) w A xs := ⟨h, fun hn => by obtain ⟨b, o, e, hb, _⟩ := h hn; exact ⟨b, o, e, hb⟩⟩
theorem choose_ltK {α : Type} [Inhabited α] {n : Nat} {p : Nat → α → Prop} (h : ∀ i, i < n → ∃ v, p i v) : ∃ V : Nat → α, ∀ i, i < n → p i (V i) := by
 have h' : ∀ i, ∃ v, i < n → p i v := fun i => by
  rcases Nat.lt_or_ge i n with hi | hi
  ·obtain ⟨v, hv⟩ := h i hi; exact ⟨v, fun _ => hv⟩
  ·exact ⟨default, fun h => absurd h (Nat.not_lt.2 hi)⟩
 exact ⟨fun i => Classical.choose (h' i), fun i => Classical.choose_spec (h' i)⟩
theorem fl_get {α : Type} (f : α → List Value) (m : Nat) (hm : ∀ x, (f x).length = m) : ∀ (l : List α) (k j : Nat) (hk : k < l.length), j < m → (l.flatMap f)[k * m + j]? = (f l[k])[j]?
 | [], k, j, hk, _ => absurd hk (Nat.not_lt_zero _)
 | x :: l, 0, j, _, hj => by
  rw [List.flatMap_cons, Nat.zero_mul, Nat.zero_add, List.getElem?_append_left (by rw [hm]; exact hj)]; rfl
 | x :: l, k + 1, j, hk, hj => by
  rw [List.flatMap_cons, List.getElem?_append_right (by rw [hm, Nat.add_mul]; omega), hm]; have := fl_get f m hm l k j (by simpa using hk) hj; rw [← show (k + 1) * m + j - m = k * m + j from by rw [Nat.add_mul]; omega] at this; exact this
theorem cell_ltK {w : World} {b o : Nat} {u : Value} (h : w.cell? ⟨b, o, none⟩ = some u) : b < w.heap.size := World.block_lt_of_cell? w ⟨b, o, none⟩ h
section
variable {α : Type} {f : α → List Value} {m : Nat} {w : World}
theorem rd_mk {b o : Nat} {l : List α} (hm : ∀ x, (f x).length = m) (h0 : 0 < m) (h : ∀ i (hi : i < l.length) j, j < m → w.cell? ⟨b, o + i * m + j, none⟩ = (f l[i])[j]?) : Rd w (some ⟨b, o, none⟩) (l.flatMap f) := fun hne => by
 have hl : 0 < l.length := by
  cases l with
  | nil => exact absurd rfl hne
  | cons _ _ => simp
 have hlen := fl_len f m hm l; refine ⟨b, o, rfl, ?_, fun j u hu => ?_⟩
 ·have h1 := h 0 hl 0 h0; have h2 : (f l[0])[0]? = some ((f l[0])[0]'(by rw [hm]; exact h0)) := List.getElem?_eq_getElem _; rw [h2] at h1; exact cell_ltK h1
 ·have hj : j < l.length * m := by
   have := (List.getElem?_eq_some_iff.1 hu).1
   rwa [hlen] at this
  have hi : j / m < l.length := Nat.div_lt_of_lt_mul (by rw [Nat.mul_comm]; exact hj); have hr : j % m < m := Nat.mod_lt _ h0; have he : j / m * m + j % m = j := by rw [Nat.mul_comm]; exact Nat.div_add_mod _ _
  have hg := fl_get f m hm l (j / m) (j % m) hi hr; rw [he] at hg; rw [hg] at hu; have := h (j / m) hi (j % m) hr; rw [Nat.add_assoc, he] at this; rw [this]; exact hu
end
section
variable {H : Type} {enc : TypeId × Value → H} {w : World} {base : Nat} {spare : Nat → Bool} {held : Bool}
theorem trod_rowS {α : Type} [Inhabited α] (f : α → List Value) {m : Nat} (h0 : 0 < m) (hm : ∀ x, (f x).length = m) {T E : TypeId} (hu : Tryd.prog.underlying T = some (.slice E)) (hc : Tryd.prog.cellsOf E = m) (Q : α → Prop)
  (hE : ∀ n cs x, DataW.trod enc Tryd.prog w base spare held n E cs = some x → ∃ v, cs = f v ∧ Q v) {fuel : Nat} {cs : List Value} {x : DataW H × List MemPlace} (h : DataW.trod enc Tryd.prog w base spare held fuel T cs = some x) :
  ∃ (A : Option Addr) (c : Nat) (l : List α), cs = [.slice A l.length c] ∧ l.length ≤ c ∧ c ≤ maxLen ∧ Rd w A (l.flatMap f) ∧ ∀ v ∈ l, Q v := by
 obtain ⟨d, p⟩ := x; rcases open_slice hu h with ⟨hcs, _⟩ | ⟨a, len, cap, mm, n, D, Pl, hcs, _, hl, hmx, hmm, _, hx⟩
 ·exact ⟨none, 0, [], hcs, Nat.le_refl _, Nat.zero_le _, Rd.nil _ _, fun v hv => by cases hv⟩
 ·have hlm : len ≤ mm := by rw [hmm]; split <;> omega
  have hex : ∀ i, i < len → ∃ v : α, (∀ j, j < m → w.cell? ((a.add (i * m)).add j) = (f v)[j]?) ∧ Q v := fun i hi => by
   obtain ⟨cs', h1, h2⟩ := hx i (by omega); rw [hc] at h1; obtain ⟨v, rfl, hq⟩ := hE _ _ _ h2; exact ⟨v, (World.cells?_some h1).2.2, hq⟩
  obtain ⟨V, hV⟩ := choose_ltK hex; refine ⟨some a, cap, (List.range len).map V, by rw [hcs]; simp, by simpa using hl, hmx, ?_, ?_⟩
  ·rcases Nat.eq_zero_or_pos len with h00 | h00
   ·subst h00; exact Rd.nil _ _
   obtain ⟨b, o, spot⟩ := a; have hs : spot = none := by
    have := (hV 0 h00).1 0 h0; simp only [Nat.zero_mul, Addr.add, if_true] at this; have h2 : (f (V 0))[0]? = some ((f (V 0))[0]'(by rw [hm]; exact h0)) := List.getElem?_eq_getElem _; rw [h2] at this; exact World.cell?_spot this
   subst hs; refine rd_mk hm h0 fun i hi j hj => ?_
   have hi' : i < len := by simpa using hi
   have e : ∀ j, (((⟨b, o, none⟩ : Addr).add (i * m)).add j) = ⟨b, o + i * m + j, none⟩ := fun j => by rw [add_addr, add_addr]
   have hcc := (hV i hi').1 j hj; rw [e] at hcc; simp only [List.getElem_map, List.getElem_range]; exact hcc
  ·intro v hv; obtain ⟨i, hi, rfl⟩ := List.mem_map.1 hv; exact (hV i (List.mem_range.1 hi)).2
end
end Go.Proofs.YtiijddjfiojfaaaDoor
namespace Go.Proofs.YtiijddjfiojfaaaDoor
open Go.ChangeShapes Go.WideShapes Go.ChangeAt Go.RowKit Go.Deep
section
variable {H : Type} {enc : TypeId × Value → H} {w : World} {base : Nat} {spare : Nat → Bool} {held : Bool}
set_option maxRecDepth 10000
theorem trod_int {n : Nat} {cs : List Value} {x : DataW H × List MemPlace} (h : DataW.trod enc Tryd.prog w base spare held n 3 cs = some x) : ∃ v : Int, cs = c_i64 v ∧ inKd .i64 v := by
 obtain ⟨a, e, _, hw⟩ := DataW.trod_int Tryd.underlying3 h; exact ⟨a, e, hw⟩
theorem cl_int : Tryd.prog.cellsOf 3 = 1 := by kernel_rfl
theorem trod_uint64 {n : Nat} {cs : List Value} {x : DataW H × List MemPlace} (h : DataW.trod enc Tryd.prog w base spare held n 25 cs = some x) : ∃ v : Int, cs = c_u64 v ∧ inKd .u64 v := by
 obtain ⟨a, e, _, hw⟩ := DataW.trod_int Tryd.underlying25 h; exact ⟨a, e, hw⟩
theorem cl_uint64 : Tryd.prog.cellsOf 25 = 1 := by kernel_rfl
theorem cl_api_Interval : Tryd.prog.cellsOf 34 = 2 := by kernel_rfl
structure KInterval.rng (x : KInterval) : Prop where
 r_Lo : inKd .i64 x.Lo
 r_Hi : inKd .i64 x.Hi
theorem tf_api_Interval : ∃ f0 f1 : Field, Tryd.prog.underlying 34 = some (.struct #[f0, f1]) ∧ (f0.offset = 0 ∧ f0.type = 3) ∧ (f1.offset = 1 ∧ f1.type = 3) := ⟨_, _, Tryd.underlying34, ⟨by kernel_rfl, by kernel_rfl⟩, ⟨by kernel_rfl, by kernel_rfl⟩⟩
theorem trod_api_Interval {n : Nat} {cs : List Value} {x : DataW H × List MemPlace} (h : DataW.trod enc Tryd.prog w base spare held n 34 cs = some x) : ∃ v : KInterval, cs = v.cells ∧ KInterval.rng v := by
 obtain ⟨f0, f1, hu, ⟨o0, t0⟩, ⟨o1, t1⟩⟩ := tf_api_Interval; obtain ⟨xs, n', _, _, hlen, hxl, hf⟩ := DataW.trod_struct hu h; rw [cl_api_Interval] at hlen
 match cs, hlen with
 | [c0, c1], _ =>
  have q0 := hf 0 f0 rfl; obtain ⟨y0, hy0⟩ : ∃ y, xs[0]? = some y := ⟨_, List.getElem?_eq_getElem (by rw [hxl]; exact (by decide : 0 < 2))⟩; rw [hy0, o0, t0, cl_int] at q0; obtain ⟨v0, e0, hg0⟩ := trod_int q0; replace e0 : [c0] = [I v0] := e0; simp only [List.cons.injEq, and_true] at e0; obtain rfl := e0; have q1 := hf 1 f1 rfl; obtain ⟨y1, hy1⟩ : ∃ y, xs[1]? = some y := ⟨_, List.getElem?_eq_getElem (by rw [hxl]; exact (by decide : 1 < 2))⟩; rw [hy1, o1, t1, cl_int] at q1; obtain ⟨v1, e1, hg1⟩ := trod_int q1; replace e1 : [c1] = [I v1] := e1; simp only [List.cons.injEq, and_true] at e1; obtain rfl := e1; exact ⟨⟨v0, v1⟩, rfl, ⟨hg0, hg1⟩⟩
theorem cl_api_Entry : Tryd.prog.cellsOf 36 = 3 := by kernel_rfl
structure KEntry.rng (x : KEntry) : Prop where
 r_Doc : inKd .u64 x.Doc
 r_Stamp : KInterval.rng x.Stamp
theorem tf_api_Entry : ∃ f0 f1 : Field, Tryd.prog.underlying 36 = some (.struct #[f0, f1]) ∧ (f0.offset = 0 ∧ f0.type = 25) ∧ (f1.offset = 1 ∧ f1.type = 34) := ⟨_, _, Tryd.underlying36, ⟨by kernel_rfl, by kernel_rfl⟩, ⟨by kernel_rfl, by kernel_rfl⟩⟩
theorem trod_api_Entry {n : Nat} {cs : List Value} {x : DataW H × List MemPlace} (h : DataW.trod enc Tryd.prog w base spare held n 36 cs = some x) : ∃ v : KEntry, cs = v.cells ∧ KEntry.rng v := by
 obtain ⟨f0, f1, hu, ⟨o0, t0⟩, ⟨o1, t1⟩⟩ := tf_api_Entry; obtain ⟨xs, n', _, _, hlen, hxl, hf⟩ := DataW.trod_struct hu h; rw [cl_api_Entry] at hlen
 match cs, hlen with
 | [c0, c1, c2], _ =>
  have q0 := hf 0 f0 rfl; obtain ⟨y0, hy0⟩ : ∃ y, xs[0]? = some y := ⟨_, List.getElem?_eq_getElem (by rw [hxl]; exact (by decide : 0 < 2))⟩; rw [hy0, o0, t0, cl_uint64] at q0; obtain ⟨v0, e0, hg0⟩ := trod_uint64 q0; replace e0 : [c0] = [U v0] := e0; simp only [List.cons.injEq, and_true] at e0; obtain rfl := e0; have q1 := hf 1 f1 rfl; obtain ⟨y1, hy1⟩ : ∃ y, xs[1]? = some y := ⟨_, List.getElem?_eq_getElem (by rw [hxl]; exact (by decide : 1 < 2))⟩; rw [hy1, o1, t1, cl_api_Interval] at q1; obtain ⟨v1, e1, hg1⟩ := trod_api_Interval q1; replace e1 : [c1, c2] = [I v1.Lo, I v1.Hi] := e1; simp only [List.cons.injEq, and_true] at e1; obtain ⟨rfl, rfl⟩ := e1; exact ⟨⟨v0, v1⟩, rfl, ⟨hg0, hg1⟩⟩
instance : Inhabited KEntry := ⟨⟨0, ⟨0, 0⟩⟩⟩
theorem trod_Sl_api_Entry {n : Nat} {cs : List Value} {x : DataW H × List MemPlace} (h : DataW.trod enc Tryd.prog w base spare held n 22 cs = some x) :
  ∃ (A : Option Addr) (c : Nat) (l : List KEntry), cs = [.slice A l.length c] ∧ RowC A c KEntry.cells tr l (fun g => g < w.heap.size) w ∧ (∀ y ∈ l, KEntry.rng y) := by
 obtain ⟨A, c, l, h1, h2, h3, h4, h5⟩ := trod_rowS KEntry.cells (m := 3) (by decide) (fun _ => rfl) Tryd.underlying22 cl_api_Entry (fun v : KEntry => KEntry.rng v) (fun _ _ _ hx => trod_api_Entry hx) h; exact ⟨A, c, l, h1, ⟨rowS_all h4, h2, fun _ _ => trivial⟩, h5⟩
theorem cl_Sl_api_Entry : Tryd.prog.cellsOf 22 = 1 := by kernel_rfl
theorem cl_api_Office : Tryd.prog.cellsOf 24 = 2 := by kernel_rfl
structure KOffice.rng (x : KOffice) : Prop where
 r_ID : inKd .i64 x.ID
 r_Entries : (fun l : List KEntry => ∀ y ∈ l, KEntry.rng y) x.Entries
theorem tf_api_Office : ∃ f0 f1 : Field, Tryd.prog.underlying 24 = some (.struct #[f0, f1]) ∧ (f0.offset = 0 ∧ f0.type = 3) ∧ (f1.offset = 1 ∧ f1.type = 22) := ⟨_, _, Tryd.underlying24, ⟨by kernel_rfl, by kernel_rfl⟩, ⟨by kernel_rfl, by kernel_rfl⟩⟩
theorem trod_api_Office {n : Nat} {cs : List Value} {x : DataW H × List MemPlace} (h : DataW.trod enc Tryd.prog w base spare held n 24 cs = some x) : ∃ v : KOfficeL, cs = v.cells ∧ KOfficeL.ok v (fun g => g < w.heap.size) w ∧ KOffice.rng v.p := by
 obtain ⟨f0, f1, hu, ⟨o0, t0⟩, ⟨o1, t1⟩⟩ := tf_api_Office; obtain ⟨xs, n', _, _, hlen, hxl, hf⟩ := DataW.trod_struct hu h; rw [cl_api_Office] at hlen
 match cs, hlen with
 | [c0, c1], _ =>
  have q0 := hf 0 f0 rfl; obtain ⟨y0, hy0⟩ : ∃ y, xs[0]? = some y := ⟨_, List.getElem?_eq_getElem (by rw [hxl]; exact (by decide : 0 < 2))⟩; rw [hy0, o0, t0, cl_int] at q0; obtain ⟨v0, e0, hg0⟩ := trod_int q0; replace e0 : [c0] = [I v0] := e0; simp only [List.cons.injEq, and_true] at e0; obtain rfl := e0; have q1 := hf 1 f1 rfl; obtain ⟨y1, hy1⟩ : ∃ y, xs[1]? = some y := ⟨_, List.getElem?_eq_getElem (by rw [hxl]; exact (by decide : 1 < 2))⟩; rw [hy1, o1, t1, cl_Sl_api_Entry] at q1; obtain ⟨A1, k1, v1, e1, hr1, hg1⟩ := trod_Sl_api_Entry q1; replace e1 : [c1] = [.slice A1 v1.length k1] := e1; simp only [List.cons.injEq, and_true] at e1; obtain rfl := e1; exact ⟨⟨v0, A1, k1, v1⟩, rfl, ⟨hr1⟩, ⟨hg0, hg1⟩⟩
theorem opn_api_Office {r : Reach} {b0 : Nat} {v : Value} {d : DataW H} {p : List MemPlace} (hv : Value.okWide Tryd.prog w r b0 24 v) (h : DataW.Trod enc Tryd.prog w base spare held 24 v d p) : ∃ x : KOfficeL, v = .agg #[I x.ID, .slice x.Entries_A x.Entries.length x.Entries_c] ∧ KOfficeL.ok x (fun g => g < w.heap.size) w ∧ KOffice.rng x.p := by
 obtain ⟨f0, f1, hu, _⟩ := tf_api_Office; obtain ⟨cs, rfl, hsz⟩ := okWide_struct hu hv; obtain ⟨fuel, hf⟩ := h; obtain ⟨x, hx, hw⟩ := trod_api_Office hf; refine ⟨x, congrArg Value.agg ?_, hw⟩; have : cs.toList = x.cells := by simpa [Value.cells] using hx
 rw [← Array.toArray_toList (xs := cs), this]; rfl
theorem cl_api_Sig : Tryd.prog.cellsOf 27 = 2 := by kernel_rfl
structure KSig.rng (x : KSig) : Prop where
 r_C : inKd .i64 x.C
 r_S : inKd .i64 x.S
theorem tf_api_Sig : ∃ f0 f1 : Field, Tryd.prog.underlying 27 = some (.struct #[f0, f1]) ∧ (f0.offset = 0 ∧ f0.type = 3) ∧ (f1.offset = 1 ∧ f1.type = 3) := ⟨_, _, Tryd.underlying27, ⟨by kernel_rfl, by kernel_rfl⟩, ⟨by kernel_rfl, by kernel_rfl⟩⟩
theorem trod_api_Sig {n : Nat} {cs : List Value} {x : DataW H × List MemPlace} (h : DataW.trod enc Tryd.prog w base spare held n 27 cs = some x) : ∃ v : KSig, cs = v.cells ∧ KSig.rng v := by
 obtain ⟨f0, f1, hu, ⟨o0, t0⟩, ⟨o1, t1⟩⟩ := tf_api_Sig; obtain ⟨xs, n', _, _, hlen, hxl, hf⟩ := DataW.trod_struct hu h; rw [cl_api_Sig] at hlen
 match cs, hlen with
 | [c0, c1], _ =>
  have q0 := hf 0 f0 rfl; obtain ⟨y0, hy0⟩ : ∃ y, xs[0]? = some y := ⟨_, List.getElem?_eq_getElem (by rw [hxl]; exact (by decide : 0 < 2))⟩; rw [hy0, o0, t0, cl_int] at q0; obtain ⟨v0, e0, hg0⟩ := trod_int q0; replace e0 : [c0] = [I v0] := e0; simp only [List.cons.injEq, and_true] at e0; obtain rfl := e0; have q1 := hf 1 f1 rfl; obtain ⟨y1, hy1⟩ : ∃ y, xs[1]? = some y := ⟨_, List.getElem?_eq_getElem (by rw [hxl]; exact (by decide : 1 < 2))⟩; rw [hy1, o1, t1, cl_int] at q1; obtain ⟨v1, e1, hg1⟩ := trod_int q1; replace e1 : [c1] = [I v1] := e1; simp only [List.cons.injEq, and_true] at e1; obtain rfl := e1; exact ⟨⟨v0, v1⟩, rfl, ⟨hg0, hg1⟩⟩
theorem cl_api_Head : Tryd.prog.cellsOf 29 = 5 := by kernel_rfl
structure KHead.rng (x : KHead) : Prop where
 r_Office : inKd .i64 x.Office
 r_Size : inKd .i64 x.Size
 r_Root : inKd .u64 x.Root
 r_Sig : KSig.rng x.Sig
theorem tf_api_Head : ∃ f0 f1 f2 f3 : Field, Tryd.prog.underlying 29 = some (.struct #[f0, f1, f2, f3]) ∧ (f0.offset = 0 ∧ f0.type = 3) ∧ (f1.offset = 1 ∧ f1.type = 3) ∧ (f2.offset = 2 ∧ f2.type = 25) ∧ (f3.offset = 3 ∧ f3.type = 27) := ⟨_, _, _, _, Tryd.underlying29, ⟨by kernel_rfl, by kernel_rfl⟩, ⟨by kernel_rfl, by kernel_rfl⟩, ⟨by kernel_rfl, by kernel_rfl⟩, ⟨by kernel_rfl, by kernel_rfl⟩⟩
theorem trod_api_Head {n : Nat} {cs : List Value} {x : DataW H × List MemPlace} (h : DataW.trod enc Tryd.prog w base spare held n 29 cs = some x) : ∃ v : KHead, cs = v.cells ∧ KHead.rng v := by
 obtain ⟨f0, f1, f2, f3, hu, ⟨o0, t0⟩, ⟨o1, t1⟩, ⟨o2, t2⟩, ⟨o3, t3⟩⟩ := tf_api_Head; obtain ⟨xs, n', _, _, hlen, hxl, hf⟩ := DataW.trod_struct hu h; rw [cl_api_Head] at hlen
 match cs, hlen with
 | [c0, c1, c2, c3, c4], _ =>
  have q0 := hf 0 f0 rfl; obtain ⟨y0, hy0⟩ : ∃ y, xs[0]? = some y := ⟨_, List.getElem?_eq_getElem (by rw [hxl]; exact (by decide : 0 < 4))⟩; rw [hy0, o0, t0, cl_int] at q0; obtain ⟨v0, e0, hg0⟩ := trod_int q0; replace e0 : [c0] = [I v0] := e0; simp only [List.cons.injEq, and_true] at e0; obtain rfl := e0; have q1 := hf 1 f1 rfl; obtain ⟨y1, hy1⟩ : ∃ y, xs[1]? = some y := ⟨_, List.getElem?_eq_getElem (by rw [hxl]; exact (by decide : 1 < 4))⟩; rw [hy1, o1, t1, cl_int] at q1; obtain ⟨v1, e1, hg1⟩ := trod_int q1; replace e1 : [c1] = [I v1] := e1; simp only [List.cons.injEq, and_true] at e1; obtain rfl := e1; have q2 := hf 2 f2 rfl; obtain ⟨y2, hy2⟩ : ∃ y, xs[2]? = some y := ⟨_, List.getElem?_eq_getElem (by rw [hxl]; exact (by decide : 2 < 4))⟩; rw [hy2, o2, t2, cl_uint64] at q2; obtain ⟨v2, e2, hg2⟩ := trod_uint64 q2; replace e2 : [c2] = [U v2] := e2; simp only [List.cons.injEq, and_true] at e2; obtain rfl := e2; have q3 := hf 3 f3 rfl; obtain ⟨y3, hy3⟩ : ∃ y, xs[3]? = some y := ⟨_, List.getElem?_eq_getElem (by rw [hxl]; exact (by decide : 3 < 4))⟩; rw [hy3, o3, t3, cl_api_Sig] at q3; obtain ⟨v3, e3, hg3⟩ := trod_api_Sig q3; replace e3 : [c3, c4] = [I v3.C, I v3.S] := e3; simp only [List.cons.injEq, and_true] at e3; obtain ⟨rfl, rfl⟩ := e3; exact ⟨⟨v0, v1, v2, v3⟩, rfl, ⟨hg0, hg1, hg2, hg3⟩⟩
theorem opn_api_Head {r : Reach} {b0 : Nat} {v : Value} {d : DataW H} {p : List MemPlace} (hv : Value.okWide Tryd.prog w r b0 29 v) (h : DataW.Trod enc Tryd.prog w base spare held 29 v d p) : ∃ x : KHead, v = .agg #[I x.Office, I x.Size, U x.Root, I x.Sig.C, I x.Sig.S] ∧ KHead.rng x := by
 obtain ⟨f0, f1, f2, f3, hu, _⟩ := tf_api_Head; obtain ⟨cs, rfl, hsz⟩ := okWide_struct hu hv; obtain ⟨fuel, hf⟩ := h; obtain ⟨x, hx, hw⟩ := trod_api_Head hf; refine ⟨x, congrArg Value.agg ?_, hw⟩; have : cs.toList = x.cells := by simpa [Value.cells] using hx
 rw [← Array.toArray_toList (xs := cs), this]; rfl
structure K2_uint64.rng (x : K2_uint64) : Prop where
 r_f0 : inKd .u64 x.f0
 r_f1 : inKd .u64 x.f1
end
end Go.Proofs.YtiijddjfiojfaaaDoor
namespace Go.Proofs.YtiijddjfiojfaaaDoor
open Go.RowKit
theorem wrap_i64_rng (n : Int) : -9223372036854775808 ≤ IntKind.i64.wrap n ∧ IntKind.i64.wrap n ≤ 9223372036854775807 := by rw [IntKind.wrap_i64]; omega
theorem wrap_u64_rng (n : Int) : 0 ≤ IntKind.u64.wrap n ∧ IntKind.u64.wrap n ≤ 18446744073709551615 := by rw [IntKind.wrap_u64]; omega
theorem sumB_rng (l : List Int) : 0 ≤ sumB l ∧ sumB l ≤ 18446744073709551615 := by
 unfold sumB; have key : ∀ (l : List Int) (b : Int), 0 ≤ b ∧ b ≤ 18446744073709551615 → 0 ≤ l.foldl sumF b ∧ l.foldl sumF b ≤ 18446744073709551615 := by
  intro l
  induction l with
  | nil => intro b h; exact h
  | cons x l ih => intro b _; exact ih _ (wrap_u64_rng _)
 exact key l _ (by omega)
theorem dnext {d : Int} {l : List Int} (h : inI l) (h1 : 1 ≤ l.length) (h2 : l.length ≤ 10000) {F : Nat} (hF : 64 ≤ F) : G_digest_Next F d l = some (nextF d l) := by
 obtain ⟨F', rfl⟩ : ∃ F', F = F' + 1 := ⟨F - 1, by omega⟩; exact whenG_t (decide_eq_true ⟨h, h2, h1⟩)
theorem dints {l : List Int} (h : inI l) (h2 : l.length ≤ 10000) {F : Nat} (hF : 64 ≤ F) : G_digest_Ints F l = some (intsF l) := by
 obtain ⟨F', rfl⟩ : ∃ F', F = F' + 1 := ⟨F - 1, by omega⟩; exact whenG_t (decide_eq_true ⟨h, by omega⟩)
def leafE (e : KEntry) : Int := nextF e.Doc [e.Stamp.Lo, e.Stamp.Hi]
theorem inI_two {a b : Int} (ha : inKd .i64 a) (hb : inKd .i64 b) : inI [a, b] := by
 intro z hz; rcases List.mem_cons.1 hz with rfl | hz
 ·exact inKd_i64 ha
 ·rcases List.mem_cons.1 hz with rfl | hz
  ·exact inKd_i64 hb
  ·cases hz
theorem leaf_p {e : KEntry} (h : e.rng) {F : Nat} (hF : 64 ≤ F) : G_office_Leaf F e = some (leafE e) := by
 unfold G_office_Leaf G_office_logged_value; rw [dnext (inI_two h.r_Stamp.r_Lo h.r_Stamp.r_Hi) (by simp) (by simp) hF]; rfl
def eAt (l : List KEntry) (k : Nat) : KEntry := l.getD k ⟨0, ⟨0, 0⟩⟩
theorem eAt_get {l : List KEntry} {k : Nat} (h : k < l.length) : l[k]? = some (eAt l k) := by
 unfold eAt; rw [List.getD_eq_getElem?_getD, List.getElem?_eq_getElem h]; rfl
def okAt (l : List KEntry) (k : Nat) : Bool := vI (eAt l k).Stamp && !(decide (0 < k) && decide ((eAt l k).Stamp.Lo < (eAt l (k - 1)).Stamp.Lo))
def ordB (l : List KEntry) : Bool := frB (okAt l) l.length 0
def vO (o : KOffice) : Bool := ordB o.Entries && (decide (1 ≤ o.ID ∧ o.ID ≤ 16) && decide (o.Entries.length ≤ 4096))
theorem pred_w {k : Nat} (h : 0 < k) (h2 : k < 1000000) : IntKind.i64.wrap ((k : Int) - 1) = ((k - 1 : Nat) : Int) := by rw [IntKind.wrap_i64]; omega
theorem valid_p {o : KOffice} (hl : o.Entries.length ≤ 50) {F : Nat} (hF : 64 ≤ F) : G_office_Valid F o = some (vO o) := by
 unfold G_office_Valid; rw [iter_all o.Entries.length (okAt o.Entries) (.inl ()) (.inr ()) ?_ ?_ (by omega)]
 ·unfold vO; rw [btw_p]
  show _ = some (ordB o.Entries && _)
  unfold ordB; cases frB (okAt o.Entries) o.Entries.length 0 with
  | true =>
   simp only [if_true, ob_some, Sum.elim_inl, Bool.true_and]
   by_cases h1 : 1 ≤ o.ID ∧ o.ID ≤ 16 <;> by_cases h2 : o.Entries.length ≤ 4096 <;> simp [ifB, h1, h2] <;> omega
  | false => rfl
 ·rw [show decide ((o.Entries.length : Int) < ((o.Entries.length : Nat) : Int)) = false from decide_eq_false (by omega)]; rfl
 ·intro k hk; rw [show decide ((k : Int) < ((o.Entries.length : Nat) : Int)) = true from decide_eq_true (by omega), ifB_t, ixI_nat, eAt_get hk]; simp only [ob_some, logged_p]; unfold okAt; rw [w64_nat (by omega)]; cases hv : vI (eAt o.Entries k).Stamp with
  | false => rfl
  | true =>
   rw [ifB_t]
   by_cases h0 : 0 < k
   ·rw [show decide ((k : Int) > 0) = true from decide_eq_true (by omega), ifB_t, pred_w h0 (by omega), ixI_nat, eAt_get (by omega)]; simp only [ob_some]; rw [show decide (0 < k) = true from decide_eq_true h0]; cases decide ((eAt o.Entries k).Stamp.Lo < (eAt o.Entries (k - 1)).Stamp.Lo) <;> rfl
   ·rw [show decide ((k : Int) > 0) = false from decide_eq_false (by omega), ifB_f, show decide (0 < k) = false from decide_eq_false h0]; rfl
def valsF (o : KOffice) (n : Nat) : List Int := (o.Entries.take n).map leafE
theorem take_map_succ {l : List KEntry} {k : Nat} (h : k < l.length) : (l.take (k + 1)).map leafE = (l.take k).map leafE ++ [leafE (eAt l k)] := by
 rw [List.take_add_one, eAt_get h]
 simp
theorem coll_p {l : List KEntry} (hr : ∀ e ∈ l, e.rng) (hl : l.length ≤ 60) {F : Nat} (hF : 64 ≤ F) : iter (σ := Int × (List Int)) (ρ := (List Int)) (un2 fun (v_43 : Int) (v_44 : (List Int)) => 
          (ifB (decide (v_43 < ((l.length : Nat) : Int)))
            (Option.bind (ixI l v_43) (fun v_52 =>
            Option.bind (G_office_Leaf F v_52) (fun v_59 =>
            Option.bind (apG 8 v_44 ([v_59] : List Int)) (fun v_61 =>
            some (.inl (IntKind.i64.wrap (v_43 + 1), v_61))))))
            (some (.inr v_44)) : Option ((Int × (List Int)) ⊕ (List Int)))) F (0, ([] : List Int)) = some (l.map leafE) := by
  rw [show ((0 : Int), ([] : List Int)) = (fun k : Nat => ((k : Int), (l.take k).map leafE)) 0 from rfl]
  rw [iter_seq (fun k : Nat => ((k : Int), (l.take k).map leafE)) l.length (l.map leafE) ?_ ?_ (by omega)]
  · intro k hk
    simp only [un2]
    rw [show decide ((k : Int) < ((l.length : Nat) : Int)) = true from decide_eq_true (by omega), ifB_t, ixI_nat, eAt_get hk]
    simp only [ob_some]
    rw [leaf_p (hr _ (List.mem_of_getElem? (eAt_get hk))) hF]
    simp only [ob_some]
    rw [apG_ok (by simp only [List.length_map, List.length_take, List.length_cons, List.length_nil]; omega), w64_nat (by omega), take_map_succ hk]
    rfl
  · simp only [un2]
    rw [show decide ((l.length : Int) < ((l.length : Nat) : Int)) = false from decide_eq_false (by omega), List.take_length]
    rfl
theorem root_p {o : KOffice} (hr : o.rng) {n : Nat} (hn : n ≤ o.Entries.length) (hl : n ≤ 60) {F : Nat} (hF : 64 ≤ F) : G_office_root F o (n : Int) = some (rootS (valsF o n)) := by
 obtain ⟨F', rfl⟩ : ∃ F', F = F' + 1 := ⟨F - 1, by omega⟩; unfold G_office_root; rw [show (0 : Int) = ((0 : Nat) : Int) from rfl, slI_ok (Nat.zero_le n) hn]; simp only [ob_some, List.drop_zero]; rw [show ((0 : Nat) : Int) = 0 from rfl, coll_p (fun e he => hr.r_Entries e (List.mem_of_mem_take he)) (by rw [List.length_take]; omega) hF]; rfl
theorem valsF_len {o : KOffice} {n : Nat} (hn : n ≤ o.Entries.length) : (valsF o n).length = n := by unfold valsF; rw [List.length_map, List.length_take]; omega
end Go.Proofs.YtiijddjfiojfaaaDoor
namespace Go.Proofs.YtiijddjfiojfaaaDoor
open Go.RowKit
def chF (b p : Int) (m : List Int) : Int := intsF ([b, p] ++ m) % 1073741789
theorem ch_w (l : List Int) : IntKind.i64.wrap (Int.tmod (intsF l) 1073741789) = intsF l % 1073741789 := by
 have := sumB_rng (textL l); unfold intsF; rw [Int.tmod_eq_emod_of_nonneg this.1, w64_id (by omega) (by omega)]
theorem ch_p {b p : Int} {m : List Int} (h : inI ([b, p] ++ m)) (hl : m.length ≤ 100) {F : Nat} (hF : 64 ≤ F) : G_group_challenge F b p m = some (chF b p m) := by
 unfold G_group_challenge; rw [apG_ok (by simp; omega)]; simp only [ob_some]; rw [dints h (by simp; omega) hF]; simp only [ob_some]; rw [ch_w]; rfl
theorem inI_app {a b : List Int} (ha : inI a) (hb : inI b) : inI (a ++ b) := fun z hz => by
 rcases List.mem_append.1 hz with hz | hz
 ·exact ha z hz
 ·exact hb z hz
theorem inI_pair {a b : Int} (ha : -9223372036854775808 ≤ a ∧ a ≤ 9223372036854775807) (hb : -9223372036854775808 ≤ b ∧ b ≤ 9223372036854775807) : inI [a, b] := by
 intro z hz; rcases List.mem_cons.1 hz with rfl | hz
 ·exact ha
 ·rcases List.mem_cons.1 hz with rfl | hz
  ·exact hb
  ·cases hz
theorem inI_msg {h : KHead} (h1 : inKd .i64 h.Office) (h2 : inKd .i64 h.Size) : inI (msgF h) := by
 show inI ([h.Office, h.Size] ++ [_, _])
 exact inI_app (inI_pair (inKd_i64 h1) (inKd_i64 h2)) (inI_pair (wrap_i64_rng _) (wrap_i64_rng _))
def isK (n : Int) : Bool := decide (1 ≤ n ∧ n < 1073741789)
theorem pow4 (n : Int) (h0 : 0 ≤ n) (h1 : n ≤ 1073741789) {F : Nat} (hF : 64 ≤ F) : G_group_power F 4 n = some ((pw 4 n.toNat : Nat) : Int) ∧ G_regulatorref06_Power F 4 n 2147483579 = some ((pw 4 n.toNat : Nat) : Int) := by
  have hX : n.toNat < 2 ^ 62 := by have : (2 : Nat) ^ 62 = 4611686018427387904 := by decide
                                   omega
  have h1' := pow_pn 4 n.toNat (by decide) hX hF
  have h2' := pow_rn 4 n.toNat (by decide) hX hF
  rw [show ((n.toNat : Nat) : Int) = n by omega] at h1' h2'
  exact ⟨h1', h2'⟩
def begS (pub : Int) (s : KSig) : Nat := pw 4 s.S.toNat * pw pub.toNat (1073741789 - s.C.toNat) % 2147483579
def expB (s : KSig) : Bool := decide ((0 ≤ s.C ∧ s.C < 1073741789) ∧ (0 ≤ s.S ∧ s.S < 1073741789))
def verS (pub : Int) (s : KSig) (m : List Int) : Bool × Int :=
 if memB pub && expB s then (decide (chF (begS pub s : Int) pub m = s.C), 0) else (false, 1)
theorem memB_spec {a : Int} (h : memB a = true) : 0 < a ∧ a < 2147483579 ∧ pw a.toNat 1073741789 = 1 := of_decide_eq_true h
theorem mem_rng {a : Int} (h : memB a = true) : -9223372036854775808 ≤ a ∧ a ≤ 9223372036854775807 := by have := memB_spec h; omega
theorem beg_w (x y : Nat) (hx : x < 2147483579) (hy : y < 2147483579) : Int.tmod (IntKind.i64.wrap ((x : Int) * (y : Int))) 2147483579 = ((x * y % 2147483579 : Nat) : Int) := by rw [mul_in hx hy, mod_in]
theorem ver_p {pub : Int} {s : KSig} {m : List Int} (hm : inI m) (hl : m.length ≤ 100) {F : Nat} (hF : 64 ≤ F) : G_group_Verify F pub s m = some (verS pub s m) := by
  unfold G_group_Verify verS expB
  rw [mem_p pub hF]
  simp only [within_p, ob_some]
  cases hb : memB pub with
  | false => simp only [ifB_f, ifB_t, ob_some, Bool.false_and, Bool.false_eq_true, if_false]
  | true =>
    obtain ⟨m1, m2, m3⟩ := memB_spec hb
    by_cases h1 : 0 ≤ s.C ∧ s.C < 1073741789
    · by_cases h2 : 0 ≤ s.S ∧ s.S < 1073741789
      · simp only [h1, h2, and_self, decide_true, ifB_t, ob_some, Bool.not_true, ifB_f, Bool.and_self, if_true]
        have hp := pow_pn pub.toNat (1073741789 - s.C.toNat) (by omega) (by have : (2 : Nat) ^ 62 = 4611686018427387904 := by decide
                                                                            omega) hF
        rw [show ((pub.toNat : Nat) : Int) = pub by omega, show (((1073741789 - s.C.toNat : Nat)) : Int) = IntKind.i64.wrap (1073741789 - s.C) by rw [w64_id (by omega) (by omega)]; omega] at hp
        rw [(pow4 s.S (by omega) (by omega) hF).1, hp]
        simp only [ob_some]
        rw [beg_w _ _ (pw_lt _ _) (pw_lt _ _), ch_p (inI_app (inI_pair (by have := Nat.mod_lt (pw 4 s.S.toNat * pw pub.toNat (1073741789 - s.C.toNat)) (show 0 < 2147483579 by decide); omega) (mem_rng hb)) hm) hl hF]
        simp only [ob_some]
        congr 2
        rw [decide_eq_decide]
        constructor
        · intro h
          have := congrArg KSig.C h
          exact this.symm
        · intro h
          cases s
          simp only [KSig.mk.injEq, and_true]
          exact h.symm
      · simp only [h1, h2, and_self, and_false, decide_true, decide_false, ifB_t, ob_some, Bool.not_false, Bool.and_false, Bool.false_eq_true, if_false]
    · simp only [h1, false_and, decide_false, ifB_t, ifB_f, ob_some, Bool.and_false, Bool.false_eq_true, if_false]
def rightS (pub : Int) (h : KHead) : Bool × Int := if pubB pub && fH h then ((verS pub h.Sig (msgF h)).1, 0) else (false, 1)
theorem pub_mem' {a : Int} (h : pubB a = true) : memB a = true := by unfold pubB at h; simp at h; exact h.1
theorem fH_exp {h : KHead} (hh : fH h = true) : expB h.Sig = true := by
 have := of_decide_eq_true hh; exact decide_eq_true ⟨this.2.2.1, this.2.2.2⟩
theorem verS_ok {pub : Int} {s : KSig} {m : List Int} (h1 : memB pub = true) (h2 : expB s = true) : verS pub s m = (decide (chF (begS pub s : Int) pub m = s.C), 0) := by unfold verS; rw [h1, h2]; rfl
theorem right_p {pub : Int} {h : KHead} (h1 : inKd .i64 h.Office) (h2 : inKd .i64 h.Size) {F : Nat} (hF : 64 ≤ F) : G_office_Right F pub h = some (rightS pub h) := by
 unfold G_office_Right rightS; rw [pub_p pub hF]; simp only [fH_p, ob_some]; cases hp : pubB pub with
 | false => simp only [ifB_f, ifB_t, ob_some, Bool.false_and, Bool.false_eq_true, if_false]
 | true =>
  cases hh : fH h with
  | false => simp only [ifB_t, ob_some, Bool.not_false, Bool.and_false, Bool.false_eq_true, if_false]
  | true =>
   simp only [ifB_t, ob_some, Bool.not_true, ifB_f, Bool.and_self, if_true, msg_p]; rw [ver_p (inI_msg h1 h2) (by simp [msgF]) hF, verS_ok (pub_mem' hp) (fH_exp hh)]; rfl
end Go.Proofs.YtiijddjfiojfaaaDoor
namespace Go.Proofs.YtiijddjfiojfaaaDoor
open Go.RowKit
end Go.Proofs.YtiijddjfiojfaaaDoor
namespace Go.Proofs.YtiijddjfiojfaaaDoor
open Go.RowKit
theorem rootS_ok {l : List Int} (h1 : 1 ≤ l.length) (h2 : l.length ≤ 4096) : rootS l = (rootF l, 0) := by
 have hc : checkS l = 0 := by unfold checkS; rw [if_neg (by omega), if_neg (by omega)]
 unfold rootS; rw [if_neg (by simp [hc])]
theorem incS_ok {l : List Int} {i : Nat} (h : i < l.length) (h2 : l.length ≤ 4096) : incS l i = (inclF l i, 0) := by
 have hc : checkS l = 0 := by unfold checkS; rw [if_neg (by omega), if_neg (by omega)]
 unfold incS; rw [if_neg (by simp [hc]), if_neg (by omega), Int.toNat_natCast]
theorem extS_ok {l : List Int} {m : Nat} (h1 : 1 ≤ m) (h : m ≤ l.length) (h2 : l.length ≤ 4096) : extS l m = (extF l m true, 0) := by
 have hc : checkS l = 0 := by unfold checkS; rw [if_neg (by omega), if_neg (by omega)]
 unfold extS; rw [if_neg (by simp [hc]), if_neg (by omega), Int.toNat_natCast]
end Go.Proofs.YtiijddjfiojfaaaDoor
namespace Go.Proofs.YtiijddjfiojfaaaDoor
open Go.RowKit
end Go.Proofs.YtiijddjfiojfaaaDoor
namespace Go.Proofs.YtiijddjfiojfaaaDoor
open Go.RowKit
def zR : KReceipt := ⟨⟨0, 0, 0, ⟨0, 0⟩⟩, 0, ⟨0, ⟨0, 0⟩⟩, []⟩
def provS (o : KOffice) (h : KHead) (i : Int) : KReceipt × Int :=
 if vO o && (fH h && decide (h.Size ≤ o.Entries.length ∧ 0 ≤ i ∧ i < h.Size)) then
  (if decide (h.Office = o.ID ∧ h.Root = rootF (valsF o h.Size.toNat)) then (⟨h, i, eAt o.Entries i.toNat, inclF (valsF o h.Size.toNat) i.toNat⟩, 0) else (zR, 33))
 else (zR, 1)
theorem fH_size {h : KHead} (hh : fH h = true) : 1 ≤ h.Size ∧ h.Size ≤ 4096 := (of_decide_eq_true hh).2.1
theorem pinc_p (l : List Int) (i : Int) {F : Nat} (hF : 64 ≤ F) : G_tree_Include F l i = some (incS l i) := by
 obtain ⟨F', rfl⟩ : ∃ F', F = F' + 1 := ⟨F - 1, by omega⟩; rfl
theorem prove_p {o : KOffice} (hr : o.rng) (hl : o.Entries.length ≤ 50) {h : KHead} {i : Int} {F : Nat} (hF : 64 ≤ F) : G_office_Prove F o h i = some (provS o h i) := by
 unfold G_office_Prove provS; rw [valid_p hl hF]; simp only [ob_some, fH_p]; cases hv : vO o with
 | false => simp only [ifB_f, ifB_t, ob_some, Bool.false_and, Bool.false_eq_true, if_false]; rfl
 | true =>
  cases hf : fH h with
  | false => simp only [ifB_f, ifB_t, ob_some, Bool.false_and, Bool.and_false, Bool.false_eq_true, if_false]; rfl
  | true =>
   obtain ⟨s1, s2⟩ := fH_size hf; obtain ⟨k, hk⟩ : ∃ k : Nat, h.Size = k := ⟨h.Size.toNat, by omega⟩; simp only [ifB_t, ob_some, Bool.true_and, hk]; rw [hk] at s1 s2
   by_cases h1 : (k : Int) ≤ ((o.Entries.length : Nat) : Int)
   ·rw [show decide ((k : Int) > ((o.Entries.length : Nat) : Int)) = false from decide_eq_false (by omega), ifB_f, btw_p, w64_id (n := (k : Int) - 1) (by omega) (by omega)]; simp only [ob_some]
    by_cases h2 : 0 ≤ i ∧ i ≤ (k : Int) - 1
    ·rw [show decide (0 ≤ i ∧ i ≤ (k : Int) - 1) = true from decide_eq_true h2, show decide ((k : Int) ≤ ((o.Entries.length : Nat) : Int) ∧ 0 ≤ i ∧ i < (k : Int)) = true from decide_eq_true (by omega)]; obtain ⟨j, rfl⟩ : ∃ j : Nat, i = j := ⟨i.toNat, by omega⟩; have hL : (valsF o k).length = k := valsF_len (by omega); simp only [Bool.not_true, ifB_f]; rw [root_p hr (by omega) (by omega) hF, rootS_ok (by rw [hL]; omega) (by rw [hL]; omega)]; simp only [un2, ob_some, beq_self_eq_true, ifB_t, Int.toNat_natCast, if_true]
     by_cases h3 : h.Office = o.ID
     ·by_cases h4 : h.Root = rootF (valsF o k)
      ·rw [show (h.Office == o.ID) = true from beq_iff_eq.2 h3, show (rootF (valsF o k) == h.Root) = true from beq_iff_eq.2 h4.symm, show decide (h.Office = o.ID ∧ h.Root = rootF (valsF o k)) = true from decide_eq_true ⟨h3, h4⟩]; simp only [ifB_t, ob_some, Bool.not_true, ifB_f, if_true]; rw [show (0 : Int) = ((0 : Nat) : Int) from rfl, slI_ok (Nat.zero_le k) (by omega)]; simp only [ob_some, List.drop_zero]; rw [show ((0 : Nat) : Int) = 0 from rfl, coll_p (fun e he => hr.r_Entries e (List.mem_of_mem_take he)) (by rw [List.length_take]; omega) hF]; simp only [ob_some]; rw [pinc_p _ _ hF, show (List.map leafE (o.Entries.take k)) = valsF o k from rfl, incS_ok (by rw [hL]; omega) (by rw [hL]; omega)]; simp only [ob_some, un2, beq_self_eq_true, ifB_t]; rw [ixI_nat, eAt_get (by omega)]; rfl
      ·rw [show (h.Office == o.ID) = true from beq_iff_eq.2 h3, show (rootF (valsF o k) == h.Root) = false from beq_eq_false_iff_ne.2 fun e => h4 e.symm, show decide (h.Office = o.ID ∧ h.Root = rootF (valsF o k)) = false from decide_eq_false fun e => h4 e.2]; rfl
     ·rw [show (h.Office == o.ID) = false from beq_eq_false_iff_ne.2 h3, show decide (h.Office = o.ID ∧ h.Root = rootF (valsF o k)) = false from decide_eq_false fun e => h3 e.1]; rfl
    ·rw [show decide (0 ≤ i ∧ i ≤ (k : Int) - 1) = false from decide_eq_false h2, show decide ((k : Int) ≤ ((o.Entries.length : Nat) : Int) ∧ 0 ≤ i ∧ i < (k : Int)) = false from decide_eq_false (by omega)]; rfl
   ·rw [show decide ((k : Int) > ((o.Entries.length : Nat) : Int)) = true from decide_eq_true (by omega), show decide ((k : Int) ≤ ((o.Entries.length : Nat) : Int) ∧ 0 ≤ i ∧ i < (k : Int)) = false from decide_eq_false (by omega)]; rfl
end Go.Proofs.YtiijddjfiojfaaaDoor
namespace Go.Proofs.YtiijddjfiojfaaaDoor
open Go.RowKit
theorem few_eq (F : Nat) (o : KOffice) : G_regulatorref25_Few F o = some (decide (((o.Entries.length : Nat) : Int) ≤ 40)) := rfl
theorem isK_spec {k : Int} (h : isK k = true) : 1 ≤ k ∧ k < 1073741789 := of_decide_eq_true h
def pubF (k : Int) : Int := ((pw 4 k.toNat : Nat) : Int)
theorem pubF_mem (k : Int) : memB (pubF k) = true := by
 have h1 := pub_pos k.toNat; have h2 := pw_lt 4 k.toNat; exact decide_eq_true ⟨by unfold pubF; omega, by unfold pubF; omega, by unfold pubF; rw [Int.toNat_natCast]; exact pub_mem _⟩
theorem pubF_pub {k : Int} (h : isK k = true) : pubB (pubF k) = true := by
 have hk := isK_spec h; have h1 := pub_ne (k := k.toNat) (by omega) (by omega); unfold pubB; rw [pubF_mem, show (pubF k == 1) = false from beq_eq_false_iff_ne.2 (by unfold pubF; omega)]; rfl
theorem hF : 64 ≤ 300 := by decide
theorem un2_p {a b c : Type} (f : a → b → c) (p : a × b) : un2 f p = f p.1 p.2 := rfl
theorem pext (l : List Int) (i : Int) {F : Nat} (hF : 64 ≤ F) : G_tree_Extend F l i = some (extS l i) := by
 obtain ⟨F', rfl⟩ : ∃ F', F = F' + 1 := ⟨F - 1, by omega⟩; rfl
end Go.Proofs.YtiijddjfiojfaaaDoor
