/-
  Texts joined: Z10, Z11, Z12, Z13, Z14, Z15, Z16.
-/
import Derived.Test.YtggaodokkcoagaaGreatDoorProg
import Derived.Test.YtggaodokkcoagaaGreatDoorK31
import Derived.Test.YtggaodokkcoagaaGreatDoorK32
import Derived.Test.YtggaodokkcoagaaGreatDoorK33
set_option linter.unusedSimpArgs false
set_option linter.unusedVariables false
namespace Go.Proofs.YtggaodokkcoagaaGreatDoor
open Go.RowKit Go.Maps
def G_cross_keyring_right_1 (F : Nat) (p_0 : Int) : Option (Bool) :=
  Option.bind (G_office_Right F p_0 (⟨1, 1, 0, (⟨0, 0⟩ : KSig)⟩ : KHead)) (un2 fun v_1 v_2 =>
  Option.bind (ifB ((p_0 == 0))
      (some false)
      (some (!(v_2 == 0))) : Option (Bool)) (fun (v_5 : Bool) => 
    some v_5))
set_option maxRecDepth 100000 in
set_option maxHeartbeats 16000000 in
theorem z_cross_keyring_right_1 (F : Nat) (p_0 : Int) (r : Bool) (hG : G_cross_keyring_right_1 F p_0 = some r) :
  Cf Tryz.prog 129 [I p_0] [] (B r) := by
 unfold G_cross_keyring_right_1 at hG
 try (simp only [un2, un3, un4, un5, un6, un7, un8, Sum.elim_inl, Sum.elim_inr, List.length_map, KProofL.n_Hops] at hG; replace hG : _ = _ := hG)
 refine fi Tryz.func129 rfl rfl m0 fun S0 w0 hT => ?_
 refine sq ?_; refine rg ?_; refine ra [] f0 [] ?_; refine tN ?_; refine sq ?_; replace hG := bind_some hG; obtain ⟨⟨v_1, v_2⟩, hy_1, hG⟩ := hG; refine rg ?_; refine rn 2 [] f0 [(6, I p_0), (7, .agg #[I 1, I 1, U 0, I 0, I 0])] ?_; refine l1 ?_; refine cl 8 (z_office_Right F p_0 (⟨1, 1, 0, (⟨0, 0⟩ : KSig)⟩ : KHead) _ hy_1) hT trivial ?_; refine ra [] f0 [(4, I v_2)] ?_; refine tN ?_; obtain ⟨o_4, hG, hG_4⟩ := bind_some hG; refine jn (fun K E a w => ∃ (v_5 : Bool), Js S0 w0 17 ([(2, B v_5)] ++ K) (se E []) (v_5 = o_4) a w) ?_ ?_
 ·replace hG := ifB_cases hG; rcases hG with ⟨h_3, hG⟩ | ⟨h_3, hG⟩
  ·refine rg ?_; refine rn 3 [] f0 [(13, B (!(p_0 == 0)))] ?_; refine sb 13 (nt h_3) ?_; refine ra [] f0 [(2, B false)] ?_; refine tN ?_; exact fun a w S hK hE => ⟨false, S, hK.wk, hE.sel [], Option.some.inj hG⟩
  ·refine rg ?_; refine rn 3 [] f0 [(13, B (!(p_0 == 0)))] ?_; refine sb 13 (nf h_3) ?_; refine ra [] f0 [(2, B (!(v_2 == 0)))] ?_; refine tN ?_; exact fun a w S hK hE => ⟨!(v_2 == 0), S, hK.wk, hE.sel [], Option.some.inj hG⟩
 ·rintro a w ⟨v_5, hJ⟩; refine hJ.go fun ho_ => ?_
  clear hJ; subst ho_; replace hG := hG_4
  try (simp only [un2, un3, un4, un5, un6, un7, un8, Sum.elim_inl, Sum.elim_inr, List.length_map, KProofL.n_Hops] at hG; replace hG : _ = _ := hG)
  refine kR ?_; obtain rfl := Option.some.inj hG; exact rt []
def G_cross_keyring_signed (F : Nat) (p_0 : List Int) (p_1 : KHead) : Option (Bool) :=
  Option.bind (ifB (decide (p_1.Office < 1))
      (some true)
      (ifB (decide (p_1.Office > ((p_0.length : Nat) : Int)))
        (some true)
        (Option.bind (ixI p_0 (IntKind.i64.wrap (p_1.Office - 1))) (fun v_4 =>
        some (v_4 == 0)))) : Option (Bool)) (fun (v_8 : Bool) => 
    ifB (v_8)
      (some false)
      (Option.bind (ixI p_0 (IntKind.i64.wrap (p_1.Office - 1))) (fun v_10 =>
      Option.bind (G_office_Right F v_10 p_1) (un2 fun v_13 v_14 =>
      some v_13))))
set_option maxRecDepth 100000 in
set_option maxHeartbeats 16000000 in
theorem z_cross_keyring_signed (F : Nat) (p_0_A : Option Addr) (p_0_c : Nat) (p_0 : List Int) (p_1 : KHead) (r : Bool) (hG : G_cross_keyring_signed F p_0 p_1 = some r) :
  Cf Tryz.prog 83 [.slice p_0_A p_0.length p_0_c, .agg #[I p_1.Office, I p_1.Size, U p_1.Root, I p_1.Sig.C, I p_1.Sig.S]] [RowC p_0_A p_0_c c_i64 tr p_0] (B r) := by
 unfold G_cross_keyring_signed at hG
 try (simp only [un2, un3, un4, un5, un6, un7, un8, Sum.elim_inl, Sum.elim_inr, List.length_map, KProofL.n_Hops] at hG; replace hG : _ = _ := hG)
 refine fi Tryz.func83 rfl rfl (mr tr_mv m0) fun S0 w0 hT => ?_
 refine sq ?_; refine rg ?_; refine l1 ?_; refine nw 3 vp [I p_1.Office, I p_1.Size, U p_1.Root, I p_1.Sig.C, I p_1.Sig.S] 27 fun g_1 => ?_
 refine ra [] f0 [] ?_; refine tN ?_; refine sq ?_; obtain ⟨o_7, hG, hG_7⟩ := bind_some hG; refine jn (fun K E a w => ∃ (v_8 : Bool), Js S0 w0 38 ([(25, B v_8)] ++ K) (se E [0, 1]) (v_8 = o_7) a w) ?_ ?_
 ·replace hG := ifB_cases hG; rcases hG with ⟨h_2, hG⟩ | ⟨h_2, hG⟩
  ·refine rg ?_; refine rn 4 [(1, 1, 0, 0)] f0 [(10, B (decide (p_1.Office < 1)))] ?_; refine sb 10 (bt h_2) ?_; refine ra [] f0 [(25, B true)] ?_; refine tN ?_; exact fun a w S hK hE => ⟨true, S, hK.wk, hE.sel [0, 1], Option.some.inj hG⟩
  ·replace hG := ifB_cases hG; rcases hG with ⟨h_3, hG⟩ | ⟨h_3, hG⟩
   ·refine rg ?_; refine rn 4 [(1, 1, 0, 0)] f0 [(10, B (decide (p_1.Office < 1)))] ?_; refine sb 10 (bf h_2) ?_; refine rn 7 [(1, 1, 0, 0)] f0 [(17, B (decide (p_1.Office > ((p_0.length : Nat) : Int))))] ?_
    try simp only [List.length_map, KProofL.n_Hops] at h_3
    refine sb 17 (bt h_3) ?_; refine ra [] f0 [(25, B true)] ?_; refine tN ?_; exact fun a w S hK hE => ⟨true, S, hK.wk, hE.sel [0, 1], Option.some.inj hG⟩
   ·replace hG := bind_some hG; obtain ⟨v_4, hy_4, hG⟩ := hG; refine rg ?_; refine rn 4 [(1, 1, 0, 0)] f0 [(10, B (decide (p_1.Office < 1)))] ?_; refine sb 10 (bf h_2) ?_; refine rn 7 [(1, 1, 0, 0)] f0 [(17, B (decide (p_1.Office > ((p_0.length : Nat) : Int))))] ?_
    try simp only [List.length_map, KProofL.n_Hops] at h_3
    refine sb 17 (bf h_3) ?_; refine fx inf139 (gd' (RowC p_0_A p_0_c c_i64 tr p_0) 1) hy_4 fun b_5 o_6 hi_4 => ?_
    refine ra [(2, 1, 1, 0), (1, 0, 0, 0), (0, 1, 0, 0)] (fc (hi_4 .i64) f0) [(25, B (v_4 == 0))] ?_; refine tN ?_; exact fun a w S hK hE => ⟨(v_4 == 0), S, hK.wk, hE.sel [1, 2], Option.some.inj hG⟩
 ·rintro a w ⟨v_8, hJ⟩; refine hJ.go fun ho_ => ?_
  clear hJ; subst ho_; replace hG := hG_7
  try (simp only [un2, un3, un4, un5, un6, un7, un8, Sum.elim_inl, Sum.elim_inr, List.length_map, KProofL.n_Hops] at hG; replace hG : _ = _ := hG)
  rcases ifB_cases hG with ⟨h_9, hG⟩ | ⟨h_9, hG⟩
  ·refine sb 25 (bt h_9) ?_; refine ct ?_; refine sq ?_; refine rg ?_; refine ra [] f0 [(4, B false)] ?_; refine tN ?_; refine kR ?_; refine tR ?_; obtain rfl := Option.some.inj hG; exact rt []
  ·refine sb 25 (bf h_9) ?_; refine cf ?_; refine kS ?_; refine tN ?_; refine sq ?_; replace hG := bind_some hG; obtain ⟨v_10, hy_10, hG⟩ := hG; replace hG := bind_some hG; obtain ⟨⟨v_13, v_14⟩, hy_13, hG⟩ := hG; refine qb ?_; refine fx inf139 (gd' (RowC p_0_A p_0_c c_i64 tr p_0) 1) hy_10 fun b_11 o_12 hi_10 => ?_
   refine qn 7 [(2, 1, 1, 0), (1, 0, 0, 0), (0, 1, 0, 0), (0, 5, 1, 0)] (fc (hi_10 .i64) f0) [(32, I v_10), (33, .agg #[I p_1.Office, I p_1.Size, U p_1.Root, I p_1.Sig.C, I p_1.Sig.S])] ?_; refine qc 34 (z_office_Right F v_10 p_1 _ hy_13) hT trivial ?_; refine qa [] f0 [(5, B v_13)] ?_; refine tN ?_; refine sq ?_; refine rg ?_; refine ra [] f0 [(4, B v_13)] ?_; refine tN ?_; refine kR ?_; obtain rfl := Option.some.inj hG; exact rt []
def G_cross_formed (F : Nat) (p_0 : KHead) : Option (Bool) :=
 Option.bind (G_office_Right F 4 p_0) (un2 fun v_2 v_3 =>
 some (v_3 == 0))
set_option maxRecDepth 100000 in
set_option maxHeartbeats 16000000 in
theorem z_cross_formed (F : Nat) (p_0 : KHead) (r : Bool) (hG : G_cross_formed F p_0 = some r) :
  Cf Tryz.prog 80 [.agg #[I p_0.Office, I p_0.Size, U p_0.Root, I p_0.Sig.C, I p_0.Sig.S]] [] (B r) := by
 unfold G_cross_formed at hG
 try (simp only [un2, un3, un4, un5, un6, un7, un8, Sum.elim_inl, Sum.elim_inr, List.length_map, KProofL.n_Hops] at hG; replace hG : _ = _ := hG)
 refine fi Tryz.func80 rfl rfl m0 fun S0 w0 hT => ?_
 refine sq ?_; refine rg ?_; refine l1 ?_; refine nw 1 vp [I p_0.Office, I p_0.Size, U p_0.Root, I p_0.Sig.C, I p_0.Sig.S] 27 fun g_1 => ?_
 refine ra [] f0 [] ?_; refine tN ?_; refine sq ?_; replace hG := bind_some hG; obtain ⟨⟨v_2, v_3⟩, hy_2, hG⟩ := hG; refine rg ?_; refine rn 1 [(0, 5, 0, 0)] f0 [(6, .agg #[I p_0.Office, I p_0.Size, U p_0.Root, I p_0.Sig.C, I p_0.Sig.S])] ?_; refine l1 ?_; refine cl 7 (z_office_Right F 4 p_0 _ hy_2) hT trivial ?_; refine ra [] f0 [(4, I v_3)] ?_; refine tN ?_; refine sq ?_; refine rg ?_; refine ra [] f0 [(2, B (v_3 == 0))] ?_; refine tN ?_; refine kR ?_; obtain rfl := Option.some.inj hG; exact rt []
def G_office_Check (F : Nat) (p_0 : Int) (p_1 : KReceipt) : Option (Bool × Int) :=
  Option.bind (Option.bind (G_office_isPublic F p_0) (fun v_2 =>
    ifB (v_2)
      (Option.bind (G_office_formed F p_1.Head) (fun v_4 =>
      ifB (v_4)
        (Option.bind (G_office_logged_formed F (⟨p_1.Entry⟩ : Koffice_logged)) (fun v_6 =>
        ifB (v_6)
          (Option.bind (G_office_between F p_1.Index 0 (IntKind.i64.wrap (p_1.Head.Size - 1))) (fun v_8 =>
          ifB (v_8)
            (some (decide (((p_1.Path.length : Nat) : Int) > 20)))
            (some true)))
          (some true)))
        (some true)))
      (some true)) : Option (Bool)) (fun (v_11 : Bool) => 
    ifB (v_11)
      (some (false, 1))
      (Option.bind (G_office_Right F p_0 p_1.Head) (un2 fun v_13 v_14 =>
      Option.bind (ifB (v_13)
          (Option.bind (G_office_Leaf F p_1.Entry) (fun v_16 =>
          Option.bind (G_tree_Included F p_1.Head.Root v_16 p_1.Index p_1.Head.Size p_1.Path) (fun v_17 =>
          some v_17)))
          (some false) : Option (Bool)) (fun (v_19 : Bool) => 
        some (v_19, v_14)))))
set_option maxRecDepth 100000 in
set_option maxHeartbeats 16000000 in
theorem z_office_Check (F : Nat) (p_0 : Int) (p_1 : KReceiptL) (r : Bool × Int) (hG : G_office_Check F p_0 p_1.p = some r) :
  Cf Tryz.prog 76 [I p_0, .agg #[I p_1.Head.Office, I p_1.Head.Size, U p_1.Head.Root, I p_1.Head.Sig.C, I p_1.Head.Sig.S, I p_1.Index, U p_1.Entry.Doc, I p_1.Entry.Stamp.Lo, I p_1.Entry.Stamp.Hi, .slice p_1.Path_A p_1.Path.length p_1.Path_c]] [KReceiptL.ok p_1] (.tuple #[B r.1, I r.2]) := by
 unfold G_office_Check at hG
 try (simp only [un2, un3, un4, un5, un6, un7, un8, Sum.elim_inl, Sum.elim_inr, List.length_map, KProofL.n_Hops] at hG; replace hG : _ = _ := hG)
 refine fi Tryz.func76 rfl rfl (mc KReceiptL.mv m0) fun S0 w0 hT => ?_
 refine sq ?_; refine rg ?_; refine l1 ?_; refine nw 3 vp [I p_1.Head.Office, I p_1.Head.Size, U p_1.Head.Root, I p_1.Head.Sig.C, I p_1.Head.Sig.S, I p_1.Index, U p_1.Entry.Doc, I p_1.Entry.Stamp.Lo, I p_1.Entry.Stamp.Hi, .slice p_1.Path_A p_1.Path.length p_1.Path_c] 34 fun g_1 => ?_
 refine ra [] f0 [] ?_; refine tN ?_; refine sq ?_; obtain ⟨o_10, hG, hG_10⟩ := bind_some hG; refine jn (fun K E a w => ∃ (v_11 : Bool), Js S0 w0 65 ([(39, B v_11)] ++ K) ([.dat (RowC p_1.Path_A p_1.Path_c c_u64 tr p_1.Path)] ++ se E [0]) (v_11 = o_10) a w) ?_ ?_
 ·replace hG := bind_some hG; obtain ⟨v_2, hy_2, hG⟩ := hG; replace hG := ifB_cases hG; rcases hG with ⟨h_3, hG⟩ | ⟨h_3, hG⟩
  ·replace hG := bind_some hG; obtain ⟨v_4, hy_4, hG⟩ := hG; replace hG := ifB_cases hG; rcases hG with ⟨h_5, hG⟩ | ⟨h_5, hG⟩
   ·replace hG := bind_some hG; obtain ⟨v_6, hy_6, hG⟩ := hG; replace hG := ifB_cases hG; rcases hG with ⟨h_7, hG⟩ | ⟨h_7, hG⟩
    ·replace hG := bind_some hG; obtain ⟨v_8, hy_8, hG⟩ := hG; replace hG := ifB_cases hG; rcases hG with ⟨h_9, hG⟩ | ⟨h_9, hG⟩
     ·refine rg ?_; refine rn 1 [] f0 [(8, I p_0)] ?_; refine l1 ?_; refine cl 9 (z_office_isPublic F p_0 _ hy_2) hT trivial ?_; refine rn 2 [] f0 [(11, B (!v_2))] ?_; refine sb 11 (nt h_3) ?_; refine rn 2 [(1, 5, 0, 0)] f0 [(13, .agg #[I p_1.Head.Office, I p_1.Head.Size, U p_1.Head.Root, I p_1.Head.Sig.C, I p_1.Head.Sig.S])] ?_; refine l1 ?_; refine cl 14 (z_office_formed F p_1.Head _ hy_4) hT trivial ?_; refine rn 3 [] f0 [(17, B (!v_4))] ?_; refine sb 17 (nt h_5) ?_; refine rn 3 [(1, 3, 0, 6)] f0 [(20, .agg #[U p_1.Entry.Doc, I p_1.Entry.Stamp.Lo, I p_1.Entry.Stamp.Hi])] ?_; refine l1 ?_; refine cl 21 (z_office_logged_formed F (⟨p_1.Entry⟩ : Koffice_logged) _ hy_6) hT trivial ?_; refine rn 3 [] f0 [(24, B (!v_6))] ?_; refine sb 24 (nt h_7) ?_; refine rn 6 [(1, 1, 0, 5), (2, 1, 0, 1)] f0 [(26, I p_1.Index), (30, I (IntKind.i64.wrap (p_1.Head.Size - 1)))] ?_; refine l1 ?_; refine cl 31 (z_office_between F p_1.Index 0 (IntKind.i64.wrap (p_1.Head.Size - 1)) _ hy_8) hT trivial ?_; refine rn 3 [] f0 [(34, B (!v_8))] ?_; refine sb 34 (nt h_9) ?_; refine ra [(1, 1, 0, 9)] f0 [(39, B (decide (((p_1.Path.length : Nat) : Int) > 20)))] ?_; refine tN ?_; refine fm (RowC p_1.Path_A p_1.Path_c c_u64 tr p_1.Path) (gm (KReceiptL.ok p_1) 1 fun _ _ h => h.f_Path) ?_; exact fun a w S hK hE => ⟨decide (((p_1.Path.length : Nat) : Int) > 20), S, hK.wk, hE.sel [0, 1], Option.some.inj hG⟩
     ·refine rg ?_; refine rn 1 [] f0 [(8, I p_0)] ?_; refine l1 ?_; refine cl 9 (z_office_isPublic F p_0 _ hy_2) hT trivial ?_; refine rn 2 [] f0 [(11, B (!v_2))] ?_; refine sb 11 (nt h_3) ?_; refine rn 2 [(1, 5, 0, 0)] f0 [(13, .agg #[I p_1.Head.Office, I p_1.Head.Size, U p_1.Head.Root, I p_1.Head.Sig.C, I p_1.Head.Sig.S])] ?_; refine l1 ?_; refine cl 14 (z_office_formed F p_1.Head _ hy_4) hT trivial ?_; refine rn 3 [] f0 [(17, B (!v_4))] ?_; refine sb 17 (nt h_5) ?_; refine rn 3 [(1, 3, 0, 6)] f0 [(20, .agg #[U p_1.Entry.Doc, I p_1.Entry.Stamp.Lo, I p_1.Entry.Stamp.Hi])] ?_; refine l1 ?_; refine cl 21 (z_office_logged_formed F (⟨p_1.Entry⟩ : Koffice_logged) _ hy_6) hT trivial ?_; refine rn 3 [] f0 [(24, B (!v_6))] ?_; refine sb 24 (nt h_7) ?_; refine rn 6 [(1, 1, 0, 5), (2, 1, 0, 1)] f0 [(26, I p_1.Index), (30, I (IntKind.i64.wrap (p_1.Head.Size - 1)))] ?_; refine l1 ?_; refine cl 31 (z_office_between F p_1.Index 0 (IntKind.i64.wrap (p_1.Head.Size - 1)) _ hy_8) hT trivial ?_; refine rn 3 [] f0 [(34, B (!v_8))] ?_; refine sb 34 (nf h_9) ?_; refine ra [] f0 [(39, B true)] ?_; refine tN ?_; refine fm (RowC p_1.Path_A p_1.Path_c c_u64 tr p_1.Path) (gm (KReceiptL.ok p_1) 1 fun _ _ h => h.f_Path) ?_; exact fun a w S hK hE => ⟨true, S, hK.wk, hE.sel [0, 1], Option.some.inj hG⟩
    ·refine rg ?_; refine rn 1 [] f0 [(8, I p_0)] ?_; refine l1 ?_; refine cl 9 (z_office_isPublic F p_0 _ hy_2) hT trivial ?_; refine rn 2 [] f0 [(11, B (!v_2))] ?_; refine sb 11 (nt h_3) ?_; refine rn 2 [(1, 5, 0, 0)] f0 [(13, .agg #[I p_1.Head.Office, I p_1.Head.Size, U p_1.Head.Root, I p_1.Head.Sig.C, I p_1.Head.Sig.S])] ?_; refine l1 ?_; refine cl 14 (z_office_formed F p_1.Head _ hy_4) hT trivial ?_; refine rn 3 [] f0 [(17, B (!v_4))] ?_; refine sb 17 (nt h_5) ?_; refine rn 3 [(1, 3, 0, 6)] f0 [(20, .agg #[U p_1.Entry.Doc, I p_1.Entry.Stamp.Lo, I p_1.Entry.Stamp.Hi])] ?_; refine l1 ?_; refine cl 21 (z_office_logged_formed F (⟨p_1.Entry⟩ : Koffice_logged) _ hy_6) hT trivial ?_; refine rn 3 [] f0 [(24, B (!v_6))] ?_; refine sb 24 (nf h_7) ?_; refine ra [] f0 [(39, B true)] ?_; refine tN ?_; refine fm (RowC p_1.Path_A p_1.Path_c c_u64 tr p_1.Path) (gm (KReceiptL.ok p_1) 1 fun _ _ h => h.f_Path) ?_; exact fun a w S hK hE => ⟨true, S, hK.wk, hE.sel [0, 1], Option.some.inj hG⟩
   ·refine rg ?_; refine rn 1 [] f0 [(8, I p_0)] ?_; refine l1 ?_; refine cl 9 (z_office_isPublic F p_0 _ hy_2) hT trivial ?_; refine rn 2 [] f0 [(11, B (!v_2))] ?_; refine sb 11 (nt h_3) ?_; refine rn 2 [(1, 5, 0, 0)] f0 [(13, .agg #[I p_1.Head.Office, I p_1.Head.Size, U p_1.Head.Root, I p_1.Head.Sig.C, I p_1.Head.Sig.S])] ?_; refine l1 ?_; refine cl 14 (z_office_formed F p_1.Head _ hy_4) hT trivial ?_; refine rn 3 [] f0 [(17, B (!v_4))] ?_; refine sb 17 (nf h_5) ?_; refine ra [] f0 [(39, B true)] ?_; refine tN ?_; refine fm (RowC p_1.Path_A p_1.Path_c c_u64 tr p_1.Path) (gm (KReceiptL.ok p_1) 1 fun _ _ h => h.f_Path) ?_; exact fun a w S hK hE => ⟨true, S, hK.wk, hE.sel [0, 1], Option.some.inj hG⟩
  ·refine rg ?_; refine rn 1 [] f0 [(8, I p_0)] ?_; refine l1 ?_; refine cl 9 (z_office_isPublic F p_0 _ hy_2) hT trivial ?_; refine rn 2 [] f0 [(11, B (!v_2))] ?_; refine sb 11 (nf h_3) ?_; refine ra [] f0 [(39, B true)] ?_; refine tN ?_; refine fm (RowC p_1.Path_A p_1.Path_c c_u64 tr p_1.Path) (gm (KReceiptL.ok p_1) 1 fun _ _ h => h.f_Path) ?_; exact fun a w S hK hE => ⟨true, S, hK.wk, hE.sel [0, 1], Option.some.inj hG⟩
 ·rintro a w ⟨v_11, hJ⟩; refine hJ.go fun ho_ => ?_
  clear hJ; subst ho_; replace hG := hG_10
  try (simp only [un2, un3, un4, un5, un6, un7, un8, Sum.elim_inl, Sum.elim_inr, List.length_map, KProofL.n_Hops] at hG; replace hG : _ = _ := hG)
  rcases ifB_cases hG with ⟨h_12, hG⟩ | ⟨h_12, hG⟩
  ·refine sb 39 (bt h_12) ?_; refine ct ?_; refine sq ?_; refine rg ?_; refine ra [] f0 [(4, B false), (5, I 1)] ?_; refine tN ?_; refine kR ?_; refine tR ?_; obtain rfl := Option.some.inj hG; exact rt []
  ·refine sb 39 (bf h_12) ?_; refine cf ?_; refine kS ?_; refine tN ?_; refine sq ?_; replace hG := bind_some hG; obtain ⟨⟨v_13, v_14⟩, hy_13, hG⟩ := hG; refine rg ?_; refine rn 3 [(2, 5, 1, 0)] f0 [(41, I p_0), (43, .agg #[I p_1.Head.Office, I p_1.Head.Size, U p_1.Head.Root, I p_1.Head.Sig.C, I p_1.Head.Sig.S])] ?_; refine l1 ?_; refine cl 44 (z_office_Right F p_0 p_1.Head _ hy_13) hT trivial ?_; refine ra [] f0 [(6, B v_13), (7, I v_14)] ?_; refine tN ?_; obtain ⟨o_18, hG, hG_18⟩ := bind_some hG; refine jn (fun K E a w => ∃ (v_19 : Bool), Js S0 w0 65 ([(4, B v_19), (5, I v_14)] ++ K) (se E []) (v_19 = o_18) a w) ?_ ?_
   ·replace hG := ifB_cases hG; rcases hG with ⟨h_15, hG⟩ | ⟨h_15, hG⟩
    ·replace hG := bind_some hG; obtain ⟨v_16, hy_16, hG⟩ := hG; replace hG := bind_some hG; obtain ⟨v_17, hy_17, hG⟩ := hG; refine qb ?_; refine qn 2 [] f0 [(48, B v_13)] ?_; refine sb 48 (bt h_15) ?_; refine qn 5 [(2, 1, 1, 2), (1, 3, 1, 6)] f0 [(51, U p_1.Head.Root), (53, .agg #[U p_1.Entry.Doc, I p_1.Entry.Stamp.Lo, I p_1.Entry.Stamp.Hi])] ?_; refine qc 54 (z_office_Leaf F p_1.Entry _ hy_16) hT trivial ?_; refine qn 7 [(1, 1, 1, 5), (2, 1, 1, 1), (1, 1, 1, 9)] f0 [(56, I p_1.Index), (59, I p_1.Head.Size), (61, .slice p_1.Path_A p_1.Path.length p_1.Path_c)] ?_; refine qc 62 (z_tree_Included F p_1.Head.Root v_16 p_1.Index p_1.Head.Size p_1.Path_A p_1.Path_c p_1.Path _ hy_17) hT ⟨ga 0, trivial⟩ ?_; refine qa [] f0 [(4, B v_17), (5, I v_14)] ?_; refine tN ?_; exact fun a w S hK hE => ⟨v_17, S, hK.wk, hE.sel [], Option.some.inj hG⟩
    ·refine qb ?_; refine qn 2 [] f0 [(48, B v_13)] ?_; refine sb 48 (bf h_15) ?_; refine qa [] f0 [(4, B false), (5, I v_14)] ?_; refine tN ?_; exact fun a w S hK hE => ⟨false, S, hK.wk, hE.sel [], Option.some.inj hG⟩
   ·rintro a w ⟨v_19, hJ⟩; refine hJ.go fun ho_ => ?_
    clear hJ; subst ho_; replace hG := hG_18
    try (simp only [un2, un3, un4, un5, un6, un7, un8, Sum.elim_inl, Sum.elim_inr, List.length_map, KProofL.n_Hops] at hG; replace hG : _ = _ := hG)
    refine kR ?_; obtain rfl := Option.some.inj hG; exact rt []
def G_order_isKey (F : Nat) (p_0 : Int) : Option (Bool) :=
 Option.bind (G_office_Right F p_0 (⟨1, 1, 0, (⟨0, 0⟩ : KSig)⟩ : KHead)) (un2 fun v_1 v_2 =>
 some (v_2 == 0))
set_option maxRecDepth 100000 in
set_option maxHeartbeats 16000000 in
theorem z_order_isKey (F : Nat) (p_0 : Int) (r : Bool) (hG : G_order_isKey F p_0 = some r) :
  Cf Tryz.prog 35 [I p_0] [] (B r) := by
 unfold G_order_isKey at hG
 try (simp only [un2, un3, un4, un5, un6, un7, un8, Sum.elim_inl, Sum.elim_inr, List.length_map, KProofL.n_Hops] at hG; replace hG : _ = _ := hG)
 refine fi Tryz.func35 rfl rfl m0 fun S0 w0 hT => ?_
 refine sq ?_; refine rg ?_; refine ra [] f0 [] ?_; refine tN ?_; refine sq ?_; replace hG := bind_some hG; obtain ⟨⟨v_1, v_2⟩, hy_1, hG⟩ := hG; refine rg ?_; refine rn 2 [] f0 [(6, I p_0), (7, .agg #[I 1, I 1, U 0, I 0, I 0])] ?_; refine l1 ?_; refine cl 8 (z_office_Right F p_0 (⟨1, 1, 0, (⟨0, 0⟩ : KSig)⟩ : KHead) _ hy_1) hT trivial ?_; refine ra [] f0 [(4, I v_2)] ?_; refine tN ?_; refine sq ?_; refine rg ?_; refine ra [] f0 [(2, B (v_2 == 0))] ?_; refine tN ?_; refine kR ?_; obtain rfl := Option.some.inj hG; exact rt []
def G_order_archive_whole (F : Nat) (p_0 : Korder_archive) : Option (Bool) :=
  Option.bind (Option.bind (Option.bind (Option.bind (iter (σ := Int) (ρ := Unit ⊕ Int) (fun (v_45 : Int) => 
            (ifB (decide (v_45 < ((p_0.heads.length : Nat) : Int)))
              (Option.bind (ixI p_0.heads v_45) (fun v_48 =>
              Option.bind (Option.bind (Option.bind (some (mpG p_0.offices v_48.Office KOffice.z)) (fun v_52 =>
                  Option.bind (G_office_Prove F v_52 v_48 0) (un2 fun v_53 v_54 =>
                  some v_54)) : Option (Int)) (fun (v_57 : Int) => 
                  some (!(v_57 == 0))) : Option (Bool)) (fun (v_58 : Bool) => 
                ifB (v_58)
                  (some (.inr (.inr v_45)))
                  (some (.inl (IntKind.i64.wrap (v_45 + 1)))))))
              (some (.inr (.inl ()))) : Option (Int ⊕ (Unit ⊕ Int)))) F 0) (Sum.elim (fun (_ : Unit) => 
          some (.inl ())) (fun (v_68 : Int) => 
          some (.inr v_68))) : Option (Unit ⊕ Int)) (Sum.elim (fun (_ : Unit) => 
        some (-1)) (fun (v_70 : Int) => 
        some v_70)) : Option (Int)) (fun (v_71 : Int) => 
      some (decide (v_71 ≥ 0))) : Option (Bool)) (fun (v_142 : Bool) => 
    some (!v_142))
set_option maxRecDepth 100000 in
set_option maxHeartbeats 16000000 in
theorem z_order_archive_whole (F : Nat) (p_0_A : Nat) (p_0 : Korder_archiveL) (r : Bool) (hG : G_order_archive_whole F p_0.p = some r) :
  Cf Tryz.prog 45 [Pt p_0_A 0] [fun S W => RecS S W p_0_A 0 p_0.cells, Korder_archiveL.ok p_0] (B r) := by
 unfold G_order_archive_whole at hG
 try (simp only [un2, un3, un4, un5, un6, un7, un8, Sum.elim_inl, Sum.elim_inr, List.length_map, KProofL.n_Hops] at hG; replace hG : _ = _ := hG)
 refine fi Tryz.func45 rfl rfl (mrec (mc Korder_archiveL.mv m0)) fun S0 w0 hT => ?_
 refine rp p_0_A p_0.cells (gd' (fun S W => RecS S W p_0_A 0 p_0.cells) 0) ?_; refine sq ?_; refine rg ?_; refine l1 ?_; refine nw 1 vp [Pt p_0_A 0] 91 fun g_1 => ?_
 refine ra [] f0 [] ?_; refine tN ?_; refine sq ?_; replace hG := bind_some hG; obtain ⟨v_142o, hy_143, hG⟩ := hG; refine rg ?_; refine rn 5 [(0, 1, 0, 0), (2, 1, 1, 1)] f0 [(6, .slice p_0.heads_A p_0.heads.length p_0.heads_c), (7, .func (.func 101) #[] #[Pt g_1 0])] ?_; refine l1 ?_; refine ci 8 (args := [.slice p_0.heads_A p_0.heads.length p_0.heads_c, .func (.func 101) #[] #[Pt g_1 0]]) (fun E e w => ∃ (v_142 : Bool), Rs S0 w0 (B v_142) (se E [0, 1, 3]) (v_142 = v_142o) e w) Tryz.func100 rfl rfl ?_ ?_
 ·replace hG := hy_143
  try (simp only [un2, un3, un4, un5, un6, un7, un8, Sum.elim_inl, Sum.elim_inr, List.length_map, KProofL.n_Hops] at hG; replace hG : _ = _ := hG)
  refine sq ?_; refine rg ?_; refine ra [] f0 [] ?_; refine tN ?_; refine sq ?_; replace hG := bind_some hG; obtain ⟨v_213o, hy_214, hG⟩ := hG; refine rg ?_; refine rn 2 [] f0 [(5, .slice p_0.heads_A p_0.heads.length p_0.heads_c), (6, .func (.func 101) #[] #[Pt g_1 0])] ?_; refine l1 ?_; refine ci 7 (args := [.slice p_0.heads_A p_0.heads.length p_0.heads_c, .func (.func 101) #[] #[Pt g_1 0]]) (fun E e w => ∃ (v_213 : Int), Rs S0 w0 (I v_213) (se E [0, 1, 3]) (v_213 = v_213o) e w) Tryz.func141 rfl rfl ?_ ?_
  ·replace hG := hy_214
   try (simp only [un2, un3, un4, un5, un6, un7, un8, Sum.elim_inl, Sum.elim_inr, List.length_map, KProofL.n_Hops] at hG; replace hG : _ = _ := hG)
   refine sq ?_; refine rg ?_; refine ra [] f0 [] ?_; refine tN ?_; obtain ⟨o_282, hG, hG_282⟩ := bind_some hG; refine jn (fun K E a w => Js S0 w0 19 (K) (se E [0, 1, 3]) (.inl () = o_282) a w) ?_ ?_
   ·refine sq ?_; refine rg ?_; refine ra [] f0 [(7, I ((p_0.heads.length : Nat) : Int)), (8, I 0)] ?_; refine tN ?_; refine bk ?_; obtain ⟨e_259, hL, hG_259⟩ := bind_some hG; clear hG; obtain ⟨stp_259, hs_259, hL⟩ := iter_gen hL; refine lp (fun K E n_ a w => ∃ (v_258 : Int), Js S0 w0 19 ([(8, I v_258)] ++ K) (se E [0, 1, 3]) (iter stp_259 n_ v_258 = some e_259) a w) F ?_ ?_
    ·exact fun a w S hK hE => ⟨0, S, hK.wk, hE.sel [0, 1, 3], hL⟩
    ·clear hL; rintro n_259 a w ⟨v_258, hJ⟩; refine hJ.go fun hL => ?_
     clear hJ; obtain ⟨m_259, o_259, rfl, hG, hO1_259, hO2_259⟩ := iter_step hL; clear hL; rw [hs_259] at hG
     try (simp only [un2, un3, un4, un5, un6, un7, un8, Sum.elim_inl, Sum.elim_inr, List.length_map, KProofL.n_Hops] at hG; replace hG : _ = _ := hG)
     refine sq ?_; refine rg ?_; refine ra [] f0 [(9, B (decide (v_258 < ((p_0.heads.length : Nat) : Int))))] ?_; refine tN ?_; refine sq ?_; rcases ifB_cases hG with ⟨h_260, hG⟩ | ⟨h_260, hG⟩
     ·try simp only [List.length_map, KProofL.n_Hops] at h_260
      refine sb 9 (bt h_260) ?_; refine ct ?_; refine kS ?_; refine tN ?_; refine sq ?_; refine bk ?_; refine sq ?_; refine rg ?_; refine ra [] f0 [(5, I v_258)] ?_; refine tN ?_; refine sq ?_; replace hG := bind_some hG; obtain ⟨v_261, hy_261, hG⟩ := hG; replace hG := bind_some hG; obtain ⟨v_271o, hy_272, hG⟩ := hG; refine rg ?_; refine fx inf39 (gm (Korder_archiveL.ok p_0) 2 fun _ _ h => h.f_heads) hy_261 fun b_262 o_263 hi_261 => ?_
      refine rn 5 [(3, 0, 0, 0), (0, 5, 0, 0)] (fc (hi_261 .i64) f0) [(11, .func (.func 101) #[] #[Pt g_1 0]), (15, .agg #[I v_261.Office, I v_261.Size, U v_261.Root, I v_261.Sig.C, I v_261.Sig.S])] ?_; refine l1 ?_; refine ci 16 (args := [.agg #[I v_261.Office, I v_261.Size, U v_261.Root, I v_261.Sig.C, I v_261.Sig.S], Pt g_1 0]) (fun E e w => ∃ (v_271 : Bool), Rs S0 w0 (B v_271) (se E [0, 1, 2, 3]) (v_271 = v_271o) e w) Tryz.func101 rfl rfl ?_ ?_
      ·replace hG := hy_272
       try (simp only [un2, un3, un4, un5, un6, un7, un8, Sum.elim_inl, Sum.elim_inr, List.length_map, KProofL.n_Hops] at hG; replace hG : _ = _ := hG)
       refine sq ?_; refine rg ?_; refine l1 ?_; refine nw 2 vp [I v_261.Office, I v_261.Size, U v_261.Root, I v_261.Sig.C, I v_261.Sig.S] 27 fun g_273 => ?_
       refine ra [] f0 [] ?_; refine tN ?_; obtain ⟨o_278, hG, hG_278⟩ := bind_some hG; refine jn (fun K E a w => ∃ (v_279 : Int), Js S0 w0 20 ([(5, I v_279)] ++ K) (se E [1, 2, 3, 4]) (v_279 = o_278) a w) ?_ ?_
       ·replace hG := bind_some hG; obtain ⟨v_274o, hy_274, hG⟩ := hG; replace hG := bind_some hG; obtain ⟨⟨v_275o, v_276⟩, hy_275, hG⟩ := hG; refine hb [0, 1, 2, 3, 4] ?_; refine ht [0, 1, 2, 3, 4] [0, 1, 2, 3, 4, 5, 7] [(0, 1, 2, 0), (2, 1, 3, 0), (1, 1, 0, 0), (0, 5, 0, 0)] f0 [(10, .map (some p_0.offices_b)), (12, I v_261.Office), (14, .agg #[I v_261.Office, I v_261.Size, U v_261.Root, I v_261.Sig.C, I v_261.Sig.S])] ?_; refine ho [6, 12] ⟨?_, ?_, trivial⟩
        ·refine h1 ?_; refine ml 13 p_0.offices_b p_0.offices v_261.Office KOfficeL.z KOfficeL.p _ hy_274 (gm (Korder_archiveL.ok p_0) 4 fun _ _ h => h.f_offices) KOfficeL.z_ok Tryz.underlying99 Tryz.underlying3 (fun w => by kernel_rfl) fun v_274 he_274 => ?_
         subst he_274
         try (simp only [un2, un3, un4, un5, un6, un7, un8, Sum.elim_inl, Sum.elim_inr, List.length_map, KProofL.n_Hops] at hG; replace hG : _ = _ := hG)
         refine hk [1, 2, 3, 4, 5] ?_; refine ho [8, 12] ⟨?_, ?_, trivial⟩
         ·refine h1 ?_; refine cn 15 (z_office_Prove F v_274 v_261 0 _ hy_275) hT (fun _ => (mc KReceiptL.mv m0)) ⟨(gi 0), trivial⟩ ?_; rintro v_275 hq_275; obtain rfl : v_275.p = v_275o := hq_275.symm
          try (simp only [un2, un3, un4, un5, un6, un7, un8, Sum.elim_inl, Sum.elim_inr, List.length_map, KProofL.n_Hops] at hG; replace hG : _ = _ := hG)
          refine hk [2, 3, 4, 5, 6] ?_; refine ht [2, 3, 4, 5, 6] [9, 10, 11] [] f0 [(16, .agg #[I v_275.Head.Office, I v_275.Head.Size, U v_275.Head.Root, I v_275.Head.Sig.C, I v_275.Head.Sig.S, I v_275.Index, U v_275.Entry.Doc, I v_275.Entry.Stamp.Lo, I v_275.Entry.Stamp.Hi, .slice v_275.Path_A v_275.Path.length v_275.Path_c]), (17, I v_276)] ?_; refine ho [12] ⟨?_, trivial⟩; refine h1 ?_; refine nw 4 vp [I 0, I 0, U 0, I 0, I 0, I 0, U 0, I 0, I 0, .slice none 0 0] 34 fun g_277 => ?_
          refine hk [3, 4, 5, 6, 7] ?_; refine ho [13] ⟨?_, trivial⟩; refine h1 ?_; refine sr 0 g_277 [(0, I v_275.Head.Office), (1, I v_275.Head.Size), (2, U v_275.Head.Root), (3, I v_275.Head.Sig.C), (4, I v_275.Head.Sig.S), (5, I v_275.Index), (6, U v_275.Entry.Doc), (7, I v_275.Entry.Stamp.Lo), (8, I v_275.Entry.Stamp.Hi), (9, .slice v_275.Path_A v_275.Path.length v_275.Path_c)] ?_; refine hk [3, 4, 5, 6, 7] ?_; refine ht [3, 4, 5, 6, 7] [14] [] f0 [(5, I v_276)] ?_; refine he ?_; refine tN ?_; exact fun a w S hK hE => ⟨v_276, S, hK.wk, hE.sel [4, 5, 6, 7], Option.some.inj hG⟩
         ·refine h1 ?_; refine nw 4 vp [I 0, I 0, U 0, I 0, I 0, I 0, U 0, I 0, I 0, .slice none 0 0] 34 fun g_277 => ?_
          refine hk [2, 3, 4, 5, 6] ?_; refine ho [8] ⟨?_, trivial⟩; refine h1 ?_; refine cn 15 (z_office_Prove F v_274 v_261 0 _ hy_275) hT (fun _ => (mc KReceiptL.mv m0)) ⟨(gi 1), trivial⟩ ?_; rintro v_275 hq_275; obtain rfl : v_275.p = v_275o := hq_275.symm
          try (simp only [un2, un3, un4, un5, un6, un7, un8, Sum.elim_inl, Sum.elim_inr, List.length_map, KProofL.n_Hops] at hG; replace hG : _ = _ := hG)
          refine hk [3, 4, 5, 6, 7] ?_; refine ht [3, 4, 5, 6, 7] [9, 10, 11] [] f0 [(16, .agg #[I v_275.Head.Office, I v_275.Head.Size, U v_275.Head.Root, I v_275.Head.Sig.C, I v_275.Head.Sig.S, I v_275.Index, U v_275.Entry.Doc, I v_275.Entry.Stamp.Lo, I v_275.Entry.Stamp.Hi, .slice v_275.Path_A v_275.Path.length v_275.Path_c]), (17, I v_276)] ?_; refine ho [13] ⟨?_, trivial⟩; refine h1 ?_; refine sr 1 g_277 [(0, I v_275.Head.Office), (1, I v_275.Head.Size), (2, U v_275.Head.Root), (3, I v_275.Head.Sig.C), (4, I v_275.Head.Sig.S), (5, I v_275.Index), (6, U v_275.Entry.Doc), (7, I v_275.Entry.Stamp.Lo), (8, I v_275.Entry.Stamp.Hi), (9, .slice v_275.Path_A v_275.Path.length v_275.Path_c)] ?_; refine hk [3, 4, 5, 6, 7] ?_; refine ht [3, 4, 5, 6, 7] [14] [] f0 [(5, I v_276)] ?_; refine he ?_; refine tN ?_; exact fun a w S hK hE => ⟨v_276, S, hK.wk, hE.sel [4, 5, 6, 7], Option.some.inj hG⟩
        ·refine h1 ?_; refine nw 4 vp [I 0, I 0, U 0, I 0, I 0, I 0, U 0, I 0, I 0, .slice none 0 0] 34 fun g_277 => ?_
         refine hk [1, 2, 3, 4, 5] ?_; refine ho [6] ⟨?_, trivial⟩; refine h1 ?_; refine ml 13 p_0.offices_b p_0.offices v_261.Office KOfficeL.z KOfficeL.p _ hy_274 (gm (Korder_archiveL.ok p_0) 5 fun _ _ h => h.f_offices) KOfficeL.z_ok Tryz.underlying99 Tryz.underlying3 (fun w => by kernel_rfl) fun v_274 he_274 => ?_
         subst he_274
         try (simp only [un2, un3, un4, un5, un6, un7, un8, Sum.elim_inl, Sum.elim_inr, List.length_map, KProofL.n_Hops] at hG; replace hG : _ = _ := hG)
         refine hk [2, 3, 4, 5, 6] ?_; refine ho [8] ⟨?_, trivial⟩; refine h1 ?_; refine cn 15 (z_office_Prove F v_274 v_261 0 _ hy_275) hT (fun _ => (mc KReceiptL.mv m0)) ⟨(gi 0), trivial⟩ ?_; rintro v_275 hq_275; obtain rfl : v_275.p = v_275o := hq_275.symm
         try (simp only [un2, un3, un4, un5, un6, un7, un8, Sum.elim_inl, Sum.elim_inr, List.length_map, KProofL.n_Hops] at hG; replace hG : _ = _ := hG)
         refine hk [3, 4, 5, 6, 7] ?_; refine ht [3, 4, 5, 6, 7] [9, 10, 11] [] f0 [(16, .agg #[I v_275.Head.Office, I v_275.Head.Size, U v_275.Head.Root, I v_275.Head.Sig.C, I v_275.Head.Sig.S, I v_275.Index, U v_275.Entry.Doc, I v_275.Entry.Stamp.Lo, I v_275.Entry.Stamp.Hi, .slice v_275.Path_A v_275.Path.length v_275.Path_c]), (17, I v_276)] ?_; refine ho [13] ⟨?_, trivial⟩; refine h1 ?_; refine sr 2 g_277 [(0, I v_275.Head.Office), (1, I v_275.Head.Size), (2, U v_275.Head.Root), (3, I v_275.Head.Sig.C), (4, I v_275.Head.Sig.S), (5, I v_275.Index), (6, U v_275.Entry.Doc), (7, I v_275.Entry.Stamp.Lo), (8, I v_275.Entry.Stamp.Hi), (9, .slice v_275.Path_A v_275.Path.length v_275.Path_c)] ?_; refine hk [3, 4, 5, 6, 7] ?_; refine ht [3, 4, 5, 6, 7] [14] [] f0 [(5, I v_276)] ?_; refine he ?_; refine tN ?_; exact fun a w S hK hE => ⟨v_276, S, hK.wk, hE.sel [4, 5, 6, 7], Option.some.inj hG⟩
       ·rintro a w ⟨v_279, hJ⟩; refine hJ.go fun ho_ => ?_
        clear hJ; subst ho_; replace hG := hG_278
        try (simp only [un2, un3, un4, un5, un6, un7, un8, Sum.elim_inl, Sum.elim_inr, List.length_map, KProofL.n_Hops] at hG; replace hG : _ = _ := hG)
        refine sq ?_; refine rg ?_; refine ra [] f0 [(3, B (!(v_279 == 0)))] ?_; refine tN ?_; refine kR ?_; refine ri [] (B (!(v_279 == 0))) ?_; exact fun a w S hK hE => ⟨!(v_279 == 0), rfl, ⟨S, hE.sel [0, 1, 2, 3]⟩, Option.some.inj hG⟩
      ·rintro e w ⟨v_271, hJ⟩; refine hJ.go fun ho_ => ?_
       clear hJ; subst ho_
       try (simp only [un2, un3, un4, un5, un6, un7, un8, Sum.elim_inl, Sum.elim_inr, List.length_map, KProofL.n_Hops] at hG; replace hG : _ = _ := hG)
       refine nl ?_; refine tN ?_; rcases ifB_cases hG with ⟨h_280, hG⟩ | ⟨h_280, hG⟩
       ·refine sb 16 (bt h_280) ?_; refine ct ?_; refine sq ?_; refine rg ?_; refine ra [] f0 [(4, I v_258)] ?_; refine tN ?_; refine kR ?_; refine hR ?_; refine tR ?_; refine tR ?_; have he_ := hO2_259 _ (Option.some.inj hG).symm; subst he_; replace hG := hG_259
        try (simp only [un2, un3, un4, un5, un6, un7, un8, Sum.elim_inl, Sum.elim_inr, List.length_map, KProofL.n_Hops] at hG; replace hG : _ = _ := hG)
        refine hR ?_; refine tR ?_; obtain rfl := Option.some.inj hG; replace hG := hG_282
        try (simp only [un2, un3, un4, un5, un6, un7, un8, Sum.elim_inl, Sum.elim_inr, List.length_map, KProofL.n_Hops] at hG; replace hG : _ = _ := hG)
        refine ri [] (I v_258) ?_; exact fun a w S hK hE => ⟨v_258, rfl, ⟨S, hE.sel [1, 2, 3]⟩, Option.some.inj hG⟩
       ·refine sb 16 (bf h_280) ?_; refine cf ?_; refine kS ?_; refine hN ?_; refine tN ?_; refine rg ?_; refine ra [] f0 [(8, I (IntKind.i64.wrap (v_258 + 1)))] ?_; refine tN ?_; exact fun a w S hK hE => ⟨m_259, ⟨IntKind.i64.wrap (v_258 + 1), S, hK.wk, hE.sel [1, 2, 3], hO1_259 _ (Option.some.inj hG).symm⟩, Nat.lt_succ_self _⟩
     ·try simp only [List.length_map, KProofL.n_Hops] at h_260
      refine sb 9 (bf h_260) ?_; refine cf ?_; refine kX ?_; refine tX ?_; refine tX ?_; have he_ := hO2_259 _ (Option.some.inj hG).symm; subst he_; replace hG := hG_259
      try (simp only [un2, un3, un4, un5, un6, un7, un8, Sum.elim_inl, Sum.elim_inr, List.length_map, KProofL.n_Hops] at hG; replace hG : _ = _ := hG)
      refine hH ?_; refine tN ?_; exact fun a w S hK hE => ⟨S, hK.wk, hE.sel [0, 1, 2], Option.some.inj hG⟩
   ·rintro a w hJ; refine hJ.go fun ho_ => ?_
    clear hJ; subst ho_; replace hG := hG_282
    try (simp only [un2, un3, un4, un5, un6, un7, un8, Sum.elim_inl, Sum.elim_inr, List.length_map, KProofL.n_Hops] at hG; replace hG : _ = _ := hG)
    refine sq ?_; refine rg ?_; refine ra [] f0 [(4, I (-1))] ?_; refine tN ?_; refine kR ?_; refine ri [] (I (-1)) ?_; exact fun a w S hK hE => ⟨(-1), rfl, ⟨S, hE.sel [0, 1, 2]⟩, Option.some.inj hG⟩
  ·rintro e w ⟨v_213, hJ⟩; refine hJ.go fun ho_ => ?_
   clear hJ; subst ho_
   try (simp only [un2, un3, un4, un5, un6, un7, un8, Sum.elim_inl, Sum.elim_inr, List.length_map, KProofL.n_Hops] at hG; replace hG : _ = _ := hG)
   refine ra [] f0 [(4, B (decide (v_213 ≥ 0)))] ?_; refine tN ?_; refine kR ?_; refine ri [] (B (decide (v_213 ≥ 0))) ?_; exact fun a w S hK hE => ⟨decide (v_213 ≥ 0), rfl, ⟨S, hE.sel [0, 1, 2]⟩, Option.some.inj hG⟩
 ·rintro e w ⟨v_142, hJ⟩; refine hJ.go fun ho_ => ?_
  clear hJ; subst ho_
  try (simp only [un2, un3, un4, un5, un6, un7, un8, Sum.elim_inl, Sum.elim_inr, List.length_map, KProofL.n_Hops] at hG; replace hG : _ = _ := hG)
  refine ra [] f0 [(2, B (!v_142))] ?_; refine tN ?_; refine kR ?_; obtain rfl := Option.some.inj hG; exact rt []
def G_order_newArchive (F : Nat) (p_0 : List KOffice) (p_1 : List KHead) : Option ((Option Korder_archive) × Int) :=
  Option.bind (ifB (decide (((p_0.length : Nat) : Int) > 4))
      (some (p_1, true))
      (some (p_1, decide (((p_1.length : Nat) : Int) > 12))) : Option (((List KHead) × Bool))) (un2 fun (v_3 : (List KHead)) (v_6 : Bool) => 
    ifB (v_6)
      (some (none, 2))
      (Option.bind (Option.bind (iter (σ := Int × (List (Int × KOffice)) × Int) (ρ := (List (Int × KOffice)) ⊕ Unit) (un3 fun (v_39 : Int) (v_40 : (List (Int × KOffice))) (v_41 : Int) => 
            (ifB (decide (v_39 < ((p_0.length : Nat) : Int)))
              (Option.bind (ixI p_0 v_39) (fun v_44 =>
              Option.bind (Option.bind (G_office_Valid F v_44) (fun v_48 =>
                ifB (v_48)
                  (some (decide (v_44.ID ≤ v_41)))
                  (some true)) : Option (Bool)) (fun (v_51 : Bool) => 
                ifB (v_51)
                  (some (.inr (.inr ())))
                  (Option.bind (some (mpS v_40 v_44.ID v_44)) (fun v_55 =>
                  some (.inl (IntKind.i64.wrap (v_39 + 1), v_55, v_44.ID)))))))
              (some (.inr (.inl v_40))) : Option ((Int × (List (Int × KOffice)) × Int) ⊕ ((List (Int × KOffice)) ⊕ Unit)))) F (0, ([] : List (Int × KOffice)), 0)) (Sum.elim (fun (v_56 : (List (Int × KOffice))) => 
          some (.inl v_56)) (fun (_ : Unit) => 
          some (.inr ()))) : Option ((List (Int × KOffice)) ⊕ Unit)) (Sum.elim (fun (v_58 : (List (Int × KOffice))) => 
        Option.bind (Option.bind (iter (σ := Int) (ρ := Unit ⊕ Unit) (fun (v_76 : Int) => 
              (ifB (decide (v_76 < ((v_3.length : Nat) : Int)))
                (Option.bind (ixI v_3 v_76) (fun v_79 =>
                Option.bind (G_office_Right F 4 v_79) (un2 fun v_83 v_84 =>
                ifB ((v_84 == 0))
                  (some (.inl (IntKind.i64.wrap (v_76 + 1))))
                  (some (.inr (.inr ()))))))
                (some (.inr (.inl ()))) : Option (Int ⊕ (Unit ⊕ Unit)))) F 0) (Sum.elim (fun (_ : Unit) => 
            some (.inl ())) (fun (_ : Unit) => 
            some (.inr ()))) : Option (Unit ⊕ Unit)) (Sum.elim (fun (_ : Unit) => 
          some ((some (⟨v_58, v_3⟩ : Korder_archive)), 0)) (fun (_ : Unit) => 
          some (none, 1)))) (fun (_ : Unit) => 
        some (none, 1)))))
set_option maxRecDepth 100000 in
set_option maxHeartbeats 16000000 in
theorem z_order_newArchive (F : Nat) (p_0_A : Option Addr) (p_0_c : Nat) (p_0 : List KOfficeL) (p_1_A : Option Addr) (p_1_c : Nat) (p_1 : List KHead) (r : (Option Korder_archive) × Int) (hG : G_order_newArchive F (p_0.map KOfficeL.p) p_1 = some r) :
  Cn Tryz.prog 43 [.slice p_0_A p_0.length p_0_c, .slice p_1_A p_1.length p_1_c] [RowC p_0_A p_0_c KOfficeL.cells KOfficeL.ok p_0, RowC p_1_A p_1_c KHead.cells tr p_1] (fun q : Korder_archiveO => r.1 = q.p) (fun q => .tuple #[q.val, I r.2]) (fun q => [Korder_archiveO.ok q]) := by
 unfold G_order_newArchive at hG
 try (simp only [un2, un3, un4, un5, un6, un7, un8, Sum.elim_inl, Sum.elim_inr, List.length_map, KProofL.n_Hops] at hG; replace hG : _ = _ := hG)
 refine fin Tryz.func43 rfl rfl (mr KOfficeL.mv (mr tr_mv m0)) fun S0 w0 hT => ?_
 refine sq ?_; refine rg ?_; refine ra [] f0 [] ?_; refine tN ?_; refine sq ?_; obtain ⟨o_2, hG, hG_2⟩ := bind_some hG; refine jn (fun K E a w => ∃ (v_3 : List KHead), ∃ (v_4_A : Option Addr), ∃ (v_5_c : Nat), ∃ (v_6 : Bool), Js S0 w0 68 ([(1, .slice v_4_A v_3.length v_5_c), (21, B v_6)] ++ K) ([.dat (RowC v_4_A v_5_c KHead.cells tr v_3)] ++ se E [0]) ((v_3, v_6) = o_2) a w) ?_ ?_
 ·replace hG := ifB_cases hG; rcases hG with ⟨h_1, hG⟩ | ⟨h_1, hG⟩
  ·refine rg ?_; refine rn 4 [] f0 [(17, B (decide (((p_0.length : Nat) : Int) > 4)))] ?_
   try simp only [List.length_map, KProofL.n_Hops] at h_1
   refine sb 17 (bt h_1) ?_; refine ra [] f0 [(21, B true)] ?_; refine tN ?_; exact fun a w S hK hE => ⟨p_1, p_1_A, p_1_c, true, S, hK.wk, hE.sel [1, 0], Option.some.inj hG⟩
  ·refine rg ?_; refine rn 4 [] f0 [(17, B (decide (((p_0.length : Nat) : Int) > 4)))] ?_
   try simp only [List.length_map, KProofL.n_Hops] at h_1
   refine sb 17 (bf h_1) ?_; refine ra [] f0 [(21, B (decide (((p_1.length : Nat) : Int) > 12)))] ?_; refine tN ?_; exact fun a w S hK hE => ⟨p_1, p_1_A, p_1_c, decide (((p_1.length : Nat) : Int) > 12), S, hK.wk, hE.sel [1, 0], Option.some.inj hG⟩
 ·rintro a w ⟨v_3, v_4_A, v_5_c, v_6, hJ⟩; refine hJ.go fun ho_ => ?_
  clear hJ; subst ho_; replace hG := hG_2
  try (simp only [un2, un3, un4, un5, un6, un7, un8, Sum.elim_inl, Sum.elim_inr, List.length_map, KProofL.n_Hops] at hG; replace hG : _ = _ := hG)
  rcases ifB_cases hG with ⟨h_7, hG⟩ | ⟨h_7, hG⟩
  ·refine sb 21 (bt h_7) ?_; refine ct ?_; refine sq ?_; refine rg ?_; refine ra [] f0 [(4, .pointer none), (5, I 2)] ?_; refine tN ?_; refine kR ?_; refine tR ?_; obtain rfl := Option.some.inj hG; exact rtn [] (⟨false, 0, Korder_archiveL.z⟩ : Korder_archiveO) rfl ⟨(Korder_archiveO.ok0 : Fd _ (Korder_archiveO.ok ⟨false, 0, Korder_archiveL.z⟩)), trivial⟩
  ·refine sb 21 (bf h_7) ?_; refine cf ?_; refine kS ?_; refine tN ?_; refine sq ?_; refine rg ?_; refine l1 ?_; refine mm 22 fun g_8 => ?_
   refine fm (EachM KOfficeL.ok ([] : List (Int × KOfficeL))) em0 ?_; refine rn 2 [] f0 [(24, .agg #[.map (some g_8), .slice v_4_A v_3.length v_5_c])] ?_; refine l1 ?_; refine nw 25 vp [.map (some g_8), .slice v_4_A v_3.length v_5_c] 101 fun g_9 => ?_
   refine ra [] f0 [(6, Pt g_9 0)] ?_; refine tN ?_; refine sq ?_; refine rg ?_; refine ra [] f0 [(7, I 0)] ?_; refine tN ?_; obtain ⟨o_57, hG, hG_57⟩ := bind_some hG; refine jn (fun K E a w => ∃ (v_58 : List (Int × KOfficeL)), Js S0 w0 68 (dk [7] K) ([.mp g_8 (mpM KOfficeL.vl v_58), .dat (EachM KOfficeL.ok v_58)] ++ se E [0, 3]) (.inl (mpM KOfficeL.p v_58) = o_57) a w) ?_ ?_
   ·refine sq ?_; refine rg ?_; refine ra [] f0 [(26, .slice p_0_A p_0.length p_0_c), (27, I ((p_0.length : Nat) : Int)), (28, I 0)] ?_; refine tN ?_; refine bk ?_; obtain ⟨e_42, hL, hG_42⟩ := bind_some hG; clear hG; obtain ⟨stp_42, hs_42, hL⟩ := iter_gen hL; refine lp (fun K E n_ a w => ∃ (v_39 : Int), ∃ (v_40 : List (Int × KOfficeL)), ∃ (v_41 : Int), Js S0 w0 68 ([(7, I v_41), (28, I v_39)] ++ K) ([.mp g_8 (mpM KOfficeL.vl v_40), .dat (EachM KOfficeL.ok v_40)] ++ se E [0, 3, 4]) (iter stp_42 n_ (v_39, (mpM KOfficeL.p v_40), v_41) = some e_42) a w) F ?_ ?_
    ·exact fun a w S hK hE => ⟨0, ([] : List (Int × KOfficeL)), 0, S, hK.wk, hE.sel [2, 1, 0, 3, 4], hL⟩
    ·clear hL; rintro n_42 a w ⟨v_39, v_40, v_41, hJ⟩; refine hJ.go fun hL => ?_
     clear hJ; obtain ⟨m_42, o_42, rfl, hG, hO1_42, hO2_42⟩ := iter_step hL; clear hL; rw [hs_42] at hG
     try (simp only [un2, un3, un4, un5, un6, un7, un8, Sum.elim_inl, Sum.elim_inr, List.length_map, KProofL.n_Hops] at hG; replace hG : _ = _ := hG)
     refine sq ?_; refine rg ?_; refine ra [] f0 [(29, B (decide (v_39 < ((p_0.length : Nat) : Int))))] ?_; refine tN ?_; refine sq ?_; rcases ifB_cases hG with ⟨h_43, hG⟩ | ⟨h_43, hG⟩
     ·try simp only [List.length_map, KProofL.n_Hops] at h_43
      refine sb 29 (bt h_43) ?_; refine ct ?_; refine kS ?_; refine tN ?_; refine sq ?_; refine bk ?_; refine sq ?_; replace hG := bind_some hG; obtain ⟨v_44o, hy_44, hG⟩ := hG; refine rg ?_; refine fxn (p := KOfficeL.p) inf38 (gd' (RowC p_0_A p_0_c KOfficeL.cells KOfficeL.ok p_0) 4) hy_44 fun v_44 b_45 o_46 he_44 hi_44 => ?_
      subst he_44
      try (simp only [un2, un3, un4, un5, un6, un7, un8, Sum.elim_inl, Sum.elim_inr, List.length_map, KProofL.n_Hops] at hG; replace hG : _ = _ := hG)
      refine rn 2 [(0, 0, 0, 0), (0, 2, 0, 0)] (fc (hi_44 .i64) f0) [(31, .agg #[I v_44.ID, .slice v_44.Entries_A v_44.Entries.length v_44.Entries_c])] ?_; refine l1 ?_; refine nw 9 vp [I 0, .slice none 0 0] 53 fun g_47 => ?_
      refine l1 ?_; refine sr 0 g_47 [(0, I v_44.ID), (1, .slice v_44.Entries_A v_44.Entries.length v_44.Entries_c)] ?_; refine nl ?_; refine tN ?_; refine sq ?_; obtain ⟨o_50, hG, hG_50⟩ := bind_some hG; refine jn (fun K E a w => ∃ (v_51 : Bool), Js S0 w0 68 ([(40, B v_51)] ++ K) ([.dat (RowC v_44.Entries_A v_44.Entries_c KEntry.cells tr v_44.Entries)] ++ se E [0, 3, 4, 5, 6, 7]) (v_51 = o_50) a w) ?_ ?_
      ·replace hG := bind_some hG; obtain ⟨v_48, hy_48, hG⟩ := hG; replace hG := ifB_cases hG; rcases hG with ⟨h_49, hG⟩ | ⟨h_49, hG⟩
       ·refine rg ?_; refine rn 1 [(0, 2, 0, 0)] f0 [(32, .agg #[I v_44.ID, .slice v_44.Entries_A v_44.Entries.length v_44.Entries_c])] ?_; refine l1 ?_; refine cl 33 (z_office_Valid F v_44 _ hy_48) hT ⟨(gi 2).a, trivial⟩ ?_; refine rn 2 [] f0 [(35, B (!v_48))] ?_; refine sb 35 (nt h_49) ?_; refine ra [(1, 1, 0, 0)] f0 [(40, B (decide (v_44.ID ≤ v_41)))] ?_; refine tN ?_; refine fm (RowC v_44.Entries_A v_44.Entries_c KEntry.cells tr v_44.Entries) (gm (KOfficeL.ok v_44) 2 fun _ _ h => h.f_Entries) ?_; exact fun a w S hK hE => ⟨decide (v_44.ID ≤ v_41), S, hK.wk, hE.sel [0, 1, 4, 5, 6, 7, 8], Option.some.inj hG⟩
       ·refine rg ?_; refine rn 1 [(0, 2, 0, 0)] f0 [(32, .agg #[I v_44.ID, .slice v_44.Entries_A v_44.Entries.length v_44.Entries_c])] ?_; refine l1 ?_; refine cl 33 (z_office_Valid F v_44 _ hy_48) hT ⟨(gi 2).a, trivial⟩ ?_; refine rn 2 [] f0 [(35, B (!v_48))] ?_; refine sb 35 (nf h_49) ?_; refine ra [] f0 [(40, B true)] ?_; refine tN ?_; refine fm (RowC v_44.Entries_A v_44.Entries_c KEntry.cells tr v_44.Entries) (gm (KOfficeL.ok v_44) 2 fun _ _ h => h.f_Entries) ?_; exact fun a w S hK hE => ⟨true, S, hK.wk, hE.sel [0, 1, 4, 5, 6, 7, 8], Option.some.inj hG⟩
      ·rintro a w ⟨v_51, hJ⟩; refine hJ.go fun ho_ => ?_
       clear hJ; subst ho_; replace hG := hG_50
       try (simp only [un2, un3, un4, un5, un6, un7, un8, Sum.elim_inl, Sum.elim_inr, List.length_map, KProofL.n_Hops] at hG; replace hG : _ = _ := hG)
       rcases ifB_cases hG with ⟨h_52, hG⟩ | ⟨h_52, hG⟩
       ·refine sb 40 (bt h_52) ?_; refine ct ?_; refine sq ?_; refine rg ?_; refine ra [] f0 [(4, .pointer none), (5, I 1)] ?_; refine tN ?_; refine kR ?_; refine tR ?_; refine hR ?_; refine tR ?_; refine tR ?_; have he_ := hO2_42 _ (Option.some.inj hG).symm; subst he_; replace hG := hG_42
        try (simp only [un2, un3, un4, un5, un6, un7, un8, Sum.elim_inl, Sum.elim_inr, List.length_map, KProofL.n_Hops] at hG; replace hG : _ = _ := hG)
        refine hR ?_; refine tR ?_; obtain rfl := Option.some.inj hG; replace hG := hG_57
        try (simp only [un2, un3, un4, un5, un6, un7, un8, Sum.elim_inl, Sum.elim_inr, List.length_map, KProofL.n_Hops] at hG; replace hG : _ = _ := hG)
        obtain rfl := Option.some.inj hG; exact rtn [] (⟨false, 0, Korder_archiveL.z⟩ : Korder_archiveO) rfl ⟨(Korder_archiveO.ok0 : Fd _ (Korder_archiveO.ok ⟨false, 0, Korder_archiveL.z⟩)), trivial⟩
       ·refine sb 40 (bf h_52) ?_; refine cf ?_; refine kS ?_; refine tN ?_; replace hG := bind_some hG; obtain ⟨v_55o, hy_55, hG⟩ := hG; refine hb [0, 1, 3, 4, 5, 6] ?_; refine ht [0, 1, 3, 4, 5, 6] [0, 1, 2, 3, 4, 5, 6, 7, 8] [(3, 1, 3, 0), (1, 1, 1, 0), (0, 2, 1, 0), (1, 1, 1, 0)] f0 [(44, .map (some g_8)), (46, I v_44.ID), (47, .agg #[I v_44.ID, .slice v_44.Entries_A v_44.Entries.length v_44.Entries_c]), (49, I v_44.ID)] ?_; refine ho [9] ⟨?_, trivial⟩; refine h1 ?_; refine mke (f := KOfficeL.vl) 50 2 g_8 v_40 v_44.ID (.agg #[I 0, .slice none 0 0]) Tryz.underlying99 Tryz.underlying3 (fun w => by kernel_rfl) fun u_53 s_54 => ?_
        refine hk [0, 1, 3, 4, 5, 6] ?_; refine ht [0, 1, 3, 4, 5, 6] [10] [] f0 [(51, I ((s_54 : Nat) : Int))] ?_; refine ho [11] ⟨?_, trivial⟩; refine h1 ?_; refine mksn (t := 99) (f := KOfficeL.vl) (ok := KOfficeL.ok) 2 g_8 v_40 v_44.ID s_54 v_44 KOfficeL.p hy_55 (gi 3) (((gd' (RowC v_44.Entries_A v_44.Entries_c KEntry.cells tr v_44.Entries) 0)).m fun _ _ h => ⟨h⟩) fun v_55 he_55 => ?_
        subst he_55
        try (simp only [un2, un3, un4, un5, un6, un7, un8, Sum.elim_inl, Sum.elim_inr, List.length_map, KProofL.n_Hops] at hG; replace hG : _ = _ := hG)
        refine hk [1, 2, 4, 5, 6, 7] ?_; refine ht [1, 2, 4, 5, 6, 7] [12] [] f0 [(7, I v_44.ID)] ?_; refine he ?_; refine hN ?_; refine tN ?_; refine rg ?_; refine ra [] f0 [(28, I (IntKind.i64.wrap (v_39 + 1)))] ?_; refine tN ?_; exact fun a w S hK hE => ⟨m_42, ⟨IntKind.i64.wrap (v_39 + 1), v_55, v_44.ID, S, hK.wk, hE.sel [3, 0, 5, 6, 7], hO1_42 _ (Option.some.inj hG).symm⟩, Nat.lt_succ_self _⟩
     ·try simp only [List.length_map, KProofL.n_Hops] at h_43
      refine sb 29 (bf h_43) ?_; refine cf ?_; refine kX ?_; refine tX ?_; refine tX ?_; have he_ := hO2_42 _ (Option.some.inj hG).symm; subst he_; replace hG := hG_42
      try (simp only [un2, un3, un4, un5, un6, un7, un8, Sum.elim_inl, Sum.elim_inr, List.length_map, KProofL.n_Hops] at hG; replace hG : _ = _ := hG)
      refine hH ?_; refine tN ?_; exact fun a w S hK hE => ⟨v_40, S, hK.wk, hE.sel [0, 1, 2, 3], Option.some.inj hG⟩
   ·rintro a w ⟨v_58, hJ⟩; refine hJ.go fun ho_ => ?_
    clear hJ; subst ho_; replace hG := hG_57
    try (simp only [un2, un3, un4, un5, un6, un7, un8, Sum.elim_inl, Sum.elim_inr, List.length_map, KProofL.n_Hops] at hG; replace hG : _ = _ := hG)
    obtain ⟨o_86, hG, hG_86⟩ := bind_some hG; refine jn (fun K E a w => Js S0 w0 68 (K) (se E [0, 1, 2, 3]) (.inl () = o_86) a w) ?_ ?_
    ·refine sq ?_; refine rg ?_; refine ra [] f0 [(53, .slice v_4_A v_3.length v_5_c), (54, I ((v_3.length : Nat) : Int)), (55, I 0)] ?_; refine tN ?_; refine bk ?_; obtain ⟨e_77, hL, hG_77⟩ := bind_some hG; clear hG; obtain ⟨stp_77, hs_77, hL⟩ := iter_gen hL; refine lp (fun K E n_ a w => ∃ (v_76 : Int), Js S0 w0 68 ([(55, I v_76)] ++ K) (se E [0, 1, 2, 3]) (iter stp_77 n_ v_76 = some e_77) a w) F ?_ ?_
     ·exact fun a w S hK hE => ⟨0, S, hK.wk, hE.sel [0, 1, 2, 3], hL⟩
     ·clear hL; rintro n_77 a w ⟨v_76, hJ⟩; refine hJ.go fun hL => ?_
      clear hJ; obtain ⟨m_77, o_77, rfl, hG, hO1_77, hO2_77⟩ := iter_step hL; clear hL; rw [hs_77] at hG
      try (simp only [un2, un3, un4, un5, un6, un7, un8, Sum.elim_inl, Sum.elim_inr, List.length_map, KProofL.n_Hops] at hG; replace hG : _ = _ := hG)
      refine sq ?_; refine rg ?_; refine ra [] f0 [(56, B (decide (v_76 < ((v_3.length : Nat) : Int))))] ?_; refine tN ?_; refine sq ?_; rcases ifB_cases hG with ⟨h_78, hG⟩ | ⟨h_78, hG⟩
      ·try simp only [List.length_map, KProofL.n_Hops] at h_78
       refine sb 56 (bt h_78) ?_; refine ct ?_; refine kS ?_; refine tN ?_; refine sq ?_; refine bk ?_; refine sq ?_; replace hG := bind_some hG; obtain ⟨v_79, hy_79, hG⟩ := hG; refine rg ?_; refine fx inf39 (gd' (RowC v_4_A v_5_c KHead.cells tr v_3) 3) hy_79 fun b_80 o_81 hi_79 => ?_
       refine rn 2 [(0, 0, 0, 0), (0, 5, 0, 0)] (fc (hi_79 .i64) f0) [(58, .agg #[I v_79.Office, I v_79.Size, U v_79.Root, I v_79.Sig.C, I v_79.Sig.S])] ?_; refine l1 ?_; refine nw 11 vp [I 0, I 0, U 0, I 0, I 0] 27 fun g_82 => ?_
       refine l1 ?_; refine sr 0 g_82 [(0, I v_79.Office), (1, I v_79.Size), (2, U v_79.Root), (3, I v_79.Sig.C), (4, I v_79.Sig.S)] ?_; refine nl ?_; refine tN ?_; refine sq ?_; replace hG := bind_some hG; obtain ⟨⟨v_83, v_84⟩, hy_83, hG⟩ := hG; refine rg ?_; refine rn 1 [(0, 5, 0, 0)] f0 [(60, .agg #[I v_79.Office, I v_79.Size, U v_79.Root, I v_79.Sig.C, I v_79.Sig.S])] ?_; refine l1 ?_; refine cl 61 (z_office_Right F 4 v_79 _ hy_83) hT trivial ?_; refine ra [] f0 [(13, I v_84)] ?_; refine tN ?_; refine sq ?_; refine rg ?_; refine ra [] f0 [(65, B (!(v_84 == 0)))] ?_; refine tN ?_; rcases ifB_cases hG with ⟨h_85, hG⟩ | ⟨h_85, hG⟩
       ·refine sb 65 (nt h_85) ?_; refine cf ?_; refine kS ?_; refine hN ?_; refine tN ?_; refine rg ?_; refine ra [] f0 [(55, I (IntKind.i64.wrap (v_76 + 1)))] ?_; refine tN ?_; exact fun a w S hK hE => ⟨m_77, ⟨IntKind.i64.wrap (v_76 + 1), S, hK.wk, hE.sel [2, 3, 4, 5], hO1_77 _ (Option.some.inj hG).symm⟩, Nat.lt_succ_self _⟩
       ·refine sb 65 (nf h_85) ?_; refine ct ?_; refine sq ?_; refine rg ?_; refine ra [] f0 [(4, .pointer none), (5, I 1)] ?_; refine tN ?_; refine kR ?_; refine hR ?_; refine tR ?_; refine tR ?_; have he_ := hO2_77 _ (Option.some.inj hG).symm; subst he_; replace hG := hG_77
        try (simp only [un2, un3, un4, un5, un6, un7, un8, Sum.elim_inl, Sum.elim_inr, List.length_map, KProofL.n_Hops] at hG; replace hG : _ = _ := hG)
        refine hR ?_; refine tR ?_; obtain rfl := Option.some.inj hG; replace hG := hG_86
        try (simp only [un2, un3, un4, un5, un6, un7, un8, Sum.elim_inl, Sum.elim_inr, List.length_map, KProofL.n_Hops] at hG; replace hG : _ = _ := hG)
        obtain rfl := Option.some.inj hG; exact rtn [] (⟨false, 0, Korder_archiveL.z⟩ : Korder_archiveO) rfl ⟨(Korder_archiveO.ok0 : Fd _ (Korder_archiveO.ok ⟨false, 0, Korder_archiveL.z⟩)), trivial⟩
      ·try simp only [List.length_map, KProofL.n_Hops] at h_78
       refine sb 56 (bf h_78) ?_; refine cf ?_; refine kX ?_; refine tX ?_; refine tX ?_; have he_ := hO2_77 _ (Option.some.inj hG).symm; subst he_; replace hG := hG_77
       try (simp only [un2, un3, un4, un5, un6, un7, un8, Sum.elim_inl, Sum.elim_inr, List.length_map, KProofL.n_Hops] at hG; replace hG : _ = _ := hG)
       refine hH ?_; refine tN ?_; exact fun a w S hK hE => ⟨S, hK.wk, hE.sel [0, 1, 2, 3], Option.some.inj hG⟩
    ·rintro a w hJ; refine hJ.go fun ho_ => ?_
     clear hJ; subst ho_; replace hG := hG_86
     try (simp only [un2, un3, un4, un5, un6, un7, un8, Sum.elim_inl, Sum.elim_inr, List.length_map, KProofL.n_Hops] at hG; replace hG : _ = _ := hG)
     refine sq ?_; refine rg ?_; refine ra [] f0 [(4, Pt g_9 0), (5, I 0)] ?_; refine tN ?_; refine kR ?_; obtain rfl := Option.some.inj hG; refine sm 0 g_8 KOfficeL.vl KOfficeL.ok v_58 KOfficeL.mv (gi 1) ?_; refine sbr 2 g_9 [.map (some g_8), .slice v_4_A v_3.length v_5_c] ?_; exact rtn [] (⟨true, g_9, (⟨g_8, v_58, v_4_A, v_5_c, v_3⟩ : Korder_archiveL)⟩ : Korder_archiveO) rfl ⟨((Fd.two (gd' (fun S W => RecS S W g_9 0 [.map (some g_8), .slice v_4_A v_3.length v_5_c]) 2) (((Fd.two ((gd' (MapC g_8 KOfficeL.vl KOfficeL.ok v_58) 0)) ((gd' (RowC v_4_A v_5_c KHead.cells tr v_3) 3))).m fun _ _ h => ⟨h.1, h.2⟩))).m fun _ _ h _ => h), trivial⟩
end Go.Proofs.YtggaodokkcoagaaGreatDoor
namespace Go.Proofs.YtggaodokkcoagaaGreatDoor
open Go.RowKit Go.Maps
def G_regulatorlaw27_two (F : Nat)  : Option ((List KOffice) × (List KHead) × (List Int)) :=
 Option.bind (G_office_Sign F (⟨1, ([(⟨77, (⟨0, 0⟩ : KInterval)⟩ : KEntry)] : List KEntry)⟩ : KOffice) 1 5 6) (un2 fun v_3 v_4 =>
 Option.bind (G_cross_Digest F v_3) (fun v_6 =>
 Option.bind (G_office_Sign F (⟨2, ([(⟨v_6, (⟨0, 0⟩ : KInterval)⟩ : KEntry), (⟨88, (⟨0, 0⟩ : KInterval)⟩ : KEntry)] : List KEntry)⟩ : KOffice) 2 7 8) (un2 fun v_9 v_10 =>
 Option.bind (Option.bind (G_regulatorref06_Public F 5) (fun v_14 =>
  Option.bind (G_regulatorref06_Public F 7) (fun v_15 =>
  some ([v_14, v_15] : List Int))) : Option ((List Int))) (fun (v_22 : (List Int)) =>
  some (([(⟨1, ([(⟨77, (⟨0, 0⟩ : KInterval)⟩ : KEntry)] : List KEntry)⟩ : KOffice), (⟨2, ([(⟨v_6, (⟨0, 0⟩ : KInterval)⟩ : KEntry), (⟨88, (⟨0, 0⟩ : KInterval)⟩ : KEntry)] : List KEntry)⟩ : KOffice)] : List KOffice), ([v_3, v_9] : List KHead), v_22)))))
set_option maxRecDepth 100000 in
set_option maxHeartbeats 16000000 in
theorem z_regulatorlaw27_two (F : Nat)  (r : (List KOffice) × (List KHead) × (List Int)) (hG : G_regulatorlaw27_two F  = some r) :
  Cn Tryz.prog 31 [] [] (fun q : KSapi_OfficeL × KSapi_HeadL × KSintL => r.1 = (q.1.l.map KOfficeL.p) ∧ r.2.1 = q.2.1.l ∧ r.2.2 = q.2.2.l) (fun q => .tuple #[.slice q.1.A q.1.l.length q.1.c, .slice q.2.1.A q.2.1.l.length q.2.1.c, .slice q.2.2.A q.2.2.l.length q.2.2.c]) (fun q => [RowC q.1.A q.1.c KOfficeL.cells KOfficeL.ok q.1.l, RowC q.2.1.A q.2.1.c KHead.cells tr q.2.1.l, RowC q.2.2.A q.2.2.c c_i64 tr q.2.2.l]) := by
 unfold G_regulatorlaw27_two at hG
 try (simp only [un2, un3, un4, un5, un6, un7, un8, Sum.elim_inl, Sum.elim_inr, List.length_map, KProofL.n_Hops] at hG; replace hG : _ = _ := hG)
 refine fin Tryz.func31 rfl rfl m0 fun S0 w0 hT => ?_
 refine sq ?_; refine rg ?_; refine ra [] f0 [] ?_; refine tN ?_; refine sq ?_; refine rg ?_; refine rn 1 [] f0 [(9, .agg #[U 77, I 0, I 0])] ?_; refine l1 ?_; refine nw 10 (vs 1) [U 77, I 0, I 0] 31 fun g_1 => ?_
 refine rn 1 [] f0 [(11, .agg #[I 1, Sb g_1 1 1])] ?_; refine l1 ?_; refine nw 3 vp [I 0, .slice none 0 0] 53 fun g_2 => ?_
 refine l1 ?_; refine sr 0 g_2 [(0, I 1), (1, Sb g_1 1 1)] ?_; refine nl ?_; refine tN ?_; refine sq ?_; replace hG := bind_some hG; obtain ⟨⟨v_3, v_4⟩, hy_3, hG⟩ := hG; refine rg ?_; refine rn 1 [(0, 2, 0, 0)] f0 [(13, .agg #[I 1, Sb g_1 1 1])] ?_; refine l1 ?_; refine cl 14 (z_office_Sign F (⟨1, (some ⟨g_1, 0, none⟩), 1, ([(⟨77, (⟨0, 0⟩ : KInterval)⟩ : KEntry)] : List KEntry)⟩ : KOfficeL) 1 5 6 _ hy_3) hT ⟨Fa.m (bA (f := KEntry.cells) (ok := tr) (l := ([(⟨77, (⟨0, 0⟩ : KInterval)⟩ : KEntry)] : List KEntry)) g_1 1 (et.a)) fun _ _ h => ⟨h⟩, trivial⟩ ?_; refine rn 3 [] f0 [(15, .agg #[I v_3.Office, I v_3.Size, U v_3.Root, I v_3.Sig.C, I v_3.Sig.S]), (16, I v_4)] ?_; refine l1 ?_; refine nw 4 vp [I 0, I 0, U 0, I 0, I 0] 27 fun g_5 => ?_
 refine l1 ?_; refine sr 0 g_5 [(0, I v_3.Office), (1, I v_3.Size), (2, U v_3.Root), (3, I v_3.Sig.C), (4, I v_3.Sig.S)] ?_; refine ra [] f0 [] ?_; refine tN ?_; refine sq ?_; replace hG := bind_some hG; obtain ⟨v_6, hy_6, hG⟩ := hG; refine rg ?_; refine rn 1 [(0, 5, 0, 0)] f0 [(17, .agg #[I v_3.Office, I v_3.Size, U v_3.Root, I v_3.Sig.C, I v_3.Sig.S])] ?_; refine l1 ?_; refine cl 18 (z_cross_Digest F v_3 _ hy_6) hT trivial ?_; refine rn 2 [] f0 [(19, .agg #[U v_6, I 0, I 0]), (20, .agg #[U 88, I 0, I 0])] ?_; refine l1 ?_; refine nw 21 (vs 2) [U v_6, I 0, I 0, U 88, I 0, I 0] 31 fun g_7 => ?_
 refine rn 1 [] f0 [(22, .agg #[I 2, Sb g_7 2 2])] ?_; refine l1 ?_; refine nw 6 vp [I 0, .slice none 0 0] 53 fun g_8 => ?_
 refine l1 ?_; refine sr 0 g_8 [(0, I 2), (1, Sb g_7 2 2)] ?_; refine nl ?_; refine tN ?_; refine sq ?_; replace hG := bind_some hG; obtain ⟨⟨v_9, v_10⟩, hy_9, hG⟩ := hG; refine rg ?_; refine rn 1 [(0, 2, 0, 0)] f0 [(24, .agg #[I 2, Sb g_7 2 2])] ?_; refine l1 ?_; refine cl 25 (z_office_Sign F (⟨2, (some ⟨g_7, 0, none⟩), 2, ([(⟨v_6, (⟨0, 0⟩ : KInterval)⟩ : KEntry), (⟨88, (⟨0, 0⟩ : KInterval)⟩ : KEntry)] : List KEntry)⟩ : KOfficeL) 2 7 8 _ hy_9) hT ⟨Fa.m (bA (f := KEntry.cells) (ok := tr) (l := ([(⟨v_6, (⟨0, 0⟩ : KInterval)⟩ : KEntry), (⟨88, (⟨0, 0⟩ : KInterval)⟩ : KEntry)] : List KEntry)) g_7 1 (et.a)) fun _ _ h => ⟨h⟩, trivial⟩ ?_; refine rn 3 [] f0 [(26, .agg #[I v_9.Office, I v_9.Size, U v_9.Root, I v_9.Sig.C, I v_9.Sig.S]), (27, I v_10)] ?_; refine l1 ?_; refine nw 7 vp [I 0, I 0, U 0, I 0, I 0] 27 fun g_11 => ?_
 refine l1 ?_; refine sr 0 g_11 [(0, I v_9.Office), (1, I v_9.Size), (2, U v_9.Root), (3, I v_9.Sig.C), (4, I v_9.Sig.S)] ?_; refine ra [] f0 [] ?_; refine tN ?_; obtain ⟨o_17, hG, hG_17⟩ := bind_some hG; refine jn (fun K E a w => ∃ (v_18_A : Option Addr), ∃ (v_19_c : Nat), ∃ (v_20_A : Option Addr), ∃ (v_21_c : Nat), ∃ (v_22 : List Int), ∃ (v_23_A : Option Addr), ∃ (v_24_c : Nat), Js S0 w0 37 ([(0, .slice v_18_A ([(⟨1, (some ⟨g_1, 0, none⟩), 1, ([(⟨77, (⟨0, 0⟩ : KInterval)⟩ : KEntry)] : List KEntry)⟩ : KOfficeL), (⟨2, (some ⟨g_7, 0, none⟩), 2, ([(⟨v_6, (⟨0, 0⟩ : KInterval)⟩ : KEntry), (⟨88, (⟨0, 0⟩ : KInterval)⟩ : KEntry)] : List KEntry)⟩ : KOfficeL)] : List KOfficeL).length v_19_c), (1, .slice v_20_A ([v_3, v_9] : List KHead).length v_21_c), (2, .slice v_23_A v_22.length v_24_c)] ++ K) ([.dat (RowC v_18_A v_19_c KOfficeL.cells KOfficeL.ok ([(⟨1, (some ⟨g_1, 0, none⟩), 1, ([(⟨77, (⟨0, 0⟩ : KInterval)⟩ : KEntry)] : List KEntry)⟩ : KOfficeL), (⟨2, (some ⟨g_7, 0, none⟩), 2, ([(⟨v_6, (⟨0, 0⟩ : KInterval)⟩ : KEntry), (⟨88, (⟨0, 0⟩ : KInterval)⟩ : KEntry)] : List KEntry)⟩ : KOfficeL)] : List KOfficeL)), .dat (RowC v_20_A v_21_c KHead.cells tr ([v_3, v_9] : List KHead)), .dat (RowC v_23_A v_24_c c_i64 tr v_22)]) (v_22 = o_17) a w) ?_ ?_
 ·replace hG := bind_some hG; obtain ⟨v_14, hy_14, hG⟩ := hG; replace hG := bind_some hG; obtain ⟨v_15, hy_15, hG⟩ := hG; refine hb [0, 1, 2, 3, 4, 5] ?_; refine ht [0, 1, 2, 3, 4, 5] [0, 1, 3, 4] [(0, 2, 4, 0), (0, 2, 1, 0), (0, 5, 3, 0), (0, 5, 0, 0)] f0 [(28, .agg #[I 1, Sb g_1 1 1]), (29, .agg #[I 2, Sb g_7 2 2]), (31, .agg #[I v_3.Office, I v_3.Size, U v_3.Root, I v_3.Sig.C, I v_3.Sig.S]), (32, .agg #[I v_9.Office, I v_9.Size, U v_9.Root, I v_9.Sig.C, I v_9.Sig.S])] ?_; refine ho [2, 5, 6] ⟨?_, ?_, ?_, trivial⟩
  ·refine h1 ?_; refine nw 30 (vs 2) [I 1, Sb g_1 1 1, I 2, Sb g_7 2 2] 53 fun g_12 => ?_
   refine hk [1, 2, 3, 4, 5, 6] ?_; refine ho [5, 6] ⟨?_, ?_, trivial⟩
   ·refine h1 ?_; refine nw 33 (vs 2) [I v_3.Office, I v_3.Size, U v_3.Root, I v_3.Sig.C, I v_3.Sig.S, I v_9.Office, I v_9.Size, U v_9.Root, I v_9.Sig.C, I v_9.Sig.S] 27 fun g_13 => ?_
    refine hk [2, 3, 4, 5, 6, 7] ?_; refine ho [6] ⟨?_, trivial⟩; refine h1 ?_; refine cl 34 (z_regulatorref06_Public F 5 _ hy_14) hT trivial ?_; refine hk [2, 3, 4, 5, 6, 7] ?_; refine ho [7] ⟨?_, trivial⟩; refine h1 ?_; refine cl 35 (z_regulatorref06_Public F 7 _ hy_15) hT trivial ?_; refine hk [2, 3, 4, 5, 6, 7] ?_; refine ht [2, 3, 4, 5, 6, 7] [9, 10] [] f0 [(0, Sb g_12 2 2), (1, Sb g_13 2 2)] ?_; refine ho [8] ⟨?_, trivial⟩; refine h1 ?_; refine nw 36 (vs 2) [I v_14, I v_15] 3 fun g_16 => ?_
    refine hk [3, 4, 5, 6, 7, 8] ?_; refine ht [3, 4, 5, 6, 7, 8] [11] [] f0 [(2, Sb g_16 2 2)] ?_; refine he ?_; refine tN ?_; refine sB 8 g_1 KEntry.cells tr ([(⟨77, (⟨0, 0⟩ : KInterval)⟩ : KEntry)] : List KEntry) tr_mv et ?_; refine sB 5 g_7 KEntry.cells tr ([(⟨v_6, (⟨0, 0⟩ : KInterval)⟩ : KEntry), (⟨88, (⟨0, 0⟩ : KInterval)⟩ : KEntry)] : List KEntry) tr_mv et ?_; refine sB 2 g_12 KOfficeL.cells KOfficeL.ok ([(⟨1, (some ⟨g_1, 0, none⟩), 1, ([(⟨77, (⟨0, 0⟩ : KInterval)⟩ : KEntry)] : List KEntry)⟩ : KOfficeL), (⟨2, (some ⟨g_7, 0, none⟩), 2, ([(⟨v_6, (⟨0, 0⟩ : KInterval)⟩ : KEntry), (⟨88, (⟨0, 0⟩ : KInterval)⟩ : KEntry)] : List KEntry)⟩ : KOfficeL)] : List KOfficeL) KOfficeL.mv (ec (((gd' (RowC (some ⟨g_1, 0, none⟩) 1 KEntry.cells tr ([(⟨77, (⟨0, 0⟩ : KInterval)⟩ : KEntry)] : List KEntry)) 8)).m fun _ _ h => ⟨h⟩) (ec (((gd' (RowC (some ⟨g_7, 0, none⟩) 2 KEntry.cells tr ([(⟨v_6, (⟨0, 0⟩ : KInterval)⟩ : KEntry), (⟨88, (⟨0, 0⟩ : KInterval)⟩ : KEntry)] : List KEntry)) 5)).m fun _ _ h => ⟨h⟩) e0)) ?_; refine sB 1 g_13 KHead.cells tr ([v_3, v_9] : List KHead) tr_mv et ?_; refine sB 0 g_16 c_i64 tr ([v_14, v_15] : List Int) tr_mv et ?_; exact fun a w S hK hE => ⟨(some ⟨g_12, 0, none⟩), 2, (some ⟨g_13, 0, none⟩), 2, ([v_14, v_15] : List Int), (some ⟨g_16, 0, none⟩), 2, S, hK.wk, hE.sel [2, 1, 0], Option.some.inj hG⟩
   ·refine h1 ?_; refine cl 34 (z_regulatorref06_Public F 5 _ hy_14) hT trivial ?_; refine hk [1, 2, 3, 4, 5, 6] ?_; refine ho [5, 7] ⟨?_, ?_, trivial⟩
    ·refine h1 ?_; refine nw 33 (vs 2) [I v_3.Office, I v_3.Size, U v_3.Root, I v_3.Sig.C, I v_3.Sig.S, I v_9.Office, I v_9.Size, U v_9.Root, I v_9.Sig.C, I v_9.Sig.S] 27 fun g_13 => ?_
     refine hk [2, 3, 4, 5, 6, 7] ?_; refine ho [7] ⟨?_, trivial⟩; refine h1 ?_; refine cl 35 (z_regulatorref06_Public F 7 _ hy_15) hT trivial ?_; refine hk [2, 3, 4, 5, 6, 7] ?_; refine ht [2, 3, 4, 5, 6, 7] [9, 10] [] f0 [(0, Sb g_12 2 2), (1, Sb g_13 2 2)] ?_; refine ho [8] ⟨?_, trivial⟩; refine h1 ?_; refine nw 36 (vs 2) [I v_14, I v_15] 3 fun g_16 => ?_
     refine hk [3, 4, 5, 6, 7, 8] ?_; refine ht [3, 4, 5, 6, 7, 8] [11] [] f0 [(2, Sb g_16 2 2)] ?_; refine he ?_; refine tN ?_; refine sB 8 g_1 KEntry.cells tr ([(⟨77, (⟨0, 0⟩ : KInterval)⟩ : KEntry)] : List KEntry) tr_mv et ?_; refine sB 5 g_7 KEntry.cells tr ([(⟨v_6, (⟨0, 0⟩ : KInterval)⟩ : KEntry), (⟨88, (⟨0, 0⟩ : KInterval)⟩ : KEntry)] : List KEntry) tr_mv et ?_; refine sB 2 g_12 KOfficeL.cells KOfficeL.ok ([(⟨1, (some ⟨g_1, 0, none⟩), 1, ([(⟨77, (⟨0, 0⟩ : KInterval)⟩ : KEntry)] : List KEntry)⟩ : KOfficeL), (⟨2, (some ⟨g_7, 0, none⟩), 2, ([(⟨v_6, (⟨0, 0⟩ : KInterval)⟩ : KEntry), (⟨88, (⟨0, 0⟩ : KInterval)⟩ : KEntry)] : List KEntry)⟩ : KOfficeL)] : List KOfficeL) KOfficeL.mv (ec (((gd' (RowC (some ⟨g_1, 0, none⟩) 1 KEntry.cells tr ([(⟨77, (⟨0, 0⟩ : KInterval)⟩ : KEntry)] : List KEntry)) 8)).m fun _ _ h => ⟨h⟩) (ec (((gd' (RowC (some ⟨g_7, 0, none⟩) 2 KEntry.cells tr ([(⟨v_6, (⟨0, 0⟩ : KInterval)⟩ : KEntry), (⟨88, (⟨0, 0⟩ : KInterval)⟩ : KEntry)] : List KEntry)) 5)).m fun _ _ h => ⟨h⟩) e0)) ?_; refine sB 1 g_13 KHead.cells tr ([v_3, v_9] : List KHead) tr_mv et ?_; refine sB 0 g_16 c_i64 tr ([v_14, v_15] : List Int) tr_mv et ?_; exact fun a w S hK hE => ⟨(some ⟨g_12, 0, none⟩), 2, (some ⟨g_13, 0, none⟩), 2, ([v_14, v_15] : List Int), (some ⟨g_16, 0, none⟩), 2, S, hK.wk, hE.sel [2, 1, 0], Option.some.inj hG⟩
    ·refine h1 ?_; refine cl 35 (z_regulatorref06_Public F 7 _ hy_15) hT trivial ?_; refine hk [1, 2, 3, 4, 5, 6] ?_; refine ht [1, 2, 3, 4, 5, 6] [9] [] f0 [(0, Sb g_12 2 2)] ?_; refine ho [5, 8] ⟨?_, ?_, trivial⟩
     ·refine h1 ?_; refine nw 33 (vs 2) [I v_3.Office, I v_3.Size, U v_3.Root, I v_3.Sig.C, I v_3.Sig.S, I v_9.Office, I v_9.Size, U v_9.Root, I v_9.Sig.C, I v_9.Sig.S] 27 fun g_13 => ?_
      refine hk [2, 3, 4, 5, 6, 7] ?_; refine ht [2, 3, 4, 5, 6, 7] [10] [] f0 [(1, Sb g_13 2 2)] ?_; refine ho [8] ⟨?_, trivial⟩; refine h1 ?_; refine nw 36 (vs 2) [I v_14, I v_15] 3 fun g_16 => ?_
      refine hk [3, 4, 5, 6, 7, 8] ?_; refine ht [3, 4, 5, 6, 7, 8] [11] [] f0 [(2, Sb g_16 2 2)] ?_; refine he ?_; refine tN ?_; refine sB 8 g_1 KEntry.cells tr ([(⟨77, (⟨0, 0⟩ : KInterval)⟩ : KEntry)] : List KEntry) tr_mv et ?_; refine sB 5 g_7 KEntry.cells tr ([(⟨v_6, (⟨0, 0⟩ : KInterval)⟩ : KEntry), (⟨88, (⟨0, 0⟩ : KInterval)⟩ : KEntry)] : List KEntry) tr_mv et ?_; refine sB 2 g_12 KOfficeL.cells KOfficeL.ok ([(⟨1, (some ⟨g_1, 0, none⟩), 1, ([(⟨77, (⟨0, 0⟩ : KInterval)⟩ : KEntry)] : List KEntry)⟩ : KOfficeL), (⟨2, (some ⟨g_7, 0, none⟩), 2, ([(⟨v_6, (⟨0, 0⟩ : KInterval)⟩ : KEntry), (⟨88, (⟨0, 0⟩ : KInterval)⟩ : KEntry)] : List KEntry)⟩ : KOfficeL)] : List KOfficeL) KOfficeL.mv (ec (((gd' (RowC (some ⟨g_1, 0, none⟩) 1 KEntry.cells tr ([(⟨77, (⟨0, 0⟩ : KInterval)⟩ : KEntry)] : List KEntry)) 8)).m fun _ _ h => ⟨h⟩) (ec (((gd' (RowC (some ⟨g_7, 0, none⟩) 2 KEntry.cells tr ([(⟨v_6, (⟨0, 0⟩ : KInterval)⟩ : KEntry), (⟨88, (⟨0, 0⟩ : KInterval)⟩ : KEntry)] : List KEntry)) 5)).m fun _ _ h => ⟨h⟩) e0)) ?_; refine sB 1 g_13 KHead.cells tr ([v_3, v_9] : List KHead) tr_mv et ?_; refine sB 0 g_16 c_i64 tr ([v_14, v_15] : List Int) tr_mv et ?_; exact fun a w S hK hE => ⟨(some ⟨g_12, 0, none⟩), 2, (some ⟨g_13, 0, none⟩), 2, ([v_14, v_15] : List Int), (some ⟨g_16, 0, none⟩), 2, S, hK.wk, hE.sel [2, 1, 0], Option.some.inj hG⟩
     ·refine h1 ?_; refine nw 36 (vs 2) [I v_14, I v_15] 3 fun g_16 => ?_
      refine hk [2, 3, 4, 5, 6, 7] ?_; refine ho [5] ⟨?_, trivial⟩; refine h1 ?_; refine nw 33 (vs 2) [I v_3.Office, I v_3.Size, U v_3.Root, I v_3.Sig.C, I v_3.Sig.S, I v_9.Office, I v_9.Size, U v_9.Root, I v_9.Sig.C, I v_9.Sig.S] 27 fun g_13 => ?_
      refine hk [3, 4, 5, 6, 7, 8] ?_; refine ht [3, 4, 5, 6, 7, 8] [10, 11] [] f0 [(1, Sb g_13 2 2), (2, Sb g_16 2 2)] ?_; refine he ?_; refine tN ?_; refine sB 8 g_1 KEntry.cells tr ([(⟨77, (⟨0, 0⟩ : KInterval)⟩ : KEntry)] : List KEntry) tr_mv et ?_; refine sB 5 g_7 KEntry.cells tr ([(⟨v_6, (⟨0, 0⟩ : KInterval)⟩ : KEntry), (⟨88, (⟨0, 0⟩ : KInterval)⟩ : KEntry)] : List KEntry) tr_mv et ?_; refine sB 2 g_12 KOfficeL.cells KOfficeL.ok ([(⟨1, (some ⟨g_1, 0, none⟩), 1, ([(⟨77, (⟨0, 0⟩ : KInterval)⟩ : KEntry)] : List KEntry)⟩ : KOfficeL), (⟨2, (some ⟨g_7, 0, none⟩), 2, ([(⟨v_6, (⟨0, 0⟩ : KInterval)⟩ : KEntry), (⟨88, (⟨0, 0⟩ : KInterval)⟩ : KEntry)] : List KEntry)⟩ : KOfficeL)] : List KOfficeL) KOfficeL.mv (ec (((gd' (RowC (some ⟨g_1, 0, none⟩) 1 KEntry.cells tr ([(⟨77, (⟨0, 0⟩ : KInterval)⟩ : KEntry)] : List KEntry)) 8)).m fun _ _ h => ⟨h⟩) (ec (((gd' (RowC (some ⟨g_7, 0, none⟩) 2 KEntry.cells tr ([(⟨v_6, (⟨0, 0⟩ : KInterval)⟩ : KEntry), (⟨88, (⟨0, 0⟩ : KInterval)⟩ : KEntry)] : List KEntry)) 5)).m fun _ _ h => ⟨h⟩) e0)) ?_; refine sB 0 g_13 KHead.cells tr ([v_3, v_9] : List KHead) tr_mv et ?_; refine sB 1 g_16 c_i64 tr ([v_14, v_15] : List Int) tr_mv et ?_; exact fun a w S hK hE => ⟨(some ⟨g_12, 0, none⟩), 2, (some ⟨g_13, 0, none⟩), 2, ([v_14, v_15] : List Int), (some ⟨g_16, 0, none⟩), 2, S, hK.wk, hE.sel [2, 0, 1], Option.some.inj hG⟩
  ·refine h1 ?_; refine nw 33 (vs 2) [I v_3.Office, I v_3.Size, U v_3.Root, I v_3.Sig.C, I v_3.Sig.S, I v_9.Office, I v_9.Size, U v_9.Root, I v_9.Sig.C, I v_9.Sig.S] 27 fun g_13 => ?_
   refine hk [1, 2, 3, 4, 5, 6] ?_; refine ho [2, 6] ⟨?_, ?_, trivial⟩
   ·refine h1 ?_; refine nw 30 (vs 2) [I 1, Sb g_1 1 1, I 2, Sb g_7 2 2] 53 fun g_12 => ?_
    refine hk [2, 3, 4, 5, 6, 7] ?_; refine ho [6] ⟨?_, trivial⟩; refine h1 ?_; refine cl 34 (z_regulatorref06_Public F 5 _ hy_14) hT trivial ?_; refine hk [2, 3, 4, 5, 6, 7] ?_; refine ho [7] ⟨?_, trivial⟩; refine h1 ?_; refine cl 35 (z_regulatorref06_Public F 7 _ hy_15) hT trivial ?_; refine hk [2, 3, 4, 5, 6, 7] ?_; refine ht [2, 3, 4, 5, 6, 7] [9, 10] [] f0 [(0, Sb g_12 2 2), (1, Sb g_13 2 2)] ?_; refine ho [8] ⟨?_, trivial⟩; refine h1 ?_; refine nw 36 (vs 2) [I v_14, I v_15] 3 fun g_16 => ?_
    refine hk [3, 4, 5, 6, 7, 8] ?_; refine ht [3, 4, 5, 6, 7, 8] [11] [] f0 [(2, Sb g_16 2 2)] ?_; refine he ?_; refine tN ?_; refine sB 8 g_1 KEntry.cells tr ([(⟨77, (⟨0, 0⟩ : KInterval)⟩ : KEntry)] : List KEntry) tr_mv et ?_; refine sB 5 g_7 KEntry.cells tr ([(⟨v_6, (⟨0, 0⟩ : KInterval)⟩ : KEntry), (⟨88, (⟨0, 0⟩ : KInterval)⟩ : KEntry)] : List KEntry) tr_mv et ?_; refine sB 1 g_12 KOfficeL.cells KOfficeL.ok ([(⟨1, (some ⟨g_1, 0, none⟩), 1, ([(⟨77, (⟨0, 0⟩ : KInterval)⟩ : KEntry)] : List KEntry)⟩ : KOfficeL), (⟨2, (some ⟨g_7, 0, none⟩), 2, ([(⟨v_6, (⟨0, 0⟩ : KInterval)⟩ : KEntry), (⟨88, (⟨0, 0⟩ : KInterval)⟩ : KEntry)] : List KEntry)⟩ : KOfficeL)] : List KOfficeL) KOfficeL.mv (ec (((gd' (RowC (some ⟨g_1, 0, none⟩) 1 KEntry.cells tr ([(⟨77, (⟨0, 0⟩ : KInterval)⟩ : KEntry)] : List KEntry)) 8)).m fun _ _ h => ⟨h⟩) (ec (((gd' (RowC (some ⟨g_7, 0, none⟩) 2 KEntry.cells tr ([(⟨v_6, (⟨0, 0⟩ : KInterval)⟩ : KEntry), (⟨88, (⟨0, 0⟩ : KInterval)⟩ : KEntry)] : List KEntry)) 5)).m fun _ _ h => ⟨h⟩) e0)) ?_; refine sB 2 g_13 KHead.cells tr ([v_3, v_9] : List KHead) tr_mv et ?_; refine sB 0 g_16 c_i64 tr ([v_14, v_15] : List Int) tr_mv et ?_; exact fun a w S hK hE => ⟨(some ⟨g_12, 0, none⟩), 2, (some ⟨g_13, 0, none⟩), 2, ([v_14, v_15] : List Int), (some ⟨g_16, 0, none⟩), 2, S, hK.wk, hE.sel [1, 2, 0], Option.some.inj hG⟩
   ·refine h1 ?_; refine cl 34 (z_regulatorref06_Public F 5 _ hy_14) hT trivial ?_; refine hk [1, 2, 3, 4, 5, 6] ?_; refine ho [2, 7] ⟨?_, ?_, trivial⟩
    ·refine h1 ?_; refine nw 30 (vs 2) [I 1, Sb g_1 1 1, I 2, Sb g_7 2 2] 53 fun g_12 => ?_
     refine hk [2, 3, 4, 5, 6, 7] ?_; refine ho [7] ⟨?_, trivial⟩; refine h1 ?_; refine cl 35 (z_regulatorref06_Public F 7 _ hy_15) hT trivial ?_; refine hk [2, 3, 4, 5, 6, 7] ?_; refine ht [2, 3, 4, 5, 6, 7] [9, 10] [] f0 [(0, Sb g_12 2 2), (1, Sb g_13 2 2)] ?_; refine ho [8] ⟨?_, trivial⟩; refine h1 ?_; refine nw 36 (vs 2) [I v_14, I v_15] 3 fun g_16 => ?_
     refine hk [3, 4, 5, 6, 7, 8] ?_; refine ht [3, 4, 5, 6, 7, 8] [11] [] f0 [(2, Sb g_16 2 2)] ?_; refine he ?_; refine tN ?_; refine sB 8 g_1 KEntry.cells tr ([(⟨77, (⟨0, 0⟩ : KInterval)⟩ : KEntry)] : List KEntry) tr_mv et ?_; refine sB 5 g_7 KEntry.cells tr ([(⟨v_6, (⟨0, 0⟩ : KInterval)⟩ : KEntry), (⟨88, (⟨0, 0⟩ : KInterval)⟩ : KEntry)] : List KEntry) tr_mv et ?_; refine sB 1 g_12 KOfficeL.cells KOfficeL.ok ([(⟨1, (some ⟨g_1, 0, none⟩), 1, ([(⟨77, (⟨0, 0⟩ : KInterval)⟩ : KEntry)] : List KEntry)⟩ : KOfficeL), (⟨2, (some ⟨g_7, 0, none⟩), 2, ([(⟨v_6, (⟨0, 0⟩ : KInterval)⟩ : KEntry), (⟨88, (⟨0, 0⟩ : KInterval)⟩ : KEntry)] : List KEntry)⟩ : KOfficeL)] : List KOfficeL) KOfficeL.mv (ec (((gd' (RowC (some ⟨g_1, 0, none⟩) 1 KEntry.cells tr ([(⟨77, (⟨0, 0⟩ : KInterval)⟩ : KEntry)] : List KEntry)) 8)).m fun _ _ h => ⟨h⟩) (ec (((gd' (RowC (some ⟨g_7, 0, none⟩) 2 KEntry.cells tr ([(⟨v_6, (⟨0, 0⟩ : KInterval)⟩ : KEntry), (⟨88, (⟨0, 0⟩ : KInterval)⟩ : KEntry)] : List KEntry)) 5)).m fun _ _ h => ⟨h⟩) e0)) ?_; refine sB 2 g_13 KHead.cells tr ([v_3, v_9] : List KHead) tr_mv et ?_; refine sB 0 g_16 c_i64 tr ([v_14, v_15] : List Int) tr_mv et ?_; exact fun a w S hK hE => ⟨(some ⟨g_12, 0, none⟩), 2, (some ⟨g_13, 0, none⟩), 2, ([v_14, v_15] : List Int), (some ⟨g_16, 0, none⟩), 2, S, hK.wk, hE.sel [1, 2, 0], Option.some.inj hG⟩
    ·refine h1 ?_; refine cl 35 (z_regulatorref06_Public F 7 _ hy_15) hT trivial ?_; refine hk [1, 2, 3, 4, 5, 6] ?_; refine ho [2, 8] ⟨?_, ?_, trivial⟩
     ·refine h1 ?_; refine nw 30 (vs 2) [I 1, Sb g_1 1 1, I 2, Sb g_7 2 2] 53 fun g_12 => ?_
      refine hk [2, 3, 4, 5, 6, 7] ?_; refine ht [2, 3, 4, 5, 6, 7] [9, 10] [] f0 [(0, Sb g_12 2 2), (1, Sb g_13 2 2)] ?_; refine ho [8] ⟨?_, trivial⟩; refine h1 ?_; refine nw 36 (vs 2) [I v_14, I v_15] 3 fun g_16 => ?_
      refine hk [3, 4, 5, 6, 7, 8] ?_; refine ht [3, 4, 5, 6, 7, 8] [11] [] f0 [(2, Sb g_16 2 2)] ?_; refine he ?_; refine tN ?_; refine sB 8 g_1 KEntry.cells tr ([(⟨77, (⟨0, 0⟩ : KInterval)⟩ : KEntry)] : List KEntry) tr_mv et ?_; refine sB 5 g_7 KEntry.cells tr ([(⟨v_6, (⟨0, 0⟩ : KInterval)⟩ : KEntry), (⟨88, (⟨0, 0⟩ : KInterval)⟩ : KEntry)] : List KEntry) tr_mv et ?_; refine sB 1 g_12 KOfficeL.cells KOfficeL.ok ([(⟨1, (some ⟨g_1, 0, none⟩), 1, ([(⟨77, (⟨0, 0⟩ : KInterval)⟩ : KEntry)] : List KEntry)⟩ : KOfficeL), (⟨2, (some ⟨g_7, 0, none⟩), 2, ([(⟨v_6, (⟨0, 0⟩ : KInterval)⟩ : KEntry), (⟨88, (⟨0, 0⟩ : KInterval)⟩ : KEntry)] : List KEntry)⟩ : KOfficeL)] : List KOfficeL) KOfficeL.mv (ec (((gd' (RowC (some ⟨g_1, 0, none⟩) 1 KEntry.cells tr ([(⟨77, (⟨0, 0⟩ : KInterval)⟩ : KEntry)] : List KEntry)) 8)).m fun _ _ h => ⟨h⟩) (ec (((gd' (RowC (some ⟨g_7, 0, none⟩) 2 KEntry.cells tr ([(⟨v_6, (⟨0, 0⟩ : KInterval)⟩ : KEntry), (⟨88, (⟨0, 0⟩ : KInterval)⟩ : KEntry)] : List KEntry)) 5)).m fun _ _ h => ⟨h⟩) e0)) ?_; refine sB 2 g_13 KHead.cells tr ([v_3, v_9] : List KHead) tr_mv et ?_; refine sB 0 g_16 c_i64 tr ([v_14, v_15] : List Int) tr_mv et ?_; exact fun a w S hK hE => ⟨(some ⟨g_12, 0, none⟩), 2, (some ⟨g_13, 0, none⟩), 2, ([v_14, v_15] : List Int), (some ⟨g_16, 0, none⟩), 2, S, hK.wk, hE.sel [1, 2, 0], Option.some.inj hG⟩
     ·refine h1 ?_; refine nw 36 (vs 2) [I v_14, I v_15] 3 fun g_16 => ?_
      refine hk [2, 3, 4, 5, 6, 7] ?_; refine ho [2] ⟨?_, trivial⟩; refine h1 ?_; refine nw 30 (vs 2) [I 1, Sb g_1 1 1, I 2, Sb g_7 2 2] 53 fun g_12 => ?_
      refine hk [3, 4, 5, 6, 7, 8] ?_; refine ht [3, 4, 5, 6, 7, 8] [9, 10, 11] [] f0 [(0, Sb g_12 2 2), (1, Sb g_13 2 2), (2, Sb g_16 2 2)] ?_; refine he ?_; refine tN ?_; refine sB 8 g_1 KEntry.cells tr ([(⟨77, (⟨0, 0⟩ : KInterval)⟩ : KEntry)] : List KEntry) tr_mv et ?_; refine sB 5 g_7 KEntry.cells tr ([(⟨v_6, (⟨0, 0⟩ : KInterval)⟩ : KEntry), (⟨88, (⟨0, 0⟩ : KInterval)⟩ : KEntry)] : List KEntry) tr_mv et ?_; refine sB 0 g_12 KOfficeL.cells KOfficeL.ok ([(⟨1, (some ⟨g_1, 0, none⟩), 1, ([(⟨77, (⟨0, 0⟩ : KInterval)⟩ : KEntry)] : List KEntry)⟩ : KOfficeL), (⟨2, (some ⟨g_7, 0, none⟩), 2, ([(⟨v_6, (⟨0, 0⟩ : KInterval)⟩ : KEntry), (⟨88, (⟨0, 0⟩ : KInterval)⟩ : KEntry)] : List KEntry)⟩ : KOfficeL)] : List KOfficeL) KOfficeL.mv (ec (((gd' (RowC (some ⟨g_1, 0, none⟩) 1 KEntry.cells tr ([(⟨77, (⟨0, 0⟩ : KInterval)⟩ : KEntry)] : List KEntry)) 8)).m fun _ _ h => ⟨h⟩) (ec (((gd' (RowC (some ⟨g_7, 0, none⟩) 2 KEntry.cells tr ([(⟨v_6, (⟨0, 0⟩ : KInterval)⟩ : KEntry), (⟨88, (⟨0, 0⟩ : KInterval)⟩ : KEntry)] : List KEntry)) 5)).m fun _ _ h => ⟨h⟩) e0)) ?_; refine sB 2 g_13 KHead.cells tr ([v_3, v_9] : List KHead) tr_mv et ?_; refine sB 1 g_16 c_i64 tr ([v_14, v_15] : List Int) tr_mv et ?_; exact fun a w S hK hE => ⟨(some ⟨g_12, 0, none⟩), 2, (some ⟨g_13, 0, none⟩), 2, ([v_14, v_15] : List Int), (some ⟨g_16, 0, none⟩), 2, S, hK.wk, hE.sel [0, 2, 1], Option.some.inj hG⟩
  ·refine h1 ?_; refine cl 34 (z_regulatorref06_Public F 5 _ hy_14) hT trivial ?_; refine hk [0, 1, 2, 3, 4, 5] ?_; refine ho [2, 5, 7] ⟨?_, ?_, ?_, trivial⟩
   ·refine h1 ?_; refine nw 30 (vs 2) [I 1, Sb g_1 1 1, I 2, Sb g_7 2 2] 53 fun g_12 => ?_
    refine hk [1, 2, 3, 4, 5, 6] ?_; refine ho [5, 7] ⟨?_, ?_, trivial⟩
    ·refine h1 ?_; refine nw 33 (vs 2) [I v_3.Office, I v_3.Size, U v_3.Root, I v_3.Sig.C, I v_3.Sig.S, I v_9.Office, I v_9.Size, U v_9.Root, I v_9.Sig.C, I v_9.Sig.S] 27 fun g_13 => ?_
     refine hk [2, 3, 4, 5, 6, 7] ?_; refine ho [7] ⟨?_, trivial⟩; refine h1 ?_; refine cl 35 (z_regulatorref06_Public F 7 _ hy_15) hT trivial ?_; refine hk [2, 3, 4, 5, 6, 7] ?_; refine ht [2, 3, 4, 5, 6, 7] [9, 10] [] f0 [(0, Sb g_12 2 2), (1, Sb g_13 2 2)] ?_; refine ho [8] ⟨?_, trivial⟩; refine h1 ?_; refine nw 36 (vs 2) [I v_14, I v_15] 3 fun g_16 => ?_
     refine hk [3, 4, 5, 6, 7, 8] ?_; refine ht [3, 4, 5, 6, 7, 8] [11] [] f0 [(2, Sb g_16 2 2)] ?_; refine he ?_; refine tN ?_; refine sB 8 g_1 KEntry.cells tr ([(⟨77, (⟨0, 0⟩ : KInterval)⟩ : KEntry)] : List KEntry) tr_mv et ?_; refine sB 5 g_7 KEntry.cells tr ([(⟨v_6, (⟨0, 0⟩ : KInterval)⟩ : KEntry), (⟨88, (⟨0, 0⟩ : KInterval)⟩ : KEntry)] : List KEntry) tr_mv et ?_; refine sB 2 g_12 KOfficeL.cells KOfficeL.ok ([(⟨1, (some ⟨g_1, 0, none⟩), 1, ([(⟨77, (⟨0, 0⟩ : KInterval)⟩ : KEntry)] : List KEntry)⟩ : KOfficeL), (⟨2, (some ⟨g_7, 0, none⟩), 2, ([(⟨v_6, (⟨0, 0⟩ : KInterval)⟩ : KEntry), (⟨88, (⟨0, 0⟩ : KInterval)⟩ : KEntry)] : List KEntry)⟩ : KOfficeL)] : List KOfficeL) KOfficeL.mv (ec (((gd' (RowC (some ⟨g_1, 0, none⟩) 1 KEntry.cells tr ([(⟨77, (⟨0, 0⟩ : KInterval)⟩ : KEntry)] : List KEntry)) 8)).m fun _ _ h => ⟨h⟩) (ec (((gd' (RowC (some ⟨g_7, 0, none⟩) 2 KEntry.cells tr ([(⟨v_6, (⟨0, 0⟩ : KInterval)⟩ : KEntry), (⟨88, (⟨0, 0⟩ : KInterval)⟩ : KEntry)] : List KEntry)) 5)).m fun _ _ h => ⟨h⟩) e0)) ?_; refine sB 1 g_13 KHead.cells tr ([v_3, v_9] : List KHead) tr_mv et ?_; refine sB 0 g_16 c_i64 tr ([v_14, v_15] : List Int) tr_mv et ?_; exact fun a w S hK hE => ⟨(some ⟨g_12, 0, none⟩), 2, (some ⟨g_13, 0, none⟩), 2, ([v_14, v_15] : List Int), (some ⟨g_16, 0, none⟩), 2, S, hK.wk, hE.sel [2, 1, 0], Option.some.inj hG⟩
    ·refine h1 ?_; refine cl 35 (z_regulatorref06_Public F 7 _ hy_15) hT trivial ?_; refine hk [1, 2, 3, 4, 5, 6] ?_; refine ht [1, 2, 3, 4, 5, 6] [9] [] f0 [(0, Sb g_12 2 2)] ?_; refine ho [5, 8] ⟨?_, ?_, trivial⟩
     ·refine h1 ?_; refine nw 33 (vs 2) [I v_3.Office, I v_3.Size, U v_3.Root, I v_3.Sig.C, I v_3.Sig.S, I v_9.Office, I v_9.Size, U v_9.Root, I v_9.Sig.C, I v_9.Sig.S] 27 fun g_13 => ?_
      refine hk [2, 3, 4, 5, 6, 7] ?_; refine ht [2, 3, 4, 5, 6, 7] [10] [] f0 [(1, Sb g_13 2 2)] ?_; refine ho [8] ⟨?_, trivial⟩; refine h1 ?_; refine nw 36 (vs 2) [I v_14, I v_15] 3 fun g_16 => ?_
      refine hk [3, 4, 5, 6, 7, 8] ?_; refine ht [3, 4, 5, 6, 7, 8] [11] [] f0 [(2, Sb g_16 2 2)] ?_; refine he ?_; refine tN ?_; refine sB 8 g_1 KEntry.cells tr ([(⟨77, (⟨0, 0⟩ : KInterval)⟩ : KEntry)] : List KEntry) tr_mv et ?_; refine sB 5 g_7 KEntry.cells tr ([(⟨v_6, (⟨0, 0⟩ : KInterval)⟩ : KEntry), (⟨88, (⟨0, 0⟩ : KInterval)⟩ : KEntry)] : List KEntry) tr_mv et ?_; refine sB 2 g_12 KOfficeL.cells KOfficeL.ok ([(⟨1, (some ⟨g_1, 0, none⟩), 1, ([(⟨77, (⟨0, 0⟩ : KInterval)⟩ : KEntry)] : List KEntry)⟩ : KOfficeL), (⟨2, (some ⟨g_7, 0, none⟩), 2, ([(⟨v_6, (⟨0, 0⟩ : KInterval)⟩ : KEntry), (⟨88, (⟨0, 0⟩ : KInterval)⟩ : KEntry)] : List KEntry)⟩ : KOfficeL)] : List KOfficeL) KOfficeL.mv (ec (((gd' (RowC (some ⟨g_1, 0, none⟩) 1 KEntry.cells tr ([(⟨77, (⟨0, 0⟩ : KInterval)⟩ : KEntry)] : List KEntry)) 8)).m fun _ _ h => ⟨h⟩) (ec (((gd' (RowC (some ⟨g_7, 0, none⟩) 2 KEntry.cells tr ([(⟨v_6, (⟨0, 0⟩ : KInterval)⟩ : KEntry), (⟨88, (⟨0, 0⟩ : KInterval)⟩ : KEntry)] : List KEntry)) 5)).m fun _ _ h => ⟨h⟩) e0)) ?_; refine sB 1 g_13 KHead.cells tr ([v_3, v_9] : List KHead) tr_mv et ?_; refine sB 0 g_16 c_i64 tr ([v_14, v_15] : List Int) tr_mv et ?_; exact fun a w S hK hE => ⟨(some ⟨g_12, 0, none⟩), 2, (some ⟨g_13, 0, none⟩), 2, ([v_14, v_15] : List Int), (some ⟨g_16, 0, none⟩), 2, S, hK.wk, hE.sel [2, 1, 0], Option.some.inj hG⟩
     ·refine h1 ?_; refine nw 36 (vs 2) [I v_14, I v_15] 3 fun g_16 => ?_
      refine hk [2, 3, 4, 5, 6, 7] ?_; refine ho [5] ⟨?_, trivial⟩; refine h1 ?_; refine nw 33 (vs 2) [I v_3.Office, I v_3.Size, U v_3.Root, I v_3.Sig.C, I v_3.Sig.S, I v_9.Office, I v_9.Size, U v_9.Root, I v_9.Sig.C, I v_9.Sig.S] 27 fun g_13 => ?_
      refine hk [3, 4, 5, 6, 7, 8] ?_; refine ht [3, 4, 5, 6, 7, 8] [10, 11] [] f0 [(1, Sb g_13 2 2), (2, Sb g_16 2 2)] ?_; refine he ?_; refine tN ?_; refine sB 8 g_1 KEntry.cells tr ([(⟨77, (⟨0, 0⟩ : KInterval)⟩ : KEntry)] : List KEntry) tr_mv et ?_; refine sB 5 g_7 KEntry.cells tr ([(⟨v_6, (⟨0, 0⟩ : KInterval)⟩ : KEntry), (⟨88, (⟨0, 0⟩ : KInterval)⟩ : KEntry)] : List KEntry) tr_mv et ?_; refine sB 2 g_12 KOfficeL.cells KOfficeL.ok ([(⟨1, (some ⟨g_1, 0, none⟩), 1, ([(⟨77, (⟨0, 0⟩ : KInterval)⟩ : KEntry)] : List KEntry)⟩ : KOfficeL), (⟨2, (some ⟨g_7, 0, none⟩), 2, ([(⟨v_6, (⟨0, 0⟩ : KInterval)⟩ : KEntry), (⟨88, (⟨0, 0⟩ : KInterval)⟩ : KEntry)] : List KEntry)⟩ : KOfficeL)] : List KOfficeL) KOfficeL.mv (ec (((gd' (RowC (some ⟨g_1, 0, none⟩) 1 KEntry.cells tr ([(⟨77, (⟨0, 0⟩ : KInterval)⟩ : KEntry)] : List KEntry)) 8)).m fun _ _ h => ⟨h⟩) (ec (((gd' (RowC (some ⟨g_7, 0, none⟩) 2 KEntry.cells tr ([(⟨v_6, (⟨0, 0⟩ : KInterval)⟩ : KEntry), (⟨88, (⟨0, 0⟩ : KInterval)⟩ : KEntry)] : List KEntry)) 5)).m fun _ _ h => ⟨h⟩) e0)) ?_; refine sB 0 g_13 KHead.cells tr ([v_3, v_9] : List KHead) tr_mv et ?_; refine sB 1 g_16 c_i64 tr ([v_14, v_15] : List Int) tr_mv et ?_; exact fun a w S hK hE => ⟨(some ⟨g_12, 0, none⟩), 2, (some ⟨g_13, 0, none⟩), 2, ([v_14, v_15] : List Int), (some ⟨g_16, 0, none⟩), 2, S, hK.wk, hE.sel [2, 0, 1], Option.some.inj hG⟩
   ·refine h1 ?_; refine nw 33 (vs 2) [I v_3.Office, I v_3.Size, U v_3.Root, I v_3.Sig.C, I v_3.Sig.S, I v_9.Office, I v_9.Size, U v_9.Root, I v_9.Sig.C, I v_9.Sig.S] 27 fun g_13 => ?_
    refine hk [1, 2, 3, 4, 5, 6] ?_; refine ho [2, 7] ⟨?_, ?_, trivial⟩
    ·refine h1 ?_; refine nw 30 (vs 2) [I 1, Sb g_1 1 1, I 2, Sb g_7 2 2] 53 fun g_12 => ?_
     refine hk [2, 3, 4, 5, 6, 7] ?_; refine ho [7] ⟨?_, trivial⟩; refine h1 ?_; refine cl 35 (z_regulatorref06_Public F 7 _ hy_15) hT trivial ?_; refine hk [2, 3, 4, 5, 6, 7] ?_; refine ht [2, 3, 4, 5, 6, 7] [9, 10] [] f0 [(0, Sb g_12 2 2), (1, Sb g_13 2 2)] ?_; refine ho [8] ⟨?_, trivial⟩; refine h1 ?_; refine nw 36 (vs 2) [I v_14, I v_15] 3 fun g_16 => ?_
     refine hk [3, 4, 5, 6, 7, 8] ?_; refine ht [3, 4, 5, 6, 7, 8] [11] [] f0 [(2, Sb g_16 2 2)] ?_; refine he ?_; refine tN ?_; refine sB 8 g_1 KEntry.cells tr ([(⟨77, (⟨0, 0⟩ : KInterval)⟩ : KEntry)] : List KEntry) tr_mv et ?_; refine sB 5 g_7 KEntry.cells tr ([(⟨v_6, (⟨0, 0⟩ : KInterval)⟩ : KEntry), (⟨88, (⟨0, 0⟩ : KInterval)⟩ : KEntry)] : List KEntry) tr_mv et ?_; refine sB 1 g_12 KOfficeL.cells KOfficeL.ok ([(⟨1, (some ⟨g_1, 0, none⟩), 1, ([(⟨77, (⟨0, 0⟩ : KInterval)⟩ : KEntry)] : List KEntry)⟩ : KOfficeL), (⟨2, (some ⟨g_7, 0, none⟩), 2, ([(⟨v_6, (⟨0, 0⟩ : KInterval)⟩ : KEntry), (⟨88, (⟨0, 0⟩ : KInterval)⟩ : KEntry)] : List KEntry)⟩ : KOfficeL)] : List KOfficeL) KOfficeL.mv (ec (((gd' (RowC (some ⟨g_1, 0, none⟩) 1 KEntry.cells tr ([(⟨77, (⟨0, 0⟩ : KInterval)⟩ : KEntry)] : List KEntry)) 8)).m fun _ _ h => ⟨h⟩) (ec (((gd' (RowC (some ⟨g_7, 0, none⟩) 2 KEntry.cells tr ([(⟨v_6, (⟨0, 0⟩ : KInterval)⟩ : KEntry), (⟨88, (⟨0, 0⟩ : KInterval)⟩ : KEntry)] : List KEntry)) 5)).m fun _ _ h => ⟨h⟩) e0)) ?_; refine sB 2 g_13 KHead.cells tr ([v_3, v_9] : List KHead) tr_mv et ?_; refine sB 0 g_16 c_i64 tr ([v_14, v_15] : List Int) tr_mv et ?_; exact fun a w S hK hE => ⟨(some ⟨g_12, 0, none⟩), 2, (some ⟨g_13, 0, none⟩), 2, ([v_14, v_15] : List Int), (some ⟨g_16, 0, none⟩), 2, S, hK.wk, hE.sel [1, 2, 0], Option.some.inj hG⟩
    ·refine h1 ?_; refine cl 35 (z_regulatorref06_Public F 7 _ hy_15) hT trivial ?_; refine hk [1, 2, 3, 4, 5, 6] ?_; refine ho [2, 8] ⟨?_, ?_, trivial⟩
     ·refine h1 ?_; refine nw 30 (vs 2) [I 1, Sb g_1 1 1, I 2, Sb g_7 2 2] 53 fun g_12 => ?_
      refine hk [2, 3, 4, 5, 6, 7] ?_; refine ht [2, 3, 4, 5, 6, 7] [9, 10] [] f0 [(0, Sb g_12 2 2), (1, Sb g_13 2 2)] ?_; refine ho [8] ⟨?_, trivial⟩; refine h1 ?_; refine nw 36 (vs 2) [I v_14, I v_15] 3 fun g_16 => ?_
      refine hk [3, 4, 5, 6, 7, 8] ?_; refine ht [3, 4, 5, 6, 7, 8] [11] [] f0 [(2, Sb g_16 2 2)] ?_; refine he ?_; refine tN ?_; refine sB 8 g_1 KEntry.cells tr ([(⟨77, (⟨0, 0⟩ : KInterval)⟩ : KEntry)] : List KEntry) tr_mv et ?_; refine sB 5 g_7 KEntry.cells tr ([(⟨v_6, (⟨0, 0⟩ : KInterval)⟩ : KEntry), (⟨88, (⟨0, 0⟩ : KInterval)⟩ : KEntry)] : List KEntry) tr_mv et ?_; refine sB 1 g_12 KOfficeL.cells KOfficeL.ok ([(⟨1, (some ⟨g_1, 0, none⟩), 1, ([(⟨77, (⟨0, 0⟩ : KInterval)⟩ : KEntry)] : List KEntry)⟩ : KOfficeL), (⟨2, (some ⟨g_7, 0, none⟩), 2, ([(⟨v_6, (⟨0, 0⟩ : KInterval)⟩ : KEntry), (⟨88, (⟨0, 0⟩ : KInterval)⟩ : KEntry)] : List KEntry)⟩ : KOfficeL)] : List KOfficeL) KOfficeL.mv (ec (((gd' (RowC (some ⟨g_1, 0, none⟩) 1 KEntry.cells tr ([(⟨77, (⟨0, 0⟩ : KInterval)⟩ : KEntry)] : List KEntry)) 8)).m fun _ _ h => ⟨h⟩) (ec (((gd' (RowC (some ⟨g_7, 0, none⟩) 2 KEntry.cells tr ([(⟨v_6, (⟨0, 0⟩ : KInterval)⟩ : KEntry), (⟨88, (⟨0, 0⟩ : KInterval)⟩ : KEntry)] : List KEntry)) 5)).m fun _ _ h => ⟨h⟩) e0)) ?_; refine sB 2 g_13 KHead.cells tr ([v_3, v_9] : List KHead) tr_mv et ?_; refine sB 0 g_16 c_i64 tr ([v_14, v_15] : List Int) tr_mv et ?_; exact fun a w S hK hE => ⟨(some ⟨g_12, 0, none⟩), 2, (some ⟨g_13, 0, none⟩), 2, ([v_14, v_15] : List Int), (some ⟨g_16, 0, none⟩), 2, S, hK.wk, hE.sel [1, 2, 0], Option.some.inj hG⟩
     ·refine h1 ?_; refine nw 36 (vs 2) [I v_14, I v_15] 3 fun g_16 => ?_
      refine hk [2, 3, 4, 5, 6, 7] ?_; refine ho [2] ⟨?_, trivial⟩; refine h1 ?_; refine nw 30 (vs 2) [I 1, Sb g_1 1 1, I 2, Sb g_7 2 2] 53 fun g_12 => ?_
      refine hk [3, 4, 5, 6, 7, 8] ?_; refine ht [3, 4, 5, 6, 7, 8] [9, 10, 11] [] f0 [(0, Sb g_12 2 2), (1, Sb g_13 2 2), (2, Sb g_16 2 2)] ?_; refine he ?_; refine tN ?_; refine sB 8 g_1 KEntry.cells tr ([(⟨77, (⟨0, 0⟩ : KInterval)⟩ : KEntry)] : List KEntry) tr_mv et ?_; refine sB 5 g_7 KEntry.cells tr ([(⟨v_6, (⟨0, 0⟩ : KInterval)⟩ : KEntry), (⟨88, (⟨0, 0⟩ : KInterval)⟩ : KEntry)] : List KEntry) tr_mv et ?_; refine sB 0 g_12 KOfficeL.cells KOfficeL.ok ([(⟨1, (some ⟨g_1, 0, none⟩), 1, ([(⟨77, (⟨0, 0⟩ : KInterval)⟩ : KEntry)] : List KEntry)⟩ : KOfficeL), (⟨2, (some ⟨g_7, 0, none⟩), 2, ([(⟨v_6, (⟨0, 0⟩ : KInterval)⟩ : KEntry), (⟨88, (⟨0, 0⟩ : KInterval)⟩ : KEntry)] : List KEntry)⟩ : KOfficeL)] : List KOfficeL) KOfficeL.mv (ec (((gd' (RowC (some ⟨g_1, 0, none⟩) 1 KEntry.cells tr ([(⟨77, (⟨0, 0⟩ : KInterval)⟩ : KEntry)] : List KEntry)) 8)).m fun _ _ h => ⟨h⟩) (ec (((gd' (RowC (some ⟨g_7, 0, none⟩) 2 KEntry.cells tr ([(⟨v_6, (⟨0, 0⟩ : KInterval)⟩ : KEntry), (⟨88, (⟨0, 0⟩ : KInterval)⟩ : KEntry)] : List KEntry)) 5)).m fun _ _ h => ⟨h⟩) e0)) ?_; refine sB 2 g_13 KHead.cells tr ([v_3, v_9] : List KHead) tr_mv et ?_; refine sB 1 g_16 c_i64 tr ([v_14, v_15] : List Int) tr_mv et ?_; exact fun a w S hK hE => ⟨(some ⟨g_12, 0, none⟩), 2, (some ⟨g_13, 0, none⟩), 2, ([v_14, v_15] : List Int), (some ⟨g_16, 0, none⟩), 2, S, hK.wk, hE.sel [0, 2, 1], Option.some.inj hG⟩
   ·refine h1 ?_; refine cl 35 (z_regulatorref06_Public F 7 _ hy_15) hT trivial ?_; refine hk [0, 1, 2, 3, 4, 5] ?_; refine ho [2, 5, 8] ⟨?_, ?_, ?_, trivial⟩
    ·refine h1 ?_; refine nw 30 (vs 2) [I 1, Sb g_1 1 1, I 2, Sb g_7 2 2] 53 fun g_12 => ?_
     refine hk [1, 2, 3, 4, 5, 6] ?_; refine ht [1, 2, 3, 4, 5, 6] [9] [] f0 [(0, Sb g_12 2 2)] ?_; refine ho [5, 8] ⟨?_, ?_, trivial⟩
     ·refine h1 ?_; refine nw 33 (vs 2) [I v_3.Office, I v_3.Size, U v_3.Root, I v_3.Sig.C, I v_3.Sig.S, I v_9.Office, I v_9.Size, U v_9.Root, I v_9.Sig.C, I v_9.Sig.S] 27 fun g_13 => ?_
      refine hk [2, 3, 4, 5, 6, 7] ?_; refine ht [2, 3, 4, 5, 6, 7] [10] [] f0 [(1, Sb g_13 2 2)] ?_; refine ho [8] ⟨?_, trivial⟩; refine h1 ?_; refine nw 36 (vs 2) [I v_14, I v_15] 3 fun g_16 => ?_
      refine hk [3, 4, 5, 6, 7, 8] ?_; refine ht [3, 4, 5, 6, 7, 8] [11] [] f0 [(2, Sb g_16 2 2)] ?_; refine he ?_; refine tN ?_; refine sB 8 g_1 KEntry.cells tr ([(⟨77, (⟨0, 0⟩ : KInterval)⟩ : KEntry)] : List KEntry) tr_mv et ?_; refine sB 5 g_7 KEntry.cells tr ([(⟨v_6, (⟨0, 0⟩ : KInterval)⟩ : KEntry), (⟨88, (⟨0, 0⟩ : KInterval)⟩ : KEntry)] : List KEntry) tr_mv et ?_; refine sB 2 g_12 KOfficeL.cells KOfficeL.ok ([(⟨1, (some ⟨g_1, 0, none⟩), 1, ([(⟨77, (⟨0, 0⟩ : KInterval)⟩ : KEntry)] : List KEntry)⟩ : KOfficeL), (⟨2, (some ⟨g_7, 0, none⟩), 2, ([(⟨v_6, (⟨0, 0⟩ : KInterval)⟩ : KEntry), (⟨88, (⟨0, 0⟩ : KInterval)⟩ : KEntry)] : List KEntry)⟩ : KOfficeL)] : List KOfficeL) KOfficeL.mv (ec (((gd' (RowC (some ⟨g_1, 0, none⟩) 1 KEntry.cells tr ([(⟨77, (⟨0, 0⟩ : KInterval)⟩ : KEntry)] : List KEntry)) 8)).m fun _ _ h => ⟨h⟩) (ec (((gd' (RowC (some ⟨g_7, 0, none⟩) 2 KEntry.cells tr ([(⟨v_6, (⟨0, 0⟩ : KInterval)⟩ : KEntry), (⟨88, (⟨0, 0⟩ : KInterval)⟩ : KEntry)] : List KEntry)) 5)).m fun _ _ h => ⟨h⟩) e0)) ?_; refine sB 1 g_13 KHead.cells tr ([v_3, v_9] : List KHead) tr_mv et ?_; refine sB 0 g_16 c_i64 tr ([v_14, v_15] : List Int) tr_mv et ?_; exact fun a w S hK hE => ⟨(some ⟨g_12, 0, none⟩), 2, (some ⟨g_13, 0, none⟩), 2, ([v_14, v_15] : List Int), (some ⟨g_16, 0, none⟩), 2, S, hK.wk, hE.sel [2, 1, 0], Option.some.inj hG⟩
     ·refine h1 ?_; refine nw 36 (vs 2) [I v_14, I v_15] 3 fun g_16 => ?_
      refine hk [2, 3, 4, 5, 6, 7] ?_; refine ho [5] ⟨?_, trivial⟩; refine h1 ?_; refine nw 33 (vs 2) [I v_3.Office, I v_3.Size, U v_3.Root, I v_3.Sig.C, I v_3.Sig.S, I v_9.Office, I v_9.Size, U v_9.Root, I v_9.Sig.C, I v_9.Sig.S] 27 fun g_13 => ?_
      refine hk [3, 4, 5, 6, 7, 8] ?_; refine ht [3, 4, 5, 6, 7, 8] [10, 11] [] f0 [(1, Sb g_13 2 2), (2, Sb g_16 2 2)] ?_; refine he ?_; refine tN ?_; refine sB 8 g_1 KEntry.cells tr ([(⟨77, (⟨0, 0⟩ : KInterval)⟩ : KEntry)] : List KEntry) tr_mv et ?_; refine sB 5 g_7 KEntry.cells tr ([(⟨v_6, (⟨0, 0⟩ : KInterval)⟩ : KEntry), (⟨88, (⟨0, 0⟩ : KInterval)⟩ : KEntry)] : List KEntry) tr_mv et ?_; refine sB 2 g_12 KOfficeL.cells KOfficeL.ok ([(⟨1, (some ⟨g_1, 0, none⟩), 1, ([(⟨77, (⟨0, 0⟩ : KInterval)⟩ : KEntry)] : List KEntry)⟩ : KOfficeL), (⟨2, (some ⟨g_7, 0, none⟩), 2, ([(⟨v_6, (⟨0, 0⟩ : KInterval)⟩ : KEntry), (⟨88, (⟨0, 0⟩ : KInterval)⟩ : KEntry)] : List KEntry)⟩ : KOfficeL)] : List KOfficeL) KOfficeL.mv (ec (((gd' (RowC (some ⟨g_1, 0, none⟩) 1 KEntry.cells tr ([(⟨77, (⟨0, 0⟩ : KInterval)⟩ : KEntry)] : List KEntry)) 8)).m fun _ _ h => ⟨h⟩) (ec (((gd' (RowC (some ⟨g_7, 0, none⟩) 2 KEntry.cells tr ([(⟨v_6, (⟨0, 0⟩ : KInterval)⟩ : KEntry), (⟨88, (⟨0, 0⟩ : KInterval)⟩ : KEntry)] : List KEntry)) 5)).m fun _ _ h => ⟨h⟩) e0)) ?_; refine sB 0 g_13 KHead.cells tr ([v_3, v_9] : List KHead) tr_mv et ?_; refine sB 1 g_16 c_i64 tr ([v_14, v_15] : List Int) tr_mv et ?_; exact fun a w S hK hE => ⟨(some ⟨g_12, 0, none⟩), 2, (some ⟨g_13, 0, none⟩), 2, ([v_14, v_15] : List Int), (some ⟨g_16, 0, none⟩), 2, S, hK.wk, hE.sel [2, 0, 1], Option.some.inj hG⟩
    ·refine h1 ?_; refine nw 33 (vs 2) [I v_3.Office, I v_3.Size, U v_3.Root, I v_3.Sig.C, I v_3.Sig.S, I v_9.Office, I v_9.Size, U v_9.Root, I v_9.Sig.C, I v_9.Sig.S] 27 fun g_13 => ?_
     refine hk [1, 2, 3, 4, 5, 6] ?_; refine ho [2, 8] ⟨?_, ?_, trivial⟩
     ·refine h1 ?_; refine nw 30 (vs 2) [I 1, Sb g_1 1 1, I 2, Sb g_7 2 2] 53 fun g_12 => ?_
      refine hk [2, 3, 4, 5, 6, 7] ?_; refine ht [2, 3, 4, 5, 6, 7] [9, 10] [] f0 [(0, Sb g_12 2 2), (1, Sb g_13 2 2)] ?_; refine ho [8] ⟨?_, trivial⟩; refine h1 ?_; refine nw 36 (vs 2) [I v_14, I v_15] 3 fun g_16 => ?_
      refine hk [3, 4, 5, 6, 7, 8] ?_; refine ht [3, 4, 5, 6, 7, 8] [11] [] f0 [(2, Sb g_16 2 2)] ?_; refine he ?_; refine tN ?_; refine sB 8 g_1 KEntry.cells tr ([(⟨77, (⟨0, 0⟩ : KInterval)⟩ : KEntry)] : List KEntry) tr_mv et ?_; refine sB 5 g_7 KEntry.cells tr ([(⟨v_6, (⟨0, 0⟩ : KInterval)⟩ : KEntry), (⟨88, (⟨0, 0⟩ : KInterval)⟩ : KEntry)] : List KEntry) tr_mv et ?_; refine sB 1 g_12 KOfficeL.cells KOfficeL.ok ([(⟨1, (some ⟨g_1, 0, none⟩), 1, ([(⟨77, (⟨0, 0⟩ : KInterval)⟩ : KEntry)] : List KEntry)⟩ : KOfficeL), (⟨2, (some ⟨g_7, 0, none⟩), 2, ([(⟨v_6, (⟨0, 0⟩ : KInterval)⟩ : KEntry), (⟨88, (⟨0, 0⟩ : KInterval)⟩ : KEntry)] : List KEntry)⟩ : KOfficeL)] : List KOfficeL) KOfficeL.mv (ec (((gd' (RowC (some ⟨g_1, 0, none⟩) 1 KEntry.cells tr ([(⟨77, (⟨0, 0⟩ : KInterval)⟩ : KEntry)] : List KEntry)) 8)).m fun _ _ h => ⟨h⟩) (ec (((gd' (RowC (some ⟨g_7, 0, none⟩) 2 KEntry.cells tr ([(⟨v_6, (⟨0, 0⟩ : KInterval)⟩ : KEntry), (⟨88, (⟨0, 0⟩ : KInterval)⟩ : KEntry)] : List KEntry)) 5)).m fun _ _ h => ⟨h⟩) e0)) ?_; refine sB 2 g_13 KHead.cells tr ([v_3, v_9] : List KHead) tr_mv et ?_; refine sB 0 g_16 c_i64 tr ([v_14, v_15] : List Int) tr_mv et ?_; exact fun a w S hK hE => ⟨(some ⟨g_12, 0, none⟩), 2, (some ⟨g_13, 0, none⟩), 2, ([v_14, v_15] : List Int), (some ⟨g_16, 0, none⟩), 2, S, hK.wk, hE.sel [1, 2, 0], Option.some.inj hG⟩
     ·refine h1 ?_; refine nw 36 (vs 2) [I v_14, I v_15] 3 fun g_16 => ?_
      refine hk [2, 3, 4, 5, 6, 7] ?_; refine ho [2] ⟨?_, trivial⟩; refine h1 ?_; refine nw 30 (vs 2) [I 1, Sb g_1 1 1, I 2, Sb g_7 2 2] 53 fun g_12 => ?_
      refine hk [3, 4, 5, 6, 7, 8] ?_; refine ht [3, 4, 5, 6, 7, 8] [9, 10, 11] [] f0 [(0, Sb g_12 2 2), (1, Sb g_13 2 2), (2, Sb g_16 2 2)] ?_; refine he ?_; refine tN ?_; refine sB 8 g_1 KEntry.cells tr ([(⟨77, (⟨0, 0⟩ : KInterval)⟩ : KEntry)] : List KEntry) tr_mv et ?_; refine sB 5 g_7 KEntry.cells tr ([(⟨v_6, (⟨0, 0⟩ : KInterval)⟩ : KEntry), (⟨88, (⟨0, 0⟩ : KInterval)⟩ : KEntry)] : List KEntry) tr_mv et ?_; refine sB 0 g_12 KOfficeL.cells KOfficeL.ok ([(⟨1, (some ⟨g_1, 0, none⟩), 1, ([(⟨77, (⟨0, 0⟩ : KInterval)⟩ : KEntry)] : List KEntry)⟩ : KOfficeL), (⟨2, (some ⟨g_7, 0, none⟩), 2, ([(⟨v_6, (⟨0, 0⟩ : KInterval)⟩ : KEntry), (⟨88, (⟨0, 0⟩ : KInterval)⟩ : KEntry)] : List KEntry)⟩ : KOfficeL)] : List KOfficeL) KOfficeL.mv (ec (((gd' (RowC (some ⟨g_1, 0, none⟩) 1 KEntry.cells tr ([(⟨77, (⟨0, 0⟩ : KInterval)⟩ : KEntry)] : List KEntry)) 8)).m fun _ _ h => ⟨h⟩) (ec (((gd' (RowC (some ⟨g_7, 0, none⟩) 2 KEntry.cells tr ([(⟨v_6, (⟨0, 0⟩ : KInterval)⟩ : KEntry), (⟨88, (⟨0, 0⟩ : KInterval)⟩ : KEntry)] : List KEntry)) 5)).m fun _ _ h => ⟨h⟩) e0)) ?_; refine sB 2 g_13 KHead.cells tr ([v_3, v_9] : List KHead) tr_mv et ?_; refine sB 1 g_16 c_i64 tr ([v_14, v_15] : List Int) tr_mv et ?_; exact fun a w S hK hE => ⟨(some ⟨g_12, 0, none⟩), 2, (some ⟨g_13, 0, none⟩), 2, ([v_14, v_15] : List Int), (some ⟨g_16, 0, none⟩), 2, S, hK.wk, hE.sel [0, 2, 1], Option.some.inj hG⟩
    ·refine h1 ?_; refine nw 36 (vs 2) [I v_14, I v_15] 3 fun g_16 => ?_
     refine hk [1, 2, 3, 4, 5, 6] ?_; refine ho [2, 5] ⟨?_, ?_, trivial⟩
     ·refine h1 ?_; refine nw 30 (vs 2) [I 1, Sb g_1 1 1, I 2, Sb g_7 2 2] 53 fun g_12 => ?_
      refine hk [2, 3, 4, 5, 6, 7] ?_; refine ht [2, 3, 4, 5, 6, 7] [9] [] f0 [(0, Sb g_12 2 2)] ?_; refine ho [5] ⟨?_, trivial⟩; refine h1 ?_; refine nw 33 (vs 2) [I v_3.Office, I v_3.Size, U v_3.Root, I v_3.Sig.C, I v_3.Sig.S, I v_9.Office, I v_9.Size, U v_9.Root, I v_9.Sig.C, I v_9.Sig.S] 27 fun g_13 => ?_
      refine hk [3, 4, 5, 6, 7, 8] ?_; refine ht [3, 4, 5, 6, 7, 8] [10, 11] [] f0 [(1, Sb g_13 2 2), (2, Sb g_16 2 2)] ?_; refine he ?_; refine tN ?_; refine sB 8 g_1 KEntry.cells tr ([(⟨77, (⟨0, 0⟩ : KInterval)⟩ : KEntry)] : List KEntry) tr_mv et ?_; refine sB 5 g_7 KEntry.cells tr ([(⟨v_6, (⟨0, 0⟩ : KInterval)⟩ : KEntry), (⟨88, (⟨0, 0⟩ : KInterval)⟩ : KEntry)] : List KEntry) tr_mv et ?_; refine sB 1 g_12 KOfficeL.cells KOfficeL.ok ([(⟨1, (some ⟨g_1, 0, none⟩), 1, ([(⟨77, (⟨0, 0⟩ : KInterval)⟩ : KEntry)] : List KEntry)⟩ : KOfficeL), (⟨2, (some ⟨g_7, 0, none⟩), 2, ([(⟨v_6, (⟨0, 0⟩ : KInterval)⟩ : KEntry), (⟨88, (⟨0, 0⟩ : KInterval)⟩ : KEntry)] : List KEntry)⟩ : KOfficeL)] : List KOfficeL) KOfficeL.mv (ec (((gd' (RowC (some ⟨g_1, 0, none⟩) 1 KEntry.cells tr ([(⟨77, (⟨0, 0⟩ : KInterval)⟩ : KEntry)] : List KEntry)) 8)).m fun _ _ h => ⟨h⟩) (ec (((gd' (RowC (some ⟨g_7, 0, none⟩) 2 KEntry.cells tr ([(⟨v_6, (⟨0, 0⟩ : KInterval)⟩ : KEntry), (⟨88, (⟨0, 0⟩ : KInterval)⟩ : KEntry)] : List KEntry)) 5)).m fun _ _ h => ⟨h⟩) e0)) ?_; refine sB 0 g_13 KHead.cells tr ([v_3, v_9] : List KHead) tr_mv et ?_; refine sB 2 g_16 c_i64 tr ([v_14, v_15] : List Int) tr_mv et ?_; exact fun a w S hK hE => ⟨(some ⟨g_12, 0, none⟩), 2, (some ⟨g_13, 0, none⟩), 2, ([v_14, v_15] : List Int), (some ⟨g_16, 0, none⟩), 2, S, hK.wk, hE.sel [1, 0, 2], Option.some.inj hG⟩
     ·refine h1 ?_; refine nw 33 (vs 2) [I v_3.Office, I v_3.Size, U v_3.Root, I v_3.Sig.C, I v_3.Sig.S, I v_9.Office, I v_9.Size, U v_9.Root, I v_9.Sig.C, I v_9.Sig.S] 27 fun g_13 => ?_
      refine hk [2, 3, 4, 5, 6, 7] ?_; refine ho [2] ⟨?_, trivial⟩; refine h1 ?_; refine nw 30 (vs 2) [I 1, Sb g_1 1 1, I 2, Sb g_7 2 2] 53 fun g_12 => ?_
      refine hk [3, 4, 5, 6, 7, 8] ?_; refine ht [3, 4, 5, 6, 7, 8] [9, 10, 11] [] f0 [(0, Sb g_12 2 2), (1, Sb g_13 2 2), (2, Sb g_16 2 2)] ?_; refine he ?_; refine tN ?_; refine sB 8 g_1 KEntry.cells tr ([(⟨77, (⟨0, 0⟩ : KInterval)⟩ : KEntry)] : List KEntry) tr_mv et ?_; refine sB 5 g_7 KEntry.cells tr ([(⟨v_6, (⟨0, 0⟩ : KInterval)⟩ : KEntry), (⟨88, (⟨0, 0⟩ : KInterval)⟩ : KEntry)] : List KEntry) tr_mv et ?_; refine sB 0 g_12 KOfficeL.cells KOfficeL.ok ([(⟨1, (some ⟨g_1, 0, none⟩), 1, ([(⟨77, (⟨0, 0⟩ : KInterval)⟩ : KEntry)] : List KEntry)⟩ : KOfficeL), (⟨2, (some ⟨g_7, 0, none⟩), 2, ([(⟨v_6, (⟨0, 0⟩ : KInterval)⟩ : KEntry), (⟨88, (⟨0, 0⟩ : KInterval)⟩ : KEntry)] : List KEntry)⟩ : KOfficeL)] : List KOfficeL) KOfficeL.mv (ec (((gd' (RowC (some ⟨g_1, 0, none⟩) 1 KEntry.cells tr ([(⟨77, (⟨0, 0⟩ : KInterval)⟩ : KEntry)] : List KEntry)) 8)).m fun _ _ h => ⟨h⟩) (ec (((gd' (RowC (some ⟨g_7, 0, none⟩) 2 KEntry.cells tr ([(⟨v_6, (⟨0, 0⟩ : KInterval)⟩ : KEntry), (⟨88, (⟨0, 0⟩ : KInterval)⟩ : KEntry)] : List KEntry)) 5)).m fun _ _ h => ⟨h⟩) e0)) ?_; refine sB 1 g_13 KHead.cells tr ([v_3, v_9] : List KHead) tr_mv et ?_; refine sB 2 g_16 c_i64 tr ([v_14, v_15] : List Int) tr_mv et ?_; exact fun a w S hK hE => ⟨(some ⟨g_12, 0, none⟩), 2, (some ⟨g_13, 0, none⟩), 2, ([v_14, v_15] : List Int), (some ⟨g_16, 0, none⟩), 2, S, hK.wk, hE.sel [0, 1, 2], Option.some.inj hG⟩
 ·rintro a w ⟨v_18_A, v_19_c, v_20_A, v_21_c, v_22, v_23_A, v_24_c, hJ⟩; refine hJ.go fun ho_ => ?_
  clear hJ; subst ho_; replace hG := hG_17
  try (simp only [un2, un3, un4, un5, un6, un7, un8, Sum.elim_inl, Sum.elim_inr, List.length_map, KProofL.n_Hops] at hG; replace hG : _ = _ := hG)
  refine kR ?_; obtain rfl := Option.some.inj hG; exact rtn [] (⟨v_18_A, v_19_c, ([(⟨1, (some ⟨g_1, 0, none⟩), 1, ([(⟨77, (⟨0, 0⟩ : KInterval)⟩ : KEntry)] : List KEntry)⟩ : KOfficeL), (⟨2, (some ⟨g_7, 0, none⟩), 2, ([(⟨v_6, (⟨0, 0⟩ : KInterval)⟩ : KEntry), (⟨88, (⟨0, 0⟩ : KInterval)⟩ : KEntry)] : List KEntry)⟩ : KOfficeL)] : List KOfficeL)⟩, ⟨v_20_A, v_21_c, ([v_3, v_9] : List KHead)⟩, ⟨v_23_A, v_24_c, v_22⟩) ⟨rfl, rfl, rfl⟩ ⟨gi 0, gi 1, gi 2, trivial⟩
end Go.Proofs.YtggaodokkcoagaaGreatDoor
namespace Go.Proofs.YtggaodokkcoagaaGreatDoor
open Go.RowKit Go.Maps
end Go.Proofs.YtggaodokkcoagaaGreatDoor
namespace Go.Proofs.YtggaodokkcoagaaGreatDoor
open Go.RowKit Go.Maps
end Go.Proofs.YtggaodokkcoagaaGreatDoor
namespace Go.Proofs.YtggaodokkcoagaaGreatDoor
open Go.RowKit Go.Maps
def G_cross_keyring_right (F : Nat) (p_0 : List Int) : Option (Bool) :=
  Option.bind (ifB (decide (((p_0.length : Nat) : Int) ≤ 16))
      (Option.bind (Option.bind (Option.bind (Option.bind (iter (σ := Int) (ρ := Unit ⊕ Int) (fun (v_15 : Int) => 
                (ifB (decide (v_15 < ((p_0.length : Nat) : Int)))
                  (Option.bind (ixI p_0 v_15) (fun v_18 =>
                  Option.bind (G_cross_keyring_right_1 F v_18) (fun v_21 =>
                  ifB (v_21)
                    (some (.inr (.inr v_15)))
                    (some (.inl (IntKind.i64.wrap (v_15 + 1)))))))
                  (some (.inr (.inl ()))) : Option (Int ⊕ (Unit ⊕ Int)))) F 0) (Sum.elim (fun (_ : Unit) => 
              some (.inl ())) (fun (v_23 : Int) => 
              some (.inr v_23))) : Option (Unit ⊕ Int)) (Sum.elim (fun (_ : Unit) => 
            some (-1)) (fun (v_25 : Int) => 
            some v_25)) : Option (Int)) (fun (v_26 : Int) => 
          some (decide (v_26 ≥ 0))) : Option (Bool)) (fun (v_52 : Bool) => 
        some (!v_52)))
      (some false) : Option (Bool)) (fun (v_105 : Bool) => 
    some v_105)
set_option maxRecDepth 100000 in
set_option maxHeartbeats 16000000 in
theorem z_cross_keyring_right (F : Nat) (p_0_A : Option Addr) (p_0_c : Nat) (p_0 : List Int) (r : Bool) (hG : G_cross_keyring_right F p_0 = some r) :
  Cf Tryz.prog 79 [.slice p_0_A p_0.length p_0_c] [RowC p_0_A p_0_c c_i64 tr p_0] (B r) := by
 unfold G_cross_keyring_right at hG
 try (simp only [un2, un3, un4, un5, un6, un7, un8, Sum.elim_inl, Sum.elim_inr, List.length_map, KProofL.n_Hops] at hG; replace hG : _ = _ := hG)
 refine fi Tryz.func79 rfl rfl (mr tr_mv m0) fun S0 w0 hT => ?_
 refine sq ?_; refine rg ?_; refine ra [] f0 [] ?_; refine tN ?_; refine sq ?_; refine rg ?_; refine ra [] f0 [(3, .func (.func 129) #[] #[])] ?_; refine tN ?_; obtain ⟨o_104, hG, hG_104⟩ := bind_some hG; refine jn (fun K E a w => ∃ (v_105 : Bool), Js S0 w0 13 ([(2, B v_105)] ++ K) (se E []) (v_105 = o_104) a w) ?_ ?_
 ·replace hG := ifB_cases hG; rcases hG with ⟨h_1, hG⟩ | ⟨h_1, hG⟩
  ·replace hG := bind_some hG; obtain ⟨v_52o, hy_53, hG⟩ := hG; refine rg ?_; refine rn 4 [] f0 [(7, B (decide (((p_0.length : Nat) : Int) ≤ 16)))] ?_
   try simp only [List.length_map, KProofL.n_Hops] at h_1
   refine sb 7 (bt h_1) ?_; refine rn 2 [] f0 [(8, .slice p_0_A p_0.length p_0_c), (9, .func (.func 129) #[] #[])] ?_; refine l1 ?_; refine ci 10 (args := [.slice p_0_A p_0.length p_0_c, .func (.func 129) #[] #[]]) (fun E e w => ∃ (v_52 : Bool), Rs S0 w0 (B v_52) (se E [0]) (v_52 = v_52o) e w) Tryz.func130 rfl rfl ?_ ?_
   ·replace hG := hy_53
    try (simp only [un2, un3, un4, un5, un6, un7, un8, Sum.elim_inl, Sum.elim_inr, List.length_map, KProofL.n_Hops] at hG; replace hG : _ = _ := hG)
    refine sq ?_; refine rg ?_; refine ra [] f0 [] ?_; refine tN ?_; refine sq ?_; replace hG := bind_some hG; obtain ⟨v_78o, hy_79, hG⟩ := hG; refine rg ?_; refine rn 2 [] f0 [(5, .slice p_0_A p_0.length p_0_c), (6, .func (.func 129) #[] #[])] ?_; refine l1 ?_; refine ci 7 (args := [.slice p_0_A p_0.length p_0_c, .func (.func 129) #[] #[]]) (fun E e w => ∃ (v_78 : Int), Rs S0 w0 (I v_78) (se E [0]) (v_78 = v_78o) e w) Tryz.func158 rfl rfl ?_ ?_
    ·replace hG := hy_79
     try (simp only [un2, un3, un4, un5, un6, un7, un8, Sum.elim_inl, Sum.elim_inr, List.length_map, KProofL.n_Hops] at hG; replace hG : _ = _ := hG)
     refine sq ?_; refine rg ?_; refine ra [] f0 [] ?_; refine tN ?_; obtain ⟨o_102, hG, hG_102⟩ := bind_some hG; refine jn (fun K E a w => Js S0 w0 19 (K) (se E [0]) (.inl () = o_102) a w) ?_ ?_
     ·refine sq ?_; refine rg ?_; refine ra [] f0 [(7, I ((p_0.length : Nat) : Int)), (8, I 0)] ?_; refine tN ?_; refine bk ?_; obtain ⟨e_94, hL, hG_94⟩ := bind_some hG; clear hG; obtain ⟨stp_94, hs_94, hL⟩ := iter_gen hL; refine lp (fun K E n_ a w => ∃ (v_93 : Int), Js S0 w0 19 ([(8, I v_93)] ++ K) (se E [0]) (iter stp_94 n_ v_93 = some e_94) a w) F ?_ ?_
      ·exact fun a w S hK hE => ⟨0, S, hK.wk, hE.sel [0], hL⟩
      ·clear hL; rintro n_94 a w ⟨v_93, hJ⟩; refine hJ.go fun hL => ?_
       clear hJ; obtain ⟨m_94, o_94, rfl, hG, hO1_94, hO2_94⟩ := iter_step hL; clear hL; rw [hs_94] at hG
       try (simp only [un2, un3, un4, un5, un6, un7, un8, Sum.elim_inl, Sum.elim_inr, List.length_map, KProofL.n_Hops] at hG; replace hG : _ = _ := hG)
       refine sq ?_; refine rg ?_; refine ra [] f0 [(9, B (decide (v_93 < ((p_0.length : Nat) : Int))))] ?_; refine tN ?_; refine sq ?_; rcases ifB_cases hG with ⟨h_95, hG⟩ | ⟨h_95, hG⟩
       ·try simp only [List.length_map, KProofL.n_Hops] at h_95
        refine sb 9 (bt h_95) ?_; refine ct ?_; refine kS ?_; refine tN ?_; refine sq ?_; refine bk ?_; refine sq ?_; refine rg ?_; refine ra [] f0 [(5, I v_93)] ?_; refine tN ?_; refine sq ?_; replace hG := bind_some hG; obtain ⟨v_96, hy_96, hG⟩ := hG; replace hG := bind_some hG; obtain ⟨v_99, hy_99, hG⟩ := hG; refine rg ?_; refine fx inf139 (gd' (RowC p_0_A p_0_c c_i64 tr p_0) 0) hy_96 fun b_97 o_98 hi_96 => ?_
        refine rn 5 [(3, 0, 0, 0), (0, 1, 0, 0)] (fc (hi_96 .i64) f0) [(11, .func (.func 129) #[] #[]), (15, I v_96)] ?_; refine l1 ?_; refine cl 16 (z_cross_keyring_right_1 F v_96 _ hy_99) hT trivial ?_; refine nl ?_; refine tN ?_; rcases ifB_cases hG with ⟨h_100, hG⟩ | ⟨h_100, hG⟩
        ·refine sb 16 (bt h_100) ?_; refine ct ?_; refine sq ?_; refine rg ?_; refine ra [] f0 [(4, I v_93)] ?_; refine tN ?_; refine kR ?_; refine hR ?_; refine tR ?_; refine tR ?_; have he_ := hO2_94 _ (Option.some.inj hG).symm; subst he_; replace hG := hG_94
         try (simp only [un2, un3, un4, un5, un6, un7, un8, Sum.elim_inl, Sum.elim_inr, List.length_map, KProofL.n_Hops] at hG; replace hG : _ = _ := hG)
         refine hR ?_; refine tR ?_; obtain rfl := Option.some.inj hG; replace hG := hG_102
         try (simp only [un2, un3, un4, un5, un6, un7, un8, Sum.elim_inl, Sum.elim_inr, List.length_map, KProofL.n_Hops] at hG; replace hG : _ = _ := hG)
         refine ri [] (I v_93) ?_; exact fun a w S hK hE => ⟨v_93, rfl, ⟨S, hE.sel [1]⟩, Option.some.inj hG⟩
        ·refine sb 16 (bf h_100) ?_; refine cf ?_; refine kS ?_; refine hN ?_; refine tN ?_; refine rg ?_; refine ra [] f0 [(8, I (IntKind.i64.wrap (v_93 + 1)))] ?_; refine tN ?_; exact fun a w S hK hE => ⟨m_94, ⟨IntKind.i64.wrap (v_93 + 1), S, hK.wk, hE.sel [1], hO1_94 _ (Option.some.inj hG).symm⟩, Nat.lt_succ_self _⟩
       ·try simp only [List.length_map, KProofL.n_Hops] at h_95
        refine sb 9 (bf h_95) ?_; refine cf ?_; refine kX ?_; refine tX ?_; refine tX ?_; have he_ := hO2_94 _ (Option.some.inj hG).symm; subst he_; replace hG := hG_94
        try (simp only [un2, un3, un4, un5, un6, un7, un8, Sum.elim_inl, Sum.elim_inr, List.length_map, KProofL.n_Hops] at hG; replace hG : _ = _ := hG)
        refine hH ?_; refine tN ?_; exact fun a w S hK hE => ⟨S, hK.wk, hE.sel [0], Option.some.inj hG⟩
     ·rintro a w hJ; refine hJ.go fun ho_ => ?_
      clear hJ; subst ho_; replace hG := hG_102
      try (simp only [un2, un3, un4, un5, un6, un7, un8, Sum.elim_inl, Sum.elim_inr, List.length_map, KProofL.n_Hops] at hG; replace hG : _ = _ := hG)
      refine sq ?_; refine rg ?_; refine ra [] f0 [(4, I (-1))] ?_; refine tN ?_; refine kR ?_; refine ri [] (I (-1)) ?_; exact fun a w S hK hE => ⟨(-1), rfl, ⟨S, hE.sel [0]⟩, Option.some.inj hG⟩
    ·rintro e w ⟨v_78, hJ⟩; refine hJ.go fun ho_ => ?_
     clear hJ; subst ho_
     try (simp only [un2, un3, un4, un5, un6, un7, un8, Sum.elim_inl, Sum.elim_inr, List.length_map, KProofL.n_Hops] at hG; replace hG : _ = _ := hG)
     refine ra [] f0 [(4, B (decide (v_78 ≥ 0)))] ?_; refine tN ?_; refine kR ?_; refine ri [] (B (decide (v_78 ≥ 0))) ?_; exact fun a w S hK hE => ⟨decide (v_78 ≥ 0), rfl, ⟨S, hE.sel [0]⟩, Option.some.inj hG⟩
   ·rintro e w ⟨v_52, hJ⟩; refine hJ.go fun ho_ => ?_
    clear hJ; subst ho_
    try (simp only [un2, un3, un4, un5, un6, un7, un8, Sum.elim_inl, Sum.elim_inr, List.length_map, KProofL.n_Hops] at hG; replace hG : _ = _ := hG)
    refine ra [] f0 [(2, B (!v_52))] ?_; refine tN ?_; exact fun a w S hK hE => ⟨!v_52, S, hK.wk, hE.sel [], Option.some.inj hG⟩
  ·refine rg ?_; refine rn 4 [] f0 [(7, B (decide (((p_0.length : Nat) : Int) ≤ 16)))] ?_
   try simp only [List.length_map, KProofL.n_Hops] at h_1
   refine sb 7 (bf h_1) ?_; refine ra [] f0 [(2, B false)] ?_; refine tN ?_; exact fun a w S hK hE => ⟨false, S, hK.wk, hE.sel [], Option.some.inj hG⟩
 ·rintro a w ⟨v_105, hJ⟩; refine hJ.go fun ho_ => ?_
  clear hJ; subst ho_; replace hG := hG_104
  try (simp only [un2, un3, un4, un5, un6, un7, un8, Sum.elim_inl, Sum.elim_inr, List.length_map, KProofL.n_Hops] at hG; replace hG : _ = _ := hG)
  refine kR ?_; obtain rfl := Option.some.inj hG; exact rt []
def G_order_Check_1 (F : Nat) (p_0 : Int) : Option (Bool) :=
  Option.bind (ifB ((p_0 == 0))
      (some false)
      (Option.bind (G_order_isKey F p_0) (fun v_2 =>
      some (!v_2))) : Option (Bool)) (fun (v_4 : Bool) => 
    some v_4)
set_option maxRecDepth 100000 in
set_option maxHeartbeats 16000000 in
theorem z_order_Check_1 (F : Nat) (p_0 : Int) (r : Bool) (hG : G_order_Check_1 F p_0 = some r) :
  Cf Tryz.prog 34 [I p_0] [] (B r) := by
 unfold G_order_Check_1 at hG
 try (simp only [un2, un3, un4, un5, un6, un7, un8, Sum.elim_inl, Sum.elim_inr, List.length_map, KProofL.n_Hops] at hG; replace hG : _ = _ := hG)
 refine fi Tryz.func34 rfl rfl m0 fun S0 w0 hT => ?_
 refine sq ?_; refine rg ?_; refine ra [] f0 [] ?_; refine tN ?_; obtain ⟨o_3, hG, hG_3⟩ := bind_some hG; refine jn (fun K E a w => ∃ (v_4 : Bool), Js S0 w0 10 ([(2, B v_4)] ++ K) (se E []) (v_4 = o_3) a w) ?_ ?_
 ·replace hG := ifB_cases hG; rcases hG with ⟨h_1, hG⟩ | ⟨h_1, hG⟩
  ·refine rg ?_; refine rn 3 [] f0 [(5, B (!(p_0 == 0)))] ?_; refine sb 5 (nt h_1) ?_; refine ra [] f0 [(2, B false)] ?_; refine tN ?_; exact fun a w S hK hE => ⟨false, S, hK.wk, hE.sel [], Option.some.inj hG⟩
  ·replace hG := bind_some hG; obtain ⟨v_2, hy_2, hG⟩ := hG; refine rg ?_; refine rn 3 [] f0 [(5, B (!(p_0 == 0)))] ?_; refine sb 5 (nf h_1) ?_; refine rn 1 [] f0 [(6, I p_0)] ?_; refine l1 ?_; refine cl 7 (z_order_isKey F p_0 _ hy_2) hT trivial ?_; refine ra [] f0 [(2, B (!v_2))] ?_; refine tN ?_; exact fun a w S hK hE => ⟨!v_2, S, hK.wk, hE.sel [], Option.some.inj hG⟩
 ·rintro a w ⟨v_4, hJ⟩; refine hJ.go fun ho_ => ?_
  clear hJ; subst ho_; replace hG := hG_3
  try (simp only [un2, un3, un4, un5, un6, un7, un8, Sum.elim_inl, Sum.elim_inr, List.length_map, KProofL.n_Hops] at hG; replace hG : _ = _ := hG)
  refine kR ?_; obtain rfl := Option.some.inj hG; exact rt []
def G_order_right (F : Nat) (p_0 : List Int) (p_1 : KReceipt) : Option (Bool × Int) :=
  Option.bind (ifB (decide (1 ≤ p_1.Head.Office))
      (ifB (decide (p_1.Head.Office ≤ ((p_0.length : Nat) : Int)))
        (Option.bind (ixI p_0 (IntKind.i64.wrap (p_1.Head.Office - 1))) (fun v_4 =>
        some (!(v_4 == 0))))
        (some false))
      (some false) : Option (Bool)) (fun (v_8 : Bool) => 
    Option.bind (ifB (v_8)
        (Option.bind (ixI p_0 (IntKind.i64.wrap (p_1.Head.Office - 1))) (fun v_10 =>
        some v_10))
        (some 4) : Option (Int)) (fun (v_14 : Int) => 
      Option.bind (G_office_Check F v_14 p_1) (un2 fun v_15 v_16 =>
      Option.bind (ifB (v_15)
          (some v_8)
          (some false) : Option (Bool)) (fun (v_19 : Bool) => 
        some (v_19, v_16)))))
set_option maxRecDepth 100000 in
set_option maxHeartbeats 16000000 in
theorem z_order_right (F : Nat) (p_0_A : Option Addr) (p_0_c : Nat) (p_0 : List Int) (p_1 : KReceiptL) (r : Bool × Int) (hG : G_order_right F p_0 p_1.p = some r) :
  Cf Tryz.prog 32 [.slice p_0_A p_0.length p_0_c, .agg #[I p_1.Head.Office, I p_1.Head.Size, U p_1.Head.Root, I p_1.Head.Sig.C, I p_1.Head.Sig.S, I p_1.Index, U p_1.Entry.Doc, I p_1.Entry.Stamp.Lo, I p_1.Entry.Stamp.Hi, .slice p_1.Path_A p_1.Path.length p_1.Path_c]] [RowC p_0_A p_0_c c_i64 tr p_0, KReceiptL.ok p_1] (.tuple #[B r.1, I r.2]) := by
 unfold G_order_right at hG
 try (simp only [un2, un3, un4, un5, un6, un7, un8, Sum.elim_inl, Sum.elim_inr, List.length_map, KProofL.n_Hops] at hG; replace hG : _ = _ := hG)
 refine fi Tryz.func32 rfl rfl (mr tr_mv (mc KReceiptL.mv m0)) fun S0 w0 hT => ?_
 refine sq ?_; refine rg ?_; refine l1 ?_; refine nw 3 vp [I p_1.Head.Office, I p_1.Head.Size, U p_1.Head.Root, I p_1.Head.Sig.C, I p_1.Head.Sig.S, I p_1.Index, U p_1.Entry.Doc, I p_1.Entry.Stamp.Lo, I p_1.Entry.Stamp.Hi, .slice p_1.Path_A p_1.Path.length p_1.Path_c] 34 fun g_1 => ?_
 refine ra [] f0 [] ?_; refine tN ?_; refine sq ?_; refine rg ?_; refine ra [] f0 [(6, I 4)] ?_; refine tN ?_; refine sq ?_; refine rg ?_; refine ra [(2, 1, 0, 0)] f0 [(7, I p_1.Head.Office)] ?_; refine tN ?_; obtain ⟨o_7, hG, hG_7⟩ := bind_some hG; refine jn (fun K E a w => ∃ (v_8 : Bool), Js S0 w0 47 ([(8, B v_8)] ++ K) ([.dat (RowC p_1.Path_A p_1.Path_c c_u64 tr p_1.Path)] ++ se E [0, 1]) (v_8 = o_7) a w) ?_ ?_
 ·replace hG := ifB_cases hG; rcases hG with ⟨h_2, hG⟩ | ⟨h_2, hG⟩
  ·replace hG := ifB_cases hG; rcases hG with ⟨h_3, hG⟩ | ⟨h_3, hG⟩
   ·replace hG := bind_some hG; obtain ⟨v_4, hy_4, hG⟩ := hG; refine rg ?_; refine rn 3 [] f0 [(16, B (decide (1 ≤ p_1.Head.Office)))] ?_; refine sb 16 (bt h_2) ?_; refine rn 6 [] f0 [(22, B (decide (p_1.Head.Office ≤ ((p_0.length : Nat) : Int))))] ?_
    try simp only [List.length_map, KProofL.n_Hops] at h_3
    refine sb 22 (bt h_3) ?_; refine fx inf22 (gd' (RowC p_0_A p_0_c c_i64 tr p_0) 1) hy_4 fun b_5 o_6 hi_4 => ?_
    refine ra [(3, 0, 0, 0), (0, 1, 0, 0)] (fc (hi_4 .i64) f0) [(8, B (!(v_4 == 0)))] ?_; refine tN ?_; refine fm (RowC p_1.Path_A p_1.Path_c c_u64 tr p_1.Path) (gm (KReceiptL.ok p_1) 3 fun _ _ h => h.f_Path) ?_; exact fun a w S hK hE => ⟨!(v_4 == 0), S, hK.wk, hE.sel [0, 2, 3], Option.some.inj hG⟩
   ·refine rg ?_; refine rn 3 [] f0 [(16, B (decide (1 ≤ p_1.Head.Office)))] ?_; refine sb 16 (bt h_2) ?_; refine rn 6 [] f0 [(22, B (decide (p_1.Head.Office ≤ ((p_0.length : Nat) : Int))))] ?_
    try simp only [List.length_map, KProofL.n_Hops] at h_3
    refine sb 22 (bf h_3) ?_; refine ra [] f0 [(8, B false)] ?_; refine tN ?_; refine fm (RowC p_1.Path_A p_1.Path_c c_u64 tr p_1.Path) (gm (KReceiptL.ok p_1) 2 fun _ _ h => h.f_Path) ?_; exact fun a w S hK hE => ⟨false, S, hK.wk, hE.sel [0, 1, 2], Option.some.inj hG⟩
  ·refine rg ?_; refine rn 3 [] f0 [(16, B (decide (1 ≤ p_1.Head.Office)))] ?_; refine sb 16 (bf h_2) ?_; refine ra [] f0 [(8, B false)] ?_; refine tN ?_; refine fm (RowC p_1.Path_A p_1.Path_c c_u64 tr p_1.Path) (gm (KReceiptL.ok p_1) 2 fun _ _ h => h.f_Path) ?_; exact fun a w S hK hE => ⟨false, S, hK.wk, hE.sel [0, 1, 2], Option.some.inj hG⟩
 ·rintro a w ⟨v_8, hJ⟩; refine hJ.go fun ho_ => ?_
  clear hJ; subst ho_; replace hG := hG_7
  try (simp only [un2, un3, un4, un5, un6, un7, un8, Sum.elim_inl, Sum.elim_inr, List.length_map, KProofL.n_Hops] at hG; replace hG : _ = _ := hG)
  obtain ⟨o_13, hG, hG_13⟩ := bind_some hG; refine jn (fun K E a w => ∃ (v_14 : Int), Js S0 w0 47 ([(6, I v_14)] ++ K) (se E [0, 1]) (v_14 = o_13) a w) ?_ ?_
  ·refine sq ?_; refine rg ?_; refine ra [] f0 [(30, B v_8)] ?_; refine tN ?_; rcases ifB_cases hG with ⟨h_9, hG⟩ | ⟨h_9, hG⟩
   ·refine sb 30 (bt h_9) ?_; refine ct ?_; replace hG := bind_some hG; obtain ⟨v_10, hy_10, hG⟩ := hG; refine rg ?_; refine fx inf22 (gd' (RowC p_0_A p_0_c c_i64 tr p_0) 2) hy_10 fun b_11 o_12 hi_10 => ?_
    refine ra [(3, 0, 0, 0), (0, 1, 0, 0)] (fc (hi_10 .i64) f0) [(6, I v_10)] ?_; refine tN ?_; exact fun a w S hK hE => ⟨v_10, S, hK.wk, hE.sel [1, 2], Option.some.inj hG⟩
   ·refine sb 30 (bf h_9) ?_; refine cf ?_; refine kS ?_; refine tN ?_; exact fun a w S hK hE => ⟨4, S, hK.wk, hE.sel [0, 1], Option.some.inj hG⟩
  ·rintro a w ⟨v_14, hJ⟩; refine hJ.go fun ho_ => ?_
   clear hJ; subst ho_; replace hG := hG_13
   try (simp only [un2, un3, un4, un5, un6, un7, un8, Sum.elim_inl, Sum.elim_inr, List.length_map, KProofL.n_Hops] at hG; replace hG : _ = _ := hG)
   refine sq ?_; replace hG := bind_some hG; obtain ⟨⟨v_15, v_16⟩, hy_15, hG⟩ := hG; refine rg ?_; refine rn 2 [(1, 10, 1, 0)] f0 [(37, I v_14), (38, .agg #[I p_1.Head.Office, I p_1.Head.Size, U p_1.Head.Root, I p_1.Head.Sig.C, I p_1.Head.Sig.S, I p_1.Index, U p_1.Entry.Doc, I p_1.Entry.Stamp.Lo, I p_1.Entry.Stamp.Hi, .slice p_1.Path_A p_1.Path.length p_1.Path_c])] ?_; refine l1 ?_; refine cl 39 (z_office_Check F v_14 p_1 _ hy_15) hT ⟨(((gd' (RowC p_1.Path_A p_1.Path_c c_u64 tr p_1.Path) 0)).m fun _ _ h => ⟨h⟩).a, trivial⟩ ?_; refine ra [] f0 [(9, B v_15), (10, I v_16)] ?_; refine tN ?_; obtain ⟨o_18, hG, hG_18⟩ := bind_some hG; refine jn (fun K E a w => ∃ (v_19 : Bool), Js S0 w0 47 ([(4, B v_19), (5, I v_16)] ++ K) (se E []) (v_19 = o_18) a w) ?_ ?_
   ·replace hG := ifB_cases hG; rcases hG with ⟨h_17, hG⟩ | ⟨h_17, hG⟩
    ·refine rg ?_; refine rn 2 [] f0 [(43, B v_15)] ?_; refine sb 43 (bt h_17) ?_; refine ra [] f0 [(4, B v_8), (5, I v_16)] ?_; refine tN ?_; exact fun a w S hK hE => ⟨v_8, S, hK.wk, hE.sel [], Option.some.inj hG⟩
    ·refine rg ?_; refine rn 2 [] f0 [(43, B v_15)] ?_; refine sb 43 (bf h_17) ?_; refine ra [] f0 [(4, B false), (5, I v_16)] ?_; refine tN ?_; exact fun a w S hK hE => ⟨false, S, hK.wk, hE.sel [], Option.some.inj hG⟩
   ·rintro a w ⟨v_19, hJ⟩; refine hJ.go fun ho_ => ?_
    clear hJ; subst ho_; replace hG := hG_18
    try (simp only [un2, un3, un4, un5, un6, un7, un8, Sum.elim_inl, Sum.elim_inr, List.length_map, KProofL.n_Hops] at hG; replace hG : _ = _ := hG)
    refine kR ?_; obtain rfl := Option.some.inj hG; exact rt []
def G_cross_Witness (F : Nat) (p_0 : KOffice) (p_1 : KHead) (p_2 : KHead) (p_3 : KOffice) (p_4 : KHead) : Option (KHop × Int) :=
  Option.bind (Option.bind (G_office_Valid F p_0) (fun v_7 =>
    ifB (v_7)
      (Option.bind (G_office_Valid F p_3) (fun v_9 =>
      ifB (v_9)
        (Option.bind (G_cross_formed F p_1) (fun v_11 =>
        ifB (v_11)
          (Option.bind (G_cross_formed F p_2) (fun v_13 =>
          ifB (v_13)
            (Option.bind (G_cross_formed F p_4) (fun v_15 =>
            ifB (v_15)
              (ifB ((p_0.ID == p_3.ID))
                (some true)
                (some (decide (p_1.Size > p_2.Size))))
              (some true)))
            (some true)))
          (some true)))
        (some true)))
      (some true)) : Option (Bool)) (fun (v_19 : Bool) => 
    ifB (v_19)
      (some ((⟨(⟨0, 0, 0, (⟨0, 0⟩ : KSig)⟩ : KHead), ([] : List Int), (⟨(⟨0, 0, 0, (⟨0, 0⟩ : KSig)⟩ : KHead), 0, (⟨0, (⟨0, 0⟩ : KInterval)⟩ : KEntry), ([] : List Int)⟩ : KReceipt)⟩ : KHop), 1))
      (Option.bind (Option.bind (G_cross_has F p_0 p_1) (fun v_21 =>
        ifB (v_21)
          (Option.bind (G_cross_has F p_0 p_2) (fun v_23 =>
          ifB (v_23)
            (Option.bind (G_cross_has F p_3 p_4) (fun v_25 =>
            some (!v_25)))
            (some true)))
          (some true)) : Option (Bool)) (fun (v_27 : Bool) => 
        ifB (v_27)
          (some ((⟨(⟨0, 0, 0, (⟨0, 0⟩ : KSig)⟩ : KHead), ([] : List Int), (⟨(⟨0, 0, 0, (⟨0, 0⟩ : KSig)⟩ : KHead), 0, (⟨0, (⟨0, 0⟩ : KInterval)⟩ : KEntry), ([] : List Int)⟩ : KReceipt)⟩ : KHop), 33))
          (Option.bind (G_cross_Digest F p_2) (fun v_29 =>
          Option.bind (slI p_3.Entries 0 p_4.Size) (fun v_31 =>
          Option.bind (Option.bind (Option.bind (iter (σ := Int) (ρ := Unit ⊕ Int) (fun (v_49 : Int) => 
                  (ifB (decide (v_49 < ((v_31.length : Nat) : Int)))
                    (Option.bind (ixI v_31 v_49) (fun v_52 =>
                    Option.bind (some () : Option (Unit)) (fun (_ : Unit) => 
                      ifB ((v_52.Doc == v_29))
                        (some (.inr (.inr v_49)))
                        (some (.inl (IntKind.i64.wrap (v_49 + 1)))))))
                    (some (.inr (.inl ()))) : Option (Int ⊕ (Unit ⊕ Int)))) F 0) (Sum.elim (fun (_ : Unit) => 
                some (.inl ())) (fun (v_59 : Int) => 
                some (.inr v_59))) : Option (Unit ⊕ Int)) (Sum.elim (fun (_ : Unit) => 
              some (-1)) (fun (v_61 : Int) => 
              some v_61)) : Option (Int)) (fun (v_62 : Int) => 
            ifB (decide (v_62 < 0))
              (some ((⟨(⟨0, 0, 0, (⟨0, 0⟩ : KSig)⟩ : KHead), ([] : List Int), (⟨(⟨0, 0, 0, (⟨0, 0⟩ : KSig)⟩ : KHead), 0, (⟨0, (⟨0, 0⟩ : KInterval)⟩ : KEntry), ([] : List Int)⟩ : KReceipt)⟩ : KHop), 4))
              (Option.bind (G_cross_values F p_0 p_2.Size) (fun v_95 =>
              Option.bind (G_tree_Extend F v_95 p_1.Size) (un2 fun v_96 v_97 =>
              ifB ((v_97 == 0))
                (Option.bind (G_office_Prove F p_3 p_4 v_62) (un2 fun v_99 v_100 =>
                some ((⟨p_2, v_96, v_99⟩ : KHop), v_100)))
                (some ((⟨(⟨0, 0, 0, (⟨0, 0⟩ : KSig)⟩ : KHead), ([] : List Int), (⟨(⟨0, 0, 0, (⟨0, 0⟩ : KSig)⟩ : KHead), 0, (⟨0, (⟨0, 0⟩ : KInterval)⟩ : KEntry), ([] : List Int)⟩ : KReceipt)⟩ : KHop), v_97))))))))))))
set_option maxRecDepth 100000 in
set_option maxHeartbeats 16000000 in
theorem z_cross_Witness (F : Nat) (p_0 : KOfficeL) (p_1 : KHead) (p_2 : KHead) (p_3 : KOfficeL) (p_4 : KHead) (r : KHop × Int) (hG : G_cross_Witness F p_0.p p_1 p_2 p_3.p p_4 = some r) :
  Cn Tryz.prog 48 [.agg #[I p_0.ID, .slice p_0.Entries_A p_0.Entries.length p_0.Entries_c], .agg #[I p_1.Office, I p_1.Size, U p_1.Root, I p_1.Sig.C, I p_1.Sig.S], .agg #[I p_2.Office, I p_2.Size, U p_2.Root, I p_2.Sig.C, I p_2.Sig.S], .agg #[I p_3.ID, .slice p_3.Entries_A p_3.Entries.length p_3.Entries_c], .agg #[I p_4.Office, I p_4.Size, U p_4.Root, I p_4.Sig.C, I p_4.Sig.S]] [KOfficeL.ok p_0, KOfficeL.ok p_3] (fun q : KHopL => r.1 = q.p) (fun q => .tuple #[.agg #[I q.Of.Office, I q.Of.Size, U q.Of.Root, I q.Of.Sig.C, I q.Of.Sig.S, .slice q.Grow_A q.Grow.length q.Grow_c, I q.By.Head.Office, I q.By.Head.Size, U q.By.Head.Root, I q.By.Head.Sig.C, I q.By.Head.Sig.S, I q.By.Index, U q.By.Entry.Doc, I q.By.Entry.Stamp.Lo, I q.By.Entry.Stamp.Hi, .slice q.By.Path_A q.By.Path.length q.By.Path_c], I r.2]) (fun q => [KHopL.ok q]) := by
 unfold G_cross_Witness at hG
 try (simp only [un2, un3, un4, un5, un6, un7, un8, Sum.elim_inl, Sum.elim_inr, List.length_map, KProofL.n_Hops] at hG; replace hG : _ = _ := hG)
 refine fin Tryz.func48 rfl rfl (mc KOfficeL.mv (mc KOfficeL.mv m0)) fun S0 w0 hT => ?_
 refine sq ?_; refine rg ?_; refine l1 ?_; refine nw 5 vp [I p_0.ID, .slice p_0.Entries_A p_0.Entries.length p_0.Entries_c] 53 fun g_1 => ?_
 refine l1 ?_; refine nw 6 vp [I p_1.Office, I p_1.Size, U p_1.Root, I p_1.Sig.C, I p_1.Sig.S] 27 fun g_2 => ?_
 refine l1 ?_; refine nw 7 vp [I p_2.Office, I p_2.Size, U p_2.Root, I p_2.Sig.C, I p_2.Sig.S] 27 fun g_3 => ?_
 refine l1 ?_; refine nw 8 vp [I p_3.ID, .slice p_3.Entries_A p_3.Entries.length p_3.Entries_c] 53 fun g_4 => ?_
 refine l1 ?_; refine nw 9 vp [I p_4.Office, I p_4.Size, U p_4.Root, I p_4.Sig.C, I p_4.Sig.S] 27 fun g_5 => ?_
 refine l1 ?_; refine nw 10 vp [I 0, I 0, U 0, I 0, I 0, .slice none 0 0, I 0, I 0, U 0, I 0, I 0, I 0, U 0, I 0, I 0, .slice none 0 0] 79 fun g_6 => ?_
 refine ra [] f0 [] ?_; refine tN ?_; refine sq ?_; obtain ⟨o_18, hG, hG_18⟩ := bind_some hG; refine jn (fun K E a w => ∃ (v_19 : Bool), Js S0 w0 110 ([(53, B v_19)] ++ K) ([.dat (RowC p_0.Entries_A p_0.Entries_c KEntry.cells tr p_0.Entries), .dat (RowC p_3.Entries_A p_3.Entries_c KEntry.cells tr p_3.Entries)] ++ se E [0, 1, 2, 3, 4, 5]) (v_19 = o_18) a w) ?_ ?_
 ·replace hG := bind_some hG; obtain ⟨v_7, hy_7, hG⟩ := hG; replace hG := ifB_cases hG; rcases hG with ⟨h_8, hG⟩ | ⟨h_8, hG⟩
  ·replace hG := bind_some hG; obtain ⟨v_9, hy_9, hG⟩ := hG; replace hG := ifB_cases hG; rcases hG with ⟨h_10, hG⟩ | ⟨h_10, hG⟩
   ·replace hG := bind_some hG; obtain ⟨v_11, hy_11, hG⟩ := hG; replace hG := ifB_cases hG; rcases hG with ⟨h_12, hG⟩ | ⟨h_12, hG⟩
    ·replace hG := bind_some hG; obtain ⟨v_13, hy_13, hG⟩ := hG; replace hG := ifB_cases hG; rcases hG with ⟨h_14, hG⟩ | ⟨h_14, hG⟩
     ·replace hG := bind_some hG; obtain ⟨v_15, hy_15, hG⟩ := hG; replace hG := ifB_cases hG; rcases hG with ⟨h_16, hG⟩ | ⟨h_16, hG⟩
      ·replace hG := ifB_cases hG; rcases hG with ⟨h_17, hG⟩ | ⟨h_17, hG⟩
       ·refine rg ?_; refine rn 1 [(0, 2, 5, 0)] f0 [(17, .agg #[I p_0.ID, .slice p_0.Entries_A p_0.Entries.length p_0.Entries_c])] ?_; refine l1 ?_; refine cl 18 (z_office_Valid F p_0 _ hy_7) hT ⟨(gi 6).a, trivial⟩ ?_; refine rn 2 [] f0 [(20, B (!v_7))] ?_; refine sb 20 (nt h_8) ?_; refine rn 1 [(0, 2, 2, 0)] f0 [(21, .agg #[I p_3.ID, .slice p_3.Entries_A p_3.Entries.length p_3.Entries_c])] ?_; refine l1 ?_; refine cl 22 (z_office_Valid F p_3 _ hy_9) hT ⟨(gi 7).a, trivial⟩ ?_; refine rn 3 [] f0 [(25, B (!v_9))] ?_; refine sb 25 (nt h_10) ?_; refine rn 1 [(0, 5, 4, 0)] f0 [(26, .agg #[I p_1.Office, I p_1.Size, U p_1.Root, I p_1.Sig.C, I p_1.Sig.S])] ?_; refine l1 ?_; refine cl 27 (z_cross_formed F p_1 _ hy_11) hT trivial ?_; refine rn 3 [] f0 [(30, B (!v_11))] ?_; refine sb 30 (nt h_12) ?_; refine rn 1 [(0, 5, 3, 0)] f0 [(31, .agg #[I p_2.Office, I p_2.Size, U p_2.Root, I p_2.Sig.C, I p_2.Sig.S])] ?_; refine l1 ?_; refine cl 32 (z_cross_formed F p_2 _ hy_13) hT trivial ?_; refine rn 3 [] f0 [(35, B (!v_13))] ?_; refine sb 35 (nt h_14) ?_; refine rn 1 [(0, 5, 1, 0)] f0 [(36, .agg #[I p_4.Office, I p_4.Size, U p_4.Root, I p_4.Sig.C, I p_4.Sig.S])] ?_; refine l1 ?_; refine cl 37 (z_cross_formed F p_4 _ hy_15) hT trivial ?_; refine rn 3 [] f0 [(40, B (!v_15))] ?_; refine sb 40 (nt h_16) ?_; refine rn 7 [(1, 1, 5, 0), (1, 1, 2, 0)] f0 [(47, B (p_0.ID == p_3.ID))] ?_; refine sb 47 (bt h_17) ?_; refine ra [] f0 [(53, B true)] ?_; refine tN ?_; refine fm (RowC p_0.Entries_A p_0.Entries_c KEntry.cells tr p_0.Entries) (gm (KOfficeL.ok p_0) 6 fun _ _ h => h.f_Entries) ?_; refine fm (RowC p_3.Entries_A p_3.Entries_c KEntry.cells tr p_3.Entries) (gm (KOfficeL.ok p_3) 8 fun _ _ h => h.f_Entries) ?_; exact fun a w S hK hE => ⟨true, S, hK.wk, hE.sel [1, 0, 2, 3, 4, 5, 6, 7], Option.some.inj hG⟩
       ·refine rg ?_; refine rn 1 [(0, 2, 5, 0)] f0 [(17, .agg #[I p_0.ID, .slice p_0.Entries_A p_0.Entries.length p_0.Entries_c])] ?_; refine l1 ?_; refine cl 18 (z_office_Valid F p_0 _ hy_7) hT ⟨(gi 6).a, trivial⟩ ?_; refine rn 2 [] f0 [(20, B (!v_7))] ?_; refine sb 20 (nt h_8) ?_; refine rn 1 [(0, 2, 2, 0)] f0 [(21, .agg #[I p_3.ID, .slice p_3.Entries_A p_3.Entries.length p_3.Entries_c])] ?_; refine l1 ?_; refine cl 22 (z_office_Valid F p_3 _ hy_9) hT ⟨(gi 7).a, trivial⟩ ?_; refine rn 3 [] f0 [(25, B (!v_9))] ?_; refine sb 25 (nt h_10) ?_; refine rn 1 [(0, 5, 4, 0)] f0 [(26, .agg #[I p_1.Office, I p_1.Size, U p_1.Root, I p_1.Sig.C, I p_1.Sig.S])] ?_; refine l1 ?_; refine cl 27 (z_cross_formed F p_1 _ hy_11) hT trivial ?_; refine rn 3 [] f0 [(30, B (!v_11))] ?_; refine sb 30 (nt h_12) ?_; refine rn 1 [(0, 5, 3, 0)] f0 [(31, .agg #[I p_2.Office, I p_2.Size, U p_2.Root, I p_2.Sig.C, I p_2.Sig.S])] ?_; refine l1 ?_; refine cl 32 (z_cross_formed F p_2 _ hy_13) hT trivial ?_; refine rn 3 [] f0 [(35, B (!v_13))] ?_; refine sb 35 (nt h_14) ?_; refine rn 1 [(0, 5, 1, 0)] f0 [(36, .agg #[I p_4.Office, I p_4.Size, U p_4.Root, I p_4.Sig.C, I p_4.Sig.S])] ?_; refine l1 ?_; refine cl 37 (z_cross_formed F p_4 _ hy_15) hT trivial ?_; refine rn 3 [] f0 [(40, B (!v_15))] ?_; refine sb 40 (nt h_16) ?_; refine rn 7 [(1, 1, 5, 0), (1, 1, 2, 0)] f0 [(47, B (p_0.ID == p_3.ID))] ?_; refine sb 47 (bf h_17) ?_; refine ra [(1, 1, 4, 1), (1, 1, 3, 1)] f0 [(53, B (decide (p_1.Size > p_2.Size)))] ?_; refine tN ?_; refine fm (RowC p_0.Entries_A p_0.Entries_c KEntry.cells tr p_0.Entries) (gm (KOfficeL.ok p_0) 6 fun _ _ h => h.f_Entries) ?_; refine fm (RowC p_3.Entries_A p_3.Entries_c KEntry.cells tr p_3.Entries) (gm (KOfficeL.ok p_3) 8 fun _ _ h => h.f_Entries) ?_; exact fun a w S hK hE => ⟨decide (p_1.Size > p_2.Size), S, hK.wk, hE.sel [1, 0, 2, 3, 4, 5, 6, 7], Option.some.inj hG⟩
      ·refine rg ?_; refine rn 1 [(0, 2, 5, 0)] f0 [(17, .agg #[I p_0.ID, .slice p_0.Entries_A p_0.Entries.length p_0.Entries_c])] ?_; refine l1 ?_; refine cl 18 (z_office_Valid F p_0 _ hy_7) hT ⟨(gi 6).a, trivial⟩ ?_; refine rn 2 [] f0 [(20, B (!v_7))] ?_; refine sb 20 (nt h_8) ?_; refine rn 1 [(0, 2, 2, 0)] f0 [(21, .agg #[I p_3.ID, .slice p_3.Entries_A p_3.Entries.length p_3.Entries_c])] ?_; refine l1 ?_; refine cl 22 (z_office_Valid F p_3 _ hy_9) hT ⟨(gi 7).a, trivial⟩ ?_; refine rn 3 [] f0 [(25, B (!v_9))] ?_; refine sb 25 (nt h_10) ?_; refine rn 1 [(0, 5, 4, 0)] f0 [(26, .agg #[I p_1.Office, I p_1.Size, U p_1.Root, I p_1.Sig.C, I p_1.Sig.S])] ?_; refine l1 ?_; refine cl 27 (z_cross_formed F p_1 _ hy_11) hT trivial ?_; refine rn 3 [] f0 [(30, B (!v_11))] ?_; refine sb 30 (nt h_12) ?_; refine rn 1 [(0, 5, 3, 0)] f0 [(31, .agg #[I p_2.Office, I p_2.Size, U p_2.Root, I p_2.Sig.C, I p_2.Sig.S])] ?_; refine l1 ?_; refine cl 32 (z_cross_formed F p_2 _ hy_13) hT trivial ?_; refine rn 3 [] f0 [(35, B (!v_13))] ?_; refine sb 35 (nt h_14) ?_; refine rn 1 [(0, 5, 1, 0)] f0 [(36, .agg #[I p_4.Office, I p_4.Size, U p_4.Root, I p_4.Sig.C, I p_4.Sig.S])] ?_; refine l1 ?_; refine cl 37 (z_cross_formed F p_4 _ hy_15) hT trivial ?_; refine rn 3 [] f0 [(40, B (!v_15))] ?_; refine sb 40 (nf h_16) ?_; refine ra [] f0 [(53, B true)] ?_; refine tN ?_; refine fm (RowC p_0.Entries_A p_0.Entries_c KEntry.cells tr p_0.Entries) (gm (KOfficeL.ok p_0) 6 fun _ _ h => h.f_Entries) ?_; refine fm (RowC p_3.Entries_A p_3.Entries_c KEntry.cells tr p_3.Entries) (gm (KOfficeL.ok p_3) 8 fun _ _ h => h.f_Entries) ?_; exact fun a w S hK hE => ⟨true, S, hK.wk, hE.sel [1, 0, 2, 3, 4, 5, 6, 7], Option.some.inj hG⟩
     ·refine rg ?_; refine rn 1 [(0, 2, 5, 0)] f0 [(17, .agg #[I p_0.ID, .slice p_0.Entries_A p_0.Entries.length p_0.Entries_c])] ?_; refine l1 ?_; refine cl 18 (z_office_Valid F p_0 _ hy_7) hT ⟨(gi 6).a, trivial⟩ ?_; refine rn 2 [] f0 [(20, B (!v_7))] ?_; refine sb 20 (nt h_8) ?_; refine rn 1 [(0, 2, 2, 0)] f0 [(21, .agg #[I p_3.ID, .slice p_3.Entries_A p_3.Entries.length p_3.Entries_c])] ?_; refine l1 ?_; refine cl 22 (z_office_Valid F p_3 _ hy_9) hT ⟨(gi 7).a, trivial⟩ ?_; refine rn 3 [] f0 [(25, B (!v_9))] ?_; refine sb 25 (nt h_10) ?_; refine rn 1 [(0, 5, 4, 0)] f0 [(26, .agg #[I p_1.Office, I p_1.Size, U p_1.Root, I p_1.Sig.C, I p_1.Sig.S])] ?_; refine l1 ?_; refine cl 27 (z_cross_formed F p_1 _ hy_11) hT trivial ?_; refine rn 3 [] f0 [(30, B (!v_11))] ?_; refine sb 30 (nt h_12) ?_; refine rn 1 [(0, 5, 3, 0)] f0 [(31, .agg #[I p_2.Office, I p_2.Size, U p_2.Root, I p_2.Sig.C, I p_2.Sig.S])] ?_; refine l1 ?_; refine cl 32 (z_cross_formed F p_2 _ hy_13) hT trivial ?_; refine rn 3 [] f0 [(35, B (!v_13))] ?_; refine sb 35 (nf h_14) ?_; refine ra [] f0 [(53, B true)] ?_; refine tN ?_; refine fm (RowC p_0.Entries_A p_0.Entries_c KEntry.cells tr p_0.Entries) (gm (KOfficeL.ok p_0) 6 fun _ _ h => h.f_Entries) ?_; refine fm (RowC p_3.Entries_A p_3.Entries_c KEntry.cells tr p_3.Entries) (gm (KOfficeL.ok p_3) 8 fun _ _ h => h.f_Entries) ?_; exact fun a w S hK hE => ⟨true, S, hK.wk, hE.sel [1, 0, 2, 3, 4, 5, 6, 7], Option.some.inj hG⟩
    ·refine rg ?_; refine rn 1 [(0, 2, 5, 0)] f0 [(17, .agg #[I p_0.ID, .slice p_0.Entries_A p_0.Entries.length p_0.Entries_c])] ?_; refine l1 ?_; refine cl 18 (z_office_Valid F p_0 _ hy_7) hT ⟨(gi 6).a, trivial⟩ ?_; refine rn 2 [] f0 [(20, B (!v_7))] ?_; refine sb 20 (nt h_8) ?_; refine rn 1 [(0, 2, 2, 0)] f0 [(21, .agg #[I p_3.ID, .slice p_3.Entries_A p_3.Entries.length p_3.Entries_c])] ?_; refine l1 ?_; refine cl 22 (z_office_Valid F p_3 _ hy_9) hT ⟨(gi 7).a, trivial⟩ ?_; refine rn 3 [] f0 [(25, B (!v_9))] ?_; refine sb 25 (nt h_10) ?_; refine rn 1 [(0, 5, 4, 0)] f0 [(26, .agg #[I p_1.Office, I p_1.Size, U p_1.Root, I p_1.Sig.C, I p_1.Sig.S])] ?_; refine l1 ?_; refine cl 27 (z_cross_formed F p_1 _ hy_11) hT trivial ?_; refine rn 3 [] f0 [(30, B (!v_11))] ?_; refine sb 30 (nf h_12) ?_; refine ra [] f0 [(53, B true)] ?_; refine tN ?_; refine fm (RowC p_0.Entries_A p_0.Entries_c KEntry.cells tr p_0.Entries) (gm (KOfficeL.ok p_0) 6 fun _ _ h => h.f_Entries) ?_; refine fm (RowC p_3.Entries_A p_3.Entries_c KEntry.cells tr p_3.Entries) (gm (KOfficeL.ok p_3) 8 fun _ _ h => h.f_Entries) ?_; exact fun a w S hK hE => ⟨true, S, hK.wk, hE.sel [1, 0, 2, 3, 4, 5, 6, 7], Option.some.inj hG⟩
   ·refine rg ?_; refine rn 1 [(0, 2, 5, 0)] f0 [(17, .agg #[I p_0.ID, .slice p_0.Entries_A p_0.Entries.length p_0.Entries_c])] ?_; refine l1 ?_; refine cl 18 (z_office_Valid F p_0 _ hy_7) hT ⟨(gi 6).a, trivial⟩ ?_; refine rn 2 [] f0 [(20, B (!v_7))] ?_; refine sb 20 (nt h_8) ?_; refine rn 1 [(0, 2, 2, 0)] f0 [(21, .agg #[I p_3.ID, .slice p_3.Entries_A p_3.Entries.length p_3.Entries_c])] ?_; refine l1 ?_; refine cl 22 (z_office_Valid F p_3 _ hy_9) hT ⟨(gi 7).a, trivial⟩ ?_; refine rn 3 [] f0 [(25, B (!v_9))] ?_; refine sb 25 (nf h_10) ?_; refine ra [] f0 [(53, B true)] ?_; refine tN ?_; refine fm (RowC p_0.Entries_A p_0.Entries_c KEntry.cells tr p_0.Entries) (gm (KOfficeL.ok p_0) 6 fun _ _ h => h.f_Entries) ?_; refine fm (RowC p_3.Entries_A p_3.Entries_c KEntry.cells tr p_3.Entries) (gm (KOfficeL.ok p_3) 8 fun _ _ h => h.f_Entries) ?_; exact fun a w S hK hE => ⟨true, S, hK.wk, hE.sel [1, 0, 2, 3, 4, 5, 6, 7], Option.some.inj hG⟩
  ·refine rg ?_; refine rn 1 [(0, 2, 5, 0)] f0 [(17, .agg #[I p_0.ID, .slice p_0.Entries_A p_0.Entries.length p_0.Entries_c])] ?_; refine l1 ?_; refine cl 18 (z_office_Valid F p_0 _ hy_7) hT ⟨(gi 6).a, trivial⟩ ?_; refine rn 2 [] f0 [(20, B (!v_7))] ?_; refine sb 20 (nf h_8) ?_; refine ra [] f0 [(53, B true)] ?_; refine tN ?_; refine fm (RowC p_0.Entries_A p_0.Entries_c KEntry.cells tr p_0.Entries) (gm (KOfficeL.ok p_0) 6 fun _ _ h => h.f_Entries) ?_; refine fm (RowC p_3.Entries_A p_3.Entries_c KEntry.cells tr p_3.Entries) (gm (KOfficeL.ok p_3) 8 fun _ _ h => h.f_Entries) ?_; exact fun a w S hK hE => ⟨true, S, hK.wk, hE.sel [1, 0, 2, 3, 4, 5, 6, 7], Option.some.inj hG⟩
 ·rintro a w ⟨v_19, hJ⟩; refine hJ.go fun ho_ => ?_
  clear hJ; subst ho_; replace hG := hG_18
  try (simp only [un2, un3, un4, un5, un6, un7, un8, Sum.elim_inl, Sum.elim_inr, List.length_map, KProofL.n_Hops] at hG; replace hG : _ = _ := hG)
  rcases ifB_cases hG with ⟨h_20, hG⟩ | ⟨h_20, hG⟩
  ·refine sb 53 (bt h_20) ?_; refine ct ?_; refine sq ?_; refine rg ?_; refine rn 1 [] f0 [(54, .agg #[I 0, I 0, U 0, I 0, I 0, .slice none 0 0, I 0, I 0, U 0, I 0, I 0, I 0, U 0, I 0, I 0, .slice none 0 0])] ?_; refine l1 ?_; refine sr 2 g_6 [(0, I 0), (1, I 0), (2, U 0), (3, I 0), (4, I 0), (5, .slice none 0 0), (6, I 0), (7, I 0), (8, U 0), (9, I 0), (10, I 0), (11, I 0), (12, U 0), (13, I 0), (14, I 0), (15, .slice none 0 0)] ?_; refine ra [] f0 [(11, I 1)] ?_; refine tN ?_; refine kR ?_; refine tR ?_; obtain rfl := Option.some.inj hG; exact rtn [(2, 0, 16)] (⟨(⟨0, 0, 0, (⟨0, 0⟩ : KSig)⟩ : KHead), none, 0, ([] : List Int), (⟨(⟨0, 0, 0, (⟨0, 0⟩ : KSig)⟩ : KHead), 0, (⟨0, (⟨0, 0⟩ : KInterval)⟩ : KEntry), none, 0, ([] : List Int)⟩ : KReceiptL)⟩ : KHopL) rfl ⟨((Fd.two ((gn : Fd _ (RowC none 0 c_u64 tr ([] : List Int)))) ((gn : Fd _ (RowC none 0 c_u64 tr ([] : List Int))))).m fun _ _ h => ⟨h.1, ⟨h.2⟩⟩), trivial⟩
  ·refine sb 53 (bf h_20) ?_; refine cf ?_; refine kS ?_; refine tN ?_; refine sq ?_; obtain ⟨o_26, hG, hG_26⟩ := bind_some hG; refine jn (fun K E a w => ∃ (v_27 : Bool), Js S0 w0 110 ([(70, B v_27)] ++ K) (se E [0, 1, 2, 3, 4, 5, 6, 7]) (v_27 = o_26) a w) ?_ ?_
   ·replace hG := bind_some hG; obtain ⟨v_21, hy_21, hG⟩ := hG; replace hG := ifB_cases hG; rcases hG with ⟨h_22, hG⟩ | ⟨h_22, hG⟩
    ·replace hG := bind_some hG; obtain ⟨v_23, hy_23, hG⟩ := hG; replace hG := ifB_cases hG; rcases hG with ⟨h_24, hG⟩ | ⟨h_24, hG⟩
     ·replace hG := bind_some hG; obtain ⟨v_25, hy_25, hG⟩ := hG; refine rg ?_; refine rn 2 [(0, 2, 7, 0), (0, 5, 6, 0)] f0 [(55, .agg #[I p_0.ID, .slice p_0.Entries_A p_0.Entries.length p_0.Entries_c]), (56, .agg #[I p_1.Office, I p_1.Size, U p_1.Root, I p_1.Sig.C, I p_1.Sig.S])] ?_; refine l1 ?_; refine cl 57 (z_cross_has F p_0 p_1 _ hy_21) hT ⟨(((gd' (RowC p_0.Entries_A p_0.Entries_c KEntry.cells tr p_0.Entries) 0)).m fun _ _ h => ⟨h⟩).a, trivial⟩ ?_; refine rn 2 [] f0 [(59, B (!v_21))] ?_; refine sb 59 (nt h_22) ?_; refine rn 2 [(0, 2, 7, 0), (0, 5, 5, 0)] f0 [(60, .agg #[I p_0.ID, .slice p_0.Entries_A p_0.Entries.length p_0.Entries_c]), (61, .agg #[I p_2.Office, I p_2.Size, U p_2.Root, I p_2.Sig.C, I p_2.Sig.S])] ?_; refine l1 ?_; refine cl 62 (z_cross_has F p_0 p_2 _ hy_23) hT ⟨(((gd' (RowC p_0.Entries_A p_0.Entries_c KEntry.cells tr p_0.Entries) 0)).m fun _ _ h => ⟨h⟩).a, trivial⟩ ?_; refine rn 3 [] f0 [(65, B (!v_23))] ?_; refine sb 65 (nt h_24) ?_; refine rn 2 [(0, 2, 4, 0), (0, 5, 3, 0)] f0 [(66, .agg #[I p_3.ID, .slice p_3.Entries_A p_3.Entries.length p_3.Entries_c]), (67, .agg #[I p_4.Office, I p_4.Size, U p_4.Root, I p_4.Sig.C, I p_4.Sig.S])] ?_; refine l1 ?_; refine cl 68 (z_cross_has F p_3 p_4 _ hy_25) hT ⟨(((gd' (RowC p_3.Entries_A p_3.Entries_c KEntry.cells tr p_3.Entries) 1)).m fun _ _ h => ⟨h⟩).a, trivial⟩ ?_; refine ra [] f0 [(70, B (!v_25))] ?_; refine tN ?_; exact fun a w S hK hE => ⟨!v_25, S, hK.wk, hE.sel [0, 1, 2, 3, 4, 5, 6, 7], Option.some.inj hG⟩
     ·refine rg ?_; refine rn 2 [(0, 2, 7, 0), (0, 5, 6, 0)] f0 [(55, .agg #[I p_0.ID, .slice p_0.Entries_A p_0.Entries.length p_0.Entries_c]), (56, .agg #[I p_1.Office, I p_1.Size, U p_1.Root, I p_1.Sig.C, I p_1.Sig.S])] ?_; refine l1 ?_; refine cl 57 (z_cross_has F p_0 p_1 _ hy_21) hT ⟨(((gd' (RowC p_0.Entries_A p_0.Entries_c KEntry.cells tr p_0.Entries) 0)).m fun _ _ h => ⟨h⟩).a, trivial⟩ ?_; refine rn 2 [] f0 [(59, B (!v_21))] ?_; refine sb 59 (nt h_22) ?_; refine rn 2 [(0, 2, 7, 0), (0, 5, 5, 0)] f0 [(60, .agg #[I p_0.ID, .slice p_0.Entries_A p_0.Entries.length p_0.Entries_c]), (61, .agg #[I p_2.Office, I p_2.Size, U p_2.Root, I p_2.Sig.C, I p_2.Sig.S])] ?_; refine l1 ?_; refine cl 62 (z_cross_has F p_0 p_2 _ hy_23) hT ⟨(((gd' (RowC p_0.Entries_A p_0.Entries_c KEntry.cells tr p_0.Entries) 0)).m fun _ _ h => ⟨h⟩).a, trivial⟩ ?_; refine rn 3 [] f0 [(65, B (!v_23))] ?_; refine sb 65 (nf h_24) ?_; refine ra [] f0 [(70, B true)] ?_; refine tN ?_; exact fun a w S hK hE => ⟨true, S, hK.wk, hE.sel [0, 1, 2, 3, 4, 5, 6, 7], Option.some.inj hG⟩
    ·refine rg ?_; refine rn 2 [(0, 2, 7, 0), (0, 5, 6, 0)] f0 [(55, .agg #[I p_0.ID, .slice p_0.Entries_A p_0.Entries.length p_0.Entries_c]), (56, .agg #[I p_1.Office, I p_1.Size, U p_1.Root, I p_1.Sig.C, I p_1.Sig.S])] ?_; refine l1 ?_; refine cl 57 (z_cross_has F p_0 p_1 _ hy_21) hT ⟨(((gd' (RowC p_0.Entries_A p_0.Entries_c KEntry.cells tr p_0.Entries) 0)).m fun _ _ h => ⟨h⟩).a, trivial⟩ ?_; refine rn 2 [] f0 [(59, B (!v_21))] ?_; refine sb 59 (nf h_22) ?_; refine ra [] f0 [(70, B true)] ?_; refine tN ?_; exact fun a w S hK hE => ⟨true, S, hK.wk, hE.sel [0, 1, 2, 3, 4, 5, 6, 7], Option.some.inj hG⟩
   ·rintro a w ⟨v_27, hJ⟩; refine hJ.go fun ho_ => ?_
    clear hJ; subst ho_; replace hG := hG_26
    try (simp only [un2, un3, un4, un5, un6, un7, un8, Sum.elim_inl, Sum.elim_inr, List.length_map, KProofL.n_Hops] at hG; replace hG : _ = _ := hG)
    rcases ifB_cases hG with ⟨h_28, hG⟩ | ⟨h_28, hG⟩
    ·refine sb 70 (bt h_28) ?_; refine ct ?_; refine sq ?_; refine rg ?_; refine rn 1 [] f0 [(71, .agg #[I 0, I 0, U 0, I 0, I 0, .slice none 0 0, I 0, I 0, U 0, I 0, I 0, I 0, U 0, I 0, I 0, .slice none 0 0])] ?_; refine l1 ?_; refine sr 2 g_6 [(0, I 0), (1, I 0), (2, U 0), (3, I 0), (4, I 0), (5, .slice none 0 0), (6, I 0), (7, I 0), (8, U 0), (9, I 0), (10, I 0), (11, I 0), (12, U 0), (13, I 0), (14, I 0), (15, .slice none 0 0)] ?_; refine ra [] f0 [(11, I 33)] ?_; refine tN ?_; refine kR ?_; refine tR ?_; obtain rfl := Option.some.inj hG; exact rtn [(2, 0, 16)] (⟨(⟨0, 0, 0, (⟨0, 0⟩ : KSig)⟩ : KHead), none, 0, ([] : List Int), (⟨(⟨0, 0, 0, (⟨0, 0⟩ : KSig)⟩ : KHead), 0, (⟨0, (⟨0, 0⟩ : KInterval)⟩ : KEntry), none, 0, ([] : List Int)⟩ : KReceiptL)⟩ : KHopL) rfl ⟨((Fd.two ((gn : Fd _ (RowC none 0 c_u64 tr ([] : List Int)))) ((gn : Fd _ (RowC none 0 c_u64 tr ([] : List Int))))).m fun _ _ h => ⟨h.1, ⟨h.2⟩⟩), trivial⟩
    ·refine sb 70 (bf h_28) ?_; refine cf ?_; refine kS ?_; refine tN ?_; refine sq ?_; replace hG := bind_some hG; obtain ⟨v_29, hy_29, hG⟩ := hG; refine rg ?_; refine rn 1 [(0, 5, 5, 0)] f0 [(72, .agg #[I p_2.Office, I p_2.Size, U p_2.Root, I p_2.Sig.C, I p_2.Sig.S])] ?_; refine l1 ?_; refine cl 73 (z_cross_Digest F p_2 _ hy_29) hT trivial ?_; refine l1 ?_; refine nw 12 vp [U 0] 23 fun g_30 => ?_
     refine l1 ?_; refine sr 0 g_30 [(0, U v_29)] ?_; refine nl ?_; refine tN ?_; refine sq ?_; replace hG := bind_some hG; obtain ⟨v_31, hy_31, hG⟩ := hG; replace hG := bind_some hG; obtain ⟨v_62o, hy_63, hG⟩ := hG; refine rg ?_; refine fp false true inf51 (gd' (RowC p_3.Entries_A p_3.Entries_c KEntry.cells tr p_3.Entries) 2) hy_31 fun v_31_A v_31_c hp_31 => ?_
     refine rn 6 [(1, 1, 6, 1), (1, 1, 5, 1), (0, 0, 0, 0)] (fc (hp_31 .i64 .i64) f0) [(78, .slice v_31_A v_31.length v_31_c), (79, .func (.func 105) #[] #[Pt g_30 0])] ?_; refine l1 ?_; refine ci 80 (args := [.slice v_31_A v_31.length v_31_c, .func (.func 105) #[] #[Pt g_30 0]]) (fun E e w => ∃ (v_62 : Int), Rs S0 w0 (I v_62) (se E [0, 1, 2, 3, 4, 5, 6, 7, 8, 9]) (v_62 = v_62o) e w) Tryz.func104 rfl rfl ?_ ?_
     ·replace hG := hy_63
      try (simp only [un2, un3, un4, un5, un6, un7, un8, Sum.elim_inl, Sum.elim_inr, List.length_map, KProofL.n_Hops] at hG; replace hG : _ = _ := hG)
      refine sq ?_; refine rg ?_; refine ra [] f0 [] ?_; refine tN ?_; obtain ⟨o_92, hG, hG_92⟩ := bind_some hG; refine jn (fun K E a w => Js S0 w0 19 (K) (se E [0, 1, 2, 3, 4, 5, 6, 7, 8, 9]) (.inl () = o_92) a w) ?_ ?_
      ·refine sq ?_; refine rg ?_; refine ra [] f0 [(7, I ((v_31.length : Nat) : Int)), (8, I 0)] ?_; refine tN ?_; refine bk ?_; obtain ⟨e_82, hL, hG_82⟩ := bind_some hG; clear hG; obtain ⟨stp_82, hs_82, hL⟩ := iter_gen hL; refine lp (fun K E n_ a w => ∃ (v_81 : Int), Js S0 w0 19 ([(8, I v_81)] ++ K) (se E [0, 1, 2, 3, 4, 5, 6, 7, 8, 9]) (iter stp_82 n_ v_81 = some e_82) a w) F ?_ ?_
       ·exact fun a w S hK hE => ⟨0, S, hK.wk, hE.sel [0, 1, 2, 3, 4, 5, 6, 7, 8, 9], hL⟩
       ·clear hL; rintro n_82 a w ⟨v_81, hJ⟩; refine hJ.go fun hL => ?_
        clear hJ; obtain ⟨m_82, o_82, rfl, hG, hO1_82, hO2_82⟩ := iter_step hL; clear hL; rw [hs_82] at hG
        try (simp only [un2, un3, un4, un5, un6, un7, un8, Sum.elim_inl, Sum.elim_inr, List.length_map, KProofL.n_Hops] at hG; replace hG : _ = _ := hG)
        refine sq ?_; refine rg ?_; refine ra [] f0 [(9, B (decide (v_81 < ((v_31.length : Nat) : Int))))] ?_; refine tN ?_; refine sq ?_; rcases ifB_cases hG with ⟨h_83, hG⟩ | ⟨h_83, hG⟩
        ·try simp only [List.length_map, KProofL.n_Hops] at h_83
         refine sb 9 (bt h_83) ?_; refine ct ?_; refine kS ?_; refine tN ?_; refine sq ?_; refine bk ?_; refine sq ?_; refine rg ?_; refine ra [] f0 [(5, I v_81)] ?_; refine tN ?_; refine sq ?_; replace hG := bind_some hG; obtain ⟨v_84, hy_84, hG⟩ := hG; replace hG := bind_some hG; obtain ⟨⟨⟩, hy_88, hG⟩ := hG; refine rg ?_; refine fx inf51 (gd' (RowC v_31_A v_31_c KEntry.cells tr v_31) 0) hy_84 fun b_85 o_86 hi_84 => ?_
         refine rn 5 [(3, 0, 0, 0), (0, 3, 0, 0)] (fc (hi_84 .i64) f0) [(11, .func (.func 105) #[] #[Pt g_30 0]), (15, .agg #[U v_84.Doc, I v_84.Stamp.Lo, I v_84.Stamp.Hi])] ?_; refine l1 ?_; refine ci 16 (args := [.agg #[U v_84.Doc, I v_84.Stamp.Lo, I v_84.Stamp.Hi], Pt g_30 0]) (fun E e w => Rs S0 w0 (B (v_84.Doc == v_29)) (se E [0, 1, 2, 3, 4, 5, 6, 7, 8, 9, 10]) (() = ()) e w) Tryz.func105 rfl rfl ?_ ?_
         ·replace hG := hy_88
          try (simp only [un2, un3, un4, un5, un6, un7, un8, Sum.elim_inl, Sum.elim_inr, List.length_map, KProofL.n_Hops] at hG; replace hG : _ = _ := hG)
          refine sq ?_; refine rg ?_; refine l1 ?_; refine nw 2 vp [U v_84.Doc, I v_84.Stamp.Lo, I v_84.Stamp.Hi] 31 fun g_89 => ?_
          refine ra [] f0 [] ?_; refine tN ?_; refine sq ?_; refine rg ?_; refine ra [(1, 1, 0, 0), (0, 1, 3, 0)] f0 [(3, B (v_84.Doc == v_29))] ?_; refine tN ?_; refine kR ?_; refine ri [] (B (v_84.Doc == v_29)) ?_; exact fun a w S hK hE => ⟨rfl, ⟨S, hE.sel [1, 2, 3, 4, 5, 6, 7, 8, 9, 10, 11]⟩, Option.some.inj hG⟩
         ·rintro e w hJ; refine hJ.go fun ho_ => ?_
          clear hJ; refine nl ?_; refine tN ?_; rcases ifB_cases hG with ⟨h_90, hG⟩ | ⟨h_90, hG⟩
          ·refine sb 16 (bt h_90) ?_; refine ct ?_; refine sq ?_; refine rg ?_; refine ra [] f0 [(4, I v_81)] ?_; refine tN ?_; refine kR ?_; refine hR ?_; refine tR ?_; refine tR ?_; have he_ := hO2_82 _ (Option.some.inj hG).symm; subst he_; replace hG := hG_82
           try (simp only [un2, un3, un4, un5, un6, un7, un8, Sum.elim_inl, Sum.elim_inr, List.length_map, KProofL.n_Hops] at hG; replace hG : _ = _ := hG)
           refine hR ?_; refine tR ?_; obtain rfl := Option.some.inj hG; replace hG := hG_92
           try (simp only [un2, un3, un4, un5, un6, un7, un8, Sum.elim_inl, Sum.elim_inr, List.length_map, KProofL.n_Hops] at hG; replace hG : _ = _ := hG)
           refine ri [] (I v_81) ?_; exact fun a w S hK hE => ⟨v_81, rfl, ⟨S, hE.sel [1, 2, 3, 4, 5, 6, 7, 8, 9, 10]⟩, Option.some.inj hG⟩
          ·refine sb 16 (bf h_90) ?_; refine cf ?_; refine kS ?_; refine hN ?_; refine tN ?_; refine rg ?_; refine ra [] f0 [(8, I (IntKind.i64.wrap (v_81 + 1)))] ?_; refine tN ?_; exact fun a w S hK hE => ⟨m_82, ⟨IntKind.i64.wrap (v_81 + 1), S, hK.wk, hE.sel [1, 2, 3, 4, 5, 6, 7, 8, 9, 10], hO1_82 _ (Option.some.inj hG).symm⟩, Nat.lt_succ_self _⟩
        ·try simp only [List.length_map, KProofL.n_Hops] at h_83
         refine sb 9 (bf h_83) ?_; refine cf ?_; refine kX ?_; refine tX ?_; refine tX ?_; have he_ := hO2_82 _ (Option.some.inj hG).symm; subst he_; replace hG := hG_82
         try (simp only [un2, un3, un4, un5, un6, un7, un8, Sum.elim_inl, Sum.elim_inr, List.length_map, KProofL.n_Hops] at hG; replace hG : _ = _ := hG)
         refine hH ?_; refine tN ?_; exact fun a w S hK hE => ⟨S, hK.wk, hE.sel [0, 1, 2, 3, 4, 5, 6, 7, 8, 9], Option.some.inj hG⟩
      ·rintro a w hJ; refine hJ.go fun ho_ => ?_
       clear hJ; subst ho_; replace hG := hG_92
       try (simp only [un2, un3, un4, un5, un6, un7, un8, Sum.elim_inl, Sum.elim_inr, List.length_map, KProofL.n_Hops] at hG; replace hG : _ = _ := hG)
       refine sq ?_; refine rg ?_; refine ra [] f0 [(4, I (-1))] ?_; refine tN ?_; refine kR ?_; refine ri [] (I (-1)) ?_; exact fun a w S hK hE => ⟨(-1), rfl, ⟨S, hE.sel [0, 1, 2, 3, 4, 5, 6, 7, 8, 9]⟩, Option.some.inj hG⟩
     ·rintro e w ⟨v_62, hJ⟩; refine hJ.go fun ho_ => ?_
      clear hJ; subst ho_
      try (simp only [un2, un3, un4, un5, un6, un7, un8, Sum.elim_inl, Sum.elim_inr, List.length_map, KProofL.n_Hops] at hG; replace hG : _ = _ := hG)
      refine ra [] f0 [(13, I v_62)] ?_; refine tN ?_; refine sq ?_; refine sq ?_; refine rg ?_; refine ra [] f0 [(82, B (decide (v_62 < 0)))] ?_; refine tN ?_; rcases ifB_cases hG with ⟨h_94, hG⟩ | ⟨h_94, hG⟩
      ·refine sb 82 (bt h_94) ?_; refine ct ?_; refine sq ?_; refine rg ?_; refine rn 1 [] f0 [(83, .agg #[I 0, I 0, U 0, I 0, I 0, .slice none 0 0, I 0, I 0, U 0, I 0, I 0, I 0, U 0, I 0, I 0, .slice none 0 0])] ?_; refine l1 ?_; refine sr 4 g_6 [(0, I 0), (1, I 0), (2, U 0), (3, I 0), (4, I 0), (5, .slice none 0 0), (6, I 0), (7, I 0), (8, U 0), (9, I 0), (10, I 0), (11, I 0), (12, U 0), (13, I 0), (14, I 0), (15, .slice none 0 0)] ?_; refine ra [] f0 [(11, I 4)] ?_; refine tN ?_; refine kR ?_; refine tR ?_; obtain rfl := Option.some.inj hG; exact rtn [(4, 0, 16)] (⟨(⟨0, 0, 0, (⟨0, 0⟩ : KSig)⟩ : KHead), none, 0, ([] : List Int), (⟨(⟨0, 0, 0, (⟨0, 0⟩ : KSig)⟩ : KHead), 0, (⟨0, (⟨0, 0⟩ : KInterval)⟩ : KEntry), none, 0, ([] : List Int)⟩ : KReceiptL)⟩ : KHopL) rfl ⟨((Fd.two ((gn : Fd _ (RowC none 0 c_u64 tr ([] : List Int)))) ((gn : Fd _ (RowC none 0 c_u64 tr ([] : List Int))))).m fun _ _ h => ⟨h.1, ⟨h.2⟩⟩), trivial⟩
      ·refine sb 82 (bf h_94) ?_; refine cf ?_; refine kS ?_; refine tN ?_; refine sq ?_; replace hG := bind_some hG; obtain ⟨v_95o, hy_95, hG⟩ := hG; replace hG := bind_some hG; obtain ⟨⟨v_96o, v_97⟩, hy_96, hG⟩ := hG; refine hb [0, 1, 2, 3, 4, 5, 6, 7, 8, 9] ?_; refine ht [0, 1, 2, 3, 4, 5, 6, 7, 8, 9] [0, 1, 2, 4, 5] [(0, 2, 9, 0), (1, 1, 7, 1), (1, 1, 8, 1)] f0 [(85, .agg #[I p_0.ID, .slice p_0.Entries_A p_0.Entries.length p_0.Entries_c]), (87, I p_2.Size), (90, I p_1.Size)] ?_; refine ho [3] ⟨?_, trivial⟩; refine h1 ?_; refine cn 88 (z_cross_values F p_0 p_2.Size _ hy_95) hT (fun _ => (mr tr_mv m0)) ⟨(((gd' (RowC p_0.Entries_A p_0.Entries_c KEntry.cells tr p_0.Entries) 2)).m fun _ _ h => ⟨h⟩), trivial⟩ ?_; rintro ⟨v_95_A, v_95_c, v_95⟩ hq_95; obtain rfl : v_95 = v_95o := hq_95.symm
       try (simp only [un2, un3, un4, un5, un6, un7, un8, Sum.elim_inl, Sum.elim_inr, List.length_map, KProofL.n_Hops] at hG; replace hG : _ = _ := hG)
       refine hk [1, 2, 3, 4, 5, 6, 7, 8, 9, 10] ?_; refine ho [6] ⟨?_, trivial⟩; refine h1 ?_; refine cn 91 (z_tree_Extend F v_95_A v_95_c v_95 p_1.Size _ hy_96) hT (fun _ => (mr tr_mv m0)) ⟨gi 0, trivial⟩ ?_; rintro ⟨v_96_A, v_96_c, v_96⟩ hq_96; obtain rfl : v_96 = v_96o := hq_96.symm
       try (simp only [un2, un3, un4, un5, un6, un7, un8, Sum.elim_inl, Sum.elim_inr, List.length_map, KProofL.n_Hops] at hG; replace hG : _ = _ := hG)
       refine hk [2, 3, 4, 5, 6, 7, 8, 9, 10, 11] ?_; refine ht [2, 3, 4, 5, 6, 7, 8, 9, 10, 11] [7, 8, 9, 10, 11] [] f0 [(14, .slice v_96_A v_96.length v_96_c), (15, I v_97)] ?_; refine he ?_; refine tN ?_; refine sq ?_; refine sq ?_; refine rg ?_; refine ra [] f0 [(95, B (!(v_97 == 0)))] ?_; refine tN ?_; rcases ifB_cases hG with ⟨h_98, hG⟩ | ⟨h_98, hG⟩
       ·refine sb 95 (nt h_98) ?_; refine cf ?_; refine kS ?_; refine tN ?_; refine sq ?_; replace hG := bind_some hG; obtain ⟨⟨v_99o, v_100⟩, hy_99, hG⟩ := hG; refine rg ?_; refine rn 3 [(0, 2, 8, 0), (0, 5, 7, 0)] f0 [(99, .agg #[I p_3.ID, .slice p_3.Entries_A p_3.Entries.length p_3.Entries_c]), (100, .agg #[I p_4.Office, I p_4.Size, U p_4.Root, I p_4.Sig.C, I p_4.Sig.S]), (101, I v_62)] ?_; refine l1 ?_; refine cn 102 (z_office_Prove F p_3 p_4 v_62 _ hy_99) hT (fun _ => (mc KReceiptL.mv m0)) ⟨(((gd' (RowC p_3.Entries_A p_3.Entries_c KEntry.cells tr p_3.Entries) 5)).m fun _ _ h => ⟨h⟩), trivial⟩ ?_; rintro v_99 hq_99; obtain rfl : v_99.p = v_99o := hq_99.symm
        try (simp only [un2, un3, un4, un5, un6, un7, un8, Sum.elim_inl, Sum.elim_inr, List.length_map, KProofL.n_Hops] at hG; replace hG : _ = _ := hG)
        refine rn 3 [] f0 [(103, .agg #[I v_99.Head.Office, I v_99.Head.Size, U v_99.Head.Root, I v_99.Head.Sig.C, I v_99.Head.Sig.S, I v_99.Index, U v_99.Entry.Doc, I v_99.Entry.Stamp.Lo, I v_99.Entry.Stamp.Hi, .slice v_99.Path_A v_99.Path.length v_99.Path_c]), (104, I v_100)] ?_; refine l1 ?_; refine nw 16 vp [I 0, I 0, U 0, I 0, I 0, I 0, U 0, I 0, I 0, .slice none 0 0] 34 fun g_101 => ?_
        refine l1 ?_; refine sr 0 g_101 [(0, I v_99.Head.Office), (1, I v_99.Head.Size), (2, U v_99.Head.Root), (3, I v_99.Head.Sig.C), (4, I v_99.Head.Sig.S), (5, I v_99.Index), (6, U v_99.Entry.Doc), (7, I v_99.Entry.Stamp.Lo), (8, I v_99.Entry.Stamp.Hi), (9, .slice v_99.Path_A v_99.Path.length v_99.Path_c)] ?_; refine ra [] f0 [(15, I v_100)] ?_; refine tN ?_; refine sq ?_; refine rg ?_; refine rn 5 [(0, 5, 11, 0), (1, 10, 0, 0)] f0 [(108, .agg #[I p_2.Office, I p_2.Size, U p_2.Root, I p_2.Sig.C, I p_2.Sig.S, .slice v_96_A v_96.length v_96_c, I v_99.Head.Office, I v_99.Head.Size, U v_99.Head.Root, I v_99.Head.Sig.C, I v_99.Head.Sig.S, I v_99.Index, U v_99.Entry.Doc, I v_99.Entry.Stamp.Lo, I v_99.Entry.Stamp.Hi, .slice v_99.Path_A v_99.Path.length v_99.Path_c]), (109, I v_100)] ?_; refine l1 ?_; refine sr 8 g_6 [(0, I p_2.Office), (1, I p_2.Size), (2, U p_2.Root), (3, I p_2.Sig.C), (4, I p_2.Sig.S), (5, .slice v_96_A v_96.length v_96_c), (6, I v_99.Head.Office), (7, I v_99.Head.Size), (8, U v_99.Head.Root), (9, I v_99.Head.Sig.C), (10, I v_99.Head.Sig.S), (11, I v_99.Index), (12, U v_99.Entry.Doc), (13, I v_99.Entry.Stamp.Lo), (14, I v_99.Entry.Stamp.Hi), (15, .slice v_99.Path_A v_99.Path.length v_99.Path_c)] ?_; refine ra [] f0 [(11, I v_100)] ?_; refine tN ?_; refine kR ?_; obtain rfl := Option.some.inj hG; exact rtn [(8, 0, 16)] (⟨p_2, v_96_A, v_96_c, v_96, v_99⟩ : KHopL) rfl ⟨((Fd.two ((gd' (RowC v_96_A v_96_c c_u64 tr v_96) 2)) ((gm (KReceiptL.ok v_99) 1 fun _ _ h => h))).m fun _ _ h => ⟨h.1, h.2⟩), trivial⟩
       ·refine sb 95 (nf h_98) ?_; refine ct ?_; refine sq ?_; refine rg ?_; refine rn 2 [] f0 [(96, .agg #[I 0, I 0, U 0, I 0, I 0, .slice none 0 0, I 0, I 0, U 0, I 0, I 0, I 0, U 0, I 0, I 0, .slice none 0 0]), (97, I v_97)] ?_; refine l1 ?_; refine sr 6 g_6 [(0, I 0), (1, I 0), (2, U 0), (3, I 0), (4, I 0), (5, .slice none 0 0), (6, I 0), (7, I 0), (8, U 0), (9, I 0), (10, I 0), (11, I 0), (12, U 0), (13, I 0), (14, I 0), (15, .slice none 0 0)] ?_; refine ra [] f0 [(11, I v_97)] ?_; refine tN ?_; refine kR ?_; refine tR ?_; obtain rfl := Option.some.inj hG; exact rtn [(6, 0, 16)] (⟨(⟨0, 0, 0, (⟨0, 0⟩ : KSig)⟩ : KHead), none, 0, ([] : List Int), (⟨(⟨0, 0, 0, (⟨0, 0⟩ : KSig)⟩ : KHead), 0, (⟨0, (⟨0, 0⟩ : KInterval)⟩ : KEntry), none, 0, ([] : List Int)⟩ : KReceiptL)⟩ : KHopL) rfl ⟨((Fd.two ((gn : Fd _ (RowC none 0 c_u64 tr ([] : List Int)))) ((gn : Fd _ (RowC none 0 c_u64 tr ([] : List Int))))).m fun _ _ h => ⟨h.1, ⟨h.2⟩⟩), trivial⟩
end Go.Proofs.YtggaodokkcoagaaGreatDoor
namespace Go.Proofs.YtggaodokkcoagaaGreatDoor
open Go.RowKit Go.Maps
end Go.Proofs.YtggaodokkcoagaaGreatDoor
namespace Go.Proofs.YtggaodokkcoagaaGreatDoor
open Go.RowKit Go.Maps
def G_cross_Check (F : Nat) (p_0 : List Int) (p_1 : KHead) (p_2 : KHop) : Option (Bool × Int) :=
  Option.bind (G_office_Check F 4 p_2.By) (un2 fun v_4 v_5 =>
  Option.bind (ifB ((v_5 == 0))
      (Option.bind (G_cross_keyring_right F p_0) (fun v_7 =>
      ifB (v_7)
        (Option.bind (G_cross_formed F p_1) (fun v_9 =>
        ifB (v_9)
          (Option.bind (G_cross_formed F p_2.Of) (fun v_11 =>
          ifB (v_11)
            (some (decide (((p_2.Grow.length : Nat) : Int) > 20)))
            (some true)))
          (some true)))
        (some true)))
      (some true) : Option (Bool)) (fun (v_14 : Bool) => 
    ifB (v_14)
      (some (false, 1))
      (Option.bind (Option.bind (Option.bind (Option.bind (G_cross_keyring_signed F p_0 p_1) (fun v_18 =>
            ifB (v_18)
              (Option.bind (G_cross_keyring_signed F p_0 p_2.Of) (fun v_20 =>
              ifB (v_20)
                (Option.bind (G_cross_keyring_signed F p_0 p_2.By.Head) (fun v_22 =>
                some v_22))
                (some false)))
              (some false)) : Option (Bool)) (fun (v_24 : Bool) => 
            some v_24) : Option (Bool)) (fun (v_25 : Bool) => 
          ifB (v_25)
            (Option.bind (Option.bind (ifB ((p_2.Of.Office == p_1.Office))
                  (some (!(p_2.By.Head.Office == p_1.Office)))
                  (some false) : Option (Bool)) (fun (v_38 : Bool) => 
                some v_38) : Option (Bool)) (fun (v_39 : Bool) => 
              ifB (v_39)
                (Option.bind (Option.bind (G_tree_Extended F p_1.Root p_2.Of.Root p_1.Size p_2.Of.Size p_2.Grow) (fun v_46 =>
                  some v_46) : Option (Bool)) (fun (v_47 : Bool) => 
                  ifB (v_47)
                    (Option.bind (Option.bind (G_cross_Digest F p_2.Of) (fun v_52 =>
                      some (p_2.By.Entry.Doc == v_52)) : Option (Bool)) (fun (v_53 : Bool) => 
                      ifB (v_53)
                        (Option.bind (Option.bind (ixI p_0 (IntKind.i64.wrap (p_2.By.Head.Office - 1))) (fun v_58 =>
                          Option.bind (G_office_Check F v_58 p_2.By) (un2 fun v_61 v_62 =>
                          some v_61)) : Option (Bool)) (fun (v_63 : Bool) => 
                          ifB (v_63)
                            (some true)
                            (some false)))
                        (some false)))
                    (some false)))
                (some false)))
            (some false)) : Option (Bool)) (fun (v_71 : Bool) => 
        some (v_71, 0)))))
set_option maxRecDepth 100000 in
set_option maxHeartbeats 16000000 in
theorem z_cross_Check (F : Nat) (p_0_A : Option Addr) (p_0_c : Nat) (p_0 : List Int) (p_1 : KHead) (p_2 : KHopL) (r : Bool × Int) (hG : G_cross_Check F p_0 p_1 p_2.p = some r) :
  Cf Tryz.prog 36 [.slice p_0_A p_0.length p_0_c, .agg #[I p_1.Office, I p_1.Size, U p_1.Root, I p_1.Sig.C, I p_1.Sig.S], .agg #[I p_2.Of.Office, I p_2.Of.Size, U p_2.Of.Root, I p_2.Of.Sig.C, I p_2.Of.Sig.S, .slice p_2.Grow_A p_2.Grow.length p_2.Grow_c, I p_2.By.Head.Office, I p_2.By.Head.Size, U p_2.By.Head.Root, I p_2.By.Head.Sig.C, I p_2.By.Head.Sig.S, I p_2.By.Index, U p_2.By.Entry.Doc, I p_2.By.Entry.Stamp.Lo, I p_2.By.Entry.Stamp.Hi, .slice p_2.By.Path_A p_2.By.Path.length p_2.By.Path_c]] [RowC p_0_A p_0_c c_i64 tr p_0, KHopL.ok p_2] (.tuple #[B r.1, I r.2]) := by
 unfold G_cross_Check at hG
 try (simp only [un2, un3, un4, un5, un6, un7, un8, Sum.elim_inl, Sum.elim_inr, List.length_map, KProofL.n_Hops] at hG; replace hG : _ = _ := hG)
 refine fi Tryz.func36 rfl rfl (mr tr_mv (mc KHopL.mv m0)) fun S0 w0 hT => ?_
 refine sq ?_; refine rg ?_; refine l1 ?_; refine nw 4 vp [I p_1.Office, I p_1.Size, U p_1.Root, I p_1.Sig.C, I p_1.Sig.S] 27 fun g_1 => ?_
 refine l1 ?_; refine nw 5 vp [I p_2.Of.Office, I p_2.Of.Size, U p_2.Of.Root, I p_2.Of.Sig.C, I p_2.Of.Sig.S, .slice p_2.Grow_A p_2.Grow.length p_2.Grow_c, I p_2.By.Head.Office, I p_2.By.Head.Size, U p_2.By.Head.Root, I p_2.By.Head.Sig.C, I p_2.By.Head.Sig.S, I p_2.By.Index, U p_2.By.Entry.Doc, I p_2.By.Entry.Stamp.Lo, I p_2.By.Entry.Stamp.Hi, .slice p_2.By.Path_A p_2.By.Path.length p_2.By.Path_c] 79 fun g_2 => ?_
 refine ra [] f0 [] ?_; refine tN ?_; refine sq ?_; refine rg ?_; refine rn 1 [] f0 [(11, .slice p_0_A p_0.length p_0_c)] ?_; refine l1 ?_; refine nw 8 vp [.slice none 0 0] 139 fun g_3 => ?_
 refine l1 ?_; refine sr 0 g_3 [(0, .slice p_0_A p_0.length p_0_c)] ?_; refine nl ?_; refine tN ?_; refine sq ?_; refine sq ?_; replace hG := bind_some hG; obtain ⟨⟨v_4, v_5⟩, hy_4, hG⟩ := hG; refine rg ?_; refine rn 2 [(1, 10, 1, 6)] f0 [(14, .agg #[I p_2.By.Head.Office, I p_2.By.Head.Size, U p_2.By.Head.Root, I p_2.By.Head.Sig.C, I p_2.By.Head.Sig.S, I p_2.By.Index, U p_2.By.Entry.Doc, I p_2.By.Entry.Stamp.Lo, I p_2.By.Entry.Stamp.Hi, .slice p_2.By.Path_A p_2.By.Path.length p_2.By.Path_c])] ?_; refine l1 ?_; refine cl 15 (z_office_Check F 4 p_2.By _ hy_4) hT ⟨(gm (KHopL.ok p_2) 4 fun _ _ h => h.b_By).a, trivial⟩ ?_; refine ra [] f0 [(10, I v_5)] ?_; refine tN ?_; obtain ⟨o_13, hG, hG_13⟩ := bind_some hG; refine jn (fun K E a w => ∃ (v_14 : Bool), Js S0 w0 54 ([(41, B v_14)] ++ K) ([.dat (RowC p_2.Grow_A p_2.Grow_c c_u64 tr p_2.Grow), .dat (RowC p_2.By.Path_A p_2.By.Path_c c_u64 tr p_2.By.Path)] ++ se E [0, 1, 2, 3]) (v_14 = o_13) a w) ?_ ?_
 ·replace hG := ifB_cases hG; rcases hG with ⟨h_6, hG⟩ | ⟨h_6, hG⟩
  ·replace hG := bind_some hG; obtain ⟨v_7, hy_7, hG⟩ := hG; replace hG := ifB_cases hG; rcases hG with ⟨h_8, hG⟩ | ⟨h_8, hG⟩
   ·replace hG := bind_some hG; obtain ⟨v_9, hy_9, hG⟩ := hG; replace hG := ifB_cases hG; rcases hG with ⟨h_10, hG⟩ | ⟨h_10, hG⟩
    ·replace hG := bind_some hG; obtain ⟨v_11, hy_11, hG⟩ := hG; replace hG := ifB_cases hG; rcases hG with ⟨h_12, hG⟩ | ⟨h_12, hG⟩
     ·refine rg ?_; refine rn 3 [] f0 [(20, B (!(v_5 == 0)))] ?_; refine sb 20 (nt h_6) ?_; refine rn 1 [(0, 1, 0, 0)] f0 [(21, .slice p_0_A p_0.length p_0_c)] ?_; refine l1 ?_; refine cl 22 (z_cross_keyring_right F p_0_A p_0_c p_0 _ hy_7) hT ⟨ga 3, trivial⟩ ?_; refine rn 3 [] f0 [(25, B (!v_7))] ?_; refine sb 25 (nt h_8) ?_; refine rn 1 [(0, 5, 2, 0)] f0 [(26, .agg #[I p_1.Office, I p_1.Size, U p_1.Root, I p_1.Sig.C, I p_1.Sig.S])] ?_; refine l1 ?_; refine cl 27 (z_cross_formed F p_1 _ hy_9) hT trivial ?_; refine rn 3 [] f0 [(30, B (!v_9))] ?_; refine sb 30 (nt h_10) ?_; refine rn 2 [(1, 5, 1, 0)] f0 [(32, .agg #[I p_2.Of.Office, I p_2.Of.Size, U p_2.Of.Root, I p_2.Of.Sig.C, I p_2.Of.Sig.S])] ?_; refine l1 ?_; refine cl 33 (z_cross_formed F p_2.Of _ hy_11) hT trivial ?_; refine rn 3 [] f0 [(36, B (!v_11))] ?_; refine sb 36 (nt h_12) ?_; refine ra [(1, 1, 1, 5)] f0 [(41, B (decide (((p_2.Grow.length : Nat) : Int) > 20)))] ?_; refine tN ?_; refine fm (RowC p_2.Grow_A p_2.Grow_c c_u64 tr p_2.Grow) (gm (KHopL.ok p_2) 4 fun _ _ h => h.f_Grow) ?_; refine fm (RowC p_2.By.Path_A p_2.By.Path_c c_u64 tr p_2.By.Path) (gm (KHopL.ok p_2) 5 fun _ _ h => h.b_By.f_Path) ?_; exact fun a w S hK hE => ⟨decide (((p_2.Grow.length : Nat) : Int) > 20), S, hK.wk, hE.sel [1, 0, 2, 3, 4, 5], Option.some.inj hG⟩
     ·refine rg ?_; refine rn 3 [] f0 [(20, B (!(v_5 == 0)))] ?_; refine sb 20 (nt h_6) ?_; refine rn 1 [(0, 1, 0, 0)] f0 [(21, .slice p_0_A p_0.length p_0_c)] ?_; refine l1 ?_; refine cl 22 (z_cross_keyring_right F p_0_A p_0_c p_0 _ hy_7) hT ⟨ga 3, trivial⟩ ?_; refine rn 3 [] f0 [(25, B (!v_7))] ?_; refine sb 25 (nt h_8) ?_; refine rn 1 [(0, 5, 2, 0)] f0 [(26, .agg #[I p_1.Office, I p_1.Size, U p_1.Root, I p_1.Sig.C, I p_1.Sig.S])] ?_; refine l1 ?_; refine cl 27 (z_cross_formed F p_1 _ hy_9) hT trivial ?_; refine rn 3 [] f0 [(30, B (!v_9))] ?_; refine sb 30 (nt h_10) ?_; refine rn 2 [(1, 5, 1, 0)] f0 [(32, .agg #[I p_2.Of.Office, I p_2.Of.Size, U p_2.Of.Root, I p_2.Of.Sig.C, I p_2.Of.Sig.S])] ?_; refine l1 ?_; refine cl 33 (z_cross_formed F p_2.Of _ hy_11) hT trivial ?_; refine rn 3 [] f0 [(36, B (!v_11))] ?_; refine sb 36 (nf h_12) ?_; refine ra [] f0 [(41, B true)] ?_; refine tN ?_; refine fm (RowC p_2.Grow_A p_2.Grow_c c_u64 tr p_2.Grow) (gm (KHopL.ok p_2) 4 fun _ _ h => h.f_Grow) ?_; refine fm (RowC p_2.By.Path_A p_2.By.Path_c c_u64 tr p_2.By.Path) (gm (KHopL.ok p_2) 5 fun _ _ h => h.b_By.f_Path) ?_; exact fun a w S hK hE => ⟨true, S, hK.wk, hE.sel [1, 0, 2, 3, 4, 5], Option.some.inj hG⟩
    ·refine rg ?_; refine rn 3 [] f0 [(20, B (!(v_5 == 0)))] ?_; refine sb 20 (nt h_6) ?_; refine rn 1 [(0, 1, 0, 0)] f0 [(21, .slice p_0_A p_0.length p_0_c)] ?_; refine l1 ?_; refine cl 22 (z_cross_keyring_right F p_0_A p_0_c p_0 _ hy_7) hT ⟨ga 3, trivial⟩ ?_; refine rn 3 [] f0 [(25, B (!v_7))] ?_; refine sb 25 (nt h_8) ?_; refine rn 1 [(0, 5, 2, 0)] f0 [(26, .agg #[I p_1.Office, I p_1.Size, U p_1.Root, I p_1.Sig.C, I p_1.Sig.S])] ?_; refine l1 ?_; refine cl 27 (z_cross_formed F p_1 _ hy_9) hT trivial ?_; refine rn 3 [] f0 [(30, B (!v_9))] ?_; refine sb 30 (nf h_10) ?_; refine ra [] f0 [(41, B true)] ?_; refine tN ?_; refine fm (RowC p_2.Grow_A p_2.Grow_c c_u64 tr p_2.Grow) (gm (KHopL.ok p_2) 4 fun _ _ h => h.f_Grow) ?_; refine fm (RowC p_2.By.Path_A p_2.By.Path_c c_u64 tr p_2.By.Path) (gm (KHopL.ok p_2) 5 fun _ _ h => h.b_By.f_Path) ?_; exact fun a w S hK hE => ⟨true, S, hK.wk, hE.sel [1, 0, 2, 3, 4, 5], Option.some.inj hG⟩
   ·refine rg ?_; refine rn 3 [] f0 [(20, B (!(v_5 == 0)))] ?_; refine sb 20 (nt h_6) ?_; refine rn 1 [(0, 1, 0, 0)] f0 [(21, .slice p_0_A p_0.length p_0_c)] ?_; refine l1 ?_; refine cl 22 (z_cross_keyring_right F p_0_A p_0_c p_0 _ hy_7) hT ⟨ga 3, trivial⟩ ?_; refine rn 3 [] f0 [(25, B (!v_7))] ?_; refine sb 25 (nf h_8) ?_; refine ra [] f0 [(41, B true)] ?_; refine tN ?_; refine fm (RowC p_2.Grow_A p_2.Grow_c c_u64 tr p_2.Grow) (gm (KHopL.ok p_2) 4 fun _ _ h => h.f_Grow) ?_; refine fm (RowC p_2.By.Path_A p_2.By.Path_c c_u64 tr p_2.By.Path) (gm (KHopL.ok p_2) 5 fun _ _ h => h.b_By.f_Path) ?_; exact fun a w S hK hE => ⟨true, S, hK.wk, hE.sel [1, 0, 2, 3, 4, 5], Option.some.inj hG⟩
  ·refine rg ?_; refine rn 3 [] f0 [(20, B (!(v_5 == 0)))] ?_; refine sb 20 (nf h_6) ?_; refine ra [] f0 [(41, B true)] ?_; refine tN ?_; refine fm (RowC p_2.Grow_A p_2.Grow_c c_u64 tr p_2.Grow) (gm (KHopL.ok p_2) 4 fun _ _ h => h.f_Grow) ?_; refine fm (RowC p_2.By.Path_A p_2.By.Path_c c_u64 tr p_2.By.Path) (gm (KHopL.ok p_2) 5 fun _ _ h => h.b_By.f_Path) ?_; exact fun a w S hK hE => ⟨true, S, hK.wk, hE.sel [1, 0, 2, 3, 4, 5], Option.some.inj hG⟩
 ·rintro a w ⟨v_14, hJ⟩; refine hJ.go fun ho_ => ?_
  clear hJ; subst ho_; replace hG := hG_13
  try (simp only [un2, un3, un4, un5, un6, un7, un8, Sum.elim_inl, Sum.elim_inr, List.length_map, KProofL.n_Hops] at hG; replace hG : _ = _ := hG)
  rcases ifB_cases hG with ⟨h_15, hG⟩ | ⟨h_15, hG⟩
  ·refine sb 41 (bt h_15) ?_; refine ct ?_; refine sq ?_; refine rg ?_; refine ra [] f0 [(6, B false), (7, I 1)] ?_; refine tN ?_; refine kR ?_; refine tR ?_; obtain rfl := Option.some.inj hG; exact rt []
  ·refine sb 41 (bf h_15) ?_; refine cf ?_; refine kS ?_; refine tN ?_; refine sq ?_; replace hG := bind_some hG; obtain ⟨v_71o, hy_72, hG⟩ := hG; refine rg ?_; refine rn 10 [] f0 [(43, .agg #[.func (.func 82) #[] #[Pt g_3 0, Pt g_1 0, Pt g_2 0]]), (45, .agg #[.func (.func 84) #[] #[Pt g_2 0, Pt g_1 0]]), (47, .agg #[.func (.func 85) #[] #[Pt g_1 0, Pt g_2 0]]), (49, .agg #[.func (.func 86) #[] #[Pt g_2 0]]), (51, .agg #[.func (.func 87) #[] #[Pt g_3 0, Pt g_2 0]])] ?_; refine l1 ?_; refine nw 52 (vs 5) [.func (.func 82) #[] #[Pt g_3 0, Pt g_1 0, Pt g_2 0], .func (.func 84) #[] #[Pt g_2 0, Pt g_1 0], .func (.func 85) #[] #[Pt g_1 0, Pt g_2 0], .func (.func 86) #[] #[Pt g_2 0], .func (.func 87) #[] #[Pt g_3 0, Pt g_2 0]] 142 fun g_16 => ?_
   refine l1 ?_; refine ci 53 (args := [Sb g_16 5 5]) (fun E e w => ∃ (v_71 : Bool), Rs S0 w0 (B v_71) (se E [0, 1, 2, 3, 4, 5, 6]) (v_71 = v_71o) e w) Tryz.func81 rfl rfl ?_ ?_
   ·replace hG := hy_72
    try (simp only [un2, un3, un4, un5, un6, un7, un8, Sum.elim_inl, Sum.elim_inr, List.length_map, KProofL.n_Hops] at hG; replace hG : _ = _ := hG)
    refine sq ?_; refine rg ?_; refine ra [] f0 [] ?_; refine tN ?_; refine sq ?_; refine sq ?_; refine rg ?_; refine ra [] f0 [(5, Sb g_16 5 5), (6, I 5), (7, I 0)] ?_; refine tN ?_; refine bk ?_; refine ul ?_; refine ur ?_; refine sq ?_; refine rg ?_; refine ra [] f0 [(8, B true)] ?_; refine tN ?_; refine sq ?_; refine ct ?_; refine kS ?_; refine tN ?_; refine sq ?_; refine bk ?_; refine sq ?_; refine rg ?_; refine rn 2 [(1, 1, 0, 0)] f0 [(10, .agg #[.func (.func 82) #[] #[Pt g_3 0, Pt g_1 0, Pt g_2 0]])] ?_; refine l1 ?_; refine nw 4 vp [.nilFunc] 142 fun g_73 => ?_
    refine l1 ?_; refine sr 0 g_73 [(0, .func (.func 82) #[] #[Pt g_3 0, Pt g_1 0, Pt g_2 0])] ?_; refine nl ?_; refine tN ?_; refine sq ?_; replace hG := bind_some hG; obtain ⟨v_81o, hy_82, hG⟩ := hG; refine rg ?_; refine rn 2 [(1, 1, 0, 0)] f0 [(12, .func (.func 82) #[] #[Pt g_3 0, Pt g_1 0, Pt g_2 0])] ?_; refine l1 ?_; refine ci 13 (args := [Pt g_3 0, Pt g_1 0, Pt g_2 0]) (fun E e w => ∃ (v_81 : Bool), Rs S0 w0 (B v_81) (se E [0, 1, 2, 3, 4, 5, 6, 7]) (v_81 = v_81o) e w) Tryz.func82 rfl rfl ?_ ?_
    ·replace hG := hy_82
     try (simp only [un2, un3, un4, un5, un6, un7, un8, Sum.elim_inl, Sum.elim_inr, List.length_map, KProofL.n_Hops] at hG; replace hG : _ = _ := hG)
     refine sq ?_; refine rg ?_; refine ra [] f0 [] ?_; refine tN ?_; obtain ⟨o_88, hG, hG_88⟩ := bind_some hG; refine jn (fun K E a w => ∃ (v_89 : Bool), Js S0 w0 20 ([(3, B v_89)] ++ K) (se E [0, 1, 2, 3, 4, 5, 6, 7]) (v_89 = o_88) a w) ?_ ?_
     ·replace hG := bind_some hG; obtain ⟨v_83, hy_83, hG⟩ := hG; replace hG := ifB_cases hG; rcases hG with ⟨h_84, hG⟩ | ⟨h_84, hG⟩
      ·replace hG := bind_some hG; obtain ⟨v_85, hy_85, hG⟩ := hG; replace hG := ifB_cases hG; rcases hG with ⟨h_86, hG⟩ | ⟨h_86, hG⟩
       ·replace hG := bind_some hG; obtain ⟨v_87, hy_87, hG⟩ := hG; refine rg ?_; refine rn 2 [(0, 1, 4, 0), (0, 5, 6, 0)] f0 [(4, .slice p_0_A p_0.length p_0_c), (5, .agg #[I p_1.Office, I p_1.Size, U p_1.Root, I p_1.Sig.C, I p_1.Sig.S])] ?_; refine l1 ?_; refine cl 6 (z_cross_keyring_signed F p_0_A p_0_c p_0 p_1 _ hy_83) hT ⟨ga 7, trivial⟩ ?_; refine rn 1 [] f0 [(7, B v_83)] ?_; refine sb 7 (bt h_84) ?_; refine rn 3 [(0, 1, 4, 0), (1, 5, 5, 0)] f0 [(8, .slice p_0_A p_0.length p_0_c), (10, .agg #[I p_2.Of.Office, I p_2.Of.Size, U p_2.Of.Root, I p_2.Of.Sig.C, I p_2.Of.Sig.S])] ?_; refine l1 ?_; refine cl 11 (z_cross_keyring_signed F p_0_A p_0_c p_0 p_2.Of _ hy_85) hT ⟨ga 7, trivial⟩ ?_; refine rn 2 [] f0 [(13, B v_85)] ?_; refine sb 13 (bt h_86) ?_; refine rn 4 [(0, 1, 4, 0), (2, 5, 5, 6)] f0 [(14, .slice p_0_A p_0.length p_0_c), (17, .agg #[I p_2.By.Head.Office, I p_2.By.Head.Size, U p_2.By.Head.Root, I p_2.By.Head.Sig.C, I p_2.By.Head.Sig.S])] ?_; refine l1 ?_; refine cl 18 (z_cross_keyring_signed F p_0_A p_0_c p_0 p_2.By.Head _ hy_87) hT ⟨ga 7, trivial⟩ ?_; refine ra [] f0 [(3, B v_87)] ?_; refine tN ?_; exact fun a w S hK hE => ⟨v_87, S, hK.wk, hE.sel [0, 1, 2, 3, 4, 5, 6, 7], Option.some.inj hG⟩
       ·refine rg ?_; refine rn 2 [(0, 1, 4, 0), (0, 5, 6, 0)] f0 [(4, .slice p_0_A p_0.length p_0_c), (5, .agg #[I p_1.Office, I p_1.Size, U p_1.Root, I p_1.Sig.C, I p_1.Sig.S])] ?_; refine l1 ?_; refine cl 6 (z_cross_keyring_signed F p_0_A p_0_c p_0 p_1 _ hy_83) hT ⟨ga 7, trivial⟩ ?_; refine rn 1 [] f0 [(7, B v_83)] ?_; refine sb 7 (bt h_84) ?_; refine rn 3 [(0, 1, 4, 0), (1, 5, 5, 0)] f0 [(8, .slice p_0_A p_0.length p_0_c), (10, .agg #[I p_2.Of.Office, I p_2.Of.Size, U p_2.Of.Root, I p_2.Of.Sig.C, I p_2.Of.Sig.S])] ?_; refine l1 ?_; refine cl 11 (z_cross_keyring_signed F p_0_A p_0_c p_0 p_2.Of _ hy_85) hT ⟨ga 7, trivial⟩ ?_; refine rn 2 [] f0 [(13, B v_85)] ?_; refine sb 13 (bf h_86) ?_; refine ra [] f0 [(3, B false)] ?_; refine tN ?_; exact fun a w S hK hE => ⟨false, S, hK.wk, hE.sel [0, 1, 2, 3, 4, 5, 6, 7], Option.some.inj hG⟩
      ·refine rg ?_; refine rn 2 [(0, 1, 4, 0), (0, 5, 6, 0)] f0 [(4, .slice p_0_A p_0.length p_0_c), (5, .agg #[I p_1.Office, I p_1.Size, U p_1.Root, I p_1.Sig.C, I p_1.Sig.S])] ?_; refine l1 ?_; refine cl 6 (z_cross_keyring_signed F p_0_A p_0_c p_0 p_1 _ hy_83) hT ⟨ga 7, trivial⟩ ?_; refine rn 1 [] f0 [(7, B v_83)] ?_; refine sb 7 (bf h_84) ?_; refine ra [] f0 [(3, B false)] ?_; refine tN ?_; exact fun a w S hK hE => ⟨false, S, hK.wk, hE.sel [0, 1, 2, 3, 4, 5, 6, 7], Option.some.inj hG⟩
     ·rintro a w ⟨v_89, hJ⟩; refine hJ.go fun ho_ => ?_
      clear hJ; subst ho_; replace hG := hG_88
      try (simp only [un2, un3, un4, un5, un6, un7, un8, Sum.elim_inl, Sum.elim_inr, List.length_map, KProofL.n_Hops] at hG; replace hG : _ = _ := hG)
      refine kR ?_; refine ri [] (B v_89) ?_; exact fun a w S hK hE => ⟨v_89, rfl, ⟨S, hE.sel [0, 1, 2, 3, 4, 5, 6, 7]⟩, Option.some.inj hG⟩
    ·rintro e w ⟨v_81, hJ⟩; refine hJ.go fun ho_ => ?_
     clear hJ; subst ho_
     try (simp only [un2, un3, un4, un5, un6, un7, un8, Sum.elim_inl, Sum.elim_inr, List.length_map, KProofL.n_Hops] at hG; replace hG : _ = _ := hG)
     refine ra [] f0 [(14, B (!v_81))] ?_; refine tN ?_; rcases ifB_cases hG with ⟨h_90, hG⟩ | ⟨h_90, hG⟩
     ·refine sb 14 (nt h_90) ?_; refine cf ?_; refine kS ?_; refine hN ?_; refine tN ?_; refine rg ?_; refine ra [] f0 [(7, I 1)] ?_; refine tN ?_; refine ur ?_; refine sq ?_; refine rg ?_; refine ra [] f0 [(8, B true)] ?_; refine tN ?_; refine sq ?_; refine ct ?_; refine kS ?_; refine tN ?_; refine sq ?_; refine bk ?_; refine sq ?_; refine rg ?_; refine rn 2 [(1, 1, 1, 1)] f0 [(10, .agg #[.func (.func 84) #[] #[Pt g_2 0, Pt g_1 0]])] ?_; refine l1 ?_; refine nw 4 vp [.nilFunc] 142 fun g_91 => ?_
      refine l1 ?_; refine sr 0 g_91 [(0, .func (.func 84) #[] #[Pt g_2 0, Pt g_1 0])] ?_; refine nl ?_; refine tN ?_; refine sq ?_; replace hG := bind_some hG; obtain ⟨v_95o, hy_96, hG⟩ := hG; refine rg ?_; refine rn 2 [(1, 1, 0, 0)] f0 [(12, .func (.func 84) #[] #[Pt g_2 0, Pt g_1 0])] ?_; refine l1 ?_; refine ci 13 (args := [Pt g_2 0, Pt g_1 0]) (fun E e w => ∃ (v_95 : Bool), Rs S0 w0 (B v_95) (se E [0, 2, 3, 4, 5, 6, 7, 8]) (v_95 = v_95o) e w) Tryz.func84 rfl rfl ?_ ?_
      ·replace hG := hy_96
       try (simp only [un2, un3, un4, un5, un6, un7, un8, Sum.elim_inl, Sum.elim_inr, List.length_map, KProofL.n_Hops] at hG; replace hG : _ = _ := hG)
       refine sq ?_; refine rg ?_; refine ra [] f0 [] ?_; refine tN ?_; obtain ⟨o_98, hG, hG_98⟩ := bind_some hG; refine jn (fun K E a w => ∃ (v_99 : Bool), Js S0 w0 18 ([(2, B v_99)] ++ K) (se E [0, 2, 3, 4, 5, 6, 7, 8]) (v_99 = o_98) a w) ?_ ?_
       ·replace hG := ifB_cases hG; rcases hG with ⟨h_97, hG⟩ | ⟨h_97, hG⟩
        ·refine rg ?_; refine rn 7 [(2, 1, 6, 0), (1, 1, 7, 0)] f0 [(9, B (p_2.Of.Office == p_1.Office))] ?_; refine sb 9 (bt h_97) ?_; refine ra [(3, 1, 6, 6), (1, 1, 7, 0)] f0 [(2, B (!(p_2.By.Head.Office == p_1.Office)))] ?_; refine tN ?_; exact fun a w S hK hE => ⟨!(p_2.By.Head.Office == p_1.Office), S, hK.wk, hE.sel [0, 2, 3, 4, 5, 6, 7, 8], Option.some.inj hG⟩
        ·refine rg ?_; refine rn 7 [(2, 1, 6, 0), (1, 1, 7, 0)] f0 [(9, B (p_2.Of.Office == p_1.Office))] ?_; refine sb 9 (bf h_97) ?_; refine ra [] f0 [(2, B false)] ?_; refine tN ?_; exact fun a w S hK hE => ⟨false, S, hK.wk, hE.sel [0, 2, 3, 4, 5, 6, 7, 8], Option.some.inj hG⟩
       ·rintro a w ⟨v_99, hJ⟩; refine hJ.go fun ho_ => ?_
        clear hJ; subst ho_; replace hG := hG_98
        try (simp only [un2, un3, un4, un5, un6, un7, un8, Sum.elim_inl, Sum.elim_inr, List.length_map, KProofL.n_Hops] at hG; replace hG : _ = _ := hG)
        refine kR ?_; refine ri [] (B v_99) ?_; exact fun a w S hK hE => ⟨v_99, rfl, ⟨S, hE.sel [0, 1, 2, 3, 4, 5, 6, 7]⟩, Option.some.inj hG⟩
      ·rintro e w ⟨v_95, hJ⟩; refine hJ.go fun ho_ => ?_
       clear hJ; subst ho_
       try (simp only [un2, un3, un4, un5, un6, un7, un8, Sum.elim_inl, Sum.elim_inr, List.length_map, KProofL.n_Hops] at hG; replace hG : _ = _ := hG)
       refine ra [] f0 [(14, B (!v_95))] ?_; refine tN ?_; rcases ifB_cases hG with ⟨h_100, hG⟩ | ⟨h_100, hG⟩
       ·refine sb 14 (nt h_100) ?_; refine cf ?_; refine kS ?_; refine hN ?_; refine tN ?_; refine rg ?_; refine ra [] f0 [(7, I 2)] ?_; refine tN ?_; refine ur ?_; refine sq ?_; refine rg ?_; refine ra [] f0 [(8, B true)] ?_; refine tN ?_; refine sq ?_; refine ct ?_; refine kS ?_; refine tN ?_; refine sq ?_; refine bk ?_; refine sq ?_; refine rg ?_; refine rn 2 [(1, 1, 1, 2)] f0 [(10, .agg #[.func (.func 85) #[] #[Pt g_1 0, Pt g_2 0]])] ?_; refine l1 ?_; refine nw 4 vp [.nilFunc] 142 fun g_101 => ?_
        refine l1 ?_; refine sr 0 g_101 [(0, .func (.func 85) #[] #[Pt g_1 0, Pt g_2 0])] ?_; refine nl ?_; refine tN ?_; refine sq ?_; replace hG := bind_some hG; obtain ⟨v_103o, hy_104, hG⟩ := hG; refine rg ?_; refine rn 2 [(1, 1, 0, 0)] f0 [(12, .func (.func 85) #[] #[Pt g_1 0, Pt g_2 0])] ?_; refine l1 ?_; refine ci 13 (args := [Pt g_1 0, Pt g_2 0]) (fun E e w => ∃ (v_103 : Bool), Rs S0 w0 (B v_103) (se E [0, 2, 3, 4, 5, 6, 7, 8]) (v_103 = v_103o) e w) Tryz.func85 rfl rfl ?_ ?_
        ·replace hG := hy_104
         try (simp only [un2, un3, un4, un5, un6, un7, un8, Sum.elim_inl, Sum.elim_inr, List.length_map, KProofL.n_Hops] at hG; replace hG : _ = _ := hG)
         refine sq ?_; refine rg ?_; refine ra [] f0 [] ?_; refine tN ?_; refine sq ?_; replace hG := bind_some hG; obtain ⟨v_105, hy_105, hG⟩ := hG; refine rg ?_; refine rn 12 [(1, 1, 7, 2), (2, 1, 6, 2), (1, 1, 7, 1), (2, 1, 6, 1), (1, 1, 6, 5)] f0 [(4, U p_1.Root), (7, U p_2.Of.Root), (9, I p_1.Size), (12, I p_2.Of.Size), (14, .slice p_2.Grow_A p_2.Grow.length p_2.Grow_c)] ?_; refine l1 ?_; refine cl 15 (z_tree_Extended F p_1.Root p_2.Of.Root p_1.Size p_2.Of.Size p_2.Grow_A p_2.Grow_c p_2.Grow _ hy_105) hT ⟨ga 3, trivial⟩ ?_; refine ra [] f0 [(2, B v_105)] ?_; refine tN ?_; refine kR ?_; refine ri [] (B v_105) ?_; exact fun a w S hK hE => ⟨v_105, rfl, ⟨S, hE.sel [0, 2, 3, 4, 5, 6, 7, 8]⟩, Option.some.inj hG⟩
        ·rintro e w ⟨v_103, hJ⟩; refine hJ.go fun ho_ => ?_
         clear hJ; subst ho_
         try (simp only [un2, un3, un4, un5, un6, un7, un8, Sum.elim_inl, Sum.elim_inr, List.length_map, KProofL.n_Hops] at hG; replace hG : _ = _ := hG)
         refine ra [] f0 [(14, B (!v_103))] ?_; refine tN ?_; rcases ifB_cases hG with ⟨h_106, hG⟩ | ⟨h_106, hG⟩
         ·refine sb 14 (nt h_106) ?_; refine cf ?_; refine kS ?_; refine hN ?_; refine tN ?_; refine rg ?_; refine ra [] f0 [(7, I 3)] ?_; refine tN ?_; refine ur ?_; refine sq ?_; refine rg ?_; refine ra [] f0 [(8, B true)] ?_; refine tN ?_; refine sq ?_; refine ct ?_; refine kS ?_; refine tN ?_; refine sq ?_; refine bk ?_; refine sq ?_; refine rg ?_; refine rn 2 [(1, 1, 1, 3)] f0 [(10, .agg #[.func (.func 86) #[] #[Pt g_2 0]])] ?_; refine l1 ?_; refine nw 4 vp [.nilFunc] 142 fun g_107 => ?_
          refine l1 ?_; refine sr 0 g_107 [(0, .func (.func 86) #[] #[Pt g_2 0])] ?_; refine nl ?_; refine tN ?_; refine sq ?_; replace hG := bind_some hG; obtain ⟨v_109o, hy_110, hG⟩ := hG; refine rg ?_; refine rn 2 [(1, 1, 0, 0)] f0 [(12, .func (.func 86) #[] #[Pt g_2 0])] ?_; refine l1 ?_; refine ci 13 (args := [Pt g_2 0]) (fun E e w => ∃ (v_109 : Bool), Rs S0 w0 (B v_109) (se E [0, 2, 3, 4, 5, 6, 7, 8]) (v_109 = v_109o) e w) Tryz.func86 rfl rfl ?_ ?_
          ·replace hG := hy_110
           try (simp only [un2, un3, un4, un5, un6, un7, un8, Sum.elim_inl, Sum.elim_inr, List.length_map, KProofL.n_Hops] at hG; replace hG : _ = _ := hG)
           refine sq ?_; refine rg ?_; refine ra [] f0 [] ?_; refine tN ?_; refine sq ?_; replace hG := bind_some hG; obtain ⟨v_111, hy_111, hG⟩ := hG; refine qb ?_; refine qn 6 [(3, 1, 6, 12), (1, 5, 6, 0)] f0 [(5, U p_2.By.Entry.Doc), (7, .agg #[I p_2.Of.Office, I p_2.Of.Size, U p_2.Of.Root, I p_2.Of.Sig.C, I p_2.Of.Sig.S])] ?_; refine qc 8 (z_cross_Digest F p_2.Of _ hy_111) hT trivial ?_; refine qa [] f0 [(1, B (p_2.By.Entry.Doc == v_111))] ?_; refine tN ?_; refine kR ?_; refine ri [] (B (p_2.By.Entry.Doc == v_111)) ?_; exact fun a w S hK hE => ⟨(p_2.By.Entry.Doc == v_111), rfl, ⟨S, hE.sel [0, 2, 3, 4, 5, 6, 7, 8]⟩, Option.some.inj hG⟩
          ·rintro e w ⟨v_109, hJ⟩; refine hJ.go fun ho_ => ?_
           clear hJ; subst ho_
           try (simp only [un2, un3, un4, un5, un6, un7, un8, Sum.elim_inl, Sum.elim_inr, List.length_map, KProofL.n_Hops] at hG; replace hG : _ = _ := hG)
           refine ra [] f0 [(14, B (!v_109))] ?_; refine tN ?_; rcases ifB_cases hG with ⟨h_112, hG⟩ | ⟨h_112, hG⟩
           ·refine sb 14 (nt h_112) ?_; refine cf ?_; refine kS ?_; refine hN ?_; refine tN ?_; refine rg ?_; refine ra [] f0 [(7, I 4)] ?_; refine tN ?_; refine ur ?_; refine sq ?_; refine rg ?_; refine ra [] f0 [(8, B true)] ?_; refine tN ?_; refine sq ?_; refine ct ?_; refine kS ?_; refine tN ?_; refine sq ?_; refine bk ?_; refine sq ?_; refine rg ?_; refine rn 2 [(1, 1, 1, 4)] f0 [(10, .agg #[.func (.func 87) #[] #[Pt g_3 0, Pt g_2 0]])] ?_; refine l1 ?_; refine nw 4 vp [.nilFunc] 142 fun g_113 => ?_
            refine l1 ?_; refine sr 0 g_113 [(0, .func (.func 87) #[] #[Pt g_3 0, Pt g_2 0])] ?_; refine nl ?_; refine tN ?_; refine sq ?_; replace hG := bind_some hG; obtain ⟨v_119o, hy_120, hG⟩ := hG; refine rg ?_; refine rn 2 [(1, 1, 0, 0)] f0 [(12, .func (.func 87) #[] #[Pt g_3 0, Pt g_2 0])] ?_; refine l1 ?_; refine ci 13 (args := [Pt g_3 0, Pt g_2 0]) (fun E e w => ∃ (v_119 : Bool), Rs S0 w0 (B v_119) (se E [0, 2, 3, 4, 5, 6, 7, 8]) (v_119 = v_119o) e w) Tryz.func87 rfl rfl ?_ ?_
            ·replace hG := hy_120
             try (simp only [un2, un3, un4, un5, un6, un7, un8, Sum.elim_inl, Sum.elim_inr, List.length_map, KProofL.n_Hops] at hG; replace hG : _ = _ := hG)
             refine sq ?_; refine rg ?_; refine ra [] f0 [] ?_; refine tN ?_; refine sq ?_; replace hG := bind_some hG; obtain ⟨v_121, hy_121, hG⟩ := hG; replace hG := bind_some hG; obtain ⟨⟨v_124, v_125⟩, hy_124, hG⟩ := hG; refine qb ?_; refine fx inf139 (gd' (RowC p_0_A p_0_c c_i64 tr p_0) 8) hy_121 fun b_122 o_123 hi_121 => ?_
             refine qn 10 [(0, 1, 6, 0), (3, 1, 7, 6), (1, 0, 0, 0), (0, 1, 0, 0), (1, 10, 7, 6)] (fc (hi_121 .i64) f0) [(13, I v_121), (15, .agg #[I p_2.By.Head.Office, I p_2.By.Head.Size, U p_2.By.Head.Root, I p_2.By.Head.Sig.C, I p_2.By.Head.Sig.S, I p_2.By.Index, U p_2.By.Entry.Doc, I p_2.By.Entry.Stamp.Lo, I p_2.By.Entry.Stamp.Hi, .slice p_2.By.Path_A p_2.By.Path.length p_2.By.Path_c])] ?_; refine qc 16 (z_office_Check F v_121 p_2.By _ hy_124) hT ⟨(((gd' (RowC p_2.By.Path_A p_2.By.Path_c c_u64 tr p_2.By.Path) 5)).m fun _ _ h => ⟨h⟩).a, trivial⟩ ?_; refine qa [] f0 [(3, B v_124)] ?_; refine tN ?_; refine sq ?_; refine rg ?_; refine ra [] f0 [(2, B v_124)] ?_; refine tN ?_; refine kR ?_; refine ri [] (B v_124) ?_; exact fun a w S hK hE => ⟨v_124, rfl, ⟨S, hE.sel [1, 3, 4, 5, 6, 7, 8, 9]⟩, Option.some.inj hG⟩
            ·rintro e w ⟨v_119, hJ⟩; refine hJ.go fun ho_ => ?_
             clear hJ; subst ho_
             try (simp only [un2, un3, un4, un5, un6, un7, un8, Sum.elim_inl, Sum.elim_inr, List.length_map, KProofL.n_Hops] at hG; replace hG : _ = _ := hG)
             refine ra [] f0 [(14, B (!v_119))] ?_; refine tN ?_; rcases ifB_cases hG with ⟨h_126, hG⟩ | ⟨h_126, hG⟩
             ·refine sb 14 (nt h_126) ?_; refine cf ?_; refine kS ?_; refine hN ?_; refine tN ?_; refine rg ?_; refine ra [] f0 [(7, I 5)] ?_; refine tN ?_; refine ur ?_; refine sq ?_; refine rg ?_; refine ra [] f0 [(8, B false)] ?_; refine tN ?_; refine sq ?_; refine cf ?_; refine kX ?_; refine tX ?_; refine tX ?_; refine hH ?_; refine tN ?_; refine sq ?_; refine rg ?_; refine ra [] f0 [(2, B true)] ?_; refine tN ?_; refine kR ?_; refine ri [] (B true) ?_; exact fun a w S hK hE => ⟨true, rfl, ⟨S, hE.sel [1, 2, 3, 4, 5, 6, 7]⟩, Option.some.inj hG⟩
             ·refine sb 14 (nf h_126) ?_; refine ct ?_; refine sq ?_; refine rg ?_; refine ra [] f0 [(2, B false)] ?_; refine tN ?_; refine kR ?_; refine hR ?_; refine tR ?_; refine tR ?_; refine hR ?_; refine tR ?_; refine ri [] (B false) ?_; exact fun a w S hK hE => ⟨false, rfl, ⟨S, hE.sel [1, 2, 3, 4, 5, 6, 7]⟩, Option.some.inj hG⟩
           ·refine sb 14 (nf h_112) ?_; refine ct ?_; refine sq ?_; refine rg ?_; refine ra [] f0 [(2, B false)] ?_; refine tN ?_; refine kR ?_; refine hR ?_; refine tR ?_; refine tR ?_; refine hR ?_; refine tR ?_; refine ri [] (B false) ?_; exact fun a w S hK hE => ⟨false, rfl, ⟨S, hE.sel [1, 2, 3, 4, 5, 6, 7]⟩, Option.some.inj hG⟩
         ·refine sb 14 (nf h_106) ?_; refine ct ?_; refine sq ?_; refine rg ?_; refine ra [] f0 [(2, B false)] ?_; refine tN ?_; refine kR ?_; refine hR ?_; refine tR ?_; refine tR ?_; refine hR ?_; refine tR ?_; refine ri [] (B false) ?_; exact fun a w S hK hE => ⟨false, rfl, ⟨S, hE.sel [1, 2, 3, 4, 5, 6, 7]⟩, Option.some.inj hG⟩
       ·refine sb 14 (nf h_100) ?_; refine ct ?_; refine sq ?_; refine rg ?_; refine ra [] f0 [(2, B false)] ?_; refine tN ?_; refine kR ?_; refine hR ?_; refine tR ?_; refine tR ?_; refine hR ?_; refine tR ?_; refine ri [] (B false) ?_; exact fun a w S hK hE => ⟨false, rfl, ⟨S, hE.sel [1, 2, 3, 4, 5, 6, 7]⟩, Option.some.inj hG⟩
     ·refine sb 14 (nf h_90) ?_; refine ct ?_; refine sq ?_; refine rg ?_; refine ra [] f0 [(2, B false)] ?_; refine tN ?_; refine kR ?_; refine hR ?_; refine tR ?_; refine tR ?_; refine hR ?_; refine tR ?_; refine ri [] (B false) ?_; exact fun a w S hK hE => ⟨false, rfl, ⟨S, hE.sel [1, 2, 3, 4, 5, 6, 7]⟩, Option.some.inj hG⟩
   ·rintro e w ⟨v_71, hJ⟩; refine hJ.go fun ho_ => ?_
    clear hJ; subst ho_
    try (simp only [un2, un3, un4, un5, un6, un7, un8, Sum.elim_inl, Sum.elim_inr, List.length_map, KProofL.n_Hops] at hG; replace hG : _ = _ := hG)
    refine ra [] f0 [(6, B v_71), (7, I 0)] ?_; refine tN ?_; refine kR ?_; obtain rfl := Option.some.inj hG; exact rt []
end Go.Proofs.YtggaodokkcoagaaGreatDoor
