/-
  Texts joined: Z3, Z4, Z5, Z6, Z7, Z8, Z9, Z10, Za, Ma, OpA.
-/
import Derived.Test.YtiijddjfiojfaaaDoorProg
import Derived.Test.YtiijddjfiojfaaaDoorRows
import Derived.ProofKit
import Derived.OpenShut
import Derived.Carry
import Derived.ChangeSame
import Derived.Deep.Slices
import Derived.Lib.SmallJoins
import Derived.Test.YtiijddjfiojfaaaDoorK30
import Derived.Test.YtiijddjfiojfaaaDoorK31
import Derived.Test.YtiijddjfiojfaaaDoorK32
namespace Go.Proofs.YtiijddjfiojfaaaDoor
open Go.RowKit Go.Maps
def G_office_Right (F : Nat) (p_0 : Int) (p_1 : KHead) : Option (Bool × Int) :=
 Option.bind (Option.bind (G_office_isPublic F p_0) (fun v_2 =>
  ifB (v_2)
   (Option.bind (G_office_formed F p_1) (fun v_4 =>
   some (!v_4)))
   (some true)) : Option (Bool)) (fun (v_6 : Bool) =>
  ifB (v_6)
   (some (false, 1))
   (Option.bind (G_office_message F p_1) (fun v_8 =>
   Option.bind (G_group_Verify F p_0 p_1.Sig v_8) (un2 fun v_9 v_10 =>
   some (v_9, v_10)))))
set_option maxRecDepth 100000 in
set_option maxHeartbeats 16000000 in
theorem z_office_Right (F : Nat) (p_0 : Int) (p_1 : KHead) (r : Bool × Int) (hG : G_office_Right F p_0 p_1 = some r) :
  Cf Tryd.prog 44 [I p_0, .agg #[I p_1.Office, I p_1.Size, U p_1.Root, I p_1.Sig.C, I p_1.Sig.S]] [] (.tuple #[B r.1, I r.2]) := by
 unfold G_office_Right at hG; refine fi Tryd.func44 rfl rfl m0 fun S0 w0 hT => ?_
 refine sq ?_; refine rg ?_; refine l1 ?_; refine nw 3 vp [I p_1.Office, I p_1.Size, U p_1.Root, I p_1.Sig.C, I p_1.Sig.S] 29 fun g_1 => ?_
 refine ra [] f0 [] ?_; refine tN ?_; refine sq ?_; obtain ⟨o_5, hG, hG_5⟩ := bind_some hG; refine jn (fun K E a w => ∃ (v_6 : Bool), Js S0 w0 22 ([(13, B v_6)] ++ K) (se E [0]) (v_6 = o_5) a w) ?_ ?_
 ·replace hG := bind_some hG; obtain ⟨v_2, hy_2, hG⟩ := hG; replace hG := ifB_cases hG; rcases hG with ⟨h_3, hG⟩ | ⟨h_3, hG⟩
  ·replace hG := bind_some hG; obtain ⟨v_4, hy_4, hG⟩ := hG; refine rg ?_; refine rn 1 [] f0 [(6, I p_0)] ?_; refine l1 ?_; refine cl 7 (z_office_isPublic F p_0 _ hy_2) hT trivial ?_; refine rn 2 [] f0 [(9, B (!v_2))] ?_; refine sb 9 (nt h_3) ?_; refine rn 1 [(0, 5, 0, 0)] f0 [(10, .agg #[I p_1.Office, I p_1.Size, U p_1.Root, I p_1.Sig.C, I p_1.Sig.S])] ?_; refine l1 ?_; refine cl 11 (z_office_formed F p_1 _ hy_4) hT trivial ?_; refine ra [] f0 [(13, B (!v_4))] ?_; refine tN ?_; exact fun a w S hK hE => ⟨!v_4, S, hK.wk, hE.sel [0], Option.some.inj hG⟩
  ·refine rg ?_; refine rn 1 [] f0 [(6, I p_0)] ?_; refine l1 ?_; refine cl 7 (z_office_isPublic F p_0 _ hy_2) hT trivial ?_; refine rn 2 [] f0 [(9, B (!v_2))] ?_; refine sb 9 (nf h_3) ?_; refine ra [] f0 [(13, B true)] ?_; refine tN ?_; exact fun a w S hK hE => ⟨true, S, hK.wk, hE.sel [0], Option.some.inj hG⟩
 ·rintro a w ⟨v_6, hJ⟩; refine hJ.go fun ho_ => ?_
  clear hJ; subst ho_; replace hG := hG_5; rcases ifB_cases hG with ⟨h_7, hG⟩ | ⟨h_7, hG⟩
  ·refine sb 13 (bt h_7) ?_; refine ct ?_; refine sq ?_; refine rg ?_; refine ra [] f0 [(4, B false), (5, I 1)] ?_; refine tN ?_; refine kR ?_; refine tR ?_; obtain rfl := Option.some.inj hG; exact rt []
  ·refine sb 13 (bf h_7) ?_; refine cf ?_; refine kS ?_; refine tN ?_; refine sq ?_; replace hG := bind_some hG; obtain ⟨v_8o, hy_8, hG⟩ := hG; replace hG := bind_some hG; obtain ⟨⟨v_9, v_10⟩, hy_9, hG⟩ := hG; refine hb [0] ?_; refine ht [0] [0, 1, 2, 3] [(2, 2, 0, 3), (0, 5, 0, 0)] f0 [(14, I p_0), (16, .agg #[I p_1.Sig.C, I p_1.Sig.S]), (17, .agg #[I p_1.Office, I p_1.Size, U p_1.Root, I p_1.Sig.C, I p_1.Sig.S])] ?_; refine ho [4] ⟨?_, trivial⟩; refine h1 ?_; refine cn 18 (z_office_message F p_1 _ hy_8) hT (fun _ => (mr tr_mv m0)) trivial ?_; rintro ⟨v_8_A, v_8_c, v_8⟩ hq_8; obtain rfl : v_8 = v_8o := hq_8.symm; refine hk [1] ?_; refine ho [5] ⟨?_, trivial⟩; refine h1 ?_; refine cl 19 (z_group_Verify F p_0 p_1.Sig v_8_A v_8_c v_8 _ hy_9) hT ⟨ga 0, trivial⟩ ?_; refine hk [1] ?_; refine ht [1] [6, 7, 8, 9] [] f0 [(4, B v_9), (5, I v_10)] ?_; refine he ?_; refine tN ?_; refine kR ?_; obtain rfl := Option.some.inj hG; exact rt []
def G_cross_has (F : Nat) (p_0 : KOffice) (p_1 : KHead) : Option (Bool) :=
  Option.bind (ifB ((p_1.Office == p_0.ID))
      (some (decide (p_1.Size > ((p_0.Entries.length : Nat) : Int))))
      (some true) : Option (Bool)) (fun (v_5 : Bool) => 
    ifB (v_5)
      (some false)
      (Option.bind (G_cross_values F p_0 p_1.Size) (fun v_7 =>
      Option.bind (G_tree_Root F v_7) (un2 fun v_8 v_9 =>
      Option.bind (ifB ((v_9 == 0))
          (some (v_8 == p_1.Root))
          (some false) : Option (Bool)) (fun (v_12 : Bool) => 
        some v_12)))))
set_option maxRecDepth 100000 in
set_option maxHeartbeats 16000000 in
theorem z_cross_has (F : Nat) (p_0 : KOfficeL) (p_1 : KHead) (r : Bool) (hG : G_cross_has F p_0.p p_1 = some r) :
  Cf Tryd.prog 28 [.agg #[I p_0.ID, .slice p_0.Entries_A p_0.Entries.length p_0.Entries_c], .agg #[I p_1.Office, I p_1.Size, U p_1.Root, I p_1.Sig.C, I p_1.Sig.S]] [KOfficeL.ok p_0] (B r) := by
 unfold G_cross_has at hG; refine fi Tryd.func28 rfl rfl (mc KOfficeL.mv m0) fun S0 w0 hT => ?_
 refine sq ?_; refine rg ?_; refine l1 ?_; refine nw 2 vp [I p_0.ID, .slice p_0.Entries_A p_0.Entries.length p_0.Entries_c] 24 fun g_1 => ?_
 refine l1 ?_; refine nw 3 vp [I p_1.Office, I p_1.Size, U p_1.Root, I p_1.Sig.C, I p_1.Sig.S] 29 fun g_2 => ?_
 refine ra [] f0 [] ?_; refine tN ?_; refine sq ?_; obtain ⟨o_4, hG, hG_4⟩ := bind_some hG; refine jn (fun K E a w => ∃ (v_5 : Bool), Js S0 w0 36 ([(19, B v_5)] ++ K) ([.dat (RowC p_0.Entries_A p_0.Entries_c KEntry.cells tr p_0.Entries)] ++ se E [0, 1]) (v_5 = o_4) a w) ?_ ?_
 ·replace hG := ifB_cases hG; rcases hG with ⟨h_3, hG⟩ | ⟨h_3, hG⟩
  ·refine rg ?_; refine rn 6 [(1, 1, 0, 0), (1, 1, 1, 0)] f0 [(12, B (!(p_1.Office == p_0.ID)))] ?_; refine sb 12 (nt h_3) ?_; refine ra [(1, 1, 0, 1), (1, 1, 1, 1)] f0 [(19, B (decide (p_1.Size > ((p_0.Entries.length : Nat) : Int))))] ?_; refine tN ?_; refine fm (RowC p_0.Entries_A p_0.Entries_c KEntry.cells tr p_0.Entries) (gm (KOfficeL.ok p_0) 2 fun _ _ h => h.f_Entries) ?_; exact fun a w S hK hE => ⟨decide (p_1.Size > ((p_0.Entries.length : Nat) : Int)), S, hK.wk, hE.sel [0, 1, 2], Option.some.inj hG⟩
  ·refine rg ?_; refine rn 6 [(1, 1, 0, 0), (1, 1, 1, 0)] f0 [(12, B (!(p_1.Office == p_0.ID)))] ?_; refine sb 12 (nf h_3) ?_; refine ra [] f0 [(19, B true)] ?_; refine tN ?_; refine fm (RowC p_0.Entries_A p_0.Entries_c KEntry.cells tr p_0.Entries) (gm (KOfficeL.ok p_0) 2 fun _ _ h => h.f_Entries) ?_; exact fun a w S hK hE => ⟨true, S, hK.wk, hE.sel [0, 1, 2], Option.some.inj hG⟩
 ·rintro a w ⟨v_5, hJ⟩; refine hJ.go fun ho_ => ?_
  clear hJ; subst ho_; replace hG := hG_4; rcases ifB_cases hG with ⟨h_6, hG⟩ | ⟨h_6, hG⟩
  ·refine sb 19 (bt h_6) ?_; refine ct ?_; refine sq ?_; refine rg ?_; refine ra [] f0 [(4, B false)] ?_; refine tN ?_; refine kR ?_; refine tR ?_; obtain rfl := Option.some.inj hG; exact rt []
  ·refine sb 19 (bf h_6) ?_; refine cf ?_; refine kS ?_; refine tN ?_; refine sq ?_; replace hG := bind_some hG; obtain ⟨v_7o, hy_7, hG⟩ := hG; replace hG := bind_some hG; obtain ⟨⟨v_8, v_9⟩, hy_8, hG⟩ := hG; refine rg ?_; refine rn 3 [(0, 2, 2, 0), (1, 1, 1, 1)] f0 [(21, .agg #[I p_0.ID, .slice p_0.Entries_A p_0.Entries.length p_0.Entries_c]), (23, I p_1.Size)] ?_; refine l1 ?_; refine cn 24 (z_cross_values F p_0 p_1.Size _ hy_7) hT (fun _ => (mr tr_mv m0)) ⟨(((gd' (RowC p_0.Entries_A p_0.Entries_c KEntry.cells tr p_0.Entries) 0)).m fun _ _ h => ⟨h⟩), trivial⟩ ?_; rintro ⟨v_7_A, v_7_c, v_7⟩ hq_7; obtain rfl : v_7 = v_7o := hq_7.symm; refine l1 ?_; refine cl 25 (z_tree_Root F v_7_A v_7_c v_7 _ hy_8) hT ⟨ga 0, trivial⟩ ?_; refine ra [] f0 [(5, U v_8), (6, I v_9)] ?_; refine tN ?_; obtain ⟨o_11, hG, hG_11⟩ := bind_some hG; refine jn (fun K E a w => ∃ (v_12 : Bool), Js S0 w0 36 ([(4, B v_12)] ++ K) (se E []) (v_12 = o_11) a w) ?_ ?_
   ·replace hG := ifB_cases hG; rcases hG with ⟨h_10, hG⟩ | ⟨h_10, hG⟩
    ·refine rg ?_; refine rn 3 [] f0 [(30, B (v_9 == 0))] ?_; refine sb 30 (bt h_10) ?_; refine ra [(2, 1, 2, 2)] f0 [(4, B (v_8 == p_1.Root))] ?_; refine tN ?_; exact fun a w S hK hE => ⟨(v_8 == p_1.Root), S, hK.wk, hE.sel [], Option.some.inj hG⟩
    ·refine rg ?_; refine rn 3 [] f0 [(30, B (v_9 == 0))] ?_; refine sb 30 (bf h_10) ?_; refine ra [] f0 [(4, B false)] ?_; refine tN ?_; exact fun a w S hK hE => ⟨false, S, hK.wk, hE.sel [], Option.some.inj hG⟩
   ·rintro a w ⟨v_12, hJ⟩; refine hJ.go fun ho_ => ?_
    clear hJ; subst ho_; replace hG := hG_11; refine kR ?_; obtain rfl := Option.some.inj hG; exact rt []
def G_office_Prove (F : Nat) (p_0 : KOffice) (p_1 : KHead) (p_2 : Int) : Option (KReceipt × Int) :=
  Option.bind (Option.bind (G_office_Valid F p_0) (fun v_4 =>
    ifB (v_4)
      (Option.bind (G_office_formed F p_1) (fun v_6 =>
      ifB (v_6)
        (ifB (decide (p_1.Size > ((p_0.Entries.length : Nat) : Int)))
          (some true)
          (Option.bind (G_office_between F p_2 0 (IntKind.i64.wrap (p_1.Size - 1))) (fun v_9 =>
          some (!v_9))))
        (some true)))
      (some true)) : Option (Bool)) (fun (v_11 : Bool) => 
    ifB (v_11)
      (some ((⟨(⟨0, 0, 0, (⟨0, 0⟩ : KSig)⟩ : KHead), 0, (⟨0, (⟨0, 0⟩ : KInterval)⟩ : KEntry), ([] : List Int)⟩ : KReceipt), 1))
      (Option.bind (G_office_root F p_0 p_1.Size) (un2 fun v_13 v_14 =>
      Option.bind (ifB ((v_14 == 0))
          (ifB ((p_1.Office == p_0.ID))
            (some (!(v_13 == p_1.Root)))
            (some true))
          (some true) : Option (Bool)) (fun (v_18 : Bool) => 
        ifB (v_18)
          (some ((⟨(⟨0, 0, 0, (⟨0, 0⟩ : KSig)⟩ : KHead), 0, (⟨0, (⟨0, 0⟩ : KInterval)⟩ : KEntry), ([] : List Int)⟩ : KReceipt), 33))
          (Option.bind (slI p_0.Entries 0 p_1.Size) (fun v_20 =>
          Option.bind (Option.bind (Option.bind (iter (σ := Int × (List Int)) (ρ := (List Int)) (un2 fun (v_41 : Int) (v_42 : (List Int)) => 
                  (ifB (decide (v_41 < ((v_20.length : Nat) : Int)))
                    (Option.bind (ixI v_20 v_41) (fun v_47 =>
                    Option.bind (G_office_Leaf F v_47) (fun v_51 =>
                    Option.bind (apG 8 v_42 ([v_51] : List Int)) (fun v_53 =>
                    some (.inl (IntKind.i64.wrap (v_41 + 1), v_53))))))
                    (some (.inr v_42)) : Option ((Int × (List Int)) ⊕ (List Int)))) F (0, ([] : List Int))) (fun (v_54 : (List Int)) => 
                some v_54) : Option ((List Int))) (fun (v_58 : (List Int)) => 
              some v_58) : Option ((List Int))) (fun (v_61 : (List Int)) => 
            Option.bind (G_tree_Include F v_61 p_2) (un2 fun v_65 v_66 =>
            ifB ((v_66 == 0))
              (Option.bind (ixI p_0.Entries p_2) (fun v_108 =>
              some ((⟨p_1, p_2, v_108, v_65⟩ : KReceipt), 0)))
              (some ((⟨(⟨0, 0, 0, (⟨0, 0⟩ : KSig)⟩ : KHead), 0, (⟨0, (⟨0, 0⟩ : KInterval)⟩ : KEntry), ([] : List Int)⟩ : KReceipt), v_66))))))))))
set_option maxRecDepth 100000 in
set_option maxHeartbeats 16000000 in
theorem z_office_Prove (F : Nat) (p_0 : KOfficeL) (p_1 : KHead) (p_2 : Int) (r : KReceipt × Int) (hG : G_office_Prove F p_0.p p_1 p_2 = some r) :
  Cn Tryd.prog 32 [.agg #[I p_0.ID, .slice p_0.Entries_A p_0.Entries.length p_0.Entries_c], .agg #[I p_1.Office, I p_1.Size, U p_1.Root, I p_1.Sig.C, I p_1.Sig.S], I p_2] [KOfficeL.ok p_0] (fun q : KReceiptL => r.1 = q.p) (fun q => .tuple #[.agg #[I q.Head.Office, I q.Head.Size, U q.Head.Root, I q.Head.Sig.C, I q.Head.Sig.S, I q.Index, U q.Entry.Doc, I q.Entry.Stamp.Lo, I q.Entry.Stamp.Hi, .slice q.Path_A q.Path.length q.Path_c], I r.2]) (fun q => [KReceiptL.ok q]) := by
 unfold G_office_Prove at hG; refine fin Tryd.func32 rfl rfl (mc KOfficeL.mv m0) fun S0 w0 hT => ?_
 refine sq ?_; refine rg ?_; refine l1 ?_; refine nw 3 vp [I p_0.ID, .slice p_0.Entries_A p_0.Entries.length p_0.Entries_c] 24 fun g_1 => ?_
 refine l1 ?_; refine nw 4 vp [I p_1.Office, I p_1.Size, U p_1.Root, I p_1.Sig.C, I p_1.Sig.S] 29 fun g_2 => ?_
 refine l1 ?_; refine nw 6 vp [I 0, I 0, U 0, I 0, I 0, I 0, U 0, I 0, I 0, .slice none 0 0] 38 fun g_3 => ?_
 refine ra [] f0 [] ?_; refine tN ?_; refine sq ?_; obtain ⟨o_10, hG, hG_10⟩ := bind_some hG; refine jn (fun K E a w => ∃ (v_11 : Bool), Js S0 w0 84 ([(35, B v_11)] ++ K) ([.dat (RowC p_0.Entries_A p_0.Entries_c KEntry.cells tr p_0.Entries)] ++ se E [0, 1, 2]) (v_11 = o_10) a w) ?_ ?_
 ·replace hG := bind_some hG; obtain ⟨v_4, hy_4, hG⟩ := hG; replace hG := ifB_cases hG; rcases hG with ⟨h_5, hG⟩ | ⟨h_5, hG⟩
  ·replace hG := bind_some hG; obtain ⟨v_6, hy_6, hG⟩ := hG; replace hG := ifB_cases hG; rcases hG with ⟨h_7, hG⟩ | ⟨h_7, hG⟩
   ·replace hG := ifB_cases hG; rcases hG with ⟨h_8, hG⟩ | ⟨h_8, hG⟩
    ·refine rg ?_; refine rn 1 [(0, 2, 2, 0)] f0 [(12, .agg #[I p_0.ID, .slice p_0.Entries_A p_0.Entries.length p_0.Entries_c])] ?_; refine l1 ?_; refine cl 13 (z_office_Valid F p_0 _ hy_4) hT ⟨(gi 3).a, trivial⟩ ?_; refine rn 2 [] f0 [(15, B (!v_4))] ?_; refine sb 15 (nt h_5) ?_; refine rn 1 [(0, 5, 1, 0)] f0 [(16, .agg #[I p_1.Office, I p_1.Size, U p_1.Root, I p_1.Sig.C, I p_1.Sig.S])] ?_; refine l1 ?_; refine cl 17 (z_office_formed F p_1 _ hy_6) hT trivial ?_; refine rn 3 [] f0 [(20, B (!v_6))] ?_; refine sb 20 (nt h_7) ?_; refine rn 8 [(1, 1, 1, 1), (1, 1, 2, 1)] f0 [(28, B (decide (p_1.Size > ((p_0.Entries.length : Nat) : Int))))] ?_; refine sb 28 (bt h_8) ?_; refine ra [] f0 [(35, B true)] ?_; refine tN ?_; refine fm (RowC p_0.Entries_A p_0.Entries_c KEntry.cells tr p_0.Entries) (gm (KOfficeL.ok p_0) 3 fun _ _ h => h.f_Entries) ?_; exact fun a w S hK hE => ⟨true, S, hK.wk, hE.sel [0, 1, 2, 3], Option.some.inj hG⟩
    ·replace hG := bind_some hG; obtain ⟨v_9, hy_9, hG⟩ := hG; refine rg ?_; refine rn 1 [(0, 2, 2, 0)] f0 [(12, .agg #[I p_0.ID, .slice p_0.Entries_A p_0.Entries.length p_0.Entries_c])] ?_; refine l1 ?_; refine cl 13 (z_office_Valid F p_0 _ hy_4) hT ⟨(gi 3).a, trivial⟩ ?_; refine rn 2 [] f0 [(15, B (!v_4))] ?_; refine sb 15 (nt h_5) ?_; refine rn 1 [(0, 5, 1, 0)] f0 [(16, .agg #[I p_1.Office, I p_1.Size, U p_1.Root, I p_1.Sig.C, I p_1.Sig.S])] ?_; refine l1 ?_; refine cl 17 (z_office_formed F p_1 _ hy_6) hT trivial ?_; refine rn 3 [] f0 [(20, B (!v_6))] ?_; refine sb 20 (nt h_7) ?_; refine rn 8 [(1, 1, 1, 1), (1, 1, 2, 1)] f0 [(28, B (decide (p_1.Size > ((p_0.Entries.length : Nat) : Int))))] ?_; refine sb 28 (bf h_8) ?_; refine rn 4 [(2, 1, 1, 1)] f0 [(29, I p_2), (32, I (IntKind.i64.wrap (p_1.Size - 1)))] ?_; refine l1 ?_; refine cl 33 (z_office_between F p_2 0 (IntKind.i64.wrap (p_1.Size - 1)) _ hy_9) hT trivial ?_; refine ra [] f0 [(35, B (!v_9))] ?_; refine tN ?_; refine fm (RowC p_0.Entries_A p_0.Entries_c KEntry.cells tr p_0.Entries) (gm (KOfficeL.ok p_0) 3 fun _ _ h => h.f_Entries) ?_; exact fun a w S hK hE => ⟨!v_9, S, hK.wk, hE.sel [0, 1, 2, 3], Option.some.inj hG⟩
   ·refine rg ?_; refine rn 1 [(0, 2, 2, 0)] f0 [(12, .agg #[I p_0.ID, .slice p_0.Entries_A p_0.Entries.length p_0.Entries_c])] ?_; refine l1 ?_; refine cl 13 (z_office_Valid F p_0 _ hy_4) hT ⟨(gi 3).a, trivial⟩ ?_; refine rn 2 [] f0 [(15, B (!v_4))] ?_; refine sb 15 (nt h_5) ?_; refine rn 1 [(0, 5, 1, 0)] f0 [(16, .agg #[I p_1.Office, I p_1.Size, U p_1.Root, I p_1.Sig.C, I p_1.Sig.S])] ?_; refine l1 ?_; refine cl 17 (z_office_formed F p_1 _ hy_6) hT trivial ?_; refine rn 3 [] f0 [(20, B (!v_6))] ?_; refine sb 20 (nf h_7) ?_; refine ra [] f0 [(35, B true)] ?_; refine tN ?_; refine fm (RowC p_0.Entries_A p_0.Entries_c KEntry.cells tr p_0.Entries) (gm (KOfficeL.ok p_0) 3 fun _ _ h => h.f_Entries) ?_; exact fun a w S hK hE => ⟨true, S, hK.wk, hE.sel [0, 1, 2, 3], Option.some.inj hG⟩
  ·refine rg ?_; refine rn 1 [(0, 2, 2, 0)] f0 [(12, .agg #[I p_0.ID, .slice p_0.Entries_A p_0.Entries.length p_0.Entries_c])] ?_; refine l1 ?_; refine cl 13 (z_office_Valid F p_0 _ hy_4) hT ⟨(gi 3).a, trivial⟩ ?_; refine rn 2 [] f0 [(15, B (!v_4))] ?_; refine sb 15 (nf h_5) ?_; refine ra [] f0 [(35, B true)] ?_; refine tN ?_; refine fm (RowC p_0.Entries_A p_0.Entries_c KEntry.cells tr p_0.Entries) (gm (KOfficeL.ok p_0) 3 fun _ _ h => h.f_Entries) ?_; exact fun a w S hK hE => ⟨true, S, hK.wk, hE.sel [0, 1, 2, 3], Option.some.inj hG⟩
 ·rintro a w ⟨v_11, hJ⟩; refine hJ.go fun ho_ => ?_
  clear hJ; subst ho_; replace hG := hG_10; rcases ifB_cases hG with ⟨h_12, hG⟩ | ⟨h_12, hG⟩
  ·refine sb 35 (bt h_12) ?_; refine ct ?_; refine sq ?_; refine rg ?_; refine rn 1 [] f0 [(36, .agg #[I 0, I 0, U 0, I 0, I 0, I 0, U 0, I 0, I 0, .slice none 0 0])] ?_; refine l1 ?_; refine sr 1 g_3 [(0, I 0), (1, I 0), (2, U 0), (3, I 0), (4, I 0), (5, I 0), (6, U 0), (7, I 0), (8, I 0), (9, .slice none 0 0)] ?_; refine ra [] f0 [(7, I 1)] ?_; refine tN ?_; refine kR ?_; refine tR ?_; obtain rfl := Option.some.inj hG; exact rtn [(1, 0, 10)] (⟨(⟨0, 0, 0, (⟨0, 0⟩ : KSig)⟩ : KHead), 0, (⟨0, (⟨0, 0⟩ : KInterval)⟩ : KEntry), none, 0, ([] : List Int)⟩ : KReceiptL) rfl ⟨(((gn : Fd _ (RowC none 0 c_u64 tr ([] : List Int)))).m fun _ _ h => ⟨h⟩), trivial⟩
  ·refine sb 35 (bf h_12) ?_; refine cf ?_; refine kS ?_; refine tN ?_; refine sq ?_; refine sq ?_; replace hG := bind_some hG; obtain ⟨⟨v_13, v_14⟩, hy_13, hG⟩ := hG; refine rg ?_; refine rn 3 [(0, 2, 3, 0), (1, 1, 2, 1)] f0 [(38, .agg #[I p_0.ID, .slice p_0.Entries_A p_0.Entries.length p_0.Entries_c]), (40, I p_1.Size)] ?_; refine l1 ?_; refine cl 41 (z_office_root F p_0 p_1.Size _ hy_13) hT ⟨(((gd' (RowC p_0.Entries_A p_0.Entries_c KEntry.cells tr p_0.Entries) 0)).m fun _ _ h => ⟨h⟩).a, trivial⟩ ?_; refine ra [] f0 [(8, U v_13), (9, I v_14)] ?_; refine tN ?_; obtain ⟨o_17, hG, hG_17⟩ := bind_some hG; refine jn (fun K E a w => ∃ (v_18 : Bool), Js S0 w0 84 ([(58, B v_18)] ++ K) (se E [0, 1, 2, 3]) (v_18 = o_17) a w) ?_ ?_
   ·replace hG := ifB_cases hG; rcases hG with ⟨h_15, hG⟩ | ⟨h_15, hG⟩
    ·replace hG := ifB_cases hG; rcases hG with ⟨h_16, hG⟩ | ⟨h_16, hG⟩
     ·refine rg ?_; refine rn 3 [] f0 [(46, B (!(v_14 == 0)))] ?_; refine sb 46 (nt h_15) ?_; refine rn 7 [(1, 1, 2, 0), (1, 1, 3, 0)] f0 [(53, B (!(p_1.Office == p_0.ID)))] ?_; refine sb 53 (nt h_16) ?_; refine ra [(2, 1, 2, 2)] f0 [(58, B (!(v_13 == p_1.Root)))] ?_; refine tN ?_; exact fun a w S hK hE => ⟨!(v_13 == p_1.Root), S, hK.wk, hE.sel [0, 1, 2, 3], Option.some.inj hG⟩
     ·refine rg ?_; refine rn 3 [] f0 [(46, B (!(v_14 == 0)))] ?_; refine sb 46 (nt h_15) ?_; refine rn 7 [(1, 1, 2, 0), (1, 1, 3, 0)] f0 [(53, B (!(p_1.Office == p_0.ID)))] ?_; refine sb 53 (nf h_16) ?_; refine ra [] f0 [(58, B true)] ?_; refine tN ?_; exact fun a w S hK hE => ⟨true, S, hK.wk, hE.sel [0, 1, 2, 3], Option.some.inj hG⟩
    ·refine rg ?_; refine rn 3 [] f0 [(46, B (!(v_14 == 0)))] ?_; refine sb 46 (nf h_15) ?_; refine ra [] f0 [(58, B true)] ?_; refine tN ?_; exact fun a w S hK hE => ⟨true, S, hK.wk, hE.sel [0, 1, 2, 3], Option.some.inj hG⟩
   ·rintro a w ⟨v_18, hJ⟩; refine hJ.go fun ho_ => ?_
    clear hJ; subst ho_; replace hG := hG_17; rcases ifB_cases hG with ⟨h_19, hG⟩ | ⟨h_19, hG⟩
    ·refine sb 58 (bt h_19) ?_; refine ct ?_; refine sq ?_; refine rg ?_; refine rn 1 [] f0 [(59, .agg #[I 0, I 0, U 0, I 0, I 0, I 0, U 0, I 0, I 0, .slice none 0 0])] ?_; refine l1 ?_; refine sr 1 g_3 [(0, I 0), (1, I 0), (2, U 0), (3, I 0), (4, I 0), (5, I 0), (6, U 0), (7, I 0), (8, I 0), (9, .slice none 0 0)] ?_; refine ra [] f0 [(7, I 33)] ?_; refine tN ?_; refine kR ?_; refine tR ?_; obtain rfl := Option.some.inj hG; exact rtn [(1, 0, 10)] (⟨(⟨0, 0, 0, (⟨0, 0⟩ : KSig)⟩ : KHead), 0, (⟨0, (⟨0, 0⟩ : KInterval)⟩ : KEntry), none, 0, ([] : List Int)⟩ : KReceiptL) rfl ⟨(((gn : Fd _ (RowC none 0 c_u64 tr ([] : List Int)))).m fun _ _ h => ⟨h⟩), trivial⟩
    ·refine sb 58 (bf h_19) ?_; refine cf ?_; refine kS ?_; refine tN ?_; refine sq ?_; replace hG := bind_some hG; obtain ⟨v_20, hy_20, hG⟩ := hG; replace hG := bind_some hG; obtain ⟨v_61o, hy_64, hG⟩ := hG; replace hG := bind_some hG; obtain ⟨⟨v_65o, v_66⟩, hy_65, hG⟩ := hG; refine rg ?_; refine fp false true inf22 (gd' (RowC p_0.Entries_A p_0.Entries_c KEntry.cells tr p_0.Entries) 0) hy_20 fun v_20_A v_20_c hp_20 => ?_
     refine rn 5 [(1, 1, 4, 1), (1, 1, 3, 1), (0, 0, 0, 0)] (fc (hp_20 .i64 .i64) f0) [(65, .slice v_20_A v_20.length v_20_c)] ?_; refine l1 ?_; refine ci 66 (args := [.slice v_20_A v_20.length v_20_c, .func (.func 62) #[] #[]]) (fun E e w => ∃ (v_61 : List Int), ∃ (v_62_A : Option Addr), ∃ (v_63_c : Nat), Rs S0 w0 (.slice v_62_A v_61.length v_63_c) ([.own 25 1 (.slice v_62_A v_61.length v_63_c) v_61.length (v_61.flatMap c_u64)] ++ se E [0, 1, 2, 3, 4]) (v_61 = v_61o) e w) Tryd.func65 rfl rfl ?_ ?_
     ·replace hG := hy_64; refine sq ?_; refine rg ?_; refine ra [] f0 [] ?_; refine tN ?_; refine sq ?_; refine rg ?_; refine ra [] f0 [(5, .slice none 0 0)] ?_; refine tN ?_; obtain ⟨o_103, hG, hG_103⟩ := bind_some hG; refine jn (fun K E a w => ∃ (v_104 : List Int), ∃ (v_105_A : Option Addr), ∃ (v_106_c : Nat), Js S0 w0 22 ([(5, .slice v_105_A v_104.length v_106_c)] ++ K) ([.own 25 1 (.slice v_105_A v_104.length v_106_c) v_104.length (v_104.flatMap c_u64)] ++ se E [0, 1, 2, 3, 4]) (v_104 = o_103) a w) ?_ ?_
      ·refine sq ?_; refine rg ?_; refine ra [] f0 [(8, .slice v_20_A v_20.length v_20_c), (9, I ((v_20.length : Nat) : Int)), (10, I 0)] ?_; refine tN ?_; refine bk ?_; obtain ⟨e_91, hL, hG_91⟩ := bind_some hG; clear hG; obtain ⟨stp_91, hs_91, hL⟩ := iter_gen hL; refine lp (fun K E n_ a w => ∃ (v_87 : Int), ∃ (v_88 : List Int), ∃ (v_89_A : Option Addr), ∃ (v_90_c : Nat), Js S0 w0 22 ([(5, .slice v_89_A v_88.length v_90_c), (10, I v_87)] ++ K) ([.own 25 1 (.slice v_89_A v_88.length v_90_c) v_88.length (v_88.flatMap c_u64)] ++ se E [0, 1, 2, 3, 4]) (iter stp_91 n_ (v_87, v_88) = some e_91) a w) F ?_ ?_
       ·refine on 25 1 ?_; exact fun a w S hK hE => ⟨0, ([] : List Int), none, 0, S, hK.wk, hE.sel [0, 1, 2, 3, 4, 5], hL⟩
       ·clear hL; rintro n_91 a w ⟨v_87, v_88, v_89_A, v_90_c, hJ⟩; refine hJ.go fun hL => ?_
        clear hJ; obtain ⟨m_91, o_91, rfl, hG, hO1_91, hO2_91⟩ := iter_step hL; clear hL; rw [hs_91] at hG; refine sq ?_; refine rg ?_; refine ra [] f0 [(11, B (decide (v_87 < ((v_20.length : Nat) : Int))))] ?_; refine tN ?_; refine sq ?_; rcases ifB_cases hG with ⟨h_92, hG⟩ | ⟨h_92, hG⟩
        ·refine sb 11 (bt h_92) ?_; refine ct ?_; refine kS ?_; refine tN ?_; refine sq ?_; refine bk ?_; refine sq ?_; replace hG := bind_some hG; obtain ⟨v_93, hy_93, hG⟩ := hG; refine rg ?_; refine fx inf22 (gd' (RowC v_20_A v_20_c KEntry.cells tr v_20) 1) hy_93 fun b_94 o_95 hi_93 => ?_
         refine rn 2 [(0, 0, 0, 0), (0, 3, 0, 0)] (fc (hi_93 .i64) f0) [(13, .agg #[U v_93.Doc, I v_93.Stamp.Lo, I v_93.Stamp.Hi])] ?_; refine l1 ?_; refine nw 7 vp [U 0, I 0, I 0] 36 fun g_96 => ?_
         refine l1 ?_; refine sr 0 g_96 [(0, U v_93.Doc), (1, I v_93.Stamp.Lo), (2, I v_93.Stamp.Hi)] ?_; refine nl ?_; refine tN ?_; replace hG := bind_some hG; obtain ⟨v_97, hy_97, hG⟩ := hG; replace hG := bind_some hG; obtain ⟨v_99, hy_99, hG⟩ := hG; refine rg ?_; refine rn 3 [(2, 3, 0, 0)] f0 [(14, .slice v_89_A v_88.length v_90_c), (15, .func (.func 62) #[] #[]), (16, .agg #[U v_93.Doc, I v_93.Stamp.Lo, I v_93.Stamp.Hi])] ?_; refine l1 ?_; refine cl 17 (z_office_Leaf F v_93 _ hy_97) hT trivial ?_; refine l1 ?_; refine nw 18 (vs 1) [U v_97] 25 fun g_98 => ?_
         refine l1 ?_; refine ap 3 19 v_89_A v_90_c v_88 ([v_97] : List Int) inf32 (bA (f := c_u64) (ok := tr) (l := ([v_97] : List Int)) g_98 0 et.a) hy_99 one_u64 fun v_99_A v_99_c _ => ?_
         refine ra [] f0 [(5, .slice v_99_A v_99.length v_99_c)] ?_; refine hN ?_; refine tN ?_; refine rg ?_; refine ra [] f0 [(10, I (IntKind.i64.wrap (v_87 + 1)))] ?_; refine tN ?_; exact fun a w S hK hE => ⟨m_91, ⟨IntKind.i64.wrap (v_87 + 1), v_99, v_99_A, v_99_c, S, hK.wk, hE.sel [3, 4, 5, 6, 7, 8], hO1_91 _ (Option.some.inj hG).symm⟩, Nat.lt_succ_self _⟩
        ·refine sb 11 (bf h_92) ?_; refine cf ?_; refine kX ?_; refine tX ?_; refine tX ?_; have he_ := hO2_91 _ (Option.some.inj hG).symm; subst he_; replace hG := hG_91; refine hH ?_; refine tN ?_; exact fun a w S hK hE => ⟨v_88, v_89_A, v_90_c, S, hK.wk, hE.sel [0, 1, 2, 3, 4, 5], Option.some.inj hG⟩
      ·rintro a w ⟨v_104, v_105_A, v_106_c, hJ⟩; refine hJ.go fun ho_ => ?_
       clear hJ; subst ho_; replace hG := hG_103; refine sq ?_; refine rg ?_; refine ra [] f0 [(4, .slice v_105_A v_104.length v_106_c)] ?_; refine tN ?_; refine kR ?_; refine ri [] (.slice v_105_A v_104.length v_106_c) ?_; exact fun a w S hK hE => ⟨v_104, v_105_A, v_106_c, rfl, ⟨S, hE.sel [0, 1, 2, 3, 4, 5]⟩, Option.some.inj hG⟩
     ·rintro e w ⟨v_61, v_62_A, v_63_c, hJ⟩; refine hJ.go fun ho_ => ?_
      clear hJ; subst ho_; refine rn 1 [] f0 [(67, I p_2)] ?_; refine so (A := v_62_A) (c := v_63_c) 0 c_u64 tr v_61 tr_mv et ?_; refine l1 ?_; refine cn 68 (z_tree_Include F v_62_A v_63_c v_61 p_2 _ hy_65) hT (fun _ => (mr tr_mv m0)) ⟨gi 0, trivial⟩ ?_; rintro ⟨v_65_A, v_65_c, v_65⟩ hq_65; obtain rfl : v_65 = v_65o := hq_65.symm; refine ra [] f0 [(10, .slice v_65_A v_65.length v_65_c), (11, I v_66)] ?_; refine tN ?_; refine sq ?_; refine sq ?_; refine rg ?_; refine ra [] f0 [(72, B (!(v_66 == 0)))] ?_; refine tN ?_; rcases ifB_cases hG with ⟨h_107, hG⟩ | ⟨h_107, hG⟩
      ·refine sb 72 (nt h_107) ?_; refine cf ?_; refine kS ?_; refine tN ?_; refine sq ?_; replace hG := bind_some hG; obtain ⟨v_108, hy_108, hG⟩ := hG; refine fx inf22 (gd' (RowC p_0.Entries_A p_0.Entries_c KEntry.cells tr p_0.Entries) 3) hy_108 fun b_109 o_110 hi_108 => ?_
       refine hb [0, 1, 2, 3, 4, 6, 7] ?_; refine ht [0, 1, 2, 3, 4, 6, 7] [0, 1, 2, 3, 4, 5, 6, 7, 8] [(0, 5, 5, 0), (2, 1, 6, 1), (1, 0, 0, 0), (0, 3, 0, 0)] (fc (hi_108 .i64) f0) [(83, .agg #[I p_1.Office, I p_1.Size, U p_1.Root, I p_1.Sig.C, I p_1.Sig.S, I p_2, U v_108.Doc, I v_108.Stamp.Lo, I v_108.Stamp.Hi, .slice v_65_A v_65.length v_65_c])] ?_; refine ho [9] ⟨?_, trivial⟩; refine h1 ?_; refine sr 5 g_3 [(0, I p_1.Office), (1, I p_1.Size), (2, U p_1.Root), (3, I p_1.Sig.C), (4, I p_1.Sig.S), (5, I p_2), (6, U v_108.Doc), (7, I v_108.Stamp.Lo), (8, I v_108.Stamp.Hi), (9, .slice v_65_A v_65.length v_65_c)] ?_; refine hk [0, 1, 2, 3, 4, 6, 7] ?_; refine ht [0, 1, 2, 3, 4, 6, 7] [10] [] f0 [(7, I 0)] ?_; refine he ?_; refine tN ?_; refine kR ?_; obtain rfl := Option.some.inj hG; exact rtn [(5, 0, 10)] (⟨p_1, p_2, v_108, v_65_A, v_65_c, v_65⟩ : KReceiptL) rfl ⟨(((gd' (RowC v_65_A v_65_c c_u64 tr v_65) 1)).m fun _ _ h => ⟨h⟩), trivial⟩
      ·refine sb 72 (nf h_107) ?_; refine ct ?_; refine sq ?_; refine rg ?_; refine rn 2 [] f0 [(73, .agg #[I 0, I 0, U 0, I 0, I 0, I 0, U 0, I 0, I 0, .slice none 0 0]), (74, I v_66)] ?_; refine l1 ?_; refine sr 4 g_3 [(0, I 0), (1, I 0), (2, U 0), (3, I 0), (4, I 0), (5, I 0), (6, U 0), (7, I 0), (8, I 0), (9, .slice none 0 0)] ?_; refine ra [] f0 [(7, I v_66)] ?_; refine tN ?_; refine kR ?_; refine tR ?_; obtain rfl := Option.some.inj hG; exact rtn [(4, 0, 10)] (⟨(⟨0, 0, 0, (⟨0, 0⟩ : KSig)⟩ : KHead), 0, (⟨0, (⟨0, 0⟩ : KInterval)⟩ : KEntry), none, 0, ([] : List Int)⟩ : KReceiptL) rfl ⟨(((gn : Fd _ (RowC none 0 c_u64 tr ([] : List Int)))).m fun _ _ h => ⟨h⟩), trivial⟩
def G_office_Sign (F : Nat) (p_0 : KOffice) (p_1 : Int) (p_2 : Int) (p_3 : Int) : Option (KHead × Int) :=
 Option.bind (Option.bind (G_office_Valid F p_0) (fun v_3 =>
  ifB (v_3)
   (Option.bind (G_office_between F p_1 1 ((p_0.Entries.length : Nat) : Int)) (fun v_5 =>
   some (!v_5, p_3)))
   (some (true, p_3))) : Option ((Bool × Int))) (un2 fun (v_7 : Bool) (v_8 : Int) =>
  ifB (v_7)
   (some ((⟨0, 0, 0, (⟨0, 0⟩ : KSig)⟩ : KHead), 1))
   (Option.bind (G_office_root F p_0 p_1) (un2 fun v_10 v_11 =>
   ifB ((v_11 == 0))
    (Option.bind (G_office_message F (⟨p_0.ID, p_1, v_10, (⟨0, 0⟩ : KSig)⟩ : KHead)) (fun v_14 =>
    Option.bind (G_group_Sign F p_2 v_8 v_14) (un2 fun v_15 v_16 =>
    ifB ((v_16 == 0))
     (some ((⟨p_0.ID, p_1, v_10, v_15⟩ : KHead), 0))
     (some ((⟨0, 0, 0, (⟨0, 0⟩ : KSig)⟩ : KHead), v_16)))))
    (some ((⟨0, 0, 0, (⟨0, 0⟩ : KSig)⟩ : KHead), v_11)))))
set_option maxRecDepth 100000 in
set_option maxHeartbeats 16000000 in
theorem z_office_Sign (F : Nat) (p_0 : KOfficeL) (p_1 : Int) (p_2 : Int) (p_3 : Int) (r : KHead × Int) (hG : G_office_Sign F p_0.p p_1 p_2 p_3 = some r) :
  Cf Tryd.prog 14 [.agg #[I p_0.ID, .slice p_0.Entries_A p_0.Entries.length p_0.Entries_c], I p_1, I p_2, I p_3] [KOfficeL.ok p_0] (.tuple #[.agg #[I r.1.Office, I r.1.Size, U r.1.Root, I r.1.Sig.C, I r.1.Sig.S], I r.2]) := by
 unfold G_office_Sign at hG; refine fi Tryd.func14 rfl rfl (mc KOfficeL.mv m0) fun S0 w0 hT => ?_
 refine sq ?_; refine rg ?_; refine l1 ?_; refine nw 4 vp [I p_0.ID, .slice p_0.Entries_A p_0.Entries.length p_0.Entries_c] 24 fun g_1 => ?_
 refine l1 ?_; refine nw 8 vp [I 0, I 0, U 0, I 0, I 0] 29 fun g_2 => ?_
 refine ra [] f0 [] ?_; refine tN ?_; refine sq ?_; obtain ⟨o_6, hG, hG_6⟩ := bind_some hG; refine jn (fun K E a w => ∃ (v_7 : Bool), ∃ (v_8 : Int), Js S0 w0 56 ([(3, I v_8), (24, B v_7)] ++ K) ([.dat (RowC p_0.Entries_A p_0.Entries_c KEntry.cells tr p_0.Entries)] ++ se E [0, 1]) ((v_7, v_8) = o_6) a w) ?_ ?_
 ·replace hG := bind_some hG; obtain ⟨v_3, hy_3, hG⟩ := hG; replace hG := ifB_cases hG; rcases hG with ⟨h_4, hG⟩ | ⟨h_4, hG⟩
  ·replace hG := bind_some hG; obtain ⟨v_5, hy_5, hG⟩ := hG; refine rg ?_; refine rn 1 [(0, 2, 1, 0)] f0 [(14, .agg #[I p_0.ID, .slice p_0.Entries_A p_0.Entries.length p_0.Entries_c])] ?_; refine l1 ?_; refine cl 15 (z_office_Valid F p_0 _ hy_3) hT ⟨(gi 2).a, trivial⟩ ?_; refine rn 2 [] f0 [(17, B (!v_3))] ?_; refine sb 17 (nt h_4) ?_; refine rn 4 [(2, 1, 1, 1)] f0 [(18, I p_1), (21, I ((p_0.Entries.length : Nat) : Int))] ?_; refine l1 ?_; refine cl 22 (z_office_between F p_1 1 ((p_0.Entries.length : Nat) : Int) _ hy_5) hT trivial ?_; refine ra [] f0 [(24, B (!v_5))] ?_; refine tN ?_; refine fm (RowC p_0.Entries_A p_0.Entries_c KEntry.cells tr p_0.Entries) (gm (KOfficeL.ok p_0) 2 fun _ _ h => h.f_Entries) ?_; exact fun a w S hK hE => ⟨!v_5, p_3, S, hK.wk, hE.sel [0, 1, 2], Option.some.inj hG⟩
  ·refine rg ?_; refine rn 1 [(0, 2, 1, 0)] f0 [(14, .agg #[I p_0.ID, .slice p_0.Entries_A p_0.Entries.length p_0.Entries_c])] ?_; refine l1 ?_; refine cl 15 (z_office_Valid F p_0 _ hy_3) hT ⟨(gi 2).a, trivial⟩ ?_; refine rn 2 [] f0 [(17, B (!v_3))] ?_; refine sb 17 (nf h_4) ?_; refine ra [] f0 [(24, B true)] ?_; refine tN ?_; refine fm (RowC p_0.Entries_A p_0.Entries_c KEntry.cells tr p_0.Entries) (gm (KOfficeL.ok p_0) 2 fun _ _ h => h.f_Entries) ?_; exact fun a w S hK hE => ⟨true, p_3, S, hK.wk, hE.sel [0, 1, 2], Option.some.inj hG⟩
 ·rintro a w ⟨v_7, v_8, hJ⟩; refine hJ.go fun ho_ => ?_
  clear hJ; subst ho_; replace hG := hG_6; rcases ifB_cases hG with ⟨h_9, hG⟩ | ⟨h_9, hG⟩
  ·refine sb 24 (bt h_9) ?_; refine ct ?_; refine sq ?_; refine rg ?_; refine rn 1 [] f0 [(25, .agg #[I 0, I 0, U 0, I 0, I 0])] ?_; refine l1 ?_; refine sr 1 g_2 [(0, I 0), (1, I 0), (2, U 0), (3, I 0), (4, I 0)] ?_; refine ra [] f0 [(9, I 1)] ?_; refine tN ?_; refine kR ?_; refine tR ?_; obtain rfl := Option.some.inj hG; exact rt [(1, 0, 5)]
  ·refine sb 24 (bf h_9) ?_; refine cf ?_; refine kS ?_; refine tN ?_; refine sq ?_; replace hG := bind_some hG; obtain ⟨⟨v_10, v_11⟩, hy_10, hG⟩ := hG; refine rg ?_; refine rn 2 [(0, 2, 2, 0)] f0 [(27, .agg #[I p_0.ID, .slice p_0.Entries_A p_0.Entries.length p_0.Entries_c]), (28, I p_1)] ?_; refine l1 ?_; refine cl 29 (z_office_root F p_0 p_1 _ hy_10) hT ⟨(((gd' (RowC p_0.Entries_A p_0.Entries_c KEntry.cells tr p_0.Entries) 0)).m fun _ _ h => ⟨h⟩).a, trivial⟩ ?_; refine ra [] f0 [(10, U v_10), (11, I v_11)] ?_; refine tN ?_; refine sq ?_; refine sq ?_; refine rg ?_; refine ra [] f0 [(33, B (!(v_11 == 0)))] ?_; refine tN ?_; rcases ifB_cases hG with ⟨h_12, hG⟩ | ⟨h_12, hG⟩
   ·refine sb 33 (nt h_12) ?_; refine cf ?_; refine kS ?_; refine tN ?_; refine sq ?_; refine rg ?_; refine rn 5 [(1, 1, 2, 0)] f0 [(40, .agg #[I p_0.ID, I p_1, U v_10, I 0, I 0])] ?_; refine l1 ?_; refine nw 12 vp [I 0, I 0, U 0, I 0, I 0] 29 fun g_13 => ?_
    refine l1 ?_; refine sr 0 g_13 [(0, I p_0.ID), (1, I p_1), (2, U v_10), (3, I 0), (4, I 0)] ?_; refine nl ?_; refine tN ?_; refine sq ?_; replace hG := bind_some hG; obtain ⟨v_14o, hy_14, hG⟩ := hG; replace hG := bind_some hG; obtain ⟨⟨v_15, v_16⟩, hy_15, hG⟩ := hG; refine rg ?_; refine rn 3 [(2, 5, 0, 0)] f0 [(42, I p_2), (43, I v_8), (44, .agg #[I p_0.ID, I p_1, U v_10, I 0, I 0])] ?_; refine l1 ?_; refine cn 45 (z_office_message F (⟨p_0.ID, p_1, v_10, (⟨0, 0⟩ : KSig)⟩ : KHead) _ hy_14) hT (fun _ => (mr tr_mv m0)) trivial ?_; rintro ⟨v_14_A, v_14_c, v_14⟩ hq_14; obtain rfl : v_14 = v_14o := hq_14.symm; refine l1 ?_; refine cl 46 (z_group_Sign F p_2 v_8 v_14_A v_14_c v_14 _ hy_15) hT ⟨ga 0, trivial⟩ ?_; refine rn 3 [] f0 [(47, .agg #[I v_15.C, I v_15.S]), (48, I v_16)] ?_; refine l1 ?_; refine nw 13 vp [I 0, I 0] 27 fun g_17 => ?_
    refine l1 ?_; refine sr 0 g_17 [(0, I v_15.C), (1, I v_15.S)] ?_; refine ra [] f0 [(11, I v_16)] ?_; refine tN ?_; refine sq ?_; refine sq ?_; refine rg ?_; refine ra [] f0 [(50, B (!(v_16 == 0)))] ?_; refine tN ?_; rcases ifB_cases hG with ⟨h_18, hG⟩ | ⟨h_18, hG⟩
    ·refine sb 50 (nt h_18) ?_; refine cf ?_; refine kS ?_; refine tN ?_; refine sq ?_; refine rg ?_; refine rn 2 [(0, 2, 0, 0)] f0 [(53, .agg #[I v_15.C, I v_15.S]), (54, Pt g_13 3)] ?_; refine l1 ?_; refine sr 2 g_13 [(3, I v_15.C), (4, I v_15.S)] ?_; refine nl ?_; refine tN ?_; refine sq ?_; refine rg ?_; refine rn 1 [(0, 5, 2, 0)] f0 [(55, .agg #[I p_0.ID, I p_1, U v_10, I v_15.C, I v_15.S])] ?_; refine l1 ?_; refine sr 4 g_2 [(0, I p_0.ID), (1, I p_1), (2, U v_10), (3, I v_15.C), (4, I v_15.S)] ?_; refine ra [] f0 [(9, I 0)] ?_; refine tN ?_; refine kR ?_; obtain rfl := Option.some.inj hG; exact rt [(4, 0, 5)]
    ·refine sb 50 (nf h_18) ?_; refine ct ?_; refine sq ?_; refine rg ?_; refine rn 2 [] f0 [(51, .agg #[I 0, I 0, U 0, I 0, I 0]), (52, I v_16)] ?_; refine l1 ?_; refine sr 4 g_2 [(0, I 0), (1, I 0), (2, U 0), (3, I 0), (4, I 0)] ?_; refine ra [] f0 [(9, I v_16)] ?_; refine tN ?_; refine kR ?_; refine tR ?_; obtain rfl := Option.some.inj hG; exact rt [(4, 0, 5)]
   ·refine sb 33 (nf h_12) ?_; refine ct ?_; refine sq ?_; refine rg ?_; refine rn 2 [] f0 [(34, .agg #[I 0, I 0, U 0, I 0, I 0]), (35, I v_11)] ?_; refine l1 ?_; refine sr 1 g_2 [(0, I 0), (1, I 0), (2, U 0), (3, I 0), (4, I 0)] ?_; refine ra [] f0 [(9, I v_11)] ?_; refine tN ?_; refine kR ?_; refine tR ?_; obtain rfl := Option.some.inj hG; exact rt [(1, 0, 5)]
end Go.Proofs.YtiijddjfiojfaaaDoor
namespace Go.Proofs.YtiijddjfiojfaaaDoor
open Go.RowKit Go.Maps
def G_cross_formed (F : Nat) (p_0 : KHead) : Option (Bool) :=
 Option.bind (G_office_Right F 4 p_0) (un2 fun v_2 v_3 =>
 some (v_3 == 0))
set_option maxRecDepth 100000 in
set_option maxHeartbeats 16000000 in
theorem z_cross_formed (F : Nat) (p_0 : KHead) (r : Bool) (hG : G_cross_formed F p_0 = some r) :
  Cf Tryd.prog 27 [.agg #[I p_0.Office, I p_0.Size, U p_0.Root, I p_0.Sig.C, I p_0.Sig.S]] [] (B r) := by
 unfold G_cross_formed at hG; refine fi Tryd.func27 rfl rfl m0 fun S0 w0 hT => ?_
 refine sq ?_; refine rg ?_; refine l1 ?_; refine nw 1 vp [I p_0.Office, I p_0.Size, U p_0.Root, I p_0.Sig.C, I p_0.Sig.S] 29 fun g_1 => ?_
 refine ra [] f0 [] ?_; refine tN ?_; refine sq ?_; replace hG := bind_some hG; obtain ⟨⟨v_2, v_3⟩, hy_2, hG⟩ := hG; refine rg ?_; refine rn 1 [(0, 5, 0, 0)] f0 [(6, .agg #[I p_0.Office, I p_0.Size, U p_0.Root, I p_0.Sig.C, I p_0.Sig.S])] ?_; refine l1 ?_; refine cl 7 (z_office_Right F 4 p_0 _ hy_2) hT trivial ?_; refine ra [] f0 [(4, I v_3)] ?_; refine tN ?_; refine sq ?_; refine rg ?_; refine ra [] f0 [(2, B (v_3 == 0))] ?_; refine tN ?_; refine kR ?_; obtain rfl := Option.some.inj hG; exact rt []
def G_cross_keyring_right_1 (F : Nat) (p_0 : Int) : Option (Bool) :=
  Option.bind (G_office_Right F p_0 (⟨1, 1, 0, (⟨0, 0⟩ : KSig)⟩ : KHead)) (un2 fun v_1 v_2 =>
  Option.bind (ifB ((p_0 == 0))
      (some false)
      (some (!(v_2 == 0))) : Option (Bool)) (fun (v_5 : Bool) => 
    some v_5))
set_option maxRecDepth 100000 in
set_option maxHeartbeats 16000000 in
theorem z_cross_keyring_right_1 (F : Nat) (p_0 : Int) (r : Bool) (hG : G_cross_keyring_right_1 F p_0 = some r) :
  Cf Tryd.prog 80 [I p_0] [] (B r) := by
 unfold G_cross_keyring_right_1 at hG; refine fi Tryd.func80 rfl rfl m0 fun S0 w0 hT => ?_
 refine sq ?_; refine rg ?_; refine ra [] f0 [] ?_; refine tN ?_; refine sq ?_; replace hG := bind_some hG; obtain ⟨⟨v_1, v_2⟩, hy_1, hG⟩ := hG; refine rg ?_; refine rn 2 [] f0 [(6, I p_0), (7, .agg #[I 1, I 1, U 0, I 0, I 0])] ?_; refine l1 ?_; refine cl 8 (z_office_Right F p_0 (⟨1, 1, 0, (⟨0, 0⟩ : KSig)⟩ : KHead) _ hy_1) hT trivial ?_; refine ra [] f0 [(4, I v_2)] ?_; refine tN ?_; obtain ⟨o_4, hG, hG_4⟩ := bind_some hG; refine jn (fun K E a w => ∃ (v_5 : Bool), Js S0 w0 17 ([(2, B v_5)] ++ K) (se E []) (v_5 = o_4) a w) ?_ ?_
 ·replace hG := ifB_cases hG; rcases hG with ⟨h_3, hG⟩ | ⟨h_3, hG⟩
  ·refine rg ?_; refine rn 3 [] f0 [(13, B (!(p_0 == 0)))] ?_; refine sb 13 (nt h_3) ?_; refine ra [] f0 [(2, B false)] ?_; refine tN ?_; exact fun a w S hK hE => ⟨false, S, hK.wk, hE.sel [], Option.some.inj hG⟩
  ·refine rg ?_; refine rn 3 [] f0 [(13, B (!(p_0 == 0)))] ?_; refine sb 13 (nf h_3) ?_; refine ra [] f0 [(2, B (!(v_2 == 0)))] ?_; refine tN ?_; exact fun a w S hK hE => ⟨!(v_2 == 0), S, hK.wk, hE.sel [], Option.some.inj hG⟩
 ·rintro a w ⟨v_5, hJ⟩; refine hJ.go fun ho_ => ?_
  clear hJ; subst ho_; replace hG := hG_4; refine kR ?_; obtain rfl := Option.some.inj hG; exact rt []
def G_cross_keyring_signed (F : Nat) (p_0 : List Int) (p_1 : KHead) : Option (Bool) :=
  Option.bind (ifB (decide (p_1.Office < 1))
      (some true)
      (ifB (decide (p_1.Office > ((p_0.length : Nat) : Int)))
        (some true)
        (Option.bind (ixI p_0 (IntKind.i64.wrap (p_1.Office - 1))) (fun v_4 =>
        some (v_4 == 0)))) : Option (Bool)) (fun (v_8 : Bool) => 
    ifB (v_8)
      (some false)
      (Option.bind (ixI p_0 (IntKind.i64.wrap (p_1.Office - 1))) (fun v_10 =>
      Option.bind (G_office_Right F v_10 p_1) (un2 fun v_13 v_14 =>
      some v_13))))
set_option maxRecDepth 100000 in
set_option maxHeartbeats 16000000 in
theorem z_cross_keyring_signed (F : Nat) (p_0_A : Option Addr) (p_0_c : Nat) (p_0 : List Int) (p_1 : KHead) (r : Bool) (hG : G_cross_keyring_signed F p_0 p_1 = some r) :
  Cf Tryd.prog 55 [.slice p_0_A p_0.length p_0_c, .agg #[I p_1.Office, I p_1.Size, U p_1.Root, I p_1.Sig.C, I p_1.Sig.S]] [RowC p_0_A p_0_c c_i64 tr p_0] (B r) := by
 unfold G_cross_keyring_signed at hG; refine fi Tryd.func55 rfl rfl (mr tr_mv m0) fun S0 w0 hT => ?_
 refine sq ?_; refine rg ?_; refine l1 ?_; refine nw 3 vp [I p_1.Office, I p_1.Size, U p_1.Root, I p_1.Sig.C, I p_1.Sig.S] 29 fun g_1 => ?_
 refine ra [] f0 [] ?_; refine tN ?_; refine sq ?_; obtain ⟨o_7, hG, hG_7⟩ := bind_some hG; refine jn (fun K E a w => ∃ (v_8 : Bool), Js S0 w0 38 ([(25, B v_8)] ++ K) (se E [0, 1]) (v_8 = o_7) a w) ?_ ?_
 ·replace hG := ifB_cases hG; rcases hG with ⟨h_2, hG⟩ | ⟨h_2, hG⟩
  ·refine rg ?_; refine rn 4 [(1, 1, 0, 0)] f0 [(10, B (decide (p_1.Office < 1)))] ?_; refine sb 10 (bt h_2) ?_; refine ra [] f0 [(25, B true)] ?_; refine tN ?_; exact fun a w S hK hE => ⟨true, S, hK.wk, hE.sel [0, 1], Option.some.inj hG⟩
  ·replace hG := ifB_cases hG; rcases hG with ⟨h_3, hG⟩ | ⟨h_3, hG⟩
   ·refine rg ?_; refine rn 4 [(1, 1, 0, 0)] f0 [(10, B (decide (p_1.Office < 1)))] ?_; refine sb 10 (bf h_2) ?_; refine rn 7 [(1, 1, 0, 0)] f0 [(17, B (decide (p_1.Office > ((p_0.length : Nat) : Int))))] ?_; refine sb 17 (bt h_3) ?_; refine ra [] f0 [(25, B true)] ?_; refine tN ?_; exact fun a w S hK hE => ⟨true, S, hK.wk, hE.sel [0, 1], Option.some.inj hG⟩
   ·replace hG := bind_some hG; obtain ⟨v_4, hy_4, hG⟩ := hG; refine rg ?_; refine rn 4 [(1, 1, 0, 0)] f0 [(10, B (decide (p_1.Office < 1)))] ?_; refine sb 10 (bf h_2) ?_; refine rn 7 [(1, 1, 0, 0)] f0 [(17, B (decide (p_1.Office > ((p_0.length : Nat) : Int))))] ?_; refine sb 17 (bf h_3) ?_; refine fx inf102 (gd' (RowC p_0_A p_0_c c_i64 tr p_0) 1) hy_4 fun b_5 o_6 hi_4 => ?_
    refine ra [(2, 1, 1, 0), (1, 0, 0, 0), (0, 1, 0, 0)] (fc (hi_4 .i64) f0) [(25, B (v_4 == 0))] ?_; refine tN ?_; exact fun a w S hK hE => ⟨(v_4 == 0), S, hK.wk, hE.sel [1, 2], Option.some.inj hG⟩
 ·rintro a w ⟨v_8, hJ⟩; refine hJ.go fun ho_ => ?_
  clear hJ; subst ho_; replace hG := hG_7; rcases ifB_cases hG with ⟨h_9, hG⟩ | ⟨h_9, hG⟩
  ·refine sb 25 (bt h_9) ?_; refine ct ?_; refine sq ?_; refine rg ?_; refine ra [] f0 [(4, B false)] ?_; refine tN ?_; refine kR ?_; refine tR ?_; obtain rfl := Option.some.inj hG; exact rt []
  ·refine sb 25 (bf h_9) ?_; refine cf ?_; refine kS ?_; refine tN ?_; refine sq ?_; replace hG := bind_some hG; obtain ⟨v_10, hy_10, hG⟩ := hG; replace hG := bind_some hG; obtain ⟨⟨v_13, v_14⟩, hy_13, hG⟩ := hG; refine qb ?_; refine fx inf102 (gd' (RowC p_0_A p_0_c c_i64 tr p_0) 1) hy_10 fun b_11 o_12 hi_10 => ?_
   refine qn 7 [(2, 1, 1, 0), (1, 0, 0, 0), (0, 1, 0, 0), (0, 5, 1, 0)] (fc (hi_10 .i64) f0) [(32, I v_10), (33, .agg #[I p_1.Office, I p_1.Size, U p_1.Root, I p_1.Sig.C, I p_1.Sig.S])] ?_; refine qc 34 (z_office_Right F v_10 p_1 _ hy_13) hT trivial ?_; refine qa [] f0 [(5, B v_13)] ?_; refine tN ?_; refine sq ?_; refine rg ?_; refine ra [] f0 [(4, B v_13)] ?_; refine tN ?_; refine kR ?_; obtain rfl := Option.some.inj hG; exact rt []
def G_office_Check (F : Nat) (p_0 : Int) (p_1 : KReceipt) : Option (Bool × Int) :=
  Option.bind (Option.bind (G_office_isPublic F p_0) (fun v_2 =>
    ifB (v_2)
      (Option.bind (G_office_formed F p_1.Head) (fun v_4 =>
      ifB (v_4)
        (Option.bind (G_office_logged_formed F (⟨p_1.Entry⟩ : Koffice_logged)) (fun v_6 =>
        ifB (v_6)
          (Option.bind (G_office_between F p_1.Index 0 (IntKind.i64.wrap (p_1.Head.Size - 1))) (fun v_8 =>
          ifB (v_8)
            (some (decide (((p_1.Path.length : Nat) : Int) > 20)))
            (some true)))
          (some true)))
        (some true)))
      (some true)) : Option (Bool)) (fun (v_11 : Bool) => 
    ifB (v_11)
      (some (false, 1))
      (Option.bind (G_office_Right F p_0 p_1.Head) (un2 fun v_13 v_14 =>
      Option.bind (ifB (v_13)
          (Option.bind (G_office_Leaf F p_1.Entry) (fun v_16 =>
          Option.bind (G_tree_Included F p_1.Head.Root v_16 p_1.Index p_1.Head.Size p_1.Path) (fun v_17 =>
          some v_17)))
          (some false) : Option (Bool)) (fun (v_19 : Bool) => 
        some (v_19, v_14)))))
set_option maxRecDepth 100000 in
set_option maxHeartbeats 16000000 in
theorem z_office_Check (F : Nat) (p_0 : Int) (p_1 : KReceiptL) (r : Bool × Int) (hG : G_office_Check F p_0 p_1.p = some r) :
  Cf Tryd.prog 51 [I p_0, .agg #[I p_1.Head.Office, I p_1.Head.Size, U p_1.Head.Root, I p_1.Head.Sig.C, I p_1.Head.Sig.S, I p_1.Index, U p_1.Entry.Doc, I p_1.Entry.Stamp.Lo, I p_1.Entry.Stamp.Hi, .slice p_1.Path_A p_1.Path.length p_1.Path_c]] [KReceiptL.ok p_1] (.tuple #[B r.1, I r.2]) := by
 unfold G_office_Check at hG; refine fi Tryd.func51 rfl rfl (mc KReceiptL.mv m0) fun S0 w0 hT => ?_
 refine sq ?_; refine rg ?_; refine l1 ?_; refine nw 3 vp [I p_1.Head.Office, I p_1.Head.Size, U p_1.Head.Root, I p_1.Head.Sig.C, I p_1.Head.Sig.S, I p_1.Index, U p_1.Entry.Doc, I p_1.Entry.Stamp.Lo, I p_1.Entry.Stamp.Hi, .slice p_1.Path_A p_1.Path.length p_1.Path_c] 38 fun g_1 => ?_
 refine ra [] f0 [] ?_; refine tN ?_; refine sq ?_; obtain ⟨o_10, hG, hG_10⟩ := bind_some hG; refine jn (fun K E a w => ∃ (v_11 : Bool), Js S0 w0 65 ([(39, B v_11)] ++ K) ([.dat (RowC p_1.Path_A p_1.Path_c c_u64 tr p_1.Path)] ++ se E [0]) (v_11 = o_10) a w) ?_ ?_
 ·replace hG := bind_some hG; obtain ⟨v_2, hy_2, hG⟩ := hG; replace hG := ifB_cases hG; rcases hG with ⟨h_3, hG⟩ | ⟨h_3, hG⟩
  ·replace hG := bind_some hG; obtain ⟨v_4, hy_4, hG⟩ := hG; replace hG := ifB_cases hG; rcases hG with ⟨h_5, hG⟩ | ⟨h_5, hG⟩
   ·replace hG := bind_some hG; obtain ⟨v_6, hy_6, hG⟩ := hG; replace hG := ifB_cases hG; rcases hG with ⟨h_7, hG⟩ | ⟨h_7, hG⟩
    ·replace hG := bind_some hG; obtain ⟨v_8, hy_8, hG⟩ := hG; replace hG := ifB_cases hG; rcases hG with ⟨h_9, hG⟩ | ⟨h_9, hG⟩
     ·refine rg ?_; refine rn 1 [] f0 [(8, I p_0)] ?_; refine l1 ?_; refine cl 9 (z_office_isPublic F p_0 _ hy_2) hT trivial ?_; refine rn 2 [] f0 [(11, B (!v_2))] ?_; refine sb 11 (nt h_3) ?_; refine rn 2 [(1, 5, 0, 0)] f0 [(13, .agg #[I p_1.Head.Office, I p_1.Head.Size, U p_1.Head.Root, I p_1.Head.Sig.C, I p_1.Head.Sig.S])] ?_; refine l1 ?_; refine cl 14 (z_office_formed F p_1.Head _ hy_4) hT trivial ?_; refine rn 3 [] f0 [(17, B (!v_4))] ?_; refine sb 17 (nt h_5) ?_; refine rn 3 [(1, 3, 0, 6)] f0 [(20, .agg #[U p_1.Entry.Doc, I p_1.Entry.Stamp.Lo, I p_1.Entry.Stamp.Hi])] ?_; refine l1 ?_; refine cl 21 (z_office_logged_formed F (⟨p_1.Entry⟩ : Koffice_logged) _ hy_6) hT trivial ?_; refine rn 3 [] f0 [(24, B (!v_6))] ?_; refine sb 24 (nt h_7) ?_; refine rn 6 [(1, 1, 0, 5), (2, 1, 0, 1)] f0 [(26, I p_1.Index), (30, I (IntKind.i64.wrap (p_1.Head.Size - 1)))] ?_; refine l1 ?_; refine cl 31 (z_office_between F p_1.Index 0 (IntKind.i64.wrap (p_1.Head.Size - 1)) _ hy_8) hT trivial ?_; refine rn 3 [] f0 [(34, B (!v_8))] ?_; refine sb 34 (nt h_9) ?_; refine ra [(1, 1, 0, 9)] f0 [(39, B (decide (((p_1.Path.length : Nat) : Int) > 20)))] ?_; refine tN ?_; refine fm (RowC p_1.Path_A p_1.Path_c c_u64 tr p_1.Path) (gm (KReceiptL.ok p_1) 1 fun _ _ h => h.f_Path) ?_; exact fun a w S hK hE => ⟨decide (((p_1.Path.length : Nat) : Int) > 20), S, hK.wk, hE.sel [0, 1], Option.some.inj hG⟩
     ·refine rg ?_; refine rn 1 [] f0 [(8, I p_0)] ?_; refine l1 ?_; refine cl 9 (z_office_isPublic F p_0 _ hy_2) hT trivial ?_; refine rn 2 [] f0 [(11, B (!v_2))] ?_; refine sb 11 (nt h_3) ?_; refine rn 2 [(1, 5, 0, 0)] f0 [(13, .agg #[I p_1.Head.Office, I p_1.Head.Size, U p_1.Head.Root, I p_1.Head.Sig.C, I p_1.Head.Sig.S])] ?_; refine l1 ?_; refine cl 14 (z_office_formed F p_1.Head _ hy_4) hT trivial ?_; refine rn 3 [] f0 [(17, B (!v_4))] ?_; refine sb 17 (nt h_5) ?_; refine rn 3 [(1, 3, 0, 6)] f0 [(20, .agg #[U p_1.Entry.Doc, I p_1.Entry.Stamp.Lo, I p_1.Entry.Stamp.Hi])] ?_; refine l1 ?_; refine cl 21 (z_office_logged_formed F (⟨p_1.Entry⟩ : Koffice_logged) _ hy_6) hT trivial ?_; refine rn 3 [] f0 [(24, B (!v_6))] ?_; refine sb 24 (nt h_7) ?_; refine rn 6 [(1, 1, 0, 5), (2, 1, 0, 1)] f0 [(26, I p_1.Index), (30, I (IntKind.i64.wrap (p_1.Head.Size - 1)))] ?_; refine l1 ?_; refine cl 31 (z_office_between F p_1.Index 0 (IntKind.i64.wrap (p_1.Head.Size - 1)) _ hy_8) hT trivial ?_; refine rn 3 [] f0 [(34, B (!v_8))] ?_; refine sb 34 (nf h_9) ?_; refine ra [] f0 [(39, B true)] ?_; refine tN ?_; refine fm (RowC p_1.Path_A p_1.Path_c c_u64 tr p_1.Path) (gm (KReceiptL.ok p_1) 1 fun _ _ h => h.f_Path) ?_; exact fun a w S hK hE => ⟨true, S, hK.wk, hE.sel [0, 1], Option.some.inj hG⟩
    ·refine rg ?_; refine rn 1 [] f0 [(8, I p_0)] ?_; refine l1 ?_; refine cl 9 (z_office_isPublic F p_0 _ hy_2) hT trivial ?_; refine rn 2 [] f0 [(11, B (!v_2))] ?_; refine sb 11 (nt h_3) ?_; refine rn 2 [(1, 5, 0, 0)] f0 [(13, .agg #[I p_1.Head.Office, I p_1.Head.Size, U p_1.Head.Root, I p_1.Head.Sig.C, I p_1.Head.Sig.S])] ?_; refine l1 ?_; refine cl 14 (z_office_formed F p_1.Head _ hy_4) hT trivial ?_; refine rn 3 [] f0 [(17, B (!v_4))] ?_; refine sb 17 (nt h_5) ?_; refine rn 3 [(1, 3, 0, 6)] f0 [(20, .agg #[U p_1.Entry.Doc, I p_1.Entry.Stamp.Lo, I p_1.Entry.Stamp.Hi])] ?_; refine l1 ?_; refine cl 21 (z_office_logged_formed F (⟨p_1.Entry⟩ : Koffice_logged) _ hy_6) hT trivial ?_; refine rn 3 [] f0 [(24, B (!v_6))] ?_; refine sb 24 (nf h_7) ?_; refine ra [] f0 [(39, B true)] ?_; refine tN ?_; refine fm (RowC p_1.Path_A p_1.Path_c c_u64 tr p_1.Path) (gm (KReceiptL.ok p_1) 1 fun _ _ h => h.f_Path) ?_; exact fun a w S hK hE => ⟨true, S, hK.wk, hE.sel [0, 1], Option.some.inj hG⟩
   ·refine rg ?_; refine rn 1 [] f0 [(8, I p_0)] ?_; refine l1 ?_; refine cl 9 (z_office_isPublic F p_0 _ hy_2) hT trivial ?_; refine rn 2 [] f0 [(11, B (!v_2))] ?_; refine sb 11 (nt h_3) ?_; refine rn 2 [(1, 5, 0, 0)] f0 [(13, .agg #[I p_1.Head.Office, I p_1.Head.Size, U p_1.Head.Root, I p_1.Head.Sig.C, I p_1.Head.Sig.S])] ?_; refine l1 ?_; refine cl 14 (z_office_formed F p_1.Head _ hy_4) hT trivial ?_; refine rn 3 [] f0 [(17, B (!v_4))] ?_; refine sb 17 (nf h_5) ?_; refine ra [] f0 [(39, B true)] ?_; refine tN ?_; refine fm (RowC p_1.Path_A p_1.Path_c c_u64 tr p_1.Path) (gm (KReceiptL.ok p_1) 1 fun _ _ h => h.f_Path) ?_; exact fun a w S hK hE => ⟨true, S, hK.wk, hE.sel [0, 1], Option.some.inj hG⟩
  ·refine rg ?_; refine rn 1 [] f0 [(8, I p_0)] ?_; refine l1 ?_; refine cl 9 (z_office_isPublic F p_0 _ hy_2) hT trivial ?_; refine rn 2 [] f0 [(11, B (!v_2))] ?_; refine sb 11 (nf h_3) ?_; refine ra [] f0 [(39, B true)] ?_; refine tN ?_; refine fm (RowC p_1.Path_A p_1.Path_c c_u64 tr p_1.Path) (gm (KReceiptL.ok p_1) 1 fun _ _ h => h.f_Path) ?_; exact fun a w S hK hE => ⟨true, S, hK.wk, hE.sel [0, 1], Option.some.inj hG⟩
 ·rintro a w ⟨v_11, hJ⟩; refine hJ.go fun ho_ => ?_
  clear hJ; subst ho_; replace hG := hG_10; rcases ifB_cases hG with ⟨h_12, hG⟩ | ⟨h_12, hG⟩
  ·refine sb 39 (bt h_12) ?_; refine ct ?_; refine sq ?_; refine rg ?_; refine ra [] f0 [(4, B false), (5, I 1)] ?_; refine tN ?_; refine kR ?_; refine tR ?_; obtain rfl := Option.some.inj hG; exact rt []
  ·refine sb 39 (bf h_12) ?_; refine cf ?_; refine kS ?_; refine tN ?_; refine sq ?_; replace hG := bind_some hG; obtain ⟨⟨v_13, v_14⟩, hy_13, hG⟩ := hG; refine rg ?_; refine rn 3 [(2, 5, 1, 0)] f0 [(41, I p_0), (43, .agg #[I p_1.Head.Office, I p_1.Head.Size, U p_1.Head.Root, I p_1.Head.Sig.C, I p_1.Head.Sig.S])] ?_; refine l1 ?_; refine cl 44 (z_office_Right F p_0 p_1.Head _ hy_13) hT trivial ?_; refine ra [] f0 [(6, B v_13), (7, I v_14)] ?_; refine tN ?_; obtain ⟨o_18, hG, hG_18⟩ := bind_some hG; refine jn (fun K E a w => ∃ (v_19 : Bool), Js S0 w0 65 ([(4, B v_19), (5, I v_14)] ++ K) (se E []) (v_19 = o_18) a w) ?_ ?_
   ·replace hG := ifB_cases hG; rcases hG with ⟨h_15, hG⟩ | ⟨h_15, hG⟩
    ·replace hG := bind_some hG; obtain ⟨v_16, hy_16, hG⟩ := hG; replace hG := bind_some hG; obtain ⟨v_17, hy_17, hG⟩ := hG; refine qb ?_; refine qn 2 [] f0 [(48, B v_13)] ?_; refine sb 48 (bt h_15) ?_; refine qn 5 [(2, 1, 1, 2), (1, 3, 1, 6)] f0 [(51, U p_1.Head.Root), (53, .agg #[U p_1.Entry.Doc, I p_1.Entry.Stamp.Lo, I p_1.Entry.Stamp.Hi])] ?_; refine qc 54 (z_office_Leaf F p_1.Entry _ hy_16) hT trivial ?_; refine qn 7 [(1, 1, 1, 5), (2, 1, 1, 1), (1, 1, 1, 9)] f0 [(56, I p_1.Index), (59, I p_1.Head.Size), (61, .slice p_1.Path_A p_1.Path.length p_1.Path_c)] ?_; refine qc 62 (z_tree_Included F p_1.Head.Root v_16 p_1.Index p_1.Head.Size p_1.Path_A p_1.Path_c p_1.Path _ hy_17) hT ⟨ga 0, trivial⟩ ?_; refine qa [] f0 [(4, B v_17), (5, I v_14)] ?_; refine tN ?_; exact fun a w S hK hE => ⟨v_17, S, hK.wk, hE.sel [], Option.some.inj hG⟩
    ·refine qb ?_; refine qn 2 [] f0 [(48, B v_13)] ?_; refine sb 48 (bf h_15) ?_; refine qa [] f0 [(4, B false), (5, I v_14)] ?_; refine tN ?_; exact fun a w S hK hE => ⟨false, S, hK.wk, hE.sel [], Option.some.inj hG⟩
   ·rintro a w ⟨v_19, hJ⟩; refine hJ.go fun ho_ => ?_
    clear hJ; subst ho_; replace hG := hG_18; refine kR ?_; obtain rfl := Option.some.inj hG; exact rt []
def G_cross_Forks (F : Nat) (p_0 : Int) (p_1 : KHead) (p_2 : KHead) (p_3 : List Int) : Option (Bool × Int) :=
  Option.bind (G_office_Right F p_0 p_1) (un2 fun v_3 v_4 =>
  Option.bind (G_office_Right F p_0 p_2) (un2 fun v_5 v_6 =>
  Option.bind (ifB ((v_4 == 0))
      (ifB ((v_6 == 0))
        (some (decide (((p_3.length : Nat) : Int) > 21)))
        (some true))
      (some true) : Option (Bool)) (fun (v_10 : Bool) => 
    ifB (v_10)
      (some (false, 1))
      (Option.bind (ifB (v_3)
          (ifB (v_5)
            (ifB ((p_1.Office == p_2.Office))
              (some (decide (p_1.Size > p_2.Size)))
              (some true))
            (some true))
          (some true) : Option (Bool)) (fun (v_16 : Bool) => 
        ifB (v_16)
          (some (false, 0))
          (ifB ((p_1.Size == p_2.Size))
            (Option.bind (ifB ((((p_3.length : Nat) : Int) == 0))
                (some (!(p_1.Root == p_2.Root)))
                (some false) : Option (Bool)) (fun (v_21 : Bool) => 
              some (v_21, 0)))
            (Option.bind (ifB ((((p_3.length : Nat) : Int) == 0))
                (some true)
                (Option.bind (ixI p_3 0) (fun v_23 =>
                some (v_23 == p_1.Root))) : Option (Bool)) (fun (v_27 : Bool) => 
              ifB (v_27)
                (some (false, 0))
                (Option.bind (ixI p_3 0) (fun v_29 =>
                Option.bind (slI p_3 1 ((p_3.length : Nat) : Int)) (fun v_32 =>
                Option.bind (G_tree_Extended F v_29 p_2.Root p_1.Size p_2.Size v_32) (fun v_33 =>
                some (v_33, 0)))))))))))))
set_option maxRecDepth 100000 in
set_option maxHeartbeats 16000000 in
theorem z_cross_Forks (F : Nat) (p_0 : Int) (p_1 : KHead) (p_2 : KHead) (p_3_A : Option Addr) (p_3_c : Nat) (p_3 : List Int) (r : Bool × Int) (hG : G_cross_Forks F p_0 p_1 p_2 p_3 = some r) :
  Cf Tryd.prog 19 [I p_0, .agg #[I p_1.Office, I p_1.Size, U p_1.Root, I p_1.Sig.C, I p_1.Sig.S], .agg #[I p_2.Office, I p_2.Size, U p_2.Root, I p_2.Sig.C, I p_2.Sig.S], .slice p_3_A p_3.length p_3_c] [RowC p_3_A p_3_c c_u64 tr p_3] (.tuple #[B r.1, I r.2]) := by
 unfold G_cross_Forks at hG; refine fi Tryd.func19 rfl rfl (mr tr_mv m0) fun S0 w0 hT => ?_
 refine sq ?_; refine rg ?_; refine l1 ?_; refine nw 5 vp [I p_1.Office, I p_1.Size, U p_1.Root, I p_1.Sig.C, I p_1.Sig.S] 29 fun g_1 => ?_
 refine l1 ?_; refine nw 6 vp [I p_2.Office, I p_2.Size, U p_2.Root, I p_2.Sig.C, I p_2.Sig.S] 29 fun g_2 => ?_
 refine ra [] f0 [] ?_; refine tN ?_; refine sq ?_; replace hG := bind_some hG; obtain ⟨⟨v_3, v_4⟩, hy_3, hG⟩ := hG; refine rg ?_; refine rn 2 [(1, 5, 1, 0)] f0 [(15, I p_0), (16, .agg #[I p_1.Office, I p_1.Size, U p_1.Root, I p_1.Sig.C, I p_1.Sig.S])] ?_; refine l1 ?_; refine cl 17 (z_office_Right F p_0 p_1 _ hy_3) hT trivial ?_; refine ra [] f0 [(10, B v_3), (11, I v_4)] ?_; refine tN ?_; refine sq ?_; replace hG := bind_some hG; obtain ⟨⟨v_5, v_6⟩, hy_5, hG⟩ := hG; refine rg ?_; refine rn 2 [(1, 5, 0, 0)] f0 [(21, I p_0), (22, .agg #[I p_2.Office, I p_2.Size, U p_2.Root, I p_2.Sig.C, I p_2.Sig.S])] ?_; refine l1 ?_; refine cl 23 (z_office_Right F p_0 p_2 _ hy_5) hT trivial ?_; refine ra [] f0 [(12, B v_5), (13, I v_6)] ?_; refine tN ?_; refine sq ?_; obtain ⟨o_9, hG, hG_9⟩ := bind_some hG; refine jn (fun K E a w => ∃ (v_10 : Bool), Js S0 w0 98 ([(36, B v_10)] ++ K) (se E [0, 1, 2]) (v_10 = o_9) a w) ?_ ?_
 ·replace hG := ifB_cases hG; rcases hG with ⟨h_7, hG⟩ | ⟨h_7, hG⟩
  ·replace hG := ifB_cases hG; rcases hG with ⟨h_8, hG⟩ | ⟨h_8, hG⟩
   ·refine rg ?_; refine rn 3 [] f0 [(28, B (!(v_4 == 0)))] ?_; refine sb 28 (nt h_7) ?_; refine rn 4 [] f0 [(32, B (!(v_6 == 0)))] ?_; refine sb 32 (nt h_8) ?_; refine ra [] f0 [(36, B (decide (((p_3.length : Nat) : Int) > 21)))] ?_; refine tN ?_; exact fun a w S hK hE => ⟨decide (((p_3.length : Nat) : Int) > 21), S, hK.wk, hE.sel [0, 1, 2], Option.some.inj hG⟩
   ·refine rg ?_; refine rn 3 [] f0 [(28, B (!(v_4 == 0)))] ?_; refine sb 28 (nt h_7) ?_; refine rn 4 [] f0 [(32, B (!(v_6 == 0)))] ?_; refine sb 32 (nf h_8) ?_; refine ra [] f0 [(36, B true)] ?_; refine tN ?_; exact fun a w S hK hE => ⟨true, S, hK.wk, hE.sel [0, 1, 2], Option.some.inj hG⟩
  ·refine rg ?_; refine rn 3 [] f0 [(28, B (!(v_4 == 0)))] ?_; refine sb 28 (nf h_7) ?_; refine ra [] f0 [(36, B true)] ?_; refine tN ?_; exact fun a w S hK hE => ⟨true, S, hK.wk, hE.sel [0, 1, 2], Option.some.inj hG⟩
 ·rintro a w ⟨v_10, hJ⟩; refine hJ.go fun ho_ => ?_
  clear hJ; subst ho_; replace hG := hG_9; rcases ifB_cases hG with ⟨h_11, hG⟩ | ⟨h_11, hG⟩
  ·refine sb 36 (bt h_11) ?_; refine ct ?_; refine sq ?_; refine rg ?_; refine ra [] f0 [(8, B false), (9, I 1)] ?_; refine tN ?_; refine kR ?_; refine tR ?_; obtain rfl := Option.some.inj hG; exact rt []
  ·refine sb 36 (bf h_11) ?_; refine cf ?_; refine kS ?_; refine tN ?_; refine sq ?_; refine bk ?_; obtain ⟨o_15, hG, hG_15⟩ := bind_some hG; refine jn (fun K E a w => ∃ (v_16 : Bool), Js S0 w0 98 ([(37, B v_16)] ++ K) (se E [0, 1, 2]) (v_16 = o_15) a w) ?_ ?_
   ·replace hG := ifB_cases hG; rcases hG with ⟨h_12, hG⟩ | ⟨h_12, hG⟩
    ·replace hG := ifB_cases hG; rcases hG with ⟨h_13, hG⟩ | ⟨h_13, hG⟩
     ·replace hG := ifB_cases hG; rcases hG with ⟨h_14, hG⟩ | ⟨h_14, hG⟩
      ·refine rg ?_; refine rn 3 [] f0 [(40, B (!v_3))] ?_; refine sb 40 (nt h_12) ?_; refine rn 4 [] f0 [(44, B (!v_5))] ?_; refine sb 44 (nt h_13) ?_; refine rn 7 [(1, 1, 1, 0), (1, 1, 0, 0)] f0 [(51, B (!(p_1.Office == p_2.Office)))] ?_; refine sb 51 (nt h_14) ?_; refine ra [(1, 1, 1, 1), (1, 1, 0, 1)] f0 [(37, B (decide (p_1.Size > p_2.Size)))] ?_; refine tN ?_; exact fun a w S hK hE => ⟨decide (p_1.Size > p_2.Size), S, hK.wk, hE.sel [0, 1, 2], Option.some.inj hG⟩
      ·refine rg ?_; refine rn 3 [] f0 [(40, B (!v_3))] ?_; refine sb 40 (nt h_12) ?_; refine rn 4 [] f0 [(44, B (!v_5))] ?_; refine sb 44 (nt h_13) ?_; refine rn 7 [(1, 1, 1, 0), (1, 1, 0, 0)] f0 [(51, B (!(p_1.Office == p_2.Office)))] ?_; refine sb 51 (nf h_14) ?_; refine ra [] f0 [(37, B true)] ?_; refine tN ?_; exact fun a w S hK hE => ⟨true, S, hK.wk, hE.sel [0, 1, 2], Option.some.inj hG⟩
     ·refine rg ?_; refine rn 3 [] f0 [(40, B (!v_3))] ?_; refine sb 40 (nt h_12) ?_; refine rn 4 [] f0 [(44, B (!v_5))] ?_; refine sb 44 (nf h_13) ?_; refine ra [] f0 [(37, B true)] ?_; refine tN ?_; exact fun a w S hK hE => ⟨true, S, hK.wk, hE.sel [0, 1, 2], Option.some.inj hG⟩
    ·refine rg ?_; refine rn 3 [] f0 [(40, B (!v_3))] ?_; refine sb 40 (nf h_12) ?_; refine ra [] f0 [(37, B true)] ?_; refine tN ?_; exact fun a w S hK hE => ⟨true, S, hK.wk, hE.sel [0, 1, 2], Option.some.inj hG⟩
   ·rintro a w ⟨v_16, hJ⟩; refine hJ.go fun ho_ => ?_
    clear hJ; subst ho_; replace hG := hG_15; rcases ifB_cases hG with ⟨h_17, hG⟩ | ⟨h_17, hG⟩
    ·refine sb 37 (bt h_17) ?_; refine ct ?_; refine sq ?_; refine rg ?_; refine ra [] f0 [(8, B false), (9, I 0)] ?_; refine tN ?_; refine kR ?_; refine hR ?_; refine tR ?_; obtain rfl := Option.some.inj hG; exact rt []
    ·refine sb 37 (bf h_17) ?_; refine cf ?_; refine sq ?_; refine rg ?_; refine ra [(1, 1, 1, 1), (1, 1, 0, 1)] f0 [(58, B (p_1.Size == p_2.Size))] ?_; refine tN ?_; rcases ifB_cases hG with ⟨h_18, hG⟩ | ⟨h_18, hG⟩
     ·refine sb 58 (bt h_18) ?_; refine ct ?_; obtain ⟨o_20, hG, hG_20⟩ := bind_some hG; refine jn (fun K E a w => ∃ (v_21 : Bool), Js S0 w0 98 ([(8, B v_21), (9, I 0)] ++ K) (se E []) (v_21 = o_20) a w) ?_ ?_
      ·replace hG := ifB_cases hG; rcases hG with ⟨h_19, hG⟩ | ⟨h_19, hG⟩
       ·refine rg ?_; refine rn 4 [] f0 [(67, B (((p_3.length : Nat) : Int) == 0))] ?_; refine sb 67 (bt h_19) ?_; refine ra [(1, 1, 1, 2), (1, 1, 0, 2)] f0 [(8, B (!(p_1.Root == p_2.Root))), (9, I 0)] ?_; refine tN ?_; exact fun a w S hK hE => ⟨!(p_1.Root == p_2.Root), S, hK.wk, hE.sel [], Option.some.inj hG⟩
       ·refine rg ?_; refine rn 4 [] f0 [(67, B (((p_3.length : Nat) : Int) == 0))] ?_; refine sb 67 (bf h_19) ?_; refine ra [] f0 [(8, B false), (9, I 0)] ?_; refine tN ?_; exact fun a w S hK hE => ⟨false, S, hK.wk, hE.sel [], Option.some.inj hG⟩
      ·rintro a w ⟨v_21, hJ⟩; refine hJ.go fun ho_ => ?_
       clear hJ; subst ho_; replace hG := hG_20; refine kR ?_; refine hR ?_; refine tR ?_; obtain rfl := Option.some.inj hG; exact rt []
     ·refine sb 58 (bf h_18) ?_; refine cf ?_; obtain ⟨o_26, hG, hG_26⟩ := bind_some hG; refine jn (fun K E a w => ∃ (v_27 : Bool), Js S0 w0 98 ([(74, B v_27)] ++ K) (se E [0, 1, 2]) (v_27 = o_26) a w) ?_ ?_
      ·replace hG := ifB_cases hG; rcases hG with ⟨h_22, hG⟩ | ⟨h_22, hG⟩
       ·refine qb ?_; refine qn 4 [] f0 [(78, B (((p_3.length : Nat) : Int) == 0))] ?_; refine sb 78 (bt h_22) ?_; refine qa [] f0 [(74, B true)] ?_; refine tN ?_; exact fun a w S hK hE => ⟨true, S, hK.wk, hE.sel [0, 1, 2], Option.some.inj hG⟩
       ·replace hG := bind_some hG; obtain ⟨v_23, hy_23, hG⟩ := hG; refine qb ?_; refine qn 4 [] f0 [(78, B (((p_3.length : Nat) : Int) == 0))] ?_; refine sb 78 (bf h_22) ?_; refine fx inf32 (gd' (RowC p_3_A p_3_c c_u64 tr p_3) 2) hy_23 fun b_24 o_25 hi_23 => ?_
        refine qa [(1, 0, 0, 0), (0, 1, 0, 0), (1, 1, 2, 2)] (fc (hi_23 .i64) f0) [(74, B (v_23 == p_1.Root))] ?_; refine tN ?_; exact fun a w S hK hE => ⟨(v_23 == p_1.Root), S, hK.wk, hE.sel [1, 2, 3], Option.some.inj hG⟩
      ·rintro a w ⟨v_27, hJ⟩; refine hJ.go fun ho_ => ?_
       clear hJ; subst ho_; replace hG := hG_26; rcases ifB_cases hG with ⟨h_28, hG⟩ | ⟨h_28, hG⟩
       ·refine sb 74 (bt h_28) ?_; refine ct ?_; refine sq ?_; refine rg ?_; refine ra [] f0 [(8, B false), (9, I 0)] ?_; refine tN ?_; refine kR ?_; refine hR ?_; refine tR ?_; obtain rfl := Option.some.inj hG; exact rt []
       ·refine sb 74 (bf h_28) ?_; refine cf ?_; refine kS ?_; refine hN ?_; refine tN ?_; refine sq ?_; replace hG := bind_some hG; obtain ⟨v_29, hy_29, hG⟩ := hG; replace hG := bind_some hG; obtain ⟨v_32, hy_32, hG⟩ := hG; replace hG := bind_some hG; obtain ⟨v_33, hy_33, hG⟩ := hG; refine qb ?_; refine fx inf32 (gd' (RowC p_3_A p_3_c c_u64 tr p_3) 2) hy_29 fun b_30 o_31 hi_29 => ?_
        refine fp true false inf32 (gd' (RowC p_3_A p_3_c c_u64 tr p_3) 3) hy_32 fun v_32_A v_32_c hp_32 => ?_
        refine qn 11 [(1, 0, 0, 0), (0, 1, 1, 0), (1, 1, 2, 2), (1, 1, 3, 1), (1, 1, 2, 1), (1, 0, 0, 0)] (fc (hi_29 .i64) (fc (hp_32 .i64 .i64) f0)) [(88, U v_29), (90, U p_2.Root), (92, I p_1.Size), (94, I p_2.Size), (96, .slice v_32_A v_32.length v_32_c)] ?_; refine qc 97 (z_tree_Extended F v_29 p_2.Root p_1.Size p_2.Size v_32_A v_32_c v_32 _ hy_33) hT ⟨ga 0, trivial⟩ ?_; refine qa [] f0 [(8, B v_33), (9, I 0)] ?_; refine tN ?_; refine kR ?_; obtain rfl := Option.some.inj hG; exact rt []
end Go.Proofs.YtiijddjfiojfaaaDoor
namespace Go.Proofs.YtiijddjfiojfaaaDoor
open Go.RowKit Go.Maps
end Go.Proofs.YtiijddjfiojfaaaDoor
namespace Go.Proofs.YtiijddjfiojfaaaDoor
open Go.RowKit Go.Maps
def G_cross_Witness (F : Nat) (p_0 : KOffice) (p_1 : KHead) (p_2 : KHead) (p_3 : KOffice) (p_4 : KHead) : Option (KHop × Int) :=
  Option.bind (Option.bind (G_office_Valid F p_0) (fun v_7 =>
    ifB (v_7)
      (Option.bind (G_office_Valid F p_3) (fun v_9 =>
      ifB (v_9)
        (Option.bind (G_cross_formed F p_1) (fun v_11 =>
        ifB (v_11)
          (Option.bind (G_cross_formed F p_2) (fun v_13 =>
          ifB (v_13)
            (Option.bind (G_cross_formed F p_4) (fun v_15 =>
            ifB (v_15)
              (ifB ((p_0.ID == p_3.ID))
                (some true)
                (some (decide (p_1.Size > p_2.Size))))
              (some true)))
            (some true)))
          (some true)))
        (some true)))
      (some true)) : Option (Bool)) (fun (v_19 : Bool) => 
    ifB (v_19)
      (some ((⟨(⟨0, 0, 0, (⟨0, 0⟩ : KSig)⟩ : KHead), ([] : List Int), (⟨(⟨0, 0, 0, (⟨0, 0⟩ : KSig)⟩ : KHead), 0, (⟨0, (⟨0, 0⟩ : KInterval)⟩ : KEntry), ([] : List Int)⟩ : KReceipt)⟩ : KHop), 1))
      (Option.bind (Option.bind (G_cross_has F p_0 p_1) (fun v_21 =>
        ifB (v_21)
          (Option.bind (G_cross_has F p_0 p_2) (fun v_23 =>
          ifB (v_23)
            (Option.bind (G_cross_has F p_3 p_4) (fun v_25 =>
            some (!v_25)))
            (some true)))
          (some true)) : Option (Bool)) (fun (v_27 : Bool) => 
        ifB (v_27)
          (some ((⟨(⟨0, 0, 0, (⟨0, 0⟩ : KSig)⟩ : KHead), ([] : List Int), (⟨(⟨0, 0, 0, (⟨0, 0⟩ : KSig)⟩ : KHead), 0, (⟨0, (⟨0, 0⟩ : KInterval)⟩ : KEntry), ([] : List Int)⟩ : KReceipt)⟩ : KHop), 33))
          (Option.bind (G_cross_Digest F p_2) (fun v_29 =>
          Option.bind (slI p_3.Entries 0 p_4.Size) (fun v_31 =>
          Option.bind (Option.bind (Option.bind (iter (σ := Int) (ρ := Unit ⊕ Int) (fun (v_49 : Int) => 
                  (ifB (decide (v_49 < ((v_31.length : Nat) : Int)))
                    (Option.bind (ixI v_31 v_49) (fun v_52 =>
                    Option.bind (some () : Option (Unit)) (fun (_ : Unit) => 
                      ifB ((v_52.Doc == v_29))
                        (some (.inr (.inr v_49)))
                        (some (.inl (IntKind.i64.wrap (v_49 + 1)))))))
                    (some (.inr (.inl ()))) : Option (Int ⊕ (Unit ⊕ Int)))) F 0) (Sum.elim (fun (_ : Unit) => 
                some (.inl ())) (fun (v_59 : Int) => 
                some (.inr v_59))) : Option (Unit ⊕ Int)) (Sum.elim (fun (_ : Unit) => 
              some (-1)) (fun (v_61 : Int) => 
              some v_61)) : Option (Int)) (fun (v_62 : Int) => 
            ifB (decide (v_62 < 0))
              (some ((⟨(⟨0, 0, 0, (⟨0, 0⟩ : KSig)⟩ : KHead), ([] : List Int), (⟨(⟨0, 0, 0, (⟨0, 0⟩ : KSig)⟩ : KHead), 0, (⟨0, (⟨0, 0⟩ : KInterval)⟩ : KEntry), ([] : List Int)⟩ : KReceipt)⟩ : KHop), 4))
              (Option.bind (G_cross_values F p_0 p_2.Size) (fun v_95 =>
              Option.bind (G_tree_Extend F v_95 p_1.Size) (un2 fun v_96 v_97 =>
              ifB ((v_97 == 0))
                (Option.bind (G_office_Prove F p_3 p_4 v_62) (un2 fun v_99 v_100 =>
                some ((⟨p_2, v_96, v_99⟩ : KHop), v_100)))
                (some ((⟨(⟨0, 0, 0, (⟨0, 0⟩ : KSig)⟩ : KHead), ([] : List Int), (⟨(⟨0, 0, 0, (⟨0, 0⟩ : KSig)⟩ : KHead), 0, (⟨0, (⟨0, 0⟩ : KInterval)⟩ : KEntry), ([] : List Int)⟩ : KReceipt)⟩ : KHop), v_97))))))))))))
set_option maxRecDepth 100000 in
set_option maxHeartbeats 16000000 in
theorem z_cross_Witness (F : Nat) (p_0 : KOfficeL) (p_1 : KHead) (p_2 : KHead) (p_3 : KOfficeL) (p_4 : KHead) (r : KHop × Int) (hG : G_cross_Witness F p_0.p p_1 p_2 p_3.p p_4 = some r) :
  Cn Tryd.prog 10 [.agg #[I p_0.ID, .slice p_0.Entries_A p_0.Entries.length p_0.Entries_c], .agg #[I p_1.Office, I p_1.Size, U p_1.Root, I p_1.Sig.C, I p_1.Sig.S], .agg #[I p_2.Office, I p_2.Size, U p_2.Root, I p_2.Sig.C, I p_2.Sig.S], .agg #[I p_3.ID, .slice p_3.Entries_A p_3.Entries.length p_3.Entries_c], .agg #[I p_4.Office, I p_4.Size, U p_4.Root, I p_4.Sig.C, I p_4.Sig.S]] [KOfficeL.ok p_0, KOfficeL.ok p_3] (fun q : KHopL => r.1 = q.p) (fun q => .tuple #[.agg #[I q.Of.Office, I q.Of.Size, U q.Of.Root, I q.Of.Sig.C, I q.Of.Sig.S, .slice q.Grow_A q.Grow.length q.Grow_c, I q.By.Head.Office, I q.By.Head.Size, U q.By.Head.Root, I q.By.Head.Sig.C, I q.By.Head.Sig.S, I q.By.Index, U q.By.Entry.Doc, I q.By.Entry.Stamp.Lo, I q.By.Entry.Stamp.Hi, .slice q.By.Path_A q.By.Path.length q.By.Path_c], I r.2]) (fun q => [KHopL.ok q]) := by
 unfold G_cross_Witness at hG; refine fin Tryd.func10 rfl rfl (mc KOfficeL.mv (mc KOfficeL.mv m0)) fun S0 w0 hT => ?_
 refine sq ?_; refine rg ?_; refine l1 ?_; refine nw 5 vp [I p_0.ID, .slice p_0.Entries_A p_0.Entries.length p_0.Entries_c] 24 fun g_1 => ?_
 refine l1 ?_; refine nw 6 vp [I p_1.Office, I p_1.Size, U p_1.Root, I p_1.Sig.C, I p_1.Sig.S] 29 fun g_2 => ?_
 refine l1 ?_; refine nw 7 vp [I p_2.Office, I p_2.Size, U p_2.Root, I p_2.Sig.C, I p_2.Sig.S] 29 fun g_3 => ?_
 refine l1 ?_; refine nw 8 vp [I p_3.ID, .slice p_3.Entries_A p_3.Entries.length p_3.Entries_c] 24 fun g_4 => ?_
 refine l1 ?_; refine nw 9 vp [I p_4.Office, I p_4.Size, U p_4.Root, I p_4.Sig.C, I p_4.Sig.S] 29 fun g_5 => ?_
 refine l1 ?_; refine nw 10 vp [I 0, I 0, U 0, I 0, I 0, .slice none 0 0, I 0, I 0, U 0, I 0, I 0, I 0, U 0, I 0, I 0, .slice none 0 0] 40 fun g_6 => ?_
 refine ra [] f0 [] ?_; refine tN ?_; refine sq ?_; obtain ⟨o_18, hG, hG_18⟩ := bind_some hG; refine jn (fun K E a w => ∃ (v_19 : Bool), Js S0 w0 110 ([(53, B v_19)] ++ K) ([.dat (RowC p_0.Entries_A p_0.Entries_c KEntry.cells tr p_0.Entries), .dat (RowC p_3.Entries_A p_3.Entries_c KEntry.cells tr p_3.Entries)] ++ se E [0, 1, 2, 3, 4, 5]) (v_19 = o_18) a w) ?_ ?_
 ·replace hG := bind_some hG; obtain ⟨v_7, hy_7, hG⟩ := hG; replace hG := ifB_cases hG; rcases hG with ⟨h_8, hG⟩ | ⟨h_8, hG⟩
  ·replace hG := bind_some hG; obtain ⟨v_9, hy_9, hG⟩ := hG; replace hG := ifB_cases hG; rcases hG with ⟨h_10, hG⟩ | ⟨h_10, hG⟩
   ·replace hG := bind_some hG; obtain ⟨v_11, hy_11, hG⟩ := hG; replace hG := ifB_cases hG; rcases hG with ⟨h_12, hG⟩ | ⟨h_12, hG⟩
    ·replace hG := bind_some hG; obtain ⟨v_13, hy_13, hG⟩ := hG; replace hG := ifB_cases hG; rcases hG with ⟨h_14, hG⟩ | ⟨h_14, hG⟩
     ·replace hG := bind_some hG; obtain ⟨v_15, hy_15, hG⟩ := hG; replace hG := ifB_cases hG; rcases hG with ⟨h_16, hG⟩ | ⟨h_16, hG⟩
      ·replace hG := ifB_cases hG; rcases hG with ⟨h_17, hG⟩ | ⟨h_17, hG⟩
       ·refine rg ?_; refine rn 1 [(0, 2, 5, 0)] f0 [(17, .agg #[I p_0.ID, .slice p_0.Entries_A p_0.Entries.length p_0.Entries_c])] ?_; refine l1 ?_; refine cl 18 (z_office_Valid F p_0 _ hy_7) hT ⟨(gi 6).a, trivial⟩ ?_; refine rn 2 [] f0 [(20, B (!v_7))] ?_; refine sb 20 (nt h_8) ?_; refine rn 1 [(0, 2, 2, 0)] f0 [(21, .agg #[I p_3.ID, .slice p_3.Entries_A p_3.Entries.length p_3.Entries_c])] ?_; refine l1 ?_; refine cl 22 (z_office_Valid F p_3 _ hy_9) hT ⟨(gi 7).a, trivial⟩ ?_; refine rn 3 [] f0 [(25, B (!v_9))] ?_; refine sb 25 (nt h_10) ?_; refine rn 1 [(0, 5, 4, 0)] f0 [(26, .agg #[I p_1.Office, I p_1.Size, U p_1.Root, I p_1.Sig.C, I p_1.Sig.S])] ?_; refine l1 ?_; refine cl 27 (z_cross_formed F p_1 _ hy_11) hT trivial ?_; refine rn 3 [] f0 [(30, B (!v_11))] ?_; refine sb 30 (nt h_12) ?_; refine rn 1 [(0, 5, 3, 0)] f0 [(31, .agg #[I p_2.Office, I p_2.Size, U p_2.Root, I p_2.Sig.C, I p_2.Sig.S])] ?_; refine l1 ?_; refine cl 32 (z_cross_formed F p_2 _ hy_13) hT trivial ?_; refine rn 3 [] f0 [(35, B (!v_13))] ?_; refine sb 35 (nt h_14) ?_; refine rn 1 [(0, 5, 1, 0)] f0 [(36, .agg #[I p_4.Office, I p_4.Size, U p_4.Root, I p_4.Sig.C, I p_4.Sig.S])] ?_; refine l1 ?_; refine cl 37 (z_cross_formed F p_4 _ hy_15) hT trivial ?_; refine rn 3 [] f0 [(40, B (!v_15))] ?_; refine sb 40 (nt h_16) ?_; refine rn 7 [(1, 1, 5, 0), (1, 1, 2, 0)] f0 [(47, B (p_0.ID == p_3.ID))] ?_; refine sb 47 (bt h_17) ?_; refine ra [] f0 [(53, B true)] ?_; refine tN ?_; refine fm (RowC p_0.Entries_A p_0.Entries_c KEntry.cells tr p_0.Entries) (gm (KOfficeL.ok p_0) 6 fun _ _ h => h.f_Entries) ?_; refine fm (RowC p_3.Entries_A p_3.Entries_c KEntry.cells tr p_3.Entries) (gm (KOfficeL.ok p_3) 8 fun _ _ h => h.f_Entries) ?_; exact fun a w S hK hE => ⟨true, S, hK.wk, hE.sel [1, 0, 2, 3, 4, 5, 6, 7], Option.some.inj hG⟩
       ·refine rg ?_; refine rn 1 [(0, 2, 5, 0)] f0 [(17, .agg #[I p_0.ID, .slice p_0.Entries_A p_0.Entries.length p_0.Entries_c])] ?_; refine l1 ?_; refine cl 18 (z_office_Valid F p_0 _ hy_7) hT ⟨(gi 6).a, trivial⟩ ?_; refine rn 2 [] f0 [(20, B (!v_7))] ?_; refine sb 20 (nt h_8) ?_; refine rn 1 [(0, 2, 2, 0)] f0 [(21, .agg #[I p_3.ID, .slice p_3.Entries_A p_3.Entries.length p_3.Entries_c])] ?_; refine l1 ?_; refine cl 22 (z_office_Valid F p_3 _ hy_9) hT ⟨(gi 7).a, trivial⟩ ?_; refine rn 3 [] f0 [(25, B (!v_9))] ?_; refine sb 25 (nt h_10) ?_; refine rn 1 [(0, 5, 4, 0)] f0 [(26, .agg #[I p_1.Office, I p_1.Size, U p_1.Root, I p_1.Sig.C, I p_1.Sig.S])] ?_; refine l1 ?_; refine cl 27 (z_cross_formed F p_1 _ hy_11) hT trivial ?_; refine rn 3 [] f0 [(30, B (!v_11))] ?_; refine sb 30 (nt h_12) ?_; refine rn 1 [(0, 5, 3, 0)] f0 [(31, .agg #[I p_2.Office, I p_2.Size, U p_2.Root, I p_2.Sig.C, I p_2.Sig.S])] ?_; refine l1 ?_; refine cl 32 (z_cross_formed F p_2 _ hy_13) hT trivial ?_; refine rn 3 [] f0 [(35, B (!v_13))] ?_; refine sb 35 (nt h_14) ?_; refine rn 1 [(0, 5, 1, 0)] f0 [(36, .agg #[I p_4.Office, I p_4.Size, U p_4.Root, I p_4.Sig.C, I p_4.Sig.S])] ?_; refine l1 ?_; refine cl 37 (z_cross_formed F p_4 _ hy_15) hT trivial ?_; refine rn 3 [] f0 [(40, B (!v_15))] ?_; refine sb 40 (nt h_16) ?_; refine rn 7 [(1, 1, 5, 0), (1, 1, 2, 0)] f0 [(47, B (p_0.ID == p_3.ID))] ?_; refine sb 47 (bf h_17) ?_; refine ra [(1, 1, 4, 1), (1, 1, 3, 1)] f0 [(53, B (decide (p_1.Size > p_2.Size)))] ?_; refine tN ?_; refine fm (RowC p_0.Entries_A p_0.Entries_c KEntry.cells tr p_0.Entries) (gm (KOfficeL.ok p_0) 6 fun _ _ h => h.f_Entries) ?_; refine fm (RowC p_3.Entries_A p_3.Entries_c KEntry.cells tr p_3.Entries) (gm (KOfficeL.ok p_3) 8 fun _ _ h => h.f_Entries) ?_; exact fun a w S hK hE => ⟨decide (p_1.Size > p_2.Size), S, hK.wk, hE.sel [1, 0, 2, 3, 4, 5, 6, 7], Option.some.inj hG⟩
      ·refine rg ?_; refine rn 1 [(0, 2, 5, 0)] f0 [(17, .agg #[I p_0.ID, .slice p_0.Entries_A p_0.Entries.length p_0.Entries_c])] ?_; refine l1 ?_; refine cl 18 (z_office_Valid F p_0 _ hy_7) hT ⟨(gi 6).a, trivial⟩ ?_; refine rn 2 [] f0 [(20, B (!v_7))] ?_; refine sb 20 (nt h_8) ?_; refine rn 1 [(0, 2, 2, 0)] f0 [(21, .agg #[I p_3.ID, .slice p_3.Entries_A p_3.Entries.length p_3.Entries_c])] ?_; refine l1 ?_; refine cl 22 (z_office_Valid F p_3 _ hy_9) hT ⟨(gi 7).a, trivial⟩ ?_; refine rn 3 [] f0 [(25, B (!v_9))] ?_; refine sb 25 (nt h_10) ?_; refine rn 1 [(0, 5, 4, 0)] f0 [(26, .agg #[I p_1.Office, I p_1.Size, U p_1.Root, I p_1.Sig.C, I p_1.Sig.S])] ?_; refine l1 ?_; refine cl 27 (z_cross_formed F p_1 _ hy_11) hT trivial ?_; refine rn 3 [] f0 [(30, B (!v_11))] ?_; refine sb 30 (nt h_12) ?_; refine rn 1 [(0, 5, 3, 0)] f0 [(31, .agg #[I p_2.Office, I p_2.Size, U p_2.Root, I p_2.Sig.C, I p_2.Sig.S])] ?_; refine l1 ?_; refine cl 32 (z_cross_formed F p_2 _ hy_13) hT trivial ?_; refine rn 3 [] f0 [(35, B (!v_13))] ?_; refine sb 35 (nt h_14) ?_; refine rn 1 [(0, 5, 1, 0)] f0 [(36, .agg #[I p_4.Office, I p_4.Size, U p_4.Root, I p_4.Sig.C, I p_4.Sig.S])] ?_; refine l1 ?_; refine cl 37 (z_cross_formed F p_4 _ hy_15) hT trivial ?_; refine rn 3 [] f0 [(40, B (!v_15))] ?_; refine sb 40 (nf h_16) ?_; refine ra [] f0 [(53, B true)] ?_; refine tN ?_; refine fm (RowC p_0.Entries_A p_0.Entries_c KEntry.cells tr p_0.Entries) (gm (KOfficeL.ok p_0) 6 fun _ _ h => h.f_Entries) ?_; refine fm (RowC p_3.Entries_A p_3.Entries_c KEntry.cells tr p_3.Entries) (gm (KOfficeL.ok p_3) 8 fun _ _ h => h.f_Entries) ?_; exact fun a w S hK hE => ⟨true, S, hK.wk, hE.sel [1, 0, 2, 3, 4, 5, 6, 7], Option.some.inj hG⟩
     ·refine rg ?_; refine rn 1 [(0, 2, 5, 0)] f0 [(17, .agg #[I p_0.ID, .slice p_0.Entries_A p_0.Entries.length p_0.Entries_c])] ?_; refine l1 ?_; refine cl 18 (z_office_Valid F p_0 _ hy_7) hT ⟨(gi 6).a, trivial⟩ ?_; refine rn 2 [] f0 [(20, B (!v_7))] ?_; refine sb 20 (nt h_8) ?_; refine rn 1 [(0, 2, 2, 0)] f0 [(21, .agg #[I p_3.ID, .slice p_3.Entries_A p_3.Entries.length p_3.Entries_c])] ?_; refine l1 ?_; refine cl 22 (z_office_Valid F p_3 _ hy_9) hT ⟨(gi 7).a, trivial⟩ ?_; refine rn 3 [] f0 [(25, B (!v_9))] ?_; refine sb 25 (nt h_10) ?_; refine rn 1 [(0, 5, 4, 0)] f0 [(26, .agg #[I p_1.Office, I p_1.Size, U p_1.Root, I p_1.Sig.C, I p_1.Sig.S])] ?_; refine l1 ?_; refine cl 27 (z_cross_formed F p_1 _ hy_11) hT trivial ?_; refine rn 3 [] f0 [(30, B (!v_11))] ?_; refine sb 30 (nt h_12) ?_; refine rn 1 [(0, 5, 3, 0)] f0 [(31, .agg #[I p_2.Office, I p_2.Size, U p_2.Root, I p_2.Sig.C, I p_2.Sig.S])] ?_; refine l1 ?_; refine cl 32 (z_cross_formed F p_2 _ hy_13) hT trivial ?_; refine rn 3 [] f0 [(35, B (!v_13))] ?_; refine sb 35 (nf h_14) ?_; refine ra [] f0 [(53, B true)] ?_; refine tN ?_; refine fm (RowC p_0.Entries_A p_0.Entries_c KEntry.cells tr p_0.Entries) (gm (KOfficeL.ok p_0) 6 fun _ _ h => h.f_Entries) ?_; refine fm (RowC p_3.Entries_A p_3.Entries_c KEntry.cells tr p_3.Entries) (gm (KOfficeL.ok p_3) 8 fun _ _ h => h.f_Entries) ?_; exact fun a w S hK hE => ⟨true, S, hK.wk, hE.sel [1, 0, 2, 3, 4, 5, 6, 7], Option.some.inj hG⟩
    ·refine rg ?_; refine rn 1 [(0, 2, 5, 0)] f0 [(17, .agg #[I p_0.ID, .slice p_0.Entries_A p_0.Entries.length p_0.Entries_c])] ?_; refine l1 ?_; refine cl 18 (z_office_Valid F p_0 _ hy_7) hT ⟨(gi 6).a, trivial⟩ ?_; refine rn 2 [] f0 [(20, B (!v_7))] ?_; refine sb 20 (nt h_8) ?_; refine rn 1 [(0, 2, 2, 0)] f0 [(21, .agg #[I p_3.ID, .slice p_3.Entries_A p_3.Entries.length p_3.Entries_c])] ?_; refine l1 ?_; refine cl 22 (z_office_Valid F p_3 _ hy_9) hT ⟨(gi 7).a, trivial⟩ ?_; refine rn 3 [] f0 [(25, B (!v_9))] ?_; refine sb 25 (nt h_10) ?_; refine rn 1 [(0, 5, 4, 0)] f0 [(26, .agg #[I p_1.Office, I p_1.Size, U p_1.Root, I p_1.Sig.C, I p_1.Sig.S])] ?_; refine l1 ?_; refine cl 27 (z_cross_formed F p_1 _ hy_11) hT trivial ?_; refine rn 3 [] f0 [(30, B (!v_11))] ?_; refine sb 30 (nf h_12) ?_; refine ra [] f0 [(53, B true)] ?_; refine tN ?_; refine fm (RowC p_0.Entries_A p_0.Entries_c KEntry.cells tr p_0.Entries) (gm (KOfficeL.ok p_0) 6 fun _ _ h => h.f_Entries) ?_; refine fm (RowC p_3.Entries_A p_3.Entries_c KEntry.cells tr p_3.Entries) (gm (KOfficeL.ok p_3) 8 fun _ _ h => h.f_Entries) ?_; exact fun a w S hK hE => ⟨true, S, hK.wk, hE.sel [1, 0, 2, 3, 4, 5, 6, 7], Option.some.inj hG⟩
   ·refine rg ?_; refine rn 1 [(0, 2, 5, 0)] f0 [(17, .agg #[I p_0.ID, .slice p_0.Entries_A p_0.Entries.length p_0.Entries_c])] ?_; refine l1 ?_; refine cl 18 (z_office_Valid F p_0 _ hy_7) hT ⟨(gi 6).a, trivial⟩ ?_; refine rn 2 [] f0 [(20, B (!v_7))] ?_; refine sb 20 (nt h_8) ?_; refine rn 1 [(0, 2, 2, 0)] f0 [(21, .agg #[I p_3.ID, .slice p_3.Entries_A p_3.Entries.length p_3.Entries_c])] ?_; refine l1 ?_; refine cl 22 (z_office_Valid F p_3 _ hy_9) hT ⟨(gi 7).a, trivial⟩ ?_; refine rn 3 [] f0 [(25, B (!v_9))] ?_; refine sb 25 (nf h_10) ?_; refine ra [] f0 [(53, B true)] ?_; refine tN ?_; refine fm (RowC p_0.Entries_A p_0.Entries_c KEntry.cells tr p_0.Entries) (gm (KOfficeL.ok p_0) 6 fun _ _ h => h.f_Entries) ?_; refine fm (RowC p_3.Entries_A p_3.Entries_c KEntry.cells tr p_3.Entries) (gm (KOfficeL.ok p_3) 8 fun _ _ h => h.f_Entries) ?_; exact fun a w S hK hE => ⟨true, S, hK.wk, hE.sel [1, 0, 2, 3, 4, 5, 6, 7], Option.some.inj hG⟩
  ·refine rg ?_; refine rn 1 [(0, 2, 5, 0)] f0 [(17, .agg #[I p_0.ID, .slice p_0.Entries_A p_0.Entries.length p_0.Entries_c])] ?_; refine l1 ?_; refine cl 18 (z_office_Valid F p_0 _ hy_7) hT ⟨(gi 6).a, trivial⟩ ?_; refine rn 2 [] f0 [(20, B (!v_7))] ?_; refine sb 20 (nf h_8) ?_; refine ra [] f0 [(53, B true)] ?_; refine tN ?_; refine fm (RowC p_0.Entries_A p_0.Entries_c KEntry.cells tr p_0.Entries) (gm (KOfficeL.ok p_0) 6 fun _ _ h => h.f_Entries) ?_; refine fm (RowC p_3.Entries_A p_3.Entries_c KEntry.cells tr p_3.Entries) (gm (KOfficeL.ok p_3) 8 fun _ _ h => h.f_Entries) ?_; exact fun a w S hK hE => ⟨true, S, hK.wk, hE.sel [1, 0, 2, 3, 4, 5, 6, 7], Option.some.inj hG⟩
 ·rintro a w ⟨v_19, hJ⟩; refine hJ.go fun ho_ => ?_
  clear hJ; subst ho_; replace hG := hG_18; rcases ifB_cases hG with ⟨h_20, hG⟩ | ⟨h_20, hG⟩
  ·refine sb 53 (bt h_20) ?_; refine ct ?_; refine sq ?_; refine rg ?_; refine rn 1 [] f0 [(54, .agg #[I 0, I 0, U 0, I 0, I 0, .slice none 0 0, I 0, I 0, U 0, I 0, I 0, I 0, U 0, I 0, I 0, .slice none 0 0])] ?_; refine l1 ?_; refine sr 2 g_6 [(0, I 0), (1, I 0), (2, U 0), (3, I 0), (4, I 0), (5, .slice none 0 0), (6, I 0), (7, I 0), (8, U 0), (9, I 0), (10, I 0), (11, I 0), (12, U 0), (13, I 0), (14, I 0), (15, .slice none 0 0)] ?_; refine ra [] f0 [(11, I 1)] ?_; refine tN ?_; refine kR ?_; refine tR ?_; obtain rfl := Option.some.inj hG; exact rtn [(2, 0, 16)] (⟨(⟨0, 0, 0, (⟨0, 0⟩ : KSig)⟩ : KHead), none, 0, ([] : List Int), (⟨(⟨0, 0, 0, (⟨0, 0⟩ : KSig)⟩ : KHead), 0, (⟨0, (⟨0, 0⟩ : KInterval)⟩ : KEntry), none, 0, ([] : List Int)⟩ : KReceiptL)⟩ : KHopL) rfl ⟨((Fd.two ((gn : Fd _ (RowC none 0 c_u64 tr ([] : List Int)))) ((gn : Fd _ (RowC none 0 c_u64 tr ([] : List Int))))).m fun _ _ h => ⟨h.1, ⟨h.2⟩⟩), trivial⟩
  ·refine sb 53 (bf h_20) ?_; refine cf ?_; refine kS ?_; refine tN ?_; refine sq ?_; obtain ⟨o_26, hG, hG_26⟩ := bind_some hG; refine jn (fun K E a w => ∃ (v_27 : Bool), Js S0 w0 110 ([(70, B v_27)] ++ K) (se E [0, 1, 2, 3, 4, 5, 6, 7]) (v_27 = o_26) a w) ?_ ?_
   ·replace hG := bind_some hG; obtain ⟨v_21, hy_21, hG⟩ := hG; replace hG := ifB_cases hG; rcases hG with ⟨h_22, hG⟩ | ⟨h_22, hG⟩
    ·replace hG := bind_some hG; obtain ⟨v_23, hy_23, hG⟩ := hG; replace hG := ifB_cases hG; rcases hG with ⟨h_24, hG⟩ | ⟨h_24, hG⟩
     ·replace hG := bind_some hG; obtain ⟨v_25, hy_25, hG⟩ := hG; refine rg ?_; refine rn 2 [(0, 2, 7, 0), (0, 5, 6, 0)] f0 [(55, .agg #[I p_0.ID, .slice p_0.Entries_A p_0.Entries.length p_0.Entries_c]), (56, .agg #[I p_1.Office, I p_1.Size, U p_1.Root, I p_1.Sig.C, I p_1.Sig.S])] ?_; refine l1 ?_; refine cl 57 (z_cross_has F p_0 p_1 _ hy_21) hT ⟨(((gd' (RowC p_0.Entries_A p_0.Entries_c KEntry.cells tr p_0.Entries) 0)).m fun _ _ h => ⟨h⟩).a, trivial⟩ ?_; refine rn 2 [] f0 [(59, B (!v_21))] ?_; refine sb 59 (nt h_22) ?_; refine rn 2 [(0, 2, 7, 0), (0, 5, 5, 0)] f0 [(60, .agg #[I p_0.ID, .slice p_0.Entries_A p_0.Entries.length p_0.Entries_c]), (61, .agg #[I p_2.Office, I p_2.Size, U p_2.Root, I p_2.Sig.C, I p_2.Sig.S])] ?_; refine l1 ?_; refine cl 62 (z_cross_has F p_0 p_2 _ hy_23) hT ⟨(((gd' (RowC p_0.Entries_A p_0.Entries_c KEntry.cells tr p_0.Entries) 0)).m fun _ _ h => ⟨h⟩).a, trivial⟩ ?_; refine rn 3 [] f0 [(65, B (!v_23))] ?_; refine sb 65 (nt h_24) ?_; refine rn 2 [(0, 2, 4, 0), (0, 5, 3, 0)] f0 [(66, .agg #[I p_3.ID, .slice p_3.Entries_A p_3.Entries.length p_3.Entries_c]), (67, .agg #[I p_4.Office, I p_4.Size, U p_4.Root, I p_4.Sig.C, I p_4.Sig.S])] ?_; refine l1 ?_; refine cl 68 (z_cross_has F p_3 p_4 _ hy_25) hT ⟨(((gd' (RowC p_3.Entries_A p_3.Entries_c KEntry.cells tr p_3.Entries) 1)).m fun _ _ h => ⟨h⟩).a, trivial⟩ ?_; refine ra [] f0 [(70, B (!v_25))] ?_; refine tN ?_; exact fun a w S hK hE => ⟨!v_25, S, hK.wk, hE.sel [0, 1, 2, 3, 4, 5, 6, 7], Option.some.inj hG⟩
     ·refine rg ?_; refine rn 2 [(0, 2, 7, 0), (0, 5, 6, 0)] f0 [(55, .agg #[I p_0.ID, .slice p_0.Entries_A p_0.Entries.length p_0.Entries_c]), (56, .agg #[I p_1.Office, I p_1.Size, U p_1.Root, I p_1.Sig.C, I p_1.Sig.S])] ?_; refine l1 ?_; refine cl 57 (z_cross_has F p_0 p_1 _ hy_21) hT ⟨(((gd' (RowC p_0.Entries_A p_0.Entries_c KEntry.cells tr p_0.Entries) 0)).m fun _ _ h => ⟨h⟩).a, trivial⟩ ?_; refine rn 2 [] f0 [(59, B (!v_21))] ?_; refine sb 59 (nt h_22) ?_; refine rn 2 [(0, 2, 7, 0), (0, 5, 5, 0)] f0 [(60, .agg #[I p_0.ID, .slice p_0.Entries_A p_0.Entries.length p_0.Entries_c]), (61, .agg #[I p_2.Office, I p_2.Size, U p_2.Root, I p_2.Sig.C, I p_2.Sig.S])] ?_; refine l1 ?_; refine cl 62 (z_cross_has F p_0 p_2 _ hy_23) hT ⟨(((gd' (RowC p_0.Entries_A p_0.Entries_c KEntry.cells tr p_0.Entries) 0)).m fun _ _ h => ⟨h⟩).a, trivial⟩ ?_; refine rn 3 [] f0 [(65, B (!v_23))] ?_; refine sb 65 (nf h_24) ?_; refine ra [] f0 [(70, B true)] ?_; refine tN ?_; exact fun a w S hK hE => ⟨true, S, hK.wk, hE.sel [0, 1, 2, 3, 4, 5, 6, 7], Option.some.inj hG⟩
    ·refine rg ?_; refine rn 2 [(0, 2, 7, 0), (0, 5, 6, 0)] f0 [(55, .agg #[I p_0.ID, .slice p_0.Entries_A p_0.Entries.length p_0.Entries_c]), (56, .agg #[I p_1.Office, I p_1.Size, U p_1.Root, I p_1.Sig.C, I p_1.Sig.S])] ?_; refine l1 ?_; refine cl 57 (z_cross_has F p_0 p_1 _ hy_21) hT ⟨(((gd' (RowC p_0.Entries_A p_0.Entries_c KEntry.cells tr p_0.Entries) 0)).m fun _ _ h => ⟨h⟩).a, trivial⟩ ?_; refine rn 2 [] f0 [(59, B (!v_21))] ?_; refine sb 59 (nf h_22) ?_; refine ra [] f0 [(70, B true)] ?_; refine tN ?_; exact fun a w S hK hE => ⟨true, S, hK.wk, hE.sel [0, 1, 2, 3, 4, 5, 6, 7], Option.some.inj hG⟩
   ·rintro a w ⟨v_27, hJ⟩; refine hJ.go fun ho_ => ?_
    clear hJ; subst ho_; replace hG := hG_26; rcases ifB_cases hG with ⟨h_28, hG⟩ | ⟨h_28, hG⟩
    ·refine sb 70 (bt h_28) ?_; refine ct ?_; refine sq ?_; refine rg ?_; refine rn 1 [] f0 [(71, .agg #[I 0, I 0, U 0, I 0, I 0, .slice none 0 0, I 0, I 0, U 0, I 0, I 0, I 0, U 0, I 0, I 0, .slice none 0 0])] ?_; refine l1 ?_; refine sr 2 g_6 [(0, I 0), (1, I 0), (2, U 0), (3, I 0), (4, I 0), (5, .slice none 0 0), (6, I 0), (7, I 0), (8, U 0), (9, I 0), (10, I 0), (11, I 0), (12, U 0), (13, I 0), (14, I 0), (15, .slice none 0 0)] ?_; refine ra [] f0 [(11, I 33)] ?_; refine tN ?_; refine kR ?_; refine tR ?_; obtain rfl := Option.some.inj hG; exact rtn [(2, 0, 16)] (⟨(⟨0, 0, 0, (⟨0, 0⟩ : KSig)⟩ : KHead), none, 0, ([] : List Int), (⟨(⟨0, 0, 0, (⟨0, 0⟩ : KSig)⟩ : KHead), 0, (⟨0, (⟨0, 0⟩ : KInterval)⟩ : KEntry), none, 0, ([] : List Int)⟩ : KReceiptL)⟩ : KHopL) rfl ⟨((Fd.two ((gn : Fd _ (RowC none 0 c_u64 tr ([] : List Int)))) ((gn : Fd _ (RowC none 0 c_u64 tr ([] : List Int))))).m fun _ _ h => ⟨h.1, ⟨h.2⟩⟩), trivial⟩
    ·refine sb 70 (bf h_28) ?_; refine cf ?_; refine kS ?_; refine tN ?_; refine sq ?_; replace hG := bind_some hG; obtain ⟨v_29, hy_29, hG⟩ := hG; refine rg ?_; refine rn 1 [(0, 5, 5, 0)] f0 [(72, .agg #[I p_2.Office, I p_2.Size, U p_2.Root, I p_2.Sig.C, I p_2.Sig.S])] ?_; refine l1 ?_; refine cl 73 (z_cross_Digest F p_2 _ hy_29) hT trivial ?_; refine l1 ?_; refine nw 12 vp [U 0] 25 fun g_30 => ?_
     refine l1 ?_; refine sr 0 g_30 [(0, U v_29)] ?_; refine nl ?_; refine tN ?_; refine sq ?_; replace hG := bind_some hG; obtain ⟨v_31, hy_31, hG⟩ := hG; replace hG := bind_some hG; obtain ⟨v_62o, hy_63, hG⟩ := hG; refine rg ?_; refine fp false true inf22 (gd' (RowC p_3.Entries_A p_3.Entries_c KEntry.cells tr p_3.Entries) 2) hy_31 fun v_31_A v_31_c hp_31 => ?_
     refine rn 6 [(1, 1, 6, 1), (1, 1, 5, 1), (0, 0, 0, 0)] (fc (hp_31 .i64 .i64) f0) [(78, .slice v_31_A v_31.length v_31_c), (79, .func (.func 30) #[] #[Pt g_30 0])] ?_; refine l1 ?_; refine ci 80 (args := [.slice v_31_A v_31.length v_31_c, .func (.func 30) #[] #[Pt g_30 0]]) (fun E e w => ∃ (v_62 : Int), Rs S0 w0 (I v_62) (se E [0, 1, 2, 3, 4, 5, 6, 7, 8, 9]) (v_62 = v_62o) e w) Tryd.func29 rfl rfl ?_ ?_
     ·replace hG := hy_63; refine sq ?_; refine rg ?_; refine ra [] f0 [] ?_; refine tN ?_; obtain ⟨o_92, hG, hG_92⟩ := bind_some hG; refine jn (fun K E a w => Js S0 w0 19 (K) (se E [0, 1, 2, 3, 4, 5, 6, 7, 8, 9]) (.inl () = o_92) a w) ?_ ?_
      ·refine sq ?_; refine rg ?_; refine ra [] f0 [(7, I ((v_31.length : Nat) : Int)), (8, I 0)] ?_; refine tN ?_; refine bk ?_; obtain ⟨e_82, hL, hG_82⟩ := bind_some hG; clear hG; obtain ⟨stp_82, hs_82, hL⟩ := iter_gen hL; refine lp (fun K E n_ a w => ∃ (v_81 : Int), Js S0 w0 19 ([(8, I v_81)] ++ K) (se E [0, 1, 2, 3, 4, 5, 6, 7, 8, 9]) (iter stp_82 n_ v_81 = some e_82) a w) F ?_ ?_
       ·exact fun a w S hK hE => ⟨0, S, hK.wk, hE.sel [0, 1, 2, 3, 4, 5, 6, 7, 8, 9], hL⟩
       ·clear hL; rintro n_82 a w ⟨v_81, hJ⟩; refine hJ.go fun hL => ?_
        clear hJ; obtain ⟨m_82, o_82, rfl, hG, hO1_82, hO2_82⟩ := iter_step hL; clear hL; rw [hs_82] at hG; refine sq ?_; refine rg ?_; refine ra [] f0 [(9, B (decide (v_81 < ((v_31.length : Nat) : Int))))] ?_; refine tN ?_; refine sq ?_; rcases ifB_cases hG with ⟨h_83, hG⟩ | ⟨h_83, hG⟩
        ·refine sb 9 (bt h_83) ?_; refine ct ?_; refine kS ?_; refine tN ?_; refine sq ?_; refine bk ?_; refine sq ?_; refine rg ?_; refine ra [] f0 [(5, I v_81)] ?_; refine tN ?_; refine sq ?_; replace hG := bind_some hG; obtain ⟨v_84, hy_84, hG⟩ := hG; replace hG := bind_some hG; obtain ⟨⟨⟩, hy_88, hG⟩ := hG; refine rg ?_; refine fx inf22 (gd' (RowC v_31_A v_31_c KEntry.cells tr v_31) 0) hy_84 fun b_85 o_86 hi_84 => ?_
         refine rn 5 [(3, 0, 0, 0), (0, 3, 0, 0)] (fc (hi_84 .i64) f0) [(11, .func (.func 30) #[] #[Pt g_30 0]), (15, .agg #[U v_84.Doc, I v_84.Stamp.Lo, I v_84.Stamp.Hi])] ?_; refine l1 ?_; refine ci 16 (args := [.agg #[U v_84.Doc, I v_84.Stamp.Lo, I v_84.Stamp.Hi], Pt g_30 0]) (fun E e w => Rs S0 w0 (B (v_84.Doc == v_29)) (se E [0, 1, 2, 3, 4, 5, 6, 7, 8, 9, 10]) (() = ()) e w) Tryd.func30 rfl rfl ?_ ?_
         ·replace hG := hy_88; refine sq ?_; refine rg ?_; refine l1 ?_; refine nw 2 vp [U v_84.Doc, I v_84.Stamp.Lo, I v_84.Stamp.Hi] 36 fun g_89 => ?_
          refine ra [] f0 [] ?_; refine tN ?_; refine sq ?_; refine rg ?_; refine ra [(1, 1, 0, 0), (0, 1, 3, 0)] f0 [(3, B (v_84.Doc == v_29))] ?_; refine tN ?_; refine kR ?_; refine ri [] (B (v_84.Doc == v_29)) ?_; exact fun a w S hK hE => ⟨rfl, ⟨S, hE.sel [1, 2, 3, 4, 5, 6, 7, 8, 9, 10, 11]⟩, Option.some.inj hG⟩
         ·rintro e w hJ; refine hJ.go fun ho_ => ?_
          clear hJ; refine nl ?_; refine tN ?_; rcases ifB_cases hG with ⟨h_90, hG⟩ | ⟨h_90, hG⟩
          ·refine sb 16 (bt h_90) ?_; refine ct ?_; refine sq ?_; refine rg ?_; refine ra [] f0 [(4, I v_81)] ?_; refine tN ?_; refine kR ?_; refine hR ?_; refine tR ?_; refine tR ?_; have he_ := hO2_82 _ (Option.some.inj hG).symm; subst he_; replace hG := hG_82; refine hR ?_; refine tR ?_; obtain rfl := Option.some.inj hG; replace hG := hG_92; refine ri [] (I v_81) ?_; exact fun a w S hK hE => ⟨v_81, rfl, ⟨S, hE.sel [1, 2, 3, 4, 5, 6, 7, 8, 9, 10]⟩, Option.some.inj hG⟩
          ·refine sb 16 (bf h_90) ?_; refine cf ?_; refine kS ?_; refine hN ?_; refine tN ?_; refine rg ?_; refine ra [] f0 [(8, I (IntKind.i64.wrap (v_81 + 1)))] ?_; refine tN ?_; exact fun a w S hK hE => ⟨m_82, ⟨IntKind.i64.wrap (v_81 + 1), S, hK.wk, hE.sel [1, 2, 3, 4, 5, 6, 7, 8, 9, 10], hO1_82 _ (Option.some.inj hG).symm⟩, Nat.lt_succ_self _⟩
        ·refine sb 9 (bf h_83) ?_; refine cf ?_; refine kX ?_; refine tX ?_; refine tX ?_; have he_ := hO2_82 _ (Option.some.inj hG).symm; subst he_; replace hG := hG_82; refine hH ?_; refine tN ?_; exact fun a w S hK hE => ⟨S, hK.wk, hE.sel [0, 1, 2, 3, 4, 5, 6, 7, 8, 9], Option.some.inj hG⟩
      ·rintro a w hJ; refine hJ.go fun ho_ => ?_
       clear hJ; subst ho_; replace hG := hG_92; refine sq ?_; refine rg ?_; refine ra [] f0 [(4, I (-1))] ?_; refine tN ?_; refine kR ?_; refine ri [] (I (-1)) ?_; exact fun a w S hK hE => ⟨(-1), rfl, ⟨S, hE.sel [0, 1, 2, 3, 4, 5, 6, 7, 8, 9]⟩, Option.some.inj hG⟩
     ·rintro e w ⟨v_62, hJ⟩; refine hJ.go fun ho_ => ?_
      clear hJ; subst ho_; refine ra [] f0 [(13, I v_62)] ?_; refine tN ?_; refine sq ?_; refine sq ?_; refine rg ?_; refine ra [] f0 [(82, B (decide (v_62 < 0)))] ?_; refine tN ?_; rcases ifB_cases hG with ⟨h_94, hG⟩ | ⟨h_94, hG⟩
      ·refine sb 82 (bt h_94) ?_; refine ct ?_; refine sq ?_; refine rg ?_; refine rn 1 [] f0 [(83, .agg #[I 0, I 0, U 0, I 0, I 0, .slice none 0 0, I 0, I 0, U 0, I 0, I 0, I 0, U 0, I 0, I 0, .slice none 0 0])] ?_; refine l1 ?_; refine sr 4 g_6 [(0, I 0), (1, I 0), (2, U 0), (3, I 0), (4, I 0), (5, .slice none 0 0), (6, I 0), (7, I 0), (8, U 0), (9, I 0), (10, I 0), (11, I 0), (12, U 0), (13, I 0), (14, I 0), (15, .slice none 0 0)] ?_; refine ra [] f0 [(11, I 4)] ?_; refine tN ?_; refine kR ?_; refine tR ?_; obtain rfl := Option.some.inj hG; exact rtn [(4, 0, 16)] (⟨(⟨0, 0, 0, (⟨0, 0⟩ : KSig)⟩ : KHead), none, 0, ([] : List Int), (⟨(⟨0, 0, 0, (⟨0, 0⟩ : KSig)⟩ : KHead), 0, (⟨0, (⟨0, 0⟩ : KInterval)⟩ : KEntry), none, 0, ([] : List Int)⟩ : KReceiptL)⟩ : KHopL) rfl ⟨((Fd.two ((gn : Fd _ (RowC none 0 c_u64 tr ([] : List Int)))) ((gn : Fd _ (RowC none 0 c_u64 tr ([] : List Int))))).m fun _ _ h => ⟨h.1, ⟨h.2⟩⟩), trivial⟩
      ·refine sb 82 (bf h_94) ?_; refine cf ?_; refine kS ?_; refine tN ?_; refine sq ?_; replace hG := bind_some hG; obtain ⟨v_95o, hy_95, hG⟩ := hG; replace hG := bind_some hG; obtain ⟨⟨v_96o, v_97⟩, hy_96, hG⟩ := hG; refine hb [0, 1, 2, 3, 4, 5, 6, 7, 8, 9] ?_; refine ht [0, 1, 2, 3, 4, 5, 6, 7, 8, 9] [0, 1, 2, 4, 5] [(0, 2, 9, 0), (1, 1, 7, 1), (1, 1, 8, 1)] f0 [(85, .agg #[I p_0.ID, .slice p_0.Entries_A p_0.Entries.length p_0.Entries_c]), (87, I p_2.Size), (90, I p_1.Size)] ?_; refine ho [3] ⟨?_, trivial⟩; refine h1 ?_; refine cn 88 (z_cross_values F p_0 p_2.Size _ hy_95) hT (fun _ => (mr tr_mv m0)) ⟨(((gd' (RowC p_0.Entries_A p_0.Entries_c KEntry.cells tr p_0.Entries) 2)).m fun _ _ h => ⟨h⟩), trivial⟩ ?_; rintro ⟨v_95_A, v_95_c, v_95⟩ hq_95; obtain rfl : v_95 = v_95o := hq_95.symm; refine hk [1, 2, 3, 4, 5, 6, 7, 8, 9, 10] ?_; refine ho [6] ⟨?_, trivial⟩; refine h1 ?_; refine cn 91 (z_tree_Extend F v_95_A v_95_c v_95 p_1.Size _ hy_96) hT (fun _ => (mr tr_mv m0)) ⟨gi 0, trivial⟩ ?_; rintro ⟨v_96_A, v_96_c, v_96⟩ hq_96; obtain rfl : v_96 = v_96o := hq_96.symm; refine hk [2, 3, 4, 5, 6, 7, 8, 9, 10, 11] ?_; refine ht [2, 3, 4, 5, 6, 7, 8, 9, 10, 11] [7, 8, 9, 10, 11] [] f0 [(14, .slice v_96_A v_96.length v_96_c), (15, I v_97)] ?_; refine he ?_; refine tN ?_; refine sq ?_; refine sq ?_; refine rg ?_; refine ra [] f0 [(95, B (!(v_97 == 0)))] ?_; refine tN ?_; rcases ifB_cases hG with ⟨h_98, hG⟩ | ⟨h_98, hG⟩
       ·refine sb 95 (nt h_98) ?_; refine cf ?_; refine kS ?_; refine tN ?_; refine sq ?_; replace hG := bind_some hG; obtain ⟨⟨v_99o, v_100⟩, hy_99, hG⟩ := hG; refine rg ?_; refine rn 3 [(0, 2, 8, 0), (0, 5, 7, 0)] f0 [(99, .agg #[I p_3.ID, .slice p_3.Entries_A p_3.Entries.length p_3.Entries_c]), (100, .agg #[I p_4.Office, I p_4.Size, U p_4.Root, I p_4.Sig.C, I p_4.Sig.S]), (101, I v_62)] ?_; refine l1 ?_; refine cn 102 (z_office_Prove F p_3 p_4 v_62 _ hy_99) hT (fun _ => (mc KReceiptL.mv m0)) ⟨(((gd' (RowC p_3.Entries_A p_3.Entries_c KEntry.cells tr p_3.Entries) 5)).m fun _ _ h => ⟨h⟩), trivial⟩ ?_; rintro v_99 hq_99; obtain rfl : v_99.p = v_99o := hq_99.symm; refine rn 3 [] f0 [(103, .agg #[I v_99.Head.Office, I v_99.Head.Size, U v_99.Head.Root, I v_99.Head.Sig.C, I v_99.Head.Sig.S, I v_99.Index, U v_99.Entry.Doc, I v_99.Entry.Stamp.Lo, I v_99.Entry.Stamp.Hi, .slice v_99.Path_A v_99.Path.length v_99.Path_c]), (104, I v_100)] ?_; refine l1 ?_; refine nw 16 vp [I 0, I 0, U 0, I 0, I 0, I 0, U 0, I 0, I 0, .slice none 0 0] 38 fun g_101 => ?_
        refine l1 ?_; refine sr 0 g_101 [(0, I v_99.Head.Office), (1, I v_99.Head.Size), (2, U v_99.Head.Root), (3, I v_99.Head.Sig.C), (4, I v_99.Head.Sig.S), (5, I v_99.Index), (6, U v_99.Entry.Doc), (7, I v_99.Entry.Stamp.Lo), (8, I v_99.Entry.Stamp.Hi), (9, .slice v_99.Path_A v_99.Path.length v_99.Path_c)] ?_; refine ra [] f0 [(15, I v_100)] ?_; refine tN ?_; refine sq ?_; refine rg ?_; refine rn 5 [(0, 5, 11, 0), (1, 10, 0, 0)] f0 [(108, .agg #[I p_2.Office, I p_2.Size, U p_2.Root, I p_2.Sig.C, I p_2.Sig.S, .slice v_96_A v_96.length v_96_c, I v_99.Head.Office, I v_99.Head.Size, U v_99.Head.Root, I v_99.Head.Sig.C, I v_99.Head.Sig.S, I v_99.Index, U v_99.Entry.Doc, I v_99.Entry.Stamp.Lo, I v_99.Entry.Stamp.Hi, .slice v_99.Path_A v_99.Path.length v_99.Path_c]), (109, I v_100)] ?_; refine l1 ?_; refine sr 8 g_6 [(0, I p_2.Office), (1, I p_2.Size), (2, U p_2.Root), (3, I p_2.Sig.C), (4, I p_2.Sig.S), (5, .slice v_96_A v_96.length v_96_c), (6, I v_99.Head.Office), (7, I v_99.Head.Size), (8, U v_99.Head.Root), (9, I v_99.Head.Sig.C), (10, I v_99.Head.Sig.S), (11, I v_99.Index), (12, U v_99.Entry.Doc), (13, I v_99.Entry.Stamp.Lo), (14, I v_99.Entry.Stamp.Hi), (15, .slice v_99.Path_A v_99.Path.length v_99.Path_c)] ?_; refine ra [] f0 [(11, I v_100)] ?_; refine tN ?_; refine kR ?_; obtain rfl := Option.some.inj hG; exact rtn [(8, 0, 16)] (⟨p_2, v_96_A, v_96_c, v_96, v_99⟩ : KHopL) rfl ⟨((Fd.two ((gd' (RowC v_96_A v_96_c c_u64 tr v_96) 2)) ((gm (KReceiptL.ok v_99) 1 fun _ _ h => h))).m fun _ _ h => ⟨h.1, h.2⟩), trivial⟩
       ·refine sb 95 (nf h_98) ?_; refine ct ?_; refine sq ?_; refine rg ?_; refine rn 2 [] f0 [(96, .agg #[I 0, I 0, U 0, I 0, I 0, .slice none 0 0, I 0, I 0, U 0, I 0, I 0, I 0, U 0, I 0, I 0, .slice none 0 0]), (97, I v_97)] ?_; refine l1 ?_; refine sr 6 g_6 [(0, I 0), (1, I 0), (2, U 0), (3, I 0), (4, I 0), (5, .slice none 0 0), (6, I 0), (7, I 0), (8, U 0), (9, I 0), (10, I 0), (11, I 0), (12, U 0), (13, I 0), (14, I 0), (15, .slice none 0 0)] ?_; refine ra [] f0 [(11, I v_97)] ?_; refine tN ?_; refine kR ?_; refine tR ?_; obtain rfl := Option.some.inj hG; exact rtn [(6, 0, 16)] (⟨(⟨0, 0, 0, (⟨0, 0⟩ : KSig)⟩ : KHead), none, 0, ([] : List Int), (⟨(⟨0, 0, 0, (⟨0, 0⟩ : KSig)⟩ : KHead), 0, (⟨0, (⟨0, 0⟩ : KInterval)⟩ : KEntry), none, 0, ([] : List Int)⟩ : KReceiptL)⟩ : KHopL) rfl ⟨((Fd.two ((gn : Fd _ (RowC none 0 c_u64 tr ([] : List Int)))) ((gn : Fd _ (RowC none 0 c_u64 tr ([] : List Int))))).m fun _ _ h => ⟨h.1, ⟨h.2⟩⟩), trivial⟩
def G_cross_keyring_right (F : Nat) (p_0 : List Int) : Option (Bool) :=
  Option.bind (ifB (decide (((p_0.length : Nat) : Int) ≤ 16))
      (Option.bind (Option.bind (Option.bind (Option.bind (iter (σ := Int) (ρ := Unit ⊕ Int) (fun (v_15 : Int) => 
                (ifB (decide (v_15 < ((p_0.length : Nat) : Int)))
                  (Option.bind (ixI p_0 v_15) (fun v_18 =>
                  Option.bind (G_cross_keyring_right_1 F v_18) (fun v_21 =>
                  ifB (v_21)
                    (some (.inr (.inr v_15)))
                    (some (.inl (IntKind.i64.wrap (v_15 + 1)))))))
                  (some (.inr (.inl ()))) : Option (Int ⊕ (Unit ⊕ Int)))) F 0) (Sum.elim (fun (_ : Unit) => 
              some (.inl ())) (fun (v_23 : Int) => 
              some (.inr v_23))) : Option (Unit ⊕ Int)) (Sum.elim (fun (_ : Unit) => 
            some (-1)) (fun (v_25 : Int) => 
            some v_25)) : Option (Int)) (fun (v_26 : Int) => 
          some (decide (v_26 ≥ 0))) : Option (Bool)) (fun (v_52 : Bool) => 
        some (!v_52)))
      (some false) : Option (Bool)) (fun (v_105 : Bool) => 
    some v_105)
set_option maxRecDepth 100000 in
set_option maxHeartbeats 16000000 in
theorem z_cross_keyring_right (F : Nat) (p_0_A : Option Addr) (p_0_c : Nat) (p_0 : List Int) (r : Bool) (hG : G_cross_keyring_right F p_0 = some r) :
  Cf Tryd.prog 52 [.slice p_0_A p_0.length p_0_c] [RowC p_0_A p_0_c c_i64 tr p_0] (B r) := by
 unfold G_cross_keyring_right at hG; refine fi Tryd.func52 rfl rfl (mr tr_mv m0) fun S0 w0 hT => ?_
 refine sq ?_; refine rg ?_; refine ra [] f0 [] ?_; refine tN ?_; refine sq ?_; refine rg ?_; refine ra [] f0 [(3, .func (.func 80) #[] #[])] ?_; refine tN ?_; obtain ⟨o_104, hG, hG_104⟩ := bind_some hG; refine jn (fun K E a w => ∃ (v_105 : Bool), Js S0 w0 13 ([(2, B v_105)] ++ K) (se E []) (v_105 = o_104) a w) ?_ ?_
 ·replace hG := ifB_cases hG; rcases hG with ⟨h_1, hG⟩ | ⟨h_1, hG⟩
  ·replace hG := bind_some hG; obtain ⟨v_52o, hy_53, hG⟩ := hG; refine rg ?_; refine rn 4 [] f0 [(7, B (decide (((p_0.length : Nat) : Int) ≤ 16)))] ?_; refine sb 7 (bt h_1) ?_; refine rn 2 [] f0 [(8, .slice p_0_A p_0.length p_0_c), (9, .func (.func 80) #[] #[])] ?_; refine l1 ?_; refine ci 10 (args := [.slice p_0_A p_0.length p_0_c, .func (.func 80) #[] #[]]) (fun E e w => ∃ (v_52 : Bool), Rs S0 w0 (B v_52) (se E [0]) (v_52 = v_52o) e w) Tryd.func81 rfl rfl ?_ ?_
   ·replace hG := hy_53; refine sq ?_; refine rg ?_; refine ra [] f0 [] ?_; refine tN ?_; refine sq ?_; replace hG := bind_some hG; obtain ⟨v_78o, hy_79, hG⟩ := hG; refine rg ?_; refine rn 2 [] f0 [(5, .slice p_0_A p_0.length p_0_c), (6, .func (.func 80) #[] #[])] ?_; refine l1 ?_; refine ci 7 (args := [.slice p_0_A p_0.length p_0_c, .func (.func 80) #[] #[]]) (fun E e w => ∃ (v_78 : Int), Rs S0 w0 (I v_78) (se E [0]) (v_78 = v_78o) e w) Tryd.func94 rfl rfl ?_ ?_
    ·replace hG := hy_79; refine sq ?_; refine rg ?_; refine ra [] f0 [] ?_; refine tN ?_; obtain ⟨o_102, hG, hG_102⟩ := bind_some hG; refine jn (fun K E a w => Js S0 w0 19 (K) (se E [0]) (.inl () = o_102) a w) ?_ ?_
     ·refine sq ?_; refine rg ?_; refine ra [] f0 [(7, I ((p_0.length : Nat) : Int)), (8, I 0)] ?_; refine tN ?_; refine bk ?_; obtain ⟨e_94, hL, hG_94⟩ := bind_some hG; clear hG; obtain ⟨stp_94, hs_94, hL⟩ := iter_gen hL; refine lp (fun K E n_ a w => ∃ (v_93 : Int), Js S0 w0 19 ([(8, I v_93)] ++ K) (se E [0]) (iter stp_94 n_ v_93 = some e_94) a w) F ?_ ?_
      ·exact fun a w S hK hE => ⟨0, S, hK.wk, hE.sel [0], hL⟩
      ·clear hL; rintro n_94 a w ⟨v_93, hJ⟩; refine hJ.go fun hL => ?_
       clear hJ; obtain ⟨m_94, o_94, rfl, hG, hO1_94, hO2_94⟩ := iter_step hL; clear hL; rw [hs_94] at hG; refine sq ?_; refine rg ?_; refine ra [] f0 [(9, B (decide (v_93 < ((p_0.length : Nat) : Int))))] ?_; refine tN ?_; refine sq ?_; rcases ifB_cases hG with ⟨h_95, hG⟩ | ⟨h_95, hG⟩
       ·refine sb 9 (bt h_95) ?_; refine ct ?_; refine kS ?_; refine tN ?_; refine sq ?_; refine bk ?_; refine sq ?_; refine rg ?_; refine ra [] f0 [(5, I v_93)] ?_; refine tN ?_; refine sq ?_; replace hG := bind_some hG; obtain ⟨v_96, hy_96, hG⟩ := hG; replace hG := bind_some hG; obtain ⟨v_99, hy_99, hG⟩ := hG; refine rg ?_; refine fx inf102 (gd' (RowC p_0_A p_0_c c_i64 tr p_0) 0) hy_96 fun b_97 o_98 hi_96 => ?_
        refine rn 5 [(3, 0, 0, 0), (0, 1, 0, 0)] (fc (hi_96 .i64) f0) [(11, .func (.func 80) #[] #[]), (15, I v_96)] ?_; refine l1 ?_; refine cl 16 (z_cross_keyring_right_1 F v_96 _ hy_99) hT trivial ?_; refine nl ?_; refine tN ?_; rcases ifB_cases hG with ⟨h_100, hG⟩ | ⟨h_100, hG⟩
        ·refine sb 16 (bt h_100) ?_; refine ct ?_; refine sq ?_; refine rg ?_; refine ra [] f0 [(4, I v_93)] ?_; refine tN ?_; refine kR ?_; refine hR ?_; refine tR ?_; refine tR ?_; have he_ := hO2_94 _ (Option.some.inj hG).symm; subst he_; replace hG := hG_94; refine hR ?_; refine tR ?_; obtain rfl := Option.some.inj hG; replace hG := hG_102; refine ri [] (I v_93) ?_; exact fun a w S hK hE => ⟨v_93, rfl, ⟨S, hE.sel [1]⟩, Option.some.inj hG⟩
        ·refine sb 16 (bf h_100) ?_; refine cf ?_; refine kS ?_; refine hN ?_; refine tN ?_; refine rg ?_; refine ra [] f0 [(8, I (IntKind.i64.wrap (v_93 + 1)))] ?_; refine tN ?_; exact fun a w S hK hE => ⟨m_94, ⟨IntKind.i64.wrap (v_93 + 1), S, hK.wk, hE.sel [1], hO1_94 _ (Option.some.inj hG).symm⟩, Nat.lt_succ_self _⟩
       ·refine sb 9 (bf h_95) ?_; refine cf ?_; refine kX ?_; refine tX ?_; refine tX ?_; have he_ := hO2_94 _ (Option.some.inj hG).symm; subst he_; replace hG := hG_94; refine hH ?_; refine tN ?_; exact fun a w S hK hE => ⟨S, hK.wk, hE.sel [0], Option.some.inj hG⟩
     ·rintro a w hJ; refine hJ.go fun ho_ => ?_
      clear hJ; subst ho_; replace hG := hG_102; refine sq ?_; refine rg ?_; refine ra [] f0 [(4, I (-1))] ?_; refine tN ?_; refine kR ?_; refine ri [] (I (-1)) ?_; exact fun a w S hK hE => ⟨(-1), rfl, ⟨S, hE.sel [0]⟩, Option.some.inj hG⟩
    ·rintro e w ⟨v_78, hJ⟩; refine hJ.go fun ho_ => ?_
     clear hJ; subst ho_; refine ra [] f0 [(4, B (decide (v_78 ≥ 0)))] ?_; refine tN ?_; refine kR ?_; refine ri [] (B (decide (v_78 ≥ 0))) ?_; exact fun a w S hK hE => ⟨decide (v_78 ≥ 0), rfl, ⟨S, hE.sel [0]⟩, Option.some.inj hG⟩
   ·rintro e w ⟨v_52, hJ⟩; refine hJ.go fun ho_ => ?_
    clear hJ; subst ho_; refine ra [] f0 [(2, B (!v_52))] ?_; refine tN ?_; exact fun a w S hK hE => ⟨!v_52, S, hK.wk, hE.sel [], Option.some.inj hG⟩
  ·refine rg ?_; refine rn 4 [] f0 [(7, B (decide (((p_0.length : Nat) : Int) ≤ 16)))] ?_; refine sb 7 (bf h_1) ?_; refine ra [] f0 [(2, B false)] ?_; refine tN ?_; exact fun a w S hK hE => ⟨false, S, hK.wk, hE.sel [], Option.some.inj hG⟩
 ·rintro a w ⟨v_105, hJ⟩; refine hJ.go fun ho_ => ?_
  clear hJ; subst ho_; replace hG := hG_104; refine kR ?_; obtain rfl := Option.some.inj hG; exact rt []
end Go.Proofs.YtiijddjfiojfaaaDoor
namespace Go.Proofs.YtiijddjfiojfaaaDoor
open Go.RowKit Go.Maps
def G_cross_Check (F : Nat) (p_0 : List Int) (p_1 : KHead) (p_2 : KHop) : Option (Bool × Int) :=
  Option.bind (G_office_Check F 4 p_2.By) (un2 fun v_4 v_5 =>
  Option.bind (ifB ((v_5 == 0))
      (Option.bind (G_cross_keyring_right F p_0) (fun v_7 =>
      ifB (v_7)
        (Option.bind (G_cross_formed F p_1) (fun v_9 =>
        ifB (v_9)
          (Option.bind (G_cross_formed F p_2.Of) (fun v_11 =>
          ifB (v_11)
            (some (decide (((p_2.Grow.length : Nat) : Int) > 20)))
            (some true)))
          (some true)))
        (some true)))
      (some true) : Option (Bool)) (fun (v_14 : Bool) => 
    ifB (v_14)
      (some (false, 1))
      (Option.bind (Option.bind (Option.bind (Option.bind (G_cross_keyring_signed F p_0 p_1) (fun v_18 =>
            ifB (v_18)
              (Option.bind (G_cross_keyring_signed F p_0 p_2.Of) (fun v_20 =>
              ifB (v_20)
                (Option.bind (G_cross_keyring_signed F p_0 p_2.By.Head) (fun v_22 =>
                some v_22))
                (some false)))
              (some false)) : Option (Bool)) (fun (v_24 : Bool) => 
            some v_24) : Option (Bool)) (fun (v_25 : Bool) => 
          ifB (v_25)
            (Option.bind (Option.bind (ifB ((p_2.Of.Office == p_1.Office))
                  (some (!(p_2.By.Head.Office == p_1.Office)))
                  (some false) : Option (Bool)) (fun (v_38 : Bool) => 
                some v_38) : Option (Bool)) (fun (v_39 : Bool) => 
              ifB (v_39)
                (Option.bind (Option.bind (G_tree_Extended F p_1.Root p_2.Of.Root p_1.Size p_2.Of.Size p_2.Grow) (fun v_46 =>
                  some v_46) : Option (Bool)) (fun (v_47 : Bool) => 
                  ifB (v_47)
                    (Option.bind (Option.bind (G_cross_Digest F p_2.Of) (fun v_52 =>
                      some (p_2.By.Entry.Doc == v_52)) : Option (Bool)) (fun (v_53 : Bool) => 
                      ifB (v_53)
                        (Option.bind (Option.bind (ixI p_0 (IntKind.i64.wrap (p_2.By.Head.Office - 1))) (fun v_58 =>
                          Option.bind (G_office_Check F v_58 p_2.By) (un2 fun v_61 v_62 =>
                          some v_61)) : Option (Bool)) (fun (v_63 : Bool) => 
                          ifB (v_63)
                            (some true)
                            (some false)))
                        (some false)))
                    (some false)))
                (some false)))
            (some false)) : Option (Bool)) (fun (v_71 : Bool) => 
        some (v_71, 0)))))
set_option maxRecDepth 100000 in
set_option maxHeartbeats 16000000 in
theorem z_cross_Check (F : Nat) (p_0_A : Option Addr) (p_0_c : Nat) (p_0 : List Int) (p_1 : KHead) (p_2 : KHopL) (r : Bool × Int) (hG : G_cross_Check F p_0 p_1 p_2.p = some r) :
  Cf Tryd.prog 23 [.slice p_0_A p_0.length p_0_c, .agg #[I p_1.Office, I p_1.Size, U p_1.Root, I p_1.Sig.C, I p_1.Sig.S], .agg #[I p_2.Of.Office, I p_2.Of.Size, U p_2.Of.Root, I p_2.Of.Sig.C, I p_2.Of.Sig.S, .slice p_2.Grow_A p_2.Grow.length p_2.Grow_c, I p_2.By.Head.Office, I p_2.By.Head.Size, U p_2.By.Head.Root, I p_2.By.Head.Sig.C, I p_2.By.Head.Sig.S, I p_2.By.Index, U p_2.By.Entry.Doc, I p_2.By.Entry.Stamp.Lo, I p_2.By.Entry.Stamp.Hi, .slice p_2.By.Path_A p_2.By.Path.length p_2.By.Path_c]] [RowC p_0_A p_0_c c_i64 tr p_0, KHopL.ok p_2] (.tuple #[B r.1, I r.2]) := by
 unfold G_cross_Check at hG; refine fi Tryd.func23 rfl rfl (mr tr_mv (mc KHopL.mv m0)) fun S0 w0 hT => ?_
 refine sq ?_; refine rg ?_; refine l1 ?_; refine nw 4 vp [I p_1.Office, I p_1.Size, U p_1.Root, I p_1.Sig.C, I p_1.Sig.S] 29 fun g_1 => ?_
 refine l1 ?_; refine nw 5 vp [I p_2.Of.Office, I p_2.Of.Size, U p_2.Of.Root, I p_2.Of.Sig.C, I p_2.Of.Sig.S, .slice p_2.Grow_A p_2.Grow.length p_2.Grow_c, I p_2.By.Head.Office, I p_2.By.Head.Size, U p_2.By.Head.Root, I p_2.By.Head.Sig.C, I p_2.By.Head.Sig.S, I p_2.By.Index, U p_2.By.Entry.Doc, I p_2.By.Entry.Stamp.Lo, I p_2.By.Entry.Stamp.Hi, .slice p_2.By.Path_A p_2.By.Path.length p_2.By.Path_c] 40 fun g_2 => ?_
 refine ra [] f0 [] ?_; refine tN ?_; refine sq ?_; refine rg ?_; refine rn 1 [] f0 [(11, .slice p_0_A p_0.length p_0_c)] ?_; refine l1 ?_; refine nw 8 vp [.slice none 0 0] 102 fun g_3 => ?_
 refine l1 ?_; refine sr 0 g_3 [(0, .slice p_0_A p_0.length p_0_c)] ?_; refine nl ?_; refine tN ?_; refine sq ?_; refine sq ?_; replace hG := bind_some hG; obtain ⟨⟨v_4, v_5⟩, hy_4, hG⟩ := hG; refine rg ?_; refine rn 2 [(1, 10, 1, 6)] f0 [(14, .agg #[I p_2.By.Head.Office, I p_2.By.Head.Size, U p_2.By.Head.Root, I p_2.By.Head.Sig.C, I p_2.By.Head.Sig.S, I p_2.By.Index, U p_2.By.Entry.Doc, I p_2.By.Entry.Stamp.Lo, I p_2.By.Entry.Stamp.Hi, .slice p_2.By.Path_A p_2.By.Path.length p_2.By.Path_c])] ?_; refine l1 ?_; refine cl 15 (z_office_Check F 4 p_2.By _ hy_4) hT ⟨(gm (KHopL.ok p_2) 4 fun _ _ h => h.b_By).a, trivial⟩ ?_; refine ra [] f0 [(10, I v_5)] ?_; refine tN ?_; obtain ⟨o_13, hG, hG_13⟩ := bind_some hG; refine jn (fun K E a w => ∃ (v_14 : Bool), Js S0 w0 54 ([(41, B v_14)] ++ K) ([.dat (RowC p_2.Grow_A p_2.Grow_c c_u64 tr p_2.Grow), .dat (RowC p_2.By.Path_A p_2.By.Path_c c_u64 tr p_2.By.Path)] ++ se E [0, 1, 2, 3]) (v_14 = o_13) a w) ?_ ?_
 ·replace hG := ifB_cases hG; rcases hG with ⟨h_6, hG⟩ | ⟨h_6, hG⟩
  ·replace hG := bind_some hG; obtain ⟨v_7, hy_7, hG⟩ := hG; replace hG := ifB_cases hG; rcases hG with ⟨h_8, hG⟩ | ⟨h_8, hG⟩
   ·replace hG := bind_some hG; obtain ⟨v_9, hy_9, hG⟩ := hG; replace hG := ifB_cases hG; rcases hG with ⟨h_10, hG⟩ | ⟨h_10, hG⟩
    ·replace hG := bind_some hG; obtain ⟨v_11, hy_11, hG⟩ := hG; replace hG := ifB_cases hG; rcases hG with ⟨h_12, hG⟩ | ⟨h_12, hG⟩
     ·refine rg ?_; refine rn 3 [] f0 [(20, B (!(v_5 == 0)))] ?_; refine sb 20 (nt h_6) ?_; refine rn 1 [(0, 1, 0, 0)] f0 [(21, .slice p_0_A p_0.length p_0_c)] ?_; refine l1 ?_; refine cl 22 (z_cross_keyring_right F p_0_A p_0_c p_0 _ hy_7) hT ⟨ga 3, trivial⟩ ?_; refine rn 3 [] f0 [(25, B (!v_7))] ?_; refine sb 25 (nt h_8) ?_; refine rn 1 [(0, 5, 2, 0)] f0 [(26, .agg #[I p_1.Office, I p_1.Size, U p_1.Root, I p_1.Sig.C, I p_1.Sig.S])] ?_; refine l1 ?_; refine cl 27 (z_cross_formed F p_1 _ hy_9) hT trivial ?_; refine rn 3 [] f0 [(30, B (!v_9))] ?_; refine sb 30 (nt h_10) ?_; refine rn 2 [(1, 5, 1, 0)] f0 [(32, .agg #[I p_2.Of.Office, I p_2.Of.Size, U p_2.Of.Root, I p_2.Of.Sig.C, I p_2.Of.Sig.S])] ?_; refine l1 ?_; refine cl 33 (z_cross_formed F p_2.Of _ hy_11) hT trivial ?_; refine rn 3 [] f0 [(36, B (!v_11))] ?_; refine sb 36 (nt h_12) ?_; refine ra [(1, 1, 1, 5)] f0 [(41, B (decide (((p_2.Grow.length : Nat) : Int) > 20)))] ?_; refine tN ?_; refine fm (RowC p_2.Grow_A p_2.Grow_c c_u64 tr p_2.Grow) (gm (KHopL.ok p_2) 4 fun _ _ h => h.f_Grow) ?_; refine fm (RowC p_2.By.Path_A p_2.By.Path_c c_u64 tr p_2.By.Path) (gm (KHopL.ok p_2) 5 fun _ _ h => h.b_By.f_Path) ?_; exact fun a w S hK hE => ⟨decide (((p_2.Grow.length : Nat) : Int) > 20), S, hK.wk, hE.sel [1, 0, 2, 3, 4, 5], Option.some.inj hG⟩
     ·refine rg ?_; refine rn 3 [] f0 [(20, B (!(v_5 == 0)))] ?_; refine sb 20 (nt h_6) ?_; refine rn 1 [(0, 1, 0, 0)] f0 [(21, .slice p_0_A p_0.length p_0_c)] ?_; refine l1 ?_; refine cl 22 (z_cross_keyring_right F p_0_A p_0_c p_0 _ hy_7) hT ⟨ga 3, trivial⟩ ?_; refine rn 3 [] f0 [(25, B (!v_7))] ?_; refine sb 25 (nt h_8) ?_; refine rn 1 [(0, 5, 2, 0)] f0 [(26, .agg #[I p_1.Office, I p_1.Size, U p_1.Root, I p_1.Sig.C, I p_1.Sig.S])] ?_; refine l1 ?_; refine cl 27 (z_cross_formed F p_1 _ hy_9) hT trivial ?_; refine rn 3 [] f0 [(30, B (!v_9))] ?_; refine sb 30 (nt h_10) ?_; refine rn 2 [(1, 5, 1, 0)] f0 [(32, .agg #[I p_2.Of.Office, I p_2.Of.Size, U p_2.Of.Root, I p_2.Of.Sig.C, I p_2.Of.Sig.S])] ?_; refine l1 ?_; refine cl 33 (z_cross_formed F p_2.Of _ hy_11) hT trivial ?_; refine rn 3 [] f0 [(36, B (!v_11))] ?_; refine sb 36 (nf h_12) ?_; refine ra [] f0 [(41, B true)] ?_; refine tN ?_; refine fm (RowC p_2.Grow_A p_2.Grow_c c_u64 tr p_2.Grow) (gm (KHopL.ok p_2) 4 fun _ _ h => h.f_Grow) ?_; refine fm (RowC p_2.By.Path_A p_2.By.Path_c c_u64 tr p_2.By.Path) (gm (KHopL.ok p_2) 5 fun _ _ h => h.b_By.f_Path) ?_; exact fun a w S hK hE => ⟨true, S, hK.wk, hE.sel [1, 0, 2, 3, 4, 5], Option.some.inj hG⟩
    ·refine rg ?_; refine rn 3 [] f0 [(20, B (!(v_5 == 0)))] ?_; refine sb 20 (nt h_6) ?_; refine rn 1 [(0, 1, 0, 0)] f0 [(21, .slice p_0_A p_0.length p_0_c)] ?_; refine l1 ?_; refine cl 22 (z_cross_keyring_right F p_0_A p_0_c p_0 _ hy_7) hT ⟨ga 3, trivial⟩ ?_; refine rn 3 [] f0 [(25, B (!v_7))] ?_; refine sb 25 (nt h_8) ?_; refine rn 1 [(0, 5, 2, 0)] f0 [(26, .agg #[I p_1.Office, I p_1.Size, U p_1.Root, I p_1.Sig.C, I p_1.Sig.S])] ?_; refine l1 ?_; refine cl 27 (z_cross_formed F p_1 _ hy_9) hT trivial ?_; refine rn 3 [] f0 [(30, B (!v_9))] ?_; refine sb 30 (nf h_10) ?_; refine ra [] f0 [(41, B true)] ?_; refine tN ?_; refine fm (RowC p_2.Grow_A p_2.Grow_c c_u64 tr p_2.Grow) (gm (KHopL.ok p_2) 4 fun _ _ h => h.f_Grow) ?_; refine fm (RowC p_2.By.Path_A p_2.By.Path_c c_u64 tr p_2.By.Path) (gm (KHopL.ok p_2) 5 fun _ _ h => h.b_By.f_Path) ?_; exact fun a w S hK hE => ⟨true, S, hK.wk, hE.sel [1, 0, 2, 3, 4, 5], Option.some.inj hG⟩
   ·refine rg ?_; refine rn 3 [] f0 [(20, B (!(v_5 == 0)))] ?_; refine sb 20 (nt h_6) ?_; refine rn 1 [(0, 1, 0, 0)] f0 [(21, .slice p_0_A p_0.length p_0_c)] ?_; refine l1 ?_; refine cl 22 (z_cross_keyring_right F p_0_A p_0_c p_0 _ hy_7) hT ⟨ga 3, trivial⟩ ?_; refine rn 3 [] f0 [(25, B (!v_7))] ?_; refine sb 25 (nf h_8) ?_; refine ra [] f0 [(41, B true)] ?_; refine tN ?_; refine fm (RowC p_2.Grow_A p_2.Grow_c c_u64 tr p_2.Grow) (gm (KHopL.ok p_2) 4 fun _ _ h => h.f_Grow) ?_; refine fm (RowC p_2.By.Path_A p_2.By.Path_c c_u64 tr p_2.By.Path) (gm (KHopL.ok p_2) 5 fun _ _ h => h.b_By.f_Path) ?_; exact fun a w S hK hE => ⟨true, S, hK.wk, hE.sel [1, 0, 2, 3, 4, 5], Option.some.inj hG⟩
  ·refine rg ?_; refine rn 3 [] f0 [(20, B (!(v_5 == 0)))] ?_; refine sb 20 (nf h_6) ?_; refine ra [] f0 [(41, B true)] ?_; refine tN ?_; refine fm (RowC p_2.Grow_A p_2.Grow_c c_u64 tr p_2.Grow) (gm (KHopL.ok p_2) 4 fun _ _ h => h.f_Grow) ?_; refine fm (RowC p_2.By.Path_A p_2.By.Path_c c_u64 tr p_2.By.Path) (gm (KHopL.ok p_2) 5 fun _ _ h => h.b_By.f_Path) ?_; exact fun a w S hK hE => ⟨true, S, hK.wk, hE.sel [1, 0, 2, 3, 4, 5], Option.some.inj hG⟩
 ·rintro a w ⟨v_14, hJ⟩; refine hJ.go fun ho_ => ?_
  clear hJ; subst ho_; replace hG := hG_13; rcases ifB_cases hG with ⟨h_15, hG⟩ | ⟨h_15, hG⟩
  ·refine sb 41 (bt h_15) ?_; refine ct ?_; refine sq ?_; refine rg ?_; refine ra [] f0 [(6, B false), (7, I 1)] ?_; refine tN ?_; refine kR ?_; refine tR ?_; obtain rfl := Option.some.inj hG; exact rt []
  ·refine sb 41 (bf h_15) ?_; refine cf ?_; refine kS ?_; refine tN ?_; refine sq ?_; replace hG := bind_some hG; obtain ⟨v_71o, hy_72, hG⟩ := hG; refine rg ?_; refine rn 10 [] f0 [(43, .agg #[.func (.func 54) #[] #[Pt g_3 0, Pt g_1 0, Pt g_2 0]]), (45, .agg #[.func (.func 56) #[] #[Pt g_2 0, Pt g_1 0]]), (47, .agg #[.func (.func 57) #[] #[Pt g_1 0, Pt g_2 0]]), (49, .agg #[.func (.func 58) #[] #[Pt g_2 0]]), (51, .agg #[.func (.func 59) #[] #[Pt g_3 0, Pt g_2 0]])] ?_; refine l1 ?_; refine nw 52 (vs 5) [.func (.func 54) #[] #[Pt g_3 0, Pt g_1 0, Pt g_2 0], .func (.func 56) #[] #[Pt g_2 0, Pt g_1 0], .func (.func 57) #[] #[Pt g_1 0, Pt g_2 0], .func (.func 58) #[] #[Pt g_2 0], .func (.func 59) #[] #[Pt g_3 0, Pt g_2 0]] 106 fun g_16 => ?_
   refine l1 ?_; refine ci 53 (args := [Sb g_16 5 5]) (fun E e w => ∃ (v_71 : Bool), Rs S0 w0 (B v_71) (se E [0, 1, 2, 3, 4, 5, 6]) (v_71 = v_71o) e w) Tryd.func53 rfl rfl ?_ ?_
   ·replace hG := hy_72; refine sq ?_; refine rg ?_; refine ra [] f0 [] ?_; refine tN ?_; refine sq ?_; refine sq ?_; refine rg ?_; refine ra [] f0 [(5, Sb g_16 5 5), (6, I 5), (7, I 0)] ?_; refine tN ?_; refine bk ?_; refine ul ?_; refine ur ?_; refine sq ?_; refine rg ?_; refine ra [] f0 [(8, B true)] ?_; refine tN ?_; refine sq ?_; refine ct ?_; refine kS ?_; refine tN ?_; refine sq ?_; refine bk ?_; refine sq ?_; refine rg ?_; refine rn 2 [(1, 1, 0, 0)] f0 [(10, .agg #[.func (.func 54) #[] #[Pt g_3 0, Pt g_1 0, Pt g_2 0]])] ?_; refine l1 ?_; refine nw 4 vp [.nilFunc] 106 fun g_73 => ?_
    refine l1 ?_; refine sr 0 g_73 [(0, .func (.func 54) #[] #[Pt g_3 0, Pt g_1 0, Pt g_2 0])] ?_; refine nl ?_; refine tN ?_; refine sq ?_; replace hG := bind_some hG; obtain ⟨v_81o, hy_82, hG⟩ := hG; refine rg ?_; refine rn 2 [(1, 1, 0, 0)] f0 [(12, .func (.func 54) #[] #[Pt g_3 0, Pt g_1 0, Pt g_2 0])] ?_; refine l1 ?_; refine ci 13 (args := [Pt g_3 0, Pt g_1 0, Pt g_2 0]) (fun E e w => ∃ (v_81 : Bool), Rs S0 w0 (B v_81) (se E [0, 1, 2, 3, 4, 5, 6, 7]) (v_81 = v_81o) e w) Tryd.func54 rfl rfl ?_ ?_
    ·replace hG := hy_82; refine sq ?_; refine rg ?_; refine ra [] f0 [] ?_; refine tN ?_; obtain ⟨o_88, hG, hG_88⟩ := bind_some hG; refine jn (fun K E a w => ∃ (v_89 : Bool), Js S0 w0 20 ([(3, B v_89)] ++ K) (se E [0, 1, 2, 3, 4, 5, 6, 7]) (v_89 = o_88) a w) ?_ ?_
     ·replace hG := bind_some hG; obtain ⟨v_83, hy_83, hG⟩ := hG; replace hG := ifB_cases hG; rcases hG with ⟨h_84, hG⟩ | ⟨h_84, hG⟩
      ·replace hG := bind_some hG; obtain ⟨v_85, hy_85, hG⟩ := hG; replace hG := ifB_cases hG; rcases hG with ⟨h_86, hG⟩ | ⟨h_86, hG⟩
       ·replace hG := bind_some hG; obtain ⟨v_87, hy_87, hG⟩ := hG; refine rg ?_; refine rn 2 [(0, 1, 4, 0), (0, 5, 6, 0)] f0 [(4, .slice p_0_A p_0.length p_0_c), (5, .agg #[I p_1.Office, I p_1.Size, U p_1.Root, I p_1.Sig.C, I p_1.Sig.S])] ?_; refine l1 ?_; refine cl 6 (z_cross_keyring_signed F p_0_A p_0_c p_0 p_1 _ hy_83) hT ⟨ga 7, trivial⟩ ?_; refine rn 1 [] f0 [(7, B v_83)] ?_; refine sb 7 (bt h_84) ?_; refine rn 3 [(0, 1, 4, 0), (1, 5, 5, 0)] f0 [(8, .slice p_0_A p_0.length p_0_c), (10, .agg #[I p_2.Of.Office, I p_2.Of.Size, U p_2.Of.Root, I p_2.Of.Sig.C, I p_2.Of.Sig.S])] ?_; refine l1 ?_; refine cl 11 (z_cross_keyring_signed F p_0_A p_0_c p_0 p_2.Of _ hy_85) hT ⟨ga 7, trivial⟩ ?_; refine rn 2 [] f0 [(13, B v_85)] ?_; refine sb 13 (bt h_86) ?_; refine rn 4 [(0, 1, 4, 0), (2, 5, 5, 6)] f0 [(14, .slice p_0_A p_0.length p_0_c), (17, .agg #[I p_2.By.Head.Office, I p_2.By.Head.Size, U p_2.By.Head.Root, I p_2.By.Head.Sig.C, I p_2.By.Head.Sig.S])] ?_; refine l1 ?_; refine cl 18 (z_cross_keyring_signed F p_0_A p_0_c p_0 p_2.By.Head _ hy_87) hT ⟨ga 7, trivial⟩ ?_; refine ra [] f0 [(3, B v_87)] ?_; refine tN ?_; exact fun a w S hK hE => ⟨v_87, S, hK.wk, hE.sel [0, 1, 2, 3, 4, 5, 6, 7], Option.some.inj hG⟩
       ·refine rg ?_; refine rn 2 [(0, 1, 4, 0), (0, 5, 6, 0)] f0 [(4, .slice p_0_A p_0.length p_0_c), (5, .agg #[I p_1.Office, I p_1.Size, U p_1.Root, I p_1.Sig.C, I p_1.Sig.S])] ?_; refine l1 ?_; refine cl 6 (z_cross_keyring_signed F p_0_A p_0_c p_0 p_1 _ hy_83) hT ⟨ga 7, trivial⟩ ?_; refine rn 1 [] f0 [(7, B v_83)] ?_; refine sb 7 (bt h_84) ?_; refine rn 3 [(0, 1, 4, 0), (1, 5, 5, 0)] f0 [(8, .slice p_0_A p_0.length p_0_c), (10, .agg #[I p_2.Of.Office, I p_2.Of.Size, U p_2.Of.Root, I p_2.Of.Sig.C, I p_2.Of.Sig.S])] ?_; refine l1 ?_; refine cl 11 (z_cross_keyring_signed F p_0_A p_0_c p_0 p_2.Of _ hy_85) hT ⟨ga 7, trivial⟩ ?_; refine rn 2 [] f0 [(13, B v_85)] ?_; refine sb 13 (bf h_86) ?_; refine ra [] f0 [(3, B false)] ?_; refine tN ?_; exact fun a w S hK hE => ⟨false, S, hK.wk, hE.sel [0, 1, 2, 3, 4, 5, 6, 7], Option.some.inj hG⟩
      ·refine rg ?_; refine rn 2 [(0, 1, 4, 0), (0, 5, 6, 0)] f0 [(4, .slice p_0_A p_0.length p_0_c), (5, .agg #[I p_1.Office, I p_1.Size, U p_1.Root, I p_1.Sig.C, I p_1.Sig.S])] ?_; refine l1 ?_; refine cl 6 (z_cross_keyring_signed F p_0_A p_0_c p_0 p_1 _ hy_83) hT ⟨ga 7, trivial⟩ ?_; refine rn 1 [] f0 [(7, B v_83)] ?_; refine sb 7 (bf h_84) ?_; refine ra [] f0 [(3, B false)] ?_; refine tN ?_; exact fun a w S hK hE => ⟨false, S, hK.wk, hE.sel [0, 1, 2, 3, 4, 5, 6, 7], Option.some.inj hG⟩
     ·rintro a w ⟨v_89, hJ⟩; refine hJ.go fun ho_ => ?_
      clear hJ; subst ho_; replace hG := hG_88; refine kR ?_; refine ri [] (B v_89) ?_; exact fun a w S hK hE => ⟨v_89, rfl, ⟨S, hE.sel [0, 1, 2, 3, 4, 5, 6, 7]⟩, Option.some.inj hG⟩
    ·rintro e w ⟨v_81, hJ⟩; refine hJ.go fun ho_ => ?_
     clear hJ; subst ho_; refine ra [] f0 [(14, B (!v_81))] ?_; refine tN ?_; rcases ifB_cases hG with ⟨h_90, hG⟩ | ⟨h_90, hG⟩
     ·refine sb 14 (nt h_90) ?_; refine cf ?_; refine kS ?_; refine hN ?_; refine tN ?_; refine rg ?_; refine ra [] f0 [(7, I 1)] ?_; refine tN ?_; refine ur ?_; refine sq ?_; refine rg ?_; refine ra [] f0 [(8, B true)] ?_; refine tN ?_; refine sq ?_; refine ct ?_; refine kS ?_; refine tN ?_; refine sq ?_; refine bk ?_; refine sq ?_; refine rg ?_; refine rn 2 [(1, 1, 1, 1)] f0 [(10, .agg #[.func (.func 56) #[] #[Pt g_2 0, Pt g_1 0]])] ?_; refine l1 ?_; refine nw 4 vp [.nilFunc] 106 fun g_91 => ?_
      refine l1 ?_; refine sr 0 g_91 [(0, .func (.func 56) #[] #[Pt g_2 0, Pt g_1 0])] ?_; refine nl ?_; refine tN ?_; refine sq ?_; replace hG := bind_some hG; obtain ⟨v_95o, hy_96, hG⟩ := hG; refine rg ?_; refine rn 2 [(1, 1, 0, 0)] f0 [(12, .func (.func 56) #[] #[Pt g_2 0, Pt g_1 0])] ?_; refine l1 ?_; refine ci 13 (args := [Pt g_2 0, Pt g_1 0]) (fun E e w => ∃ (v_95 : Bool), Rs S0 w0 (B v_95) (se E [0, 2, 3, 4, 5, 6, 7, 8]) (v_95 = v_95o) e w) Tryd.func56 rfl rfl ?_ ?_
      ·replace hG := hy_96; refine sq ?_; refine rg ?_; refine ra [] f0 [] ?_; refine tN ?_; obtain ⟨o_98, hG, hG_98⟩ := bind_some hG; refine jn (fun K E a w => ∃ (v_99 : Bool), Js S0 w0 18 ([(2, B v_99)] ++ K) (se E [0, 2, 3, 4, 5, 6, 7, 8]) (v_99 = o_98) a w) ?_ ?_
       ·replace hG := ifB_cases hG; rcases hG with ⟨h_97, hG⟩ | ⟨h_97, hG⟩
        ·refine rg ?_; refine rn 7 [(2, 1, 6, 0), (1, 1, 7, 0)] f0 [(9, B (p_2.Of.Office == p_1.Office))] ?_; refine sb 9 (bt h_97) ?_; refine ra [(3, 1, 6, 6), (1, 1, 7, 0)] f0 [(2, B (!(p_2.By.Head.Office == p_1.Office)))] ?_; refine tN ?_; exact fun a w S hK hE => ⟨!(p_2.By.Head.Office == p_1.Office), S, hK.wk, hE.sel [0, 2, 3, 4, 5, 6, 7, 8], Option.some.inj hG⟩
        ·refine rg ?_; refine rn 7 [(2, 1, 6, 0), (1, 1, 7, 0)] f0 [(9, B (p_2.Of.Office == p_1.Office))] ?_; refine sb 9 (bf h_97) ?_; refine ra [] f0 [(2, B false)] ?_; refine tN ?_; exact fun a w S hK hE => ⟨false, S, hK.wk, hE.sel [0, 2, 3, 4, 5, 6, 7, 8], Option.some.inj hG⟩
       ·rintro a w ⟨v_99, hJ⟩; refine hJ.go fun ho_ => ?_
        clear hJ; subst ho_; replace hG := hG_98; refine kR ?_; refine ri [] (B v_99) ?_; exact fun a w S hK hE => ⟨v_99, rfl, ⟨S, hE.sel [0, 1, 2, 3, 4, 5, 6, 7]⟩, Option.some.inj hG⟩
      ·rintro e w ⟨v_95, hJ⟩; refine hJ.go fun ho_ => ?_
       clear hJ; subst ho_; refine ra [] f0 [(14, B (!v_95))] ?_; refine tN ?_; rcases ifB_cases hG with ⟨h_100, hG⟩ | ⟨h_100, hG⟩
       ·refine sb 14 (nt h_100) ?_; refine cf ?_; refine kS ?_; refine hN ?_; refine tN ?_; refine rg ?_; refine ra [] f0 [(7, I 2)] ?_; refine tN ?_; refine ur ?_; refine sq ?_; refine rg ?_; refine ra [] f0 [(8, B true)] ?_; refine tN ?_; refine sq ?_; refine ct ?_; refine kS ?_; refine tN ?_; refine sq ?_; refine bk ?_; refine sq ?_; refine rg ?_; refine rn 2 [(1, 1, 1, 2)] f0 [(10, .agg #[.func (.func 57) #[] #[Pt g_1 0, Pt g_2 0]])] ?_; refine l1 ?_; refine nw 4 vp [.nilFunc] 106 fun g_101 => ?_
        refine l1 ?_; refine sr 0 g_101 [(0, .func (.func 57) #[] #[Pt g_1 0, Pt g_2 0])] ?_; refine nl ?_; refine tN ?_; refine sq ?_; replace hG := bind_some hG; obtain ⟨v_103o, hy_104, hG⟩ := hG; refine rg ?_; refine rn 2 [(1, 1, 0, 0)] f0 [(12, .func (.func 57) #[] #[Pt g_1 0, Pt g_2 0])] ?_; refine l1 ?_; refine ci 13 (args := [Pt g_1 0, Pt g_2 0]) (fun E e w => ∃ (v_103 : Bool), Rs S0 w0 (B v_103) (se E [0, 2, 3, 4, 5, 6, 7, 8]) (v_103 = v_103o) e w) Tryd.func57 rfl rfl ?_ ?_
        ·replace hG := hy_104; refine sq ?_; refine rg ?_; refine ra [] f0 [] ?_; refine tN ?_; refine sq ?_; replace hG := bind_some hG; obtain ⟨v_105, hy_105, hG⟩ := hG; refine rg ?_; refine rn 12 [(1, 1, 7, 2), (2, 1, 6, 2), (1, 1, 7, 1), (2, 1, 6, 1), (1, 1, 6, 5)] f0 [(4, U p_1.Root), (7, U p_2.Of.Root), (9, I p_1.Size), (12, I p_2.Of.Size), (14, .slice p_2.Grow_A p_2.Grow.length p_2.Grow_c)] ?_; refine l1 ?_; refine cl 15 (z_tree_Extended F p_1.Root p_2.Of.Root p_1.Size p_2.Of.Size p_2.Grow_A p_2.Grow_c p_2.Grow _ hy_105) hT ⟨ga 3, trivial⟩ ?_; refine ra [] f0 [(2, B v_105)] ?_; refine tN ?_; refine kR ?_; refine ri [] (B v_105) ?_; exact fun a w S hK hE => ⟨v_105, rfl, ⟨S, hE.sel [0, 2, 3, 4, 5, 6, 7, 8]⟩, Option.some.inj hG⟩
        ·rintro e w ⟨v_103, hJ⟩; refine hJ.go fun ho_ => ?_
         clear hJ; subst ho_; refine ra [] f0 [(14, B (!v_103))] ?_; refine tN ?_; rcases ifB_cases hG with ⟨h_106, hG⟩ | ⟨h_106, hG⟩
         ·refine sb 14 (nt h_106) ?_; refine cf ?_; refine kS ?_; refine hN ?_; refine tN ?_; refine rg ?_; refine ra [] f0 [(7, I 3)] ?_; refine tN ?_; refine ur ?_; refine sq ?_; refine rg ?_; refine ra [] f0 [(8, B true)] ?_; refine tN ?_; refine sq ?_; refine ct ?_; refine kS ?_; refine tN ?_; refine sq ?_; refine bk ?_; refine sq ?_; refine rg ?_; refine rn 2 [(1, 1, 1, 3)] f0 [(10, .agg #[.func (.func 58) #[] #[Pt g_2 0]])] ?_; refine l1 ?_; refine nw 4 vp [.nilFunc] 106 fun g_107 => ?_
          refine l1 ?_; refine sr 0 g_107 [(0, .func (.func 58) #[] #[Pt g_2 0])] ?_; refine nl ?_; refine tN ?_; refine sq ?_; replace hG := bind_some hG; obtain ⟨v_109o, hy_110, hG⟩ := hG; refine rg ?_; refine rn 2 [(1, 1, 0, 0)] f0 [(12, .func (.func 58) #[] #[Pt g_2 0])] ?_; refine l1 ?_; refine ci 13 (args := [Pt g_2 0]) (fun E e w => ∃ (v_109 : Bool), Rs S0 w0 (B v_109) (se E [0, 2, 3, 4, 5, 6, 7, 8]) (v_109 = v_109o) e w) Tryd.func58 rfl rfl ?_ ?_
          ·replace hG := hy_110; refine sq ?_; refine rg ?_; refine ra [] f0 [] ?_; refine tN ?_; refine sq ?_; replace hG := bind_some hG; obtain ⟨v_111, hy_111, hG⟩ := hG; refine qb ?_; refine qn 6 [(3, 1, 6, 12), (1, 5, 6, 0)] f0 [(5, U p_2.By.Entry.Doc), (7, .agg #[I p_2.Of.Office, I p_2.Of.Size, U p_2.Of.Root, I p_2.Of.Sig.C, I p_2.Of.Sig.S])] ?_; refine qc 8 (z_cross_Digest F p_2.Of _ hy_111) hT trivial ?_; refine qa [] f0 [(1, B (p_2.By.Entry.Doc == v_111))] ?_; refine tN ?_; refine kR ?_; refine ri [] (B (p_2.By.Entry.Doc == v_111)) ?_; exact fun a w S hK hE => ⟨(p_2.By.Entry.Doc == v_111), rfl, ⟨S, hE.sel [0, 2, 3, 4, 5, 6, 7, 8]⟩, Option.some.inj hG⟩
          ·rintro e w ⟨v_109, hJ⟩; refine hJ.go fun ho_ => ?_
           clear hJ; subst ho_; refine ra [] f0 [(14, B (!v_109))] ?_; refine tN ?_; rcases ifB_cases hG with ⟨h_112, hG⟩ | ⟨h_112, hG⟩
           ·refine sb 14 (nt h_112) ?_; refine cf ?_; refine kS ?_; refine hN ?_; refine tN ?_; refine rg ?_; refine ra [] f0 [(7, I 4)] ?_; refine tN ?_; refine ur ?_; refine sq ?_; refine rg ?_; refine ra [] f0 [(8, B true)] ?_; refine tN ?_; refine sq ?_; refine ct ?_; refine kS ?_; refine tN ?_; refine sq ?_; refine bk ?_; refine sq ?_; refine rg ?_; refine rn 2 [(1, 1, 1, 4)] f0 [(10, .agg #[.func (.func 59) #[] #[Pt g_3 0, Pt g_2 0]])] ?_; refine l1 ?_; refine nw 4 vp [.nilFunc] 106 fun g_113 => ?_
            refine l1 ?_; refine sr 0 g_113 [(0, .func (.func 59) #[] #[Pt g_3 0, Pt g_2 0])] ?_; refine nl ?_; refine tN ?_; refine sq ?_; replace hG := bind_some hG; obtain ⟨v_119o, hy_120, hG⟩ := hG; refine rg ?_; refine rn 2 [(1, 1, 0, 0)] f0 [(12, .func (.func 59) #[] #[Pt g_3 0, Pt g_2 0])] ?_; refine l1 ?_; refine ci 13 (args := [Pt g_3 0, Pt g_2 0]) (fun E e w => ∃ (v_119 : Bool), Rs S0 w0 (B v_119) (se E [0, 2, 3, 4, 5, 6, 7, 8]) (v_119 = v_119o) e w) Tryd.func59 rfl rfl ?_ ?_
            ·replace hG := hy_120; refine sq ?_; refine rg ?_; refine ra [] f0 [] ?_; refine tN ?_; refine sq ?_; replace hG := bind_some hG; obtain ⟨v_121, hy_121, hG⟩ := hG; replace hG := bind_some hG; obtain ⟨⟨v_124, v_125⟩, hy_124, hG⟩ := hG; refine qb ?_; refine fx inf102 (gd' (RowC p_0_A p_0_c c_i64 tr p_0) 8) hy_121 fun b_122 o_123 hi_121 => ?_
             refine qn 10 [(0, 1, 6, 0), (3, 1, 7, 6), (1, 0, 0, 0), (0, 1, 0, 0), (1, 10, 7, 6)] (fc (hi_121 .i64) f0) [(13, I v_121), (15, .agg #[I p_2.By.Head.Office, I p_2.By.Head.Size, U p_2.By.Head.Root, I p_2.By.Head.Sig.C, I p_2.By.Head.Sig.S, I p_2.By.Index, U p_2.By.Entry.Doc, I p_2.By.Entry.Stamp.Lo, I p_2.By.Entry.Stamp.Hi, .slice p_2.By.Path_A p_2.By.Path.length p_2.By.Path_c])] ?_; refine qc 16 (z_office_Check F v_121 p_2.By _ hy_124) hT ⟨(((gd' (RowC p_2.By.Path_A p_2.By.Path_c c_u64 tr p_2.By.Path) 5)).m fun _ _ h => ⟨h⟩).a, trivial⟩ ?_; refine qa [] f0 [(3, B v_124)] ?_; refine tN ?_; refine sq ?_; refine rg ?_; refine ra [] f0 [(2, B v_124)] ?_; refine tN ?_; refine kR ?_; refine ri [] (B v_124) ?_; exact fun a w S hK hE => ⟨v_124, rfl, ⟨S, hE.sel [1, 3, 4, 5, 6, 7, 8, 9]⟩, Option.some.inj hG⟩
            ·rintro e w ⟨v_119, hJ⟩; refine hJ.go fun ho_ => ?_
             clear hJ; subst ho_; refine ra [] f0 [(14, B (!v_119))] ?_; refine tN ?_; rcases ifB_cases hG with ⟨h_126, hG⟩ | ⟨h_126, hG⟩
             ·refine sb 14 (nt h_126) ?_; refine cf ?_; refine kS ?_; refine hN ?_; refine tN ?_; refine rg ?_; refine ra [] f0 [(7, I 5)] ?_; refine tN ?_; refine ur ?_; refine sq ?_; refine rg ?_; refine ra [] f0 [(8, B false)] ?_; refine tN ?_; refine sq ?_; refine cf ?_; refine kX ?_; refine tX ?_; refine tX ?_; refine hH ?_; refine tN ?_; refine sq ?_; refine rg ?_; refine ra [] f0 [(2, B true)] ?_; refine tN ?_; refine kR ?_; refine ri [] (B true) ?_; exact fun a w S hK hE => ⟨true, rfl, ⟨S, hE.sel [1, 2, 3, 4, 5, 6, 7]⟩, Option.some.inj hG⟩
             ·refine sb 14 (nf h_126) ?_; refine ct ?_; refine sq ?_; refine rg ?_; refine ra [] f0 [(2, B false)] ?_; refine tN ?_; refine kR ?_; refine hR ?_; refine tR ?_; refine tR ?_; refine hR ?_; refine tR ?_; refine ri [] (B false) ?_; exact fun a w S hK hE => ⟨false, rfl, ⟨S, hE.sel [1, 2, 3, 4, 5, 6, 7]⟩, Option.some.inj hG⟩
           ·refine sb 14 (nf h_112) ?_; refine ct ?_; refine sq ?_; refine rg ?_; refine ra [] f0 [(2, B false)] ?_; refine tN ?_; refine kR ?_; refine hR ?_; refine tR ?_; refine tR ?_; refine hR ?_; refine tR ?_; refine ri [] (B false) ?_; exact fun a w S hK hE => ⟨false, rfl, ⟨S, hE.sel [1, 2, 3, 4, 5, 6, 7]⟩, Option.some.inj hG⟩
         ·refine sb 14 (nf h_106) ?_; refine ct ?_; refine sq ?_; refine rg ?_; refine ra [] f0 [(2, B false)] ?_; refine tN ?_; refine kR ?_; refine hR ?_; refine tR ?_; refine tR ?_; refine hR ?_; refine tR ?_; refine ri [] (B false) ?_; exact fun a w S hK hE => ⟨false, rfl, ⟨S, hE.sel [1, 2, 3, 4, 5, 6, 7]⟩, Option.some.inj hG⟩
       ·refine sb 14 (nf h_100) ?_; refine ct ?_; refine sq ?_; refine rg ?_; refine ra [] f0 [(2, B false)] ?_; refine tN ?_; refine kR ?_; refine hR ?_; refine tR ?_; refine tR ?_; refine hR ?_; refine tR ?_; refine ri [] (B false) ?_; exact fun a w S hK hE => ⟨false, rfl, ⟨S, hE.sel [1, 2, 3, 4, 5, 6, 7]⟩, Option.some.inj hG⟩
     ·refine sb 14 (nf h_90) ?_; refine ct ?_; refine sq ?_; refine rg ?_; refine ra [] f0 [(2, B false)] ?_; refine tN ?_; refine kR ?_; refine hR ?_; refine tR ?_; refine tR ?_; refine hR ?_; refine tR ?_; refine ri [] (B false) ?_; exact fun a w S hK hE => ⟨false, rfl, ⟨S, hE.sel [1, 2, 3, 4, 5, 6, 7]⟩, Option.some.inj hG⟩
   ·rintro e w ⟨v_71, hJ⟩; refine hJ.go fun ho_ => ?_
    clear hJ; subst ho_; refine ra [] f0 [(6, B v_71), (7, I 0)] ?_; refine tN ?_; refine kR ?_; obtain rfl := Option.some.inj hG; exact rt []
end Go.Proofs.YtiijddjfiojfaaaDoor
namespace Go.Proofs.YtiijddjfiojfaaaDoor
open Go.RowKit Go.Maps
def G_regulatorlaw26_head (F : Nat)  : Option (Bool) :=
  Option.bind (G_office_Sign F (⟨1, ([(⟨7, (⟨0, 0⟩ : KInterval)⟩ : KEntry), (⟨8, (⟨0, 0⟩ : KInterval)⟩ : KEntry)] : List KEntry)⟩ : KOffice) 1 5 7) (un2 fun v_5 v_6 =>
  Option.bind (G_office_Sign F (⟨1, ([(⟨7, (⟨0, 0⟩ : KInterval)⟩ : KEntry), (⟨8, (⟨0, 0⟩ : KInterval)⟩ : KEntry)] : List KEntry)⟩ : KOffice) 2 5 8) (un2 fun v_8 v_9 =>
  Option.bind (G_office_Sign F (⟨1, ([(⟨7, (⟨0, 0⟩ : KInterval)⟩ : KEntry), (⟨9, (⟨0, 0⟩ : KInterval)⟩ : KEntry)] : List KEntry)⟩ : KOffice) 2 5 9) (un2 fun v_11 v_12 =>
  Option.bind (G_cross_Digest F v_8) (fun v_14 =>
  Option.bind (G_office_Sign F (⟨2, ([(⟨v_14, (⟨0, 0⟩ : KInterval)⟩ : KEntry)] : List KEntry)⟩ : KOffice) 1 6 7) (un2 fun v_17 v_18 =>
  Option.bind (G_cross_Witness F (⟨1, ([(⟨7, (⟨0, 0⟩ : KInterval)⟩ : KEntry), (⟨8, (⟨0, 0⟩ : KInterval)⟩ : KEntry)] : List KEntry)⟩ : KOffice) v_5 v_8 (⟨2, ([(⟨v_14, (⟨0, 0⟩ : KInterval)⟩ : KEntry)] : List KEntry)⟩ : KOffice) v_17) (un2 fun v_20 v_21 =>
  Option.bind (G_cross_Check F ([1024, 4096] : List Int) v_5 v_20) (un2 fun v_24 v_25 =>
  Option.bind (G_cross_Check F ([1024] : List Int) v_5 v_20) (un2 fun v_27 v_28 =>
  Option.bind (G_cross_Forks F 1024 v_8 v_11 ([] : List Int)) (un2 fun v_29 v_30 =>
  Option.bind (G_cross_Witness F (⟨1, ([(⟨7, (⟨0, 0⟩ : KInterval)⟩ : KEntry), (⟨8, (⟨0, 0⟩ : KInterval)⟩ : KEntry)] : List KEntry)⟩ : KOffice) v_5 v_5 (⟨2, ([(⟨v_14, (⟨0, 0⟩ : KInterval)⟩ : KEntry)] : List KEntry)⟩ : KOffice) v_17) (un2 fun v_31 v_32 =>
  Option.bind (ifB ((v_6 == 0))
      (ifB ((v_9 == 0))
        (ifB ((v_12 == 0))
          (ifB ((v_18 == 0))
            (ifB ((v_21 == 0))
              (ifB ((v_25 == 0))
                (ifB ((v_28 == 0))
                  (ifB ((v_30 == 0))
                    (some (v_32 == 4))
                    (some false))
                  (some false))
                (some false))
              (some false))
            (some false))
          (some false))
        (some false))
      (some false) : Option (Bool)) (fun (v_43 : Bool) => 
    Option.bind (ifB (v_43)
        (ifB (decide (v_20.Of = v_8))
          (ifB ((((v_20.Grow.length : Nat) : Int) == 1))
            (Option.bind (ixI v_20.Grow 0) (fun v_47 =>
            Option.bind (ixI ([(⟨7, (⟨0, 0⟩ : KInterval)⟩ : KEntry), (⟨8, (⟨0, 0⟩ : KInterval)⟩ : KEntry)] : List KEntry) 1) (fun v_50 =>
            Option.bind (G_regulatorref25_Leaf F v_50) (fun v_53 =>
            Option.bind (G_regulatorref24_Leaf F v_53) (fun v_54 =>
            ifB ((v_47 == v_54))
              (ifB (v_24)
                (ifB (v_27)
                  (some false)
                  (some v_29))
                (some false))
              (some false))))))
            (some false))
          (some false))
        (some false) : Option (Bool)) (fun (v_59 : Bool) => 
      some v_59))))))))))))
set_option maxRecDepth 100000 in
set_option maxHeartbeats 16000000 in
theorem z_regulatorlaw26_head (F : Nat)  (r : Bool) (hG : G_regulatorlaw26_head F  = some r) :
  Cf Tryd.prog 8 [] [] (B r) := by
 unfold G_regulatorlaw26_head at hG; refine fi Tryd.func8 rfl rfl m0 fun S0 w0 hT => ?_
 refine sq ?_; refine rg ?_; refine ra [] f0 [] ?_; refine tN ?_; refine sq ?_; refine rg ?_; refine rn 2 [] f0 [(24, .agg #[U 7, I 0, I 0]), (25, .agg #[U 8, I 0, I 0])] ?_; refine l1 ?_; refine nw 26 (vs 2) [U 7, I 0, I 0, U 8, I 0, I 0] 36 fun g_1 => ?_
 refine rn 1 [] f0 [(27, .agg #[I 1, Sb g_1 2 2])] ?_; refine l1 ?_; refine nw 1 vp [I 0, .slice none 0 0] 24 fun g_2 => ?_
 refine l1 ?_; refine sr 0 g_2 [(0, I 1), (1, Sb g_1 2 2)] ?_; refine nl ?_; refine tN ?_; refine sq ?_; refine rg ?_; refine rn 2 [] f0 [(28, .agg #[U 7, I 0, I 0]), (29, .agg #[U 9, I 0, I 0])] ?_; refine l1 ?_; refine nw 30 (vs 2) [U 7, I 0, I 0, U 9, I 0, I 0] 36 fun g_3 => ?_
 refine rn 1 [] f0 [(31, .agg #[I 1, Sb g_3 2 2])] ?_; refine l1 ?_; refine nw 2 vp [I 0, .slice none 0 0] 24 fun g_4 => ?_
 refine l1 ?_; refine sr 0 g_4 [(0, I 1), (1, Sb g_3 2 2)] ?_; refine nl ?_; refine tN ?_; refine sq ?_; replace hG := bind_some hG; obtain ⟨⟨v_5, v_6⟩, hy_5, hG⟩ := hG; refine rg ?_; refine rn 1 [(0, 2, 2, 0)] f0 [(33, .agg #[I 1, Sb g_1 2 2])] ?_; refine l1 ?_; refine cl 34 (z_office_Sign F (⟨1, (some ⟨g_1, 0, none⟩), 2, ([(⟨7, (⟨0, 0⟩ : KInterval)⟩ : KEntry), (⟨8, (⟨0, 0⟩ : KInterval)⟩ : KEntry)] : List KEntry)⟩ : KOfficeL) 1 5 7 _ hy_5) hT ⟨Fa.m (bA (f := KEntry.cells) (ok := tr) (l := ([(⟨7, (⟨0, 0⟩ : KInterval)⟩ : KEntry), (⟨8, (⟨0, 0⟩ : KInterval)⟩ : KEntry)] : List KEntry)) g_1 3 (et.a)) fun _ _ h => ⟨h⟩, trivial⟩ ?_; refine rn 3 [] f0 [(35, .agg #[I v_5.Office, I v_5.Size, U v_5.Root, I v_5.Sig.C, I v_5.Sig.S]), (36, I v_6)] ?_; refine l1 ?_; refine nw 3 vp [I 0, I 0, U 0, I 0, I 0] 29 fun g_7 => ?_
 refine l1 ?_; refine sr 0 g_7 [(0, I v_5.Office), (1, I v_5.Size), (2, U v_5.Root), (3, I v_5.Sig.C), (4, I v_5.Sig.S)] ?_; refine ra [] f0 [(4, I v_6)] ?_; refine tN ?_; refine sq ?_; replace hG := bind_some hG; obtain ⟨⟨v_8, v_9⟩, hy_8, hG⟩ := hG; refine rg ?_; refine rn 1 [(0, 2, 3, 0)] f0 [(38, .agg #[I 1, Sb g_1 2 2])] ?_; refine l1 ?_; refine cl 39 (z_office_Sign F (⟨1, (some ⟨g_1, 0, none⟩), 2, ([(⟨7, (⟨0, 0⟩ : KInterval)⟩ : KEntry), (⟨8, (⟨0, 0⟩ : KInterval)⟩ : KEntry)] : List KEntry)⟩ : KOfficeL) 2 5 8 _ hy_8) hT ⟨Fa.m (bA (f := KEntry.cells) (ok := tr) (l := ([(⟨7, (⟨0, 0⟩ : KInterval)⟩ : KEntry), (⟨8, (⟨0, 0⟩ : KInterval)⟩ : KEntry)] : List KEntry)) g_1 4 (et.a)) fun _ _ h => ⟨h⟩, trivial⟩ ?_; refine rn 3 [] f0 [(40, .agg #[I v_8.Office, I v_8.Size, U v_8.Root, I v_8.Sig.C, I v_8.Sig.S]), (41, I v_9)] ?_; refine l1 ?_; refine nw 5 vp [I 0, I 0, U 0, I 0, I 0] 29 fun g_10 => ?_
 refine l1 ?_; refine sr 0 g_10 [(0, I v_8.Office), (1, I v_8.Size), (2, U v_8.Root), (3, I v_8.Sig.C), (4, I v_8.Sig.S)] ?_; refine ra [] f0 [(6, I v_9)] ?_; refine tN ?_; refine sq ?_; replace hG := bind_some hG; obtain ⟨⟨v_11, v_12⟩, hy_11, hG⟩ := hG; refine rg ?_; refine rn 1 [(0, 2, 2, 0)] f0 [(43, .agg #[I 1, Sb g_3 2 2])] ?_; refine l1 ?_; refine cl 44 (z_office_Sign F (⟨1, (some ⟨g_3, 0, none⟩), 2, ([(⟨7, (⟨0, 0⟩ : KInterval)⟩ : KEntry), (⟨9, (⟨0, 0⟩ : KInterval)⟩ : KEntry)] : List KEntry)⟩ : KOfficeL) 2 5 9 _ hy_11) hT ⟨Fa.m (bA (f := KEntry.cells) (ok := tr) (l := ([(⟨7, (⟨0, 0⟩ : KInterval)⟩ : KEntry), (⟨9, (⟨0, 0⟩ : KInterval)⟩ : KEntry)] : List KEntry)) g_3 3 (et.a)) fun _ _ h => ⟨h⟩, trivial⟩ ?_; refine rn 3 [] f0 [(45, .agg #[I v_11.Office, I v_11.Size, U v_11.Root, I v_11.Sig.C, I v_11.Sig.S]), (46, I v_12)] ?_; refine l1 ?_; refine nw 7 vp [I 0, I 0, U 0, I 0, I 0] 29 fun g_13 => ?_
 refine l1 ?_; refine sr 0 g_13 [(0, I v_11.Office), (1, I v_11.Size), (2, U v_11.Root), (3, I v_11.Sig.C), (4, I v_11.Sig.S)] ?_; refine ra [] f0 [(8, I v_12)] ?_; refine tN ?_; refine sq ?_; replace hG := bind_some hG; obtain ⟨v_14, hy_14, hG⟩ := hG; refine rg ?_; refine rn 1 [(0, 5, 1, 0)] f0 [(47, .agg #[I v_8.Office, I v_8.Size, U v_8.Root, I v_8.Sig.C, I v_8.Sig.S])] ?_; refine l1 ?_; refine cl 48 (z_cross_Digest F v_8 _ hy_14) hT trivial ?_; refine rn 1 [] f0 [(49, .agg #[U v_14, I 0, I 0])] ?_; refine l1 ?_; refine nw 50 (vs 1) [U v_14, I 0, I 0] 36 fun g_15 => ?_
 refine rn 1 [] f0 [(51, .agg #[I 2, Sb g_15 1 1])] ?_; refine l1 ?_; refine nw 9 vp [I 0, .slice none 0 0] 24 fun g_16 => ?_
 refine l1 ?_; refine sr 0 g_16 [(0, I 2), (1, Sb g_15 1 1)] ?_; refine nl ?_; refine tN ?_; refine sq ?_; replace hG := bind_some hG; obtain ⟨⟨v_17, v_18⟩, hy_17, hG⟩ := hG; refine rg ?_; refine rn 1 [(0, 2, 0, 0)] f0 [(53, .agg #[I 2, Sb g_15 1 1])] ?_; refine l1 ?_; refine cl 54 (z_office_Sign F (⟨2, (some ⟨g_15, 0, none⟩), 1, ([(⟨v_14, (⟨0, 0⟩ : KInterval)⟩ : KEntry)] : List KEntry)⟩ : KOfficeL) 1 6 7 _ hy_17) hT ⟨Fa.m (bA (f := KEntry.cells) (ok := tr) (l := ([(⟨v_14, (⟨0, 0⟩ : KInterval)⟩ : KEntry)] : List KEntry)) g_15 1 (et.a)) fun _ _ h => ⟨h⟩, trivial⟩ ?_; refine rn 3 [] f0 [(55, .agg #[I v_17.Office, I v_17.Size, U v_17.Root, I v_17.Sig.C, I v_17.Sig.S]), (56, I v_18)] ?_; refine l1 ?_; refine nw 10 vp [I 0, I 0, U 0, I 0, I 0] 29 fun g_19 => ?_
 refine l1 ?_; refine sr 0 g_19 [(0, I v_17.Office), (1, I v_17.Size), (2, U v_17.Root), (3, I v_17.Sig.C), (4, I v_17.Sig.S)] ?_; refine ra [] f0 [(11, I v_18)] ?_; refine tN ?_; refine sq ?_; replace hG := bind_some hG; obtain ⟨⟨v_20o, v_21⟩, hy_20, hG⟩ := hG; refine rg ?_; refine rn 5 [(0, 2, 8, 0), (0, 5, 5, 0), (0, 5, 4, 0), (0, 2, 1, 0), (0, 5, 0, 0)] f0 [(58, .agg #[I 1, Sb g_1 2 2]), (59, .agg #[I v_5.Office, I v_5.Size, U v_5.Root, I v_5.Sig.C, I v_5.Sig.S]), (60, .agg #[I v_8.Office, I v_8.Size, U v_8.Root, I v_8.Sig.C, I v_8.Sig.S]), (61, .agg #[I 2, Sb g_15 1 1]), (62, .agg #[I v_17.Office, I v_17.Size, U v_17.Root, I v_17.Sig.C, I v_17.Sig.S])] ?_; refine sB 9 g_1 KEntry.cells tr ([(⟨7, (⟨0, 0⟩ : KInterval)⟩ : KEntry), (⟨8, (⟨0, 0⟩ : KInterval)⟩ : KEntry)] : List KEntry) tr_mv et ?_; refine sB 2 g_15 KEntry.cells tr ([(⟨v_14, (⟨0, 0⟩ : KInterval)⟩ : KEntry)] : List KEntry) tr_mv et ?_; refine l1 ?_; refine cn 63 (z_cross_Witness F (⟨1, (some ⟨g_1, 0, none⟩), 2, ([(⟨7, (⟨0, 0⟩ : KInterval)⟩ : KEntry), (⟨8, (⟨0, 0⟩ : KInterval)⟩ : KEntry)] : List KEntry)⟩ : KOfficeL) v_5 v_8 (⟨2, (some ⟨g_15, 0, none⟩), 1, ([(⟨v_14, (⟨0, 0⟩ : KInterval)⟩ : KEntry)] : List KEntry)⟩ : KOfficeL) v_17 _ hy_20) hT (fun _ => (mc KHopL.mv m0)) ⟨(((gd' (RowC (some ⟨g_1, 0, none⟩) 2 KEntry.cells tr ([(⟨7, (⟨0, 0⟩ : KInterval)⟩ : KEntry), (⟨8, (⟨0, 0⟩ : KInterval)⟩ : KEntry)] : List KEntry)) 9)).m fun _ _ h => ⟨h⟩), (((gd' (RowC (some ⟨g_15, 0, none⟩) 1 KEntry.cells tr ([(⟨v_14, (⟨0, 0⟩ : KInterval)⟩ : KEntry)] : List KEntry)) 2)).m fun _ _ h => ⟨h⟩), trivial⟩ ?_; rintro v_20 hq_20; obtain rfl : v_20.p = v_20o := hq_20.symm; refine rn 3 [] f0 [(64, .agg #[I v_20.Of.Office, I v_20.Of.Size, U v_20.Of.Root, I v_20.Of.Sig.C, I v_20.Of.Sig.S, .slice v_20.Grow_A v_20.Grow.length v_20.Grow_c, I v_20.By.Head.Office, I v_20.By.Head.Size, U v_20.By.Head.Root, I v_20.By.Head.Sig.C, I v_20.By.Head.Sig.S, I v_20.By.Index, U v_20.By.Entry.Doc, I v_20.By.Entry.Stamp.Lo, I v_20.By.Entry.Stamp.Hi, .slice v_20.By.Path_A v_20.By.Path.length v_20.By.Path_c]), (65, I v_21)] ?_; refine l1 ?_; refine nw 12 vp [I 0, I 0, U 0, I 0, I 0, .slice none 0 0, I 0, I 0, U 0, I 0, I 0, I 0, U 0, I 0, I 0, .slice none 0 0] 40 fun g_22 => ?_
 refine l1 ?_; refine sr 0 g_22 [(0, I v_20.Of.Office), (1, I v_20.Of.Size), (2, U v_20.Of.Root), (3, I v_20.Of.Sig.C), (4, I v_20.Of.Sig.S), (5, .slice v_20.Grow_A v_20.Grow.length v_20.Grow_c), (6, I v_20.By.Head.Office), (7, I v_20.By.Head.Size), (8, U v_20.By.Head.Root), (9, I v_20.By.Head.Sig.C), (10, I v_20.By.Head.Sig.S), (11, I v_20.By.Index), (12, U v_20.By.Entry.Doc), (13, I v_20.By.Entry.Stamp.Lo), (14, I v_20.By.Entry.Stamp.Hi), (15, .slice v_20.By.Path_A v_20.By.Path.length v_20.By.Path_c)] ?_; refine ra [] f0 [(13, I v_21)] ?_; refine tN ?_; refine sq ?_; refine rg ?_; refine l1 ?_; refine nw 66 (vs 2) [I 1024, I 4096] 3 fun g_23 => ?_
 refine ra [] f0 [(14, Sb g_23 2 2)] ?_; refine tN ?_; refine sq ?_; replace hG := bind_some hG; obtain ⟨⟨v_24, v_25⟩, hy_24, hG⟩ := hG; refine rg ?_; refine rn 3 [(1, 5, 8, 0), (0, 16, 1, 0)] f0 [(68, Sb g_23 2 2), (69, .agg #[I v_5.Office, I v_5.Size, U v_5.Root, I v_5.Sig.C, I v_5.Sig.S]), (70, .agg #[I v_20.Of.Office, I v_20.Of.Size, U v_20.Of.Root, I v_20.Of.Sig.C, I v_20.Of.Sig.S, .slice v_20.Grow_A v_20.Grow.length v_20.Grow_c, I v_20.By.Head.Office, I v_20.By.Head.Size, U v_20.By.Head.Root, I v_20.By.Head.Sig.C, I v_20.By.Head.Sig.S, I v_20.By.Index, U v_20.By.Entry.Doc, I v_20.By.Entry.Stamp.Lo, I v_20.By.Entry.Stamp.Hi, .slice v_20.By.Path_A v_20.By.Path.length v_20.By.Path_c])] ?_; refine l1 ?_; refine cl 71 (z_cross_Check F (some ⟨g_23, 0, none⟩) 2 ([1024, 4096] : List Int) v_5 v_20 _ hy_24) hT ⟨ba 0 et.a, (gi 2).a, trivial⟩ ?_; refine ra [] f0 [(15, B v_24), (16, I v_25)] ?_; refine tN ?_; refine sq ?_; replace hG := bind_some hG; obtain ⟨⟨v_27, v_28⟩, hy_27, hG⟩ := hG; refine rg ?_; refine l1 ?_; refine nw 75 (vs 1) [I 1024] 3 fun g_26 => ?_
 refine rn 2 [(0, 5, 9, 0), (0, 16, 2, 0)] f0 [(76, .agg #[I v_5.Office, I v_5.Size, U v_5.Root, I v_5.Sig.C, I v_5.Sig.S]), (77, .agg #[I v_20.Of.Office, I v_20.Of.Size, U v_20.Of.Root, I v_20.Of.Sig.C, I v_20.Of.Sig.S, .slice v_20.Grow_A v_20.Grow.length v_20.Grow_c, I v_20.By.Head.Office, I v_20.By.Head.Size, U v_20.By.Head.Root, I v_20.By.Head.Sig.C, I v_20.By.Head.Sig.S, I v_20.By.Index, U v_20.By.Entry.Doc, I v_20.By.Entry.Stamp.Lo, I v_20.By.Entry.Stamp.Hi, .slice v_20.By.Path_A v_20.By.Path.length v_20.By.Path_c])] ?_; refine l1 ?_; refine cl 78 (z_cross_Check F (some ⟨g_26, 0, none⟩) 1 ([1024] : List Int) v_5 v_20 _ hy_27) hT ⟨ba 0 et.a, (gi 3).a, trivial⟩ ?_; refine ra [] f0 [(17, B v_27), (18, I v_28)] ?_; refine tN ?_; refine sq ?_; replace hG := bind_some hG; obtain ⟨⟨v_29, v_30⟩, hy_29, hG⟩ := hG; refine rg ?_; refine rn 2 [(0, 5, 8, 0), (0, 5, 7, 0)] f0 [(82, .agg #[I v_8.Office, I v_8.Size, U v_8.Root, I v_8.Sig.C, I v_8.Sig.S]), (83, .agg #[I v_11.Office, I v_11.Size, U v_11.Root, I v_11.Sig.C, I v_11.Sig.S])] ?_; refine l1 ?_; refine cl 84 (z_cross_Forks F 1024 v_8 v_11 none 0 ([] : List Int) _ hy_29) hT ⟨gn.a, trivial⟩ ?_; refine ra [] f0 [(19, B v_29), (20, I v_30)] ?_; refine tN ?_; refine sq ?_; replace hG := bind_some hG; obtain ⟨⟨v_31o, v_32⟩, hy_31, hG⟩ := hG; refine rg ?_; refine rn 5 [(0, 2, 12, 0), (0, 5, 9, 0), (0, 5, 9, 0), (0, 2, 5, 0), (0, 5, 4, 0)] f0 [(88, .agg #[I 1, Sb g_1 2 2]), (89, .agg #[I v_5.Office, I v_5.Size, U v_5.Root, I v_5.Sig.C, I v_5.Sig.S]), (90, .agg #[I v_5.Office, I v_5.Size, U v_5.Root, I v_5.Sig.C, I v_5.Sig.S]), (91, .agg #[I 2, Sb g_15 1 1]), (92, .agg #[I v_17.Office, I v_17.Size, U v_17.Root, I v_17.Sig.C, I v_17.Sig.S])] ?_; refine l1 ?_; refine cn 93 (z_cross_Witness F (⟨1, (some ⟨g_1, 0, none⟩), 2, ([(⟨7, (⟨0, 0⟩ : KInterval)⟩ : KEntry), (⟨8, (⟨0, 0⟩ : KInterval)⟩ : KEntry)] : List KEntry)⟩ : KOfficeL) v_5 v_5 (⟨2, (some ⟨g_15, 0, none⟩), 1, ([(⟨v_14, (⟨0, 0⟩ : KInterval)⟩ : KEntry)] : List KEntry)⟩ : KOfficeL) v_17 _ hy_31) hT (fun _ => (mc KHopL.mv m0)) ⟨(((gd' (RowC (some ⟨g_1, 0, none⟩) 2 KEntry.cells tr ([(⟨7, (⟨0, 0⟩ : KInterval)⟩ : KEntry), (⟨8, (⟨0, 0⟩ : KInterval)⟩ : KEntry)] : List KEntry)) 13)).m fun _ _ h => ⟨h⟩), (((gd' (RowC (some ⟨g_15, 0, none⟩) 1 KEntry.cells tr ([(⟨v_14, (⟨0, 0⟩ : KInterval)⟩ : KEntry)] : List KEntry)) 6)).m fun _ _ h => ⟨h⟩), trivial⟩ ?_; rintro v_31 hq_31; obtain rfl : v_31.p = v_31o := hq_31.symm; refine rn 3 [] f0 [(94, .agg #[I v_31.Of.Office, I v_31.Of.Size, U v_31.Of.Root, I v_31.Of.Sig.C, I v_31.Of.Sig.S, .slice v_31.Grow_A v_31.Grow.length v_31.Grow_c, I v_31.By.Head.Office, I v_31.By.Head.Size, U v_31.By.Head.Root, I v_31.By.Head.Sig.C, I v_31.By.Head.Sig.S, I v_31.By.Index, U v_31.By.Entry.Doc, I v_31.By.Entry.Stamp.Lo, I v_31.By.Entry.Stamp.Hi, .slice v_31.By.Path_A v_31.By.Path.length v_31.By.Path_c]), (95, I v_32)] ?_; refine l1 ?_; refine nw 21 vp [I 0, I 0, U 0, I 0, I 0, .slice none 0 0, I 0, I 0, U 0, I 0, I 0, I 0, U 0, I 0, I 0, .slice none 0 0] 40 fun g_33 => ?_
 refine l1 ?_; refine sr 0 g_33 [(0, I v_31.Of.Office), (1, I v_31.Of.Size), (2, U v_31.Of.Root), (3, I v_31.Of.Sig.C), (4, I v_31.Of.Sig.S), (5, .slice v_31.Grow_A v_31.Grow.length v_31.Grow_c), (6, I v_31.By.Head.Office), (7, I v_31.By.Head.Size), (8, U v_31.By.Head.Root), (9, I v_31.By.Head.Sig.C), (10, I v_31.By.Head.Sig.S), (11, I v_31.By.Index), (12, U v_31.By.Entry.Doc), (13, I v_31.By.Entry.Stamp.Lo), (14, I v_31.By.Entry.Stamp.Hi), (15, .slice v_31.By.Path_A v_31.By.Path.length v_31.By.Path_c)] ?_; refine ra [] f0 [(22, I v_32)] ?_; refine tN ?_; obtain ⟨o_42, hG, hG_42⟩ := bind_some hG; refine jn (fun K E a w => ∃ (v_43 : Bool), Js S0 w0 166 ([(23, B v_43)] ++ K) ([.dat (RowC v_20.Grow_A v_20.Grow_c c_u64 tr v_20.Grow), .dat (RowC v_20.By.Path_A v_20.By.Path_c c_u64 tr v_20.By.Path)] ++ se E [4, 10, 14, 15]) (v_43 = o_42) a w) ?_ ?_
 ·replace hG := ifB_cases hG; rcases hG with ⟨h_34, hG⟩ | ⟨h_34, hG⟩
  ·replace hG := ifB_cases hG; rcases hG with ⟨h_35, hG⟩ | ⟨h_35, hG⟩
   ·replace hG := ifB_cases hG; rcases hG with ⟨h_36, hG⟩ | ⟨h_36, hG⟩
    ·replace hG := ifB_cases hG; rcases hG with ⟨h_37, hG⟩ | ⟨h_37, hG⟩
     ·replace hG := ifB_cases hG; rcases hG with ⟨h_38, hG⟩ | ⟨h_38, hG⟩
      ·replace hG := ifB_cases hG; rcases hG with ⟨h_39, hG⟩ | ⟨h_39, hG⟩
       ·replace hG := ifB_cases hG; rcases hG with ⟨h_40, hG⟩ | ⟨h_40, hG⟩
        ·replace hG := ifB_cases hG; rcases hG with ⟨h_41, hG⟩ | ⟨h_41, hG⟩
         ·refine rg ?_; refine rn 3 [] f0 [(98, B (v_6 == 0))] ?_; refine sb 98 (bt h_34) ?_; refine rn 4 [] f0 [(102, B (v_9 == 0))] ?_; refine sb 102 (bt h_35) ?_; refine rn 4 [] f0 [(106, B (v_12 == 0))] ?_; refine sb 106 (bt h_36) ?_; refine rn 4 [] f0 [(110, B (v_18 == 0))] ?_; refine sb 110 (bt h_37) ?_; refine rn 4 [] f0 [(114, B (v_21 == 0))] ?_; refine sb 114 (bt h_38) ?_; refine rn 4 [] f0 [(118, B (v_25 == 0))] ?_; refine sb 118 (bt h_39) ?_; refine rn 4 [] f0 [(122, B (v_28 == 0))] ?_; refine sb 122 (bt h_40) ?_; refine rn 4 [] f0 [(126, B (v_30 == 0))] ?_; refine sb 126 (bt h_41) ?_; refine ra [] f0 [(23, B (v_32 == 4))] ?_; refine tN ?_; refine fm (RowC v_20.Grow_A v_20.Grow_c c_u64 tr v_20.Grow) (gm (KHopL.ok v_20) 5 fun _ _ h => h.f_Grow) ?_; refine fm (RowC v_20.By.Path_A v_20.By.Path_c c_u64 tr v_20.By.Path) (gm (KHopL.ok v_20) 6 fun _ _ h => h.b_By.f_Path) ?_; exact fun a w S hK hE => ⟨(v_32 == 4), S, hK.wk, hE.sel [1, 0, 6, 12, 16, 17], Option.some.inj hG⟩
         ·refine rg ?_; refine rn 3 [] f0 [(98, B (v_6 == 0))] ?_; refine sb 98 (bt h_34) ?_; refine rn 4 [] f0 [(102, B (v_9 == 0))] ?_; refine sb 102 (bt h_35) ?_; refine rn 4 [] f0 [(106, B (v_12 == 0))] ?_; refine sb 106 (bt h_36) ?_; refine rn 4 [] f0 [(110, B (v_18 == 0))] ?_; refine sb 110 (bt h_37) ?_; refine rn 4 [] f0 [(114, B (v_21 == 0))] ?_; refine sb 114 (bt h_38) ?_; refine rn 4 [] f0 [(118, B (v_25 == 0))] ?_; refine sb 118 (bt h_39) ?_; refine rn 4 [] f0 [(122, B (v_28 == 0))] ?_; refine sb 122 (bt h_40) ?_; refine rn 4 [] f0 [(126, B (v_30 == 0))] ?_; refine sb 126 (bf h_41) ?_; refine ra [] f0 [(23, B false)] ?_; refine tN ?_; refine fm (RowC v_20.Grow_A v_20.Grow_c c_u64 tr v_20.Grow) (gm (KHopL.ok v_20) 5 fun _ _ h => h.f_Grow) ?_; refine fm (RowC v_20.By.Path_A v_20.By.Path_c c_u64 tr v_20.By.Path) (gm (KHopL.ok v_20) 6 fun _ _ h => h.b_By.f_Path) ?_; exact fun a w S hK hE => ⟨false, S, hK.wk, hE.sel [1, 0, 6, 12, 16, 17], Option.some.inj hG⟩
        ·refine rg ?_; refine rn 3 [] f0 [(98, B (v_6 == 0))] ?_; refine sb 98 (bt h_34) ?_; refine rn 4 [] f0 [(102, B (v_9 == 0))] ?_; refine sb 102 (bt h_35) ?_; refine rn 4 [] f0 [(106, B (v_12 == 0))] ?_; refine sb 106 (bt h_36) ?_; refine rn 4 [] f0 [(110, B (v_18 == 0))] ?_; refine sb 110 (bt h_37) ?_; refine rn 4 [] f0 [(114, B (v_21 == 0))] ?_; refine sb 114 (bt h_38) ?_; refine rn 4 [] f0 [(118, B (v_25 == 0))] ?_; refine sb 118 (bt h_39) ?_; refine rn 4 [] f0 [(122, B (v_28 == 0))] ?_; refine sb 122 (bf h_40) ?_; refine ra [] f0 [(23, B false)] ?_; refine tN ?_; refine fm (RowC v_20.Grow_A v_20.Grow_c c_u64 tr v_20.Grow) (gm (KHopL.ok v_20) 5 fun _ _ h => h.f_Grow) ?_; refine fm (RowC v_20.By.Path_A v_20.By.Path_c c_u64 tr v_20.By.Path) (gm (KHopL.ok v_20) 6 fun _ _ h => h.b_By.f_Path) ?_; exact fun a w S hK hE => ⟨false, S, hK.wk, hE.sel [1, 0, 6, 12, 16, 17], Option.some.inj hG⟩
       ·refine rg ?_; refine rn 3 [] f0 [(98, B (v_6 == 0))] ?_; refine sb 98 (bt h_34) ?_; refine rn 4 [] f0 [(102, B (v_9 == 0))] ?_; refine sb 102 (bt h_35) ?_; refine rn 4 [] f0 [(106, B (v_12 == 0))] ?_; refine sb 106 (bt h_36) ?_; refine rn 4 [] f0 [(110, B (v_18 == 0))] ?_; refine sb 110 (bt h_37) ?_; refine rn 4 [] f0 [(114, B (v_21 == 0))] ?_; refine sb 114 (bt h_38) ?_; refine rn 4 [] f0 [(118, B (v_25 == 0))] ?_; refine sb 118 (bf h_39) ?_; refine ra [] f0 [(23, B false)] ?_; refine tN ?_; refine fm (RowC v_20.Grow_A v_20.Grow_c c_u64 tr v_20.Grow) (gm (KHopL.ok v_20) 5 fun _ _ h => h.f_Grow) ?_; refine fm (RowC v_20.By.Path_A v_20.By.Path_c c_u64 tr v_20.By.Path) (gm (KHopL.ok v_20) 6 fun _ _ h => h.b_By.f_Path) ?_; exact fun a w S hK hE => ⟨false, S, hK.wk, hE.sel [1, 0, 6, 12, 16, 17], Option.some.inj hG⟩
      ·refine rg ?_; refine rn 3 [] f0 [(98, B (v_6 == 0))] ?_; refine sb 98 (bt h_34) ?_; refine rn 4 [] f0 [(102, B (v_9 == 0))] ?_; refine sb 102 (bt h_35) ?_; refine rn 4 [] f0 [(106, B (v_12 == 0))] ?_; refine sb 106 (bt h_36) ?_; refine rn 4 [] f0 [(110, B (v_18 == 0))] ?_; refine sb 110 (bt h_37) ?_; refine rn 4 [] f0 [(114, B (v_21 == 0))] ?_; refine sb 114 (bf h_38) ?_; refine ra [] f0 [(23, B false)] ?_; refine tN ?_; refine fm (RowC v_20.Grow_A v_20.Grow_c c_u64 tr v_20.Grow) (gm (KHopL.ok v_20) 5 fun _ _ h => h.f_Grow) ?_; refine fm (RowC v_20.By.Path_A v_20.By.Path_c c_u64 tr v_20.By.Path) (gm (KHopL.ok v_20) 6 fun _ _ h => h.b_By.f_Path) ?_; exact fun a w S hK hE => ⟨false, S, hK.wk, hE.sel [1, 0, 6, 12, 16, 17], Option.some.inj hG⟩
     ·refine rg ?_; refine rn 3 [] f0 [(98, B (v_6 == 0))] ?_; refine sb 98 (bt h_34) ?_; refine rn 4 [] f0 [(102, B (v_9 == 0))] ?_; refine sb 102 (bt h_35) ?_; refine rn 4 [] f0 [(106, B (v_12 == 0))] ?_; refine sb 106 (bt h_36) ?_; refine rn 4 [] f0 [(110, B (v_18 == 0))] ?_; refine sb 110 (bf h_37) ?_; refine ra [] f0 [(23, B false)] ?_; refine tN ?_; refine fm (RowC v_20.Grow_A v_20.Grow_c c_u64 tr v_20.Grow) (gm (KHopL.ok v_20) 5 fun _ _ h => h.f_Grow) ?_; refine fm (RowC v_20.By.Path_A v_20.By.Path_c c_u64 tr v_20.By.Path) (gm (KHopL.ok v_20) 6 fun _ _ h => h.b_By.f_Path) ?_; exact fun a w S hK hE => ⟨false, S, hK.wk, hE.sel [1, 0, 6, 12, 16, 17], Option.some.inj hG⟩
    ·refine rg ?_; refine rn 3 [] f0 [(98, B (v_6 == 0))] ?_; refine sb 98 (bt h_34) ?_; refine rn 4 [] f0 [(102, B (v_9 == 0))] ?_; refine sb 102 (bt h_35) ?_; refine rn 4 [] f0 [(106, B (v_12 == 0))] ?_; refine sb 106 (bf h_36) ?_; refine ra [] f0 [(23, B false)] ?_; refine tN ?_; refine fm (RowC v_20.Grow_A v_20.Grow_c c_u64 tr v_20.Grow) (gm (KHopL.ok v_20) 5 fun _ _ h => h.f_Grow) ?_; refine fm (RowC v_20.By.Path_A v_20.By.Path_c c_u64 tr v_20.By.Path) (gm (KHopL.ok v_20) 6 fun _ _ h => h.b_By.f_Path) ?_; exact fun a w S hK hE => ⟨false, S, hK.wk, hE.sel [1, 0, 6, 12, 16, 17], Option.some.inj hG⟩
   ·refine rg ?_; refine rn 3 [] f0 [(98, B (v_6 == 0))] ?_; refine sb 98 (bt h_34) ?_; refine rn 4 [] f0 [(102, B (v_9 == 0))] ?_; refine sb 102 (bf h_35) ?_; refine ra [] f0 [(23, B false)] ?_; refine tN ?_; refine fm (RowC v_20.Grow_A v_20.Grow_c c_u64 tr v_20.Grow) (gm (KHopL.ok v_20) 5 fun _ _ h => h.f_Grow) ?_; refine fm (RowC v_20.By.Path_A v_20.By.Path_c c_u64 tr v_20.By.Path) (gm (KHopL.ok v_20) 6 fun _ _ h => h.b_By.f_Path) ?_; exact fun a w S hK hE => ⟨false, S, hK.wk, hE.sel [1, 0, 6, 12, 16, 17], Option.some.inj hG⟩
  ·refine rg ?_; refine rn 3 [] f0 [(98, B (v_6 == 0))] ?_; refine sb 98 (bf h_34) ?_; refine ra [] f0 [(23, B false)] ?_; refine tN ?_; refine fm (RowC v_20.Grow_A v_20.Grow_c c_u64 tr v_20.Grow) (gm (KHopL.ok v_20) 5 fun _ _ h => h.f_Grow) ?_; refine fm (RowC v_20.By.Path_A v_20.By.Path_c c_u64 tr v_20.By.Path) (gm (KHopL.ok v_20) 6 fun _ _ h => h.b_By.f_Path) ?_; exact fun a w S hK hE => ⟨false, S, hK.wk, hE.sel [1, 0, 6, 12, 16, 17], Option.some.inj hG⟩
 ·rintro a w ⟨v_43, hJ⟩; refine hJ.go fun ho_ => ?_
  clear hJ; subst ho_; replace hG := hG_42; obtain ⟨o_58, hG, hG_58⟩ := bind_some hG; refine jn (fun K E a w => ∃ (v_59 : Bool), Js S0 w0 166 ([(0, B v_59)] ++ K) (se E []) (v_59 = o_58) a w) ?_ ?_
  ·replace hG := ifB_cases hG; rcases hG with ⟨h_44, hG⟩ | ⟨h_44, hG⟩
   ·replace hG := ifB_cases hG; rcases hG with ⟨h_45, hG⟩ | ⟨h_45, hG⟩
    ·replace hG := ifB_cases hG; rcases hG with ⟨h_46, hG⟩ | ⟨h_46, hG⟩
     ·replace hG := bind_some hG; obtain ⟨v_47, hy_47, hG⟩ := hG; replace hG := bind_some hG; obtain ⟨v_50, hy_50, hG⟩ := hG; replace hG := bind_some hG; obtain ⟨v_53, hy_53, hG⟩ := hG; replace hG := bind_some hG; obtain ⟨v_54, hy_54, hG⟩ := hG; replace hG := ifB_cases hG; rcases hG with ⟨h_55, hG⟩ | ⟨h_55, hG⟩
      ·replace hG := ifB_cases hG; rcases hG with ⟨h_56, hG⟩ | ⟨h_56, hG⟩
       ·replace hG := ifB_cases hG; rcases hG with ⟨h_57, hG⟩ | ⟨h_57, hG⟩
        ·refine qb ?_; refine qn 2 [] f0 [(131, B v_43)] ?_; refine sb 131 (bt h_44) ?_; refine qn 6 [(1, 5, 2, 0), (0, 5, 3, 0), (0, 0, 0, 0)] (fc (eql_KHead v_20.Of v_8) f0) [(137, B (decide (v_20.Of = v_8)))] ?_; refine sb 137 (bt h_45) ?_; refine qn 6 [(1, 1, 2, 5)] f0 [(143, B (((v_20.Grow.length : Nat) : Int) == 1))] ?_; refine sb 143 (bt h_46) ?_; refine fx inf32 (gd' (RowC v_20.Grow_A v_20.Grow_c c_u64 tr v_20.Grow) 0) hy_47 fun b_48 o_49 hi_47 => ?_
         refine fx inf22 (gd' (RowC (some ⟨g_1, 0, none⟩) 2 KEntry.cells tr ([(⟨7, (⟨0, 0⟩ : KInterval)⟩ : KEntry), (⟨8, (⟨0, 0⟩ : KInterval)⟩ : KEntry)] : List KEntry)) 6) hy_50 fun b_51 o_52 hi_50 => ?_
         refine qn 8 [(1, 1, 4, 5), (0, 0, 0, 0), (0, 1, 1, 0), (1, 1, 6, 1), (0, 0, 0, 0), (0, 3, 0, 0)] (fc (hi_47 .i64) (fc (hi_50 .i64) f0)) [(147, U v_47), (151, .agg #[U v_50.Doc, I v_50.Stamp.Lo, I v_50.Stamp.Hi])] ?_; refine qc 152 (z_regulatorref25_Leaf F v_50 _ hy_53) hT trivial ?_; refine qc 153 (z_regulatorref24_Leaf F v_53 _ hy_54) hT trivial ?_; refine qn 3 [] f0 [(156, B (v_47 == v_54))] ?_; refine sb 156 (bt h_55) ?_; refine qn 3 [] f0 [(159, B v_24)] ?_; refine sb 159 (bt h_56) ?_; refine qn 4 [] f0 [(163, B (!v_27))] ?_; refine sb 163 (nt h_57) ?_; refine qa [] f0 [(0, B false)] ?_; refine tN ?_; exact fun a w S hK hE => ⟨false, S, hK.wk, hE.sel [], Option.some.inj hG⟩
        ·refine qb ?_; refine qn 2 [] f0 [(131, B v_43)] ?_; refine sb 131 (bt h_44) ?_; refine qn 6 [(1, 5, 2, 0), (0, 5, 3, 0), (0, 0, 0, 0)] (fc (eql_KHead v_20.Of v_8) f0) [(137, B (decide (v_20.Of = v_8)))] ?_; refine sb 137 (bt h_45) ?_; refine qn 6 [(1, 1, 2, 5)] f0 [(143, B (((v_20.Grow.length : Nat) : Int) == 1))] ?_; refine sb 143 (bt h_46) ?_; refine fx inf32 (gd' (RowC v_20.Grow_A v_20.Grow_c c_u64 tr v_20.Grow) 0) hy_47 fun b_48 o_49 hi_47 => ?_
         refine fx inf22 (gd' (RowC (some ⟨g_1, 0, none⟩) 2 KEntry.cells tr ([(⟨7, (⟨0, 0⟩ : KInterval)⟩ : KEntry), (⟨8, (⟨0, 0⟩ : KInterval)⟩ : KEntry)] : List KEntry)) 6) hy_50 fun b_51 o_52 hi_50 => ?_
         refine qn 8 [(1, 1, 4, 5), (0, 0, 0, 0), (0, 1, 1, 0), (1, 1, 6, 1), (0, 0, 0, 0), (0, 3, 0, 0)] (fc (hi_47 .i64) (fc (hi_50 .i64) f0)) [(147, U v_47), (151, .agg #[U v_50.Doc, I v_50.Stamp.Lo, I v_50.Stamp.Hi])] ?_; refine qc 152 (z_regulatorref25_Leaf F v_50 _ hy_53) hT trivial ?_; refine qc 153 (z_regulatorref24_Leaf F v_53 _ hy_54) hT trivial ?_; refine qn 3 [] f0 [(156, B (v_47 == v_54))] ?_; refine sb 156 (bt h_55) ?_; refine qn 3 [] f0 [(159, B v_24)] ?_; refine sb 159 (bt h_56) ?_; refine qn 4 [] f0 [(163, B (!v_27))] ?_; refine sb 163 (nf h_57) ?_; refine qa [] f0 [(0, B v_29)] ?_; refine tN ?_; exact fun a w S hK hE => ⟨v_29, S, hK.wk, hE.sel [], Option.some.inj hG⟩
       ·refine qb ?_; refine qn 2 [] f0 [(131, B v_43)] ?_; refine sb 131 (bt h_44) ?_; refine qn 6 [(1, 5, 2, 0), (0, 5, 3, 0), (0, 0, 0, 0)] (fc (eql_KHead v_20.Of v_8) f0) [(137, B (decide (v_20.Of = v_8)))] ?_; refine sb 137 (bt h_45) ?_; refine qn 6 [(1, 1, 2, 5)] f0 [(143, B (((v_20.Grow.length : Nat) : Int) == 1))] ?_; refine sb 143 (bt h_46) ?_; refine fx inf32 (gd' (RowC v_20.Grow_A v_20.Grow_c c_u64 tr v_20.Grow) 0) hy_47 fun b_48 o_49 hi_47 => ?_
        refine fx inf22 (gd' (RowC (some ⟨g_1, 0, none⟩) 2 KEntry.cells tr ([(⟨7, (⟨0, 0⟩ : KInterval)⟩ : KEntry), (⟨8, (⟨0, 0⟩ : KInterval)⟩ : KEntry)] : List KEntry)) 6) hy_50 fun b_51 o_52 hi_50 => ?_
        refine qn 8 [(1, 1, 4, 5), (0, 0, 0, 0), (0, 1, 1, 0), (1, 1, 6, 1), (0, 0, 0, 0), (0, 3, 0, 0)] (fc (hi_47 .i64) (fc (hi_50 .i64) f0)) [(147, U v_47), (151, .agg #[U v_50.Doc, I v_50.Stamp.Lo, I v_50.Stamp.Hi])] ?_; refine qc 152 (z_regulatorref25_Leaf F v_50 _ hy_53) hT trivial ?_; refine qc 153 (z_regulatorref24_Leaf F v_53 _ hy_54) hT trivial ?_; refine qn 3 [] f0 [(156, B (v_47 == v_54))] ?_; refine sb 156 (bt h_55) ?_; refine qn 3 [] f0 [(159, B v_24)] ?_; refine sb 159 (bf h_56) ?_; refine qa [] f0 [(0, B false)] ?_; refine tN ?_; exact fun a w S hK hE => ⟨false, S, hK.wk, hE.sel [], Option.some.inj hG⟩
      ·refine qb ?_; refine qn 2 [] f0 [(131, B v_43)] ?_; refine sb 131 (bt h_44) ?_; refine qn 6 [(1, 5, 2, 0), (0, 5, 3, 0), (0, 0, 0, 0)] (fc (eql_KHead v_20.Of v_8) f0) [(137, B (decide (v_20.Of = v_8)))] ?_; refine sb 137 (bt h_45) ?_; refine qn 6 [(1, 1, 2, 5)] f0 [(143, B (((v_20.Grow.length : Nat) : Int) == 1))] ?_; refine sb 143 (bt h_46) ?_; refine fx inf32 (gd' (RowC v_20.Grow_A v_20.Grow_c c_u64 tr v_20.Grow) 0) hy_47 fun b_48 o_49 hi_47 => ?_
       refine fx inf22 (gd' (RowC (some ⟨g_1, 0, none⟩) 2 KEntry.cells tr ([(⟨7, (⟨0, 0⟩ : KInterval)⟩ : KEntry), (⟨8, (⟨0, 0⟩ : KInterval)⟩ : KEntry)] : List KEntry)) 6) hy_50 fun b_51 o_52 hi_50 => ?_
       refine qn 8 [(1, 1, 4, 5), (0, 0, 0, 0), (0, 1, 1, 0), (1, 1, 6, 1), (0, 0, 0, 0), (0, 3, 0, 0)] (fc (hi_47 .i64) (fc (hi_50 .i64) f0)) [(147, U v_47), (151, .agg #[U v_50.Doc, I v_50.Stamp.Lo, I v_50.Stamp.Hi])] ?_; refine qc 152 (z_regulatorref25_Leaf F v_50 _ hy_53) hT trivial ?_; refine qc 153 (z_regulatorref24_Leaf F v_53 _ hy_54) hT trivial ?_; refine qn 3 [] f0 [(156, B (v_47 == v_54))] ?_; refine sb 156 (bf h_55) ?_; refine qa [] f0 [(0, B false)] ?_; refine tN ?_; exact fun a w S hK hE => ⟨false, S, hK.wk, hE.sel [], Option.some.inj hG⟩
     ·refine qb ?_; refine qn 2 [] f0 [(131, B v_43)] ?_; refine sb 131 (bt h_44) ?_; refine qn 6 [(1, 5, 2, 0), (0, 5, 3, 0), (0, 0, 0, 0)] (fc (eql_KHead v_20.Of v_8) f0) [(137, B (decide (v_20.Of = v_8)))] ?_; refine sb 137 (bt h_45) ?_; refine qn 6 [(1, 1, 2, 5)] f0 [(143, B (((v_20.Grow.length : Nat) : Int) == 1))] ?_; refine sb 143 (bf h_46) ?_; refine qa [] f0 [(0, B false)] ?_; refine tN ?_; exact fun a w S hK hE => ⟨false, S, hK.wk, hE.sel [], Option.some.inj hG⟩
    ·refine qb ?_; refine qn 2 [] f0 [(131, B v_43)] ?_; refine sb 131 (bt h_44) ?_; refine qn 6 [(1, 5, 2, 0), (0, 5, 3, 0), (0, 0, 0, 0)] (fc (eql_KHead v_20.Of v_8) f0) [(137, B (decide (v_20.Of = v_8)))] ?_; refine sb 137 (bf h_45) ?_; refine qa [] f0 [(0, B false)] ?_; refine tN ?_; exact fun a w S hK hE => ⟨false, S, hK.wk, hE.sel [], Option.some.inj hG⟩
   ·refine qb ?_; refine qn 2 [] f0 [(131, B v_43)] ?_; refine sb 131 (bf h_44) ?_; refine qa [] f0 [(0, B false)] ?_; refine tN ?_; exact fun a w S hK hE => ⟨false, S, hK.wk, hE.sel [], Option.some.inj hG⟩
  ·rintro a w ⟨v_59, hJ⟩; refine hJ.go fun ho_ => ?_
   clear hJ; subst ho_; replace hG := hG_58; refine kR ?_; obtain rfl := Option.some.inj hG; exact rt []
end Go.Proofs.YtiijddjfiojfaaaDoor
namespace Go.Proofs.YtiijddjfiojfaaaDoor
open Go.RowKit Go.Maps
def G_regulatorlaw26_CrossHonest (F : Nat) (p_0 : KOffice) (p_1 : Int) (p_2 : Int) (p_3 : K2_uint64) (p_4 : Int) : Option (Bool) :=
  Option.bind (G_regulatorlaw26_head F ) (fun v_3 =>
  Option.bind (Option.bind (G_regulatorref25_Few F p_0) (fun v_4 =>
    ifB (v_4)
      (Option.bind (G_regulatorref25_Valid F p_0) (fun v_6 =>
      ifB (v_6)
        (some (p_4, (((p_0.Entries.length : Nat) : Int) == 0)))
        (some (p_4, true))))
      (some (p_4, true))) : Option ((Int × Bool))) (un2 fun (v_9 : Int) (v_10 : Bool) => 
    ifB (v_10)
      (some v_3)
      (Option.bind (whenG (!(((p_0.Entries.length : Nat) : Int) == 0)) ()) (fun v_12 =>
      Option.bind (whenG (!((IntKind.i64.wrap (1 + (Int.tmod (IntKind.i64.wrap p_2) ((p_0.Entries.length : Nat) : Int)))) == 0)) ()) (fun v_13 =>
      Option.bind (G_regulatorref06_Secret F p_3.f0) (fun v_14 =>
      Option.bind (G_regulatorref06_Secret F p_3.f1) (fun v_15 =>
      Option.bind (G_office_Sign F p_0 (IntKind.i64.wrap (1 + (Int.tmod (IntKind.i64.wrap p_1) (IntKind.i64.wrap (1 + (Int.tmod (IntKind.i64.wrap p_2) ((p_0.Entries.length : Nat) : Int))))))) v_14 v_15) (un2 fun v_16 v_17 =>
      Option.bind (G_office_Sign F p_0 (IntKind.i64.wrap (1 + (Int.tmod (IntKind.i64.wrap p_2) ((p_0.Entries.length : Nat) : Int)))) v_14 v_15) (un2 fun v_19 v_20 =>
      Option.bind (G_regulatorref25_Values F p_0 (IntKind.i64.wrap (1 + (Int.tmod (IntKind.i64.wrap p_2) ((p_0.Entries.length : Nat) : Int))))) (fun v_22 =>
      Option.bind (G_tree_Extend F v_22 (IntKind.i64.wrap (1 + (Int.tmod (IntKind.i64.wrap p_1) (IntKind.i64.wrap (1 + (Int.tmod (IntKind.i64.wrap p_2) ((p_0.Entries.length : Nat) : Int)))))))) (un2 fun v_23 v_24 =>
      Option.bind (G_regulatorref06_Public F v_14) (fun v_25 =>
      ifB ((v_25 == 1))
        (some v_3)
        (Option.bind (apG 8 ([v_9] : List Int) v_23) (fun v_28 =>
        Option.bind (G_cross_Forks F v_25 v_16 v_19 v_28) (un2 fun v_29 v_30 =>
        Option.bind (G_cross_Forks F v_25 v_16 v_19 ([] : List Int)) (un2 fun v_31 v_32 =>
        Option.bind (ifB ((v_17 == 0))
            (ifB ((v_20 == 0))
              (ifB ((v_24 == 0))
                (ifB ((v_30 == 0))
                  (ifB ((v_32 == 0))
                    (some v_31)
                    (some true))
                  (some true))
                (some true))
              (some true))
            (some true) : Option (Bool)) (fun (v_39 : Bool) => 
          ifB (v_39)
            (some false)
            (Option.bind (ifB (decide ((IntKind.i64.wrap (1 + (Int.tmod (IntKind.i64.wrap p_1) (IntKind.i64.wrap (1 + (Int.tmod (IntKind.i64.wrap p_2) ((p_0.Entries.length : Nat) : Int))))))) < (IntKind.i64.wrap (1 + (Int.tmod (IntKind.i64.wrap p_2) ((p_0.Entries.length : Nat) : Int))))))
                (ifB ((v_9 == v_16.Root))
                  (some false)
                  (Option.bind (G_tree_Extended F v_9 v_19.Root (IntKind.i64.wrap (1 + (Int.tmod (IntKind.i64.wrap p_1) (IntKind.i64.wrap (1 + (Int.tmod (IntKind.i64.wrap p_2) ((p_0.Entries.length : Nat) : Int))))))) (IntKind.i64.wrap (1 + (Int.tmod (IntKind.i64.wrap p_2) ((p_0.Entries.length : Nat) : Int)))) v_23) (fun v_43 =>
                  some v_43)))
                (some false) : Option (Bool)) (fun (v_45 : Bool) => 
              Option.bind (ifB (v_3)
                  (ifB ((v_29 == v_45))
                    (ifB (v_29)
                      (some ((bits BinOp.and IntKind.i64 (IntKind.i64.wrap (1 + (Int.tmod (IntKind.i64.wrap p_1) (IntKind.i64.wrap (1 + (Int.tmod (IntKind.i64.wrap p_2) ((p_0.Entries.length : Nat) : Int))))))) (IntKind.i64.wrap ((IntKind.i64.wrap (1 + (Int.tmod (IntKind.i64.wrap p_1) (IntKind.i64.wrap (1 + (Int.tmod (IntKind.i64.wrap p_2) ((p_0.Entries.length : Nat) : Int))))))) - 1))) == 0))
                      (some true))
                    (some false))
                  (some false) : Option (Bool)) (fun (v_50 : Bool) => 
                some v_50))))))))))))))))))))
set_option maxRecDepth 100000 in
set_option maxHeartbeats 16000000 in
theorem z_regulatorlaw26_CrossHonest (F : Nat) (p_0 : KOfficeL) (p_1 : Int) (p_2 : Int) (p_3 : K2_uint64) (p_4 : Int) (r : Bool) (hG : G_regulatorlaw26_CrossHonest F p_0.p p_1 p_2 p_3 p_4 = some r) :
  Cf Tryd.prog 5 [.agg #[I p_0.ID, .slice p_0.Entries_A p_0.Entries.length p_0.Entries_c], Y p_1, Y p_2, .agg #[U p_3.f0, U p_3.f1], U p_4] [KOfficeL.ok p_0] (B r) := by
 unfold G_regulatorlaw26_CrossHonest at hG; refine fi Tryd.func5 rfl rfl (mc KOfficeL.mv m0) fun S0 w0 hT => ?_
 refine sq ?_; refine rg ?_; refine l1 ?_; refine nw 5 vp [I p_0.ID, .slice p_0.Entries_A p_0.Entries.length p_0.Entries_c] 24 fun g_1 => ?_
 refine l1 ?_; refine nw 8 vp [U p_3.f0, U p_3.f1] 46 fun g_2 => ?_
 refine ra [] f0 [] ?_; refine tN ?_; refine sq ?_; replace hG := bind_some hG; obtain ⟨v_3, hy_3, hG⟩ := hG; refine rg ?_; refine l1 ?_; refine cl 29 (z_regulatorlaw26_head F  _ hy_3) hT trivial ?_; refine ra [] f0 [(11, B v_3)] ?_; refine tN ?_; refine sq ?_; refine rg ?_; refine ra [(1, 1, 1, 1)] f0 [(12, I ((p_0.Entries.length : Nat) : Int))] ?_; refine tN ?_; refine sq ?_; obtain ⟨o_8, hG, hG_8⟩ := bind_some hG; refine jn (fun K E a w => ∃ (v_9 : Int), ∃ (v_10 : Bool), Js S0 w0 165 ([(4, U v_9), (44, B v_10)] ++ K) ([.dat (RowC p_0.Entries_A p_0.Entries_c KEntry.cells tr p_0.Entries)] ++ se E [0, 1]) ((v_9, v_10) = o_8) a w) ?_ ?_
 ·replace hG := bind_some hG; obtain ⟨v_4, hy_4, hG⟩ := hG; replace hG := ifB_cases hG; rcases hG with ⟨h_5, hG⟩ | ⟨h_5, hG⟩
  ·replace hG := bind_some hG; obtain ⟨v_6, hy_6, hG⟩ := hG; replace hG := ifB_cases hG; rcases hG with ⟨h_7, hG⟩ | ⟨h_7, hG⟩
   ·refine rg ?_; refine rn 1 [(0, 2, 1, 0)] f0 [(33, .agg #[I p_0.ID, .slice p_0.Entries_A p_0.Entries.length p_0.Entries_c])] ?_; refine l1 ?_; refine cl 34 (z_regulatorref25_Few F p_0 _ hy_4) hT ⟨(gi 2).a, trivial⟩ ?_; refine rn 2 [] f0 [(36, B (!v_4))] ?_; refine sb 36 (nt h_5) ?_; refine rn 1 [(0, 2, 1, 0)] f0 [(37, .agg #[I p_0.ID, .slice p_0.Entries_A p_0.Entries.length p_0.Entries_c])] ?_; refine l1 ?_; refine cl 38 (z_regulatorref25_Valid F p_0 _ hy_6) hT ⟨(gi 2).a, trivial⟩ ?_; refine rn 3 [] f0 [(41, B (!v_6))] ?_; refine sb 41 (nt h_7) ?_; refine ra [] f0 [(44, B (((p_0.Entries.length : Nat) : Int) == 0))] ?_; refine tN ?_; refine fm (RowC p_0.Entries_A p_0.Entries_c KEntry.cells tr p_0.Entries) (gm (KOfficeL.ok p_0) 2 fun _ _ h => h.f_Entries) ?_; exact fun a w S hK hE => ⟨p_4, (((p_0.Entries.length : Nat) : Int) == 0), S, hK.wk, hE.sel [0, 1, 2], Option.some.inj hG⟩
   ·refine rg ?_; refine rn 1 [(0, 2, 1, 0)] f0 [(33, .agg #[I p_0.ID, .slice p_0.Entries_A p_0.Entries.length p_0.Entries_c])] ?_; refine l1 ?_; refine cl 34 (z_regulatorref25_Few F p_0 _ hy_4) hT ⟨(gi 2).a, trivial⟩ ?_; refine rn 2 [] f0 [(36, B (!v_4))] ?_; refine sb 36 (nt h_5) ?_; refine rn 1 [(0, 2, 1, 0)] f0 [(37, .agg #[I p_0.ID, .slice p_0.Entries_A p_0.Entries.length p_0.Entries_c])] ?_; refine l1 ?_; refine cl 38 (z_regulatorref25_Valid F p_0 _ hy_6) hT ⟨(gi 2).a, trivial⟩ ?_; refine rn 3 [] f0 [(41, B (!v_6))] ?_; refine sb 41 (nf h_7) ?_; refine ra [] f0 [(44, B true)] ?_; refine tN ?_; refine fm (RowC p_0.Entries_A p_0.Entries_c KEntry.cells tr p_0.Entries) (gm (KOfficeL.ok p_0) 2 fun _ _ h => h.f_Entries) ?_; exact fun a w S hK hE => ⟨p_4, true, S, hK.wk, hE.sel [0, 1, 2], Option.some.inj hG⟩
  ·refine rg ?_; refine rn 1 [(0, 2, 1, 0)] f0 [(33, .agg #[I p_0.ID, .slice p_0.Entries_A p_0.Entries.length p_0.Entries_c])] ?_; refine l1 ?_; refine cl 34 (z_regulatorref25_Few F p_0 _ hy_4) hT ⟨(gi 2).a, trivial⟩ ?_; refine rn 2 [] f0 [(36, B (!v_4))] ?_; refine sb 36 (nf h_5) ?_; refine ra [] f0 [(44, B true)] ?_; refine tN ?_; refine fm (RowC p_0.Entries_A p_0.Entries_c KEntry.cells tr p_0.Entries) (gm (KOfficeL.ok p_0) 2 fun _ _ h => h.f_Entries) ?_; exact fun a w S hK hE => ⟨p_4, true, S, hK.wk, hE.sel [0, 1, 2], Option.some.inj hG⟩
 ·rintro a w ⟨v_9, v_10, hJ⟩; refine hJ.go fun ho_ => ?_
  clear hJ; subst ho_; replace hG := hG_8; rcases ifB_cases hG with ⟨h_11, hG⟩ | ⟨h_11, hG⟩
  ·refine sb 44 (bt h_11) ?_; refine ct ?_; refine sq ?_; refine rg ?_; refine ra [] f0 [(10, B v_3)] ?_; refine tN ?_; refine kR ?_; refine tR ?_; obtain rfl := Option.some.inj hG; exact rt []
  ·refine sb 44 (bf h_11) ?_; refine cf ?_; refine kS ?_; refine tN ?_; refine sq ?_; replace hG := bind_some hG; obtain ⟨v_12, hy_12, hG⟩ := hG; refine rg ?_; refine ra [(3, 0, 0, 0)] (fc (fun W => run_rem (T := 3) (k := .i64) (p := IntKind.i64.wrap p_2) (q := ((p_0.Entries.length : Nat) : Int)) (nz_of (whenG_some hy_12).1) W) f0) [(13, I (IntKind.i64.wrap (1 + (Int.tmod (IntKind.i64.wrap p_2) ((p_0.Entries.length : Nat) : Int)))))] ?_; refine tN ?_; refine sq ?_; replace hG := bind_some hG; obtain ⟨v_13, hy_13, hG⟩ := hG; refine rg ?_; refine ra [(3, 0, 0, 0)] (fc (fun W => run_rem (T := 3) (k := .i64) (p := IntKind.i64.wrap p_1) (q := IntKind.i64.wrap (1 + (Int.tmod (IntKind.i64.wrap p_2) ((p_0.Entries.length : Nat) : Int)))) (nz_of (whenG_some hy_13).1) W) f0) [(14, I (IntKind.i64.wrap (1 + (Int.tmod (IntKind.i64.wrap p_1) (IntKind.i64.wrap (1 + (Int.tmod (IntKind.i64.wrap p_2) ((p_0.Entries.length : Nat) : Int))))))))] ?_; refine tN ?_; refine sq ?_; replace hG := bind_some hG; obtain ⟨v_14, hy_14, hG⟩ := hG; replace hG := bind_some hG; obtain ⟨v_15, hy_15, hG⟩ := hG; refine qb ?_; refine qn 2 [(1, 1, 1, 0)] f0 [(57, U p_3.f0)] ?_; refine qc 58 (z_regulatorref06_Secret F p_3.f0 _ hy_14) hT trivial ?_; refine qn 2 [(1, 1, 1, 1)] f0 [(60, U p_3.f1)] ?_; refine qc 61 (z_regulatorref06_Secret F p_3.f1 _ hy_15) hT trivial ?_; refine qa [] f0 [(15, I v_14), (16, I v_15)] ?_; refine tN ?_; refine sq ?_; replace hG := bind_some hG; obtain ⟨⟨v_16, v_17⟩, hy_16, hG⟩ := hG; refine rg ?_; refine rn 4 [(0, 2, 2, 0)] f0 [(63, .agg #[I p_0.ID, .slice p_0.Entries_A p_0.Entries.length p_0.Entries_c]), (64, I (IntKind.i64.wrap (1 + (Int.tmod (IntKind.i64.wrap p_1) (IntKind.i64.wrap (1 + (Int.tmod (IntKind.i64.wrap p_2) ((p_0.Entries.length : Nat) : Int)))))))), (65, I v_14), (66, I v_15)] ?_; refine l1 ?_; refine cl 67 (z_office_Sign F p_0 (IntKind.i64.wrap (1 + (Int.tmod (IntKind.i64.wrap p_1) (IntKind.i64.wrap (1 + (Int.tmod (IntKind.i64.wrap p_2) ((p_0.Entries.length : Nat) : Int))))))) v_14 v_15 _ hy_16) hT ⟨(((gd' (RowC p_0.Entries_A p_0.Entries_c KEntry.cells tr p_0.Entries) 0)).m fun _ _ h => ⟨h⟩).a, trivial⟩ ?_; refine rn 3 [] f0 [(68, .agg #[I v_16.Office, I v_16.Size, U v_16.Root, I v_16.Sig.C, I v_16.Sig.S]), (69, I v_17)] ?_; refine l1 ?_; refine nw 17 vp [I 0, I 0, U 0, I 0, I 0] 29 fun g_18 => ?_
   refine l1 ?_; refine sr 0 g_18 [(0, I v_16.Office), (1, I v_16.Size), (2, U v_16.Root), (3, I v_16.Sig.C), (4, I v_16.Sig.S)] ?_; refine ra [] f0 [(18, I v_17)] ?_; refine tN ?_; refine sq ?_; replace hG := bind_some hG; obtain ⟨⟨v_19, v_20⟩, hy_19, hG⟩ := hG; refine rg ?_; refine rn 4 [(0, 2, 3, 0)] f0 [(71, .agg #[I p_0.ID, .slice p_0.Entries_A p_0.Entries.length p_0.Entries_c]), (72, I (IntKind.i64.wrap (1 + (Int.tmod (IntKind.i64.wrap p_2) ((p_0.Entries.length : Nat) : Int))))), (73, I v_14), (74, I v_15)] ?_; refine l1 ?_; refine cl 75 (z_office_Sign F p_0 (IntKind.i64.wrap (1 + (Int.tmod (IntKind.i64.wrap p_2) ((p_0.Entries.length : Nat) : Int)))) v_14 v_15 _ hy_19) hT ⟨(((gd' (RowC p_0.Entries_A p_0.Entries_c KEntry.cells tr p_0.Entries) 1)).m fun _ _ h => ⟨h⟩).a, trivial⟩ ?_; refine rn 3 [] f0 [(76, .agg #[I v_19.Office, I v_19.Size, U v_19.Root, I v_19.Sig.C, I v_19.Sig.S]), (77, I v_20)] ?_; refine l1 ?_; refine nw 19 vp [I 0, I 0, U 0, I 0, I 0] 29 fun g_21 => ?_
   refine l1 ?_; refine sr 0 g_21 [(0, I v_19.Office), (1, I v_19.Size), (2, U v_19.Root), (3, I v_19.Sig.C), (4, I v_19.Sig.S)] ?_; refine ra [] f0 [(20, I v_20)] ?_; refine tN ?_; refine sq ?_; replace hG := bind_some hG; obtain ⟨v_22o, hy_22, hG⟩ := hG; replace hG := bind_some hG; obtain ⟨⟨v_23o, v_24⟩, hy_23, hG⟩ := hG; refine rg ?_; refine rn 2 [(0, 2, 4, 0)] f0 [(79, .agg #[I p_0.ID, .slice p_0.Entries_A p_0.Entries.length p_0.Entries_c]), (80, I (IntKind.i64.wrap (1 + (Int.tmod (IntKind.i64.wrap p_2) ((p_0.Entries.length : Nat) : Int)))))] ?_; refine l1 ?_; refine cn 81 (z_regulatorref25_Values F p_0 (IntKind.i64.wrap (1 + (Int.tmod (IntKind.i64.wrap p_2) ((p_0.Entries.length : Nat) : Int)))) _ hy_22) hT (fun _ => (mr tr_mv m0)) ⟨(((gd' (RowC p_0.Entries_A p_0.Entries_c KEntry.cells tr p_0.Entries) 2)).m fun _ _ h => ⟨h⟩), trivial⟩ ?_; rintro ⟨v_22_A, v_22_c, v_22⟩ hq_22; obtain rfl : v_22 = v_22o := hq_22.symm; refine rn 1 [] f0 [(82, I (IntKind.i64.wrap (1 + (Int.tmod (IntKind.i64.wrap p_1) (IntKind.i64.wrap (1 + (Int.tmod (IntKind.i64.wrap p_2) ((p_0.Entries.length : Nat) : Int))))))))] ?_; refine l1 ?_; refine cn 83 (z_tree_Extend F v_22_A v_22_c v_22 (IntKind.i64.wrap (1 + (Int.tmod (IntKind.i64.wrap p_1) (IntKind.i64.wrap (1 + (Int.tmod (IntKind.i64.wrap p_2) ((p_0.Entries.length : Nat) : Int))))))) _ hy_23) hT (fun _ => (mr tr_mv m0)) ⟨gi 0, trivial⟩ ?_; rintro ⟨v_23_A, v_23_c, v_23⟩ hq_23; obtain rfl : v_23 = v_23o := hq_23.symm; refine ra [] f0 [(21, .slice v_23_A v_23.length v_23_c), (22, I v_24)] ?_; refine tN ?_; refine sq ?_; replace hG := bind_some hG; obtain ⟨v_25, hy_25, hG⟩ := hG; refine rg ?_; refine rn 1 [] f0 [(86, I v_14)] ?_; refine l1 ?_; refine cl 87 (z_regulatorref06_Public F v_14 _ hy_25) hT trivial ?_; refine ra [] f0 [(23, I v_25)] ?_; refine tN ?_; refine sq ?_; refine sq ?_; refine rg ?_; refine ra [] f0 [(89, B (v_25 == 1))] ?_; refine tN ?_; rcases ifB_cases hG with ⟨h_26, hG⟩ | ⟨h_26, hG⟩
   ·refine sb 89 (bt h_26) ?_; refine ct ?_; refine sq ?_; refine rg ?_; refine ra [] f0 [(10, B v_3)] ?_; refine tN ?_; refine kR ?_; refine tR ?_; obtain rfl := Option.some.inj hG; exact rt []
   ·refine sb 89 (bf h_26) ?_; refine cf ?_; refine kS ?_; refine tN ?_; refine sq ?_; replace hG := bind_some hG; obtain ⟨v_28, hy_28, hG⟩ := hG; replace hG := bind_some hG; obtain ⟨⟨v_29, v_30⟩, hy_29, hG⟩ := hG; refine hb [0, 1, 2, 3, 4, 5, 6] ?_; refine ht [0, 1, 2, 3, 4, 5, 6] [0, 1, 2, 3, 5] [(1, 5, 3, 0), (0, 5, 2, 0)] f0 [(92, I v_25), (93, .agg #[I v_16.Office, I v_16.Size, U v_16.Root, I v_16.Sig.C, I v_16.Sig.S]), (94, .agg #[I v_19.Office, I v_19.Size, U v_19.Root, I v_19.Sig.C, I v_19.Sig.S]), (95, U v_9), (97, .slice v_23_A v_23.length v_23_c)] ?_; refine ho [4] ⟨?_, trivial⟩; refine h1 ?_; refine nw 96 (vs 1) [U v_9] 25 fun g_27 => ?_
    refine hk [1, 2, 3, 4, 5, 6, 7] ?_; refine ho [6] ⟨?_, trivial⟩; refine bo 0 1 1 g_27 25 [U v_9] ?_; refine h1 ?_; refine ap 0 98 (some ⟨g_27, 0, none⟩) 1 ([v_9] : List Int) v_23 inf32 ((gd' (RowC v_23_A v_23_c c_u64 tr v_23) 1).a) hy_28 one_u64 fun v_28_A v_28_c _ => ?_
    refine hk [1, 2, 3, 4, 5, 6, 7] ?_; refine ho [7] ⟨?_, trivial⟩; refine h1 ?_; refine cl 99 (z_cross_Forks F v_25 v_16 v_19 v_28_A v_28_c v_28 _ hy_29) hT ⟨oa 0 et.a, trivial⟩ ?_; refine hk [1, 2, 3, 4, 5, 6, 7] ?_; refine ht [1, 2, 3, 4, 5, 6, 7] [8, 9, 10, 11, 12] [] f0 [(24, B v_29), (25, I v_30)] ?_; refine he ?_; refine tN ?_; refine sq ?_; replace hG := bind_some hG; obtain ⟨⟨v_31, v_32⟩, hy_31, hG⟩ := hG; refine rg ?_; refine rn 3 [(1, 5, 4, 0), (0, 5, 3, 0)] f0 [(103, I v_25), (104, .agg #[I v_16.Office, I v_16.Size, U v_16.Root, I v_16.Sig.C, I v_16.Sig.S]), (105, .agg #[I v_19.Office, I v_19.Size, U v_19.Root, I v_19.Sig.C, I v_19.Sig.S])] ?_; refine l1 ?_; refine cl 106 (z_cross_Forks F v_25 v_16 v_19 none 0 ([] : List Int) _ hy_31) hT ⟨gn.a, trivial⟩ ?_; refine ra [] f0 [(26, B v_31), (27, I v_32)] ?_; refine tN ?_; refine sq ?_; obtain ⟨o_38, hG, hG_38⟩ := bind_some hG; refine jn (fun K E a w => ∃ (v_39 : Bool), Js S0 w0 165 ([(129, B v_39)] ++ K) (se E [1, 3, 4]) (v_39 = o_38) a w) ?_ ?_
    ·replace hG := ifB_cases hG; rcases hG with ⟨h_33, hG⟩ | ⟨h_33, hG⟩
     ·replace hG := ifB_cases hG; rcases hG with ⟨h_34, hG⟩ | ⟨h_34, hG⟩
      ·replace hG := ifB_cases hG; rcases hG with ⟨h_35, hG⟩ | ⟨h_35, hG⟩
       ·replace hG := ifB_cases hG; rcases hG with ⟨h_36, hG⟩ | ⟨h_36, hG⟩
        ·replace hG := ifB_cases hG; rcases hG with ⟨h_37, hG⟩ | ⟨h_37, hG⟩
         ·refine rg ?_; refine rn 3 [] f0 [(111, B (!(v_17 == 0)))] ?_; refine sb 111 (nt h_33) ?_; refine rn 4 [] f0 [(115, B (!(v_20 == 0)))] ?_; refine sb 115 (nt h_34) ?_; refine rn 4 [] f0 [(119, B (!(v_24 == 0)))] ?_; refine sb 119 (nt h_35) ?_; refine rn 4 [] f0 [(123, B (!(v_30 == 0)))] ?_; refine sb 123 (nt h_36) ?_; refine rn 4 [] f0 [(127, B (!(v_32 == 0)))] ?_; refine sb 127 (nt h_37) ?_; refine ra [] f0 [(129, B v_31)] ?_; refine tN ?_; exact fun a w S hK hE => ⟨v_31, S, hK.wk, hE.sel [1, 3, 4], Option.some.inj hG⟩
         ·refine rg ?_; refine rn 3 [] f0 [(111, B (!(v_17 == 0)))] ?_; refine sb 111 (nt h_33) ?_; refine rn 4 [] f0 [(115, B (!(v_20 == 0)))] ?_; refine sb 115 (nt h_34) ?_; refine rn 4 [] f0 [(119, B (!(v_24 == 0)))] ?_; refine sb 119 (nt h_35) ?_; refine rn 4 [] f0 [(123, B (!(v_30 == 0)))] ?_; refine sb 123 (nt h_36) ?_; refine rn 4 [] f0 [(127, B (!(v_32 == 0)))] ?_; refine sb 127 (nf h_37) ?_; refine ra [] f0 [(129, B true)] ?_; refine tN ?_; exact fun a w S hK hE => ⟨true, S, hK.wk, hE.sel [1, 3, 4], Option.some.inj hG⟩
        ·refine rg ?_; refine rn 3 [] f0 [(111, B (!(v_17 == 0)))] ?_; refine sb 111 (nt h_33) ?_; refine rn 4 [] f0 [(115, B (!(v_20 == 0)))] ?_; refine sb 115 (nt h_34) ?_; refine rn 4 [] f0 [(119, B (!(v_24 == 0)))] ?_; refine sb 119 (nt h_35) ?_; refine rn 4 [] f0 [(123, B (!(v_30 == 0)))] ?_; refine sb 123 (nf h_36) ?_; refine ra [] f0 [(129, B true)] ?_; refine tN ?_; exact fun a w S hK hE => ⟨true, S, hK.wk, hE.sel [1, 3, 4], Option.some.inj hG⟩
       ·refine rg ?_; refine rn 3 [] f0 [(111, B (!(v_17 == 0)))] ?_; refine sb 111 (nt h_33) ?_; refine rn 4 [] f0 [(115, B (!(v_20 == 0)))] ?_; refine sb 115 (nt h_34) ?_; refine rn 4 [] f0 [(119, B (!(v_24 == 0)))] ?_; refine sb 119 (nf h_35) ?_; refine ra [] f0 [(129, B true)] ?_; refine tN ?_; exact fun a w S hK hE => ⟨true, S, hK.wk, hE.sel [1, 3, 4], Option.some.inj hG⟩
      ·refine rg ?_; refine rn 3 [] f0 [(111, B (!(v_17 == 0)))] ?_; refine sb 111 (nt h_33) ?_; refine rn 4 [] f0 [(115, B (!(v_20 == 0)))] ?_; refine sb 115 (nf h_34) ?_; refine ra [] f0 [(129, B true)] ?_; refine tN ?_; exact fun a w S hK hE => ⟨true, S, hK.wk, hE.sel [1, 3, 4], Option.some.inj hG⟩
     ·refine rg ?_; refine rn 3 [] f0 [(111, B (!(v_17 == 0)))] ?_; refine sb 111 (nf h_33) ?_; refine ra [] f0 [(129, B true)] ?_; refine tN ?_; exact fun a w S hK hE => ⟨true, S, hK.wk, hE.sel [1, 3, 4], Option.some.inj hG⟩
    ·rintro a w ⟨v_39, hJ⟩; refine hJ.go fun ho_ => ?_
     clear hJ; subst ho_; replace hG := hG_38; rcases ifB_cases hG with ⟨h_40, hG⟩ | ⟨h_40, hG⟩
     ·refine sb 129 (bt h_40) ?_; refine ct ?_; refine sq ?_; refine rg ?_; refine ra [] f0 [(10, B false)] ?_; refine tN ?_; refine kR ?_; refine tR ?_; obtain rfl := Option.some.inj hG; exact rt []
     ·refine sb 129 (bf h_40) ?_; refine cf ?_; refine kS ?_; refine tN ?_; obtain ⟨o_44, hG, hG_44⟩ := bind_some hG; refine jn (fun K E a w => ∃ (v_45 : Bool), Js S0 w0 165 ([(28, B v_45)] ++ K) (se E []) (v_45 = o_44) a w) ?_ ?_
      ·replace hG := ifB_cases hG; rcases hG with ⟨h_41, hG⟩ | ⟨h_41, hG⟩
       ·replace hG := ifB_cases hG; rcases hG with ⟨h_42, hG⟩ | ⟨h_42, hG⟩
        ·refine rg ?_; refine rn 4 [] f0 [(133, B (decide ((IntKind.i64.wrap (1 + (Int.tmod (IntKind.i64.wrap p_1) (IntKind.i64.wrap (1 + (Int.tmod (IntKind.i64.wrap p_2) ((p_0.Entries.length : Nat) : Int))))))) < (IntKind.i64.wrap (1 + (Int.tmod (IntKind.i64.wrap p_2) ((p_0.Entries.length : Nat) : Int)))))))] ?_; refine sb 133 (bt h_41) ?_; refine rn 6 [(2, 1, 2, 2)] f0 [(139, B (!(v_9 == v_16.Root)))] ?_; refine sb 139 (nt h_42) ?_; refine ra [] f0 [(28, B false)] ?_; refine tN ?_; exact fun a w S hK hE => ⟨false, S, hK.wk, hE.sel [], Option.some.inj hG⟩
        ·replace hG := bind_some hG; obtain ⟨v_43, hy_43, hG⟩ := hG; refine rg ?_; refine rn 4 [] f0 [(133, B (decide ((IntKind.i64.wrap (1 + (Int.tmod (IntKind.i64.wrap p_1) (IntKind.i64.wrap (1 + (Int.tmod (IntKind.i64.wrap p_2) ((p_0.Entries.length : Nat) : Int))))))) < (IntKind.i64.wrap (1 + (Int.tmod (IntKind.i64.wrap p_2) ((p_0.Entries.length : Nat) : Int)))))))] ?_; refine sb 133 (bt h_41) ?_; refine rn 6 [(2, 1, 2, 2)] f0 [(139, B (!(v_9 == v_16.Root)))] ?_; refine sb 139 (nf h_42) ?_; refine rn 6 [(2, 1, 1, 2)] f0 [(140, U v_9), (142, U v_19.Root), (143, I (IntKind.i64.wrap (1 + (Int.tmod (IntKind.i64.wrap p_1) (IntKind.i64.wrap (1 + (Int.tmod (IntKind.i64.wrap p_2) ((p_0.Entries.length : Nat) : Int)))))))), (144, I (IntKind.i64.wrap (1 + (Int.tmod (IntKind.i64.wrap p_2) ((p_0.Entries.length : Nat) : Int))))), (145, .slice v_23_A v_23.length v_23_c)] ?_; refine l1 ?_; refine cl 146 (z_tree_Extended F v_9 v_19.Root (IntKind.i64.wrap (1 + (Int.tmod (IntKind.i64.wrap p_1) (IntKind.i64.wrap (1 + (Int.tmod (IntKind.i64.wrap p_2) ((p_0.Entries.length : Nat) : Int))))))) (IntKind.i64.wrap (1 + (Int.tmod (IntKind.i64.wrap p_2) ((p_0.Entries.length : Nat) : Int)))) v_23_A v_23_c v_23 _ hy_43) hT ⟨ga 0, trivial⟩ ?_; refine ra [] f0 [(28, B v_43)] ?_; refine tN ?_; exact fun a w S hK hE => ⟨v_43, S, hK.wk, hE.sel [], Option.some.inj hG⟩
       ·refine rg ?_; refine rn 4 [] f0 [(133, B (decide ((IntKind.i64.wrap (1 + (Int.tmod (IntKind.i64.wrap p_1) (IntKind.i64.wrap (1 + (Int.tmod (IntKind.i64.wrap p_2) ((p_0.Entries.length : Nat) : Int))))))) < (IntKind.i64.wrap (1 + (Int.tmod (IntKind.i64.wrap p_2) ((p_0.Entries.length : Nat) : Int)))))))] ?_; refine sb 133 (bf h_41) ?_; refine ra [] f0 [(28, B false)] ?_; refine tN ?_; exact fun a w S hK hE => ⟨false, S, hK.wk, hE.sel [], Option.some.inj hG⟩
      ·rintro a w ⟨v_45, hJ⟩; refine hJ.go fun ho_ => ?_
       clear hJ; subst ho_; replace hG := hG_44; obtain ⟨o_49, hG, hG_49⟩ := bind_some hG; refine jn (fun K E a w => ∃ (v_50 : Bool), Js S0 w0 165 ([(10, B v_50)] ++ K) (se E []) (v_50 = o_49) a w) ?_ ?_
       ·replace hG := ifB_cases hG; rcases hG with ⟨h_46, hG⟩ | ⟨h_46, hG⟩
        ·replace hG := ifB_cases hG; rcases hG with ⟨h_47, hG⟩ | ⟨h_47, hG⟩
         ·replace hG := ifB_cases hG; rcases hG with ⟨h_48, hG⟩ | ⟨h_48, hG⟩
          ·refine rg ?_; refine rn 2 [] f0 [(149, B v_3)] ?_; refine sb 149 (bt h_46) ?_; refine rn 5 [] f0 [(154, B (v_29 == v_45))] ?_; refine sb 154 (bt h_47) ?_; refine rn 3 [] f0 [(157, B (!v_29))] ?_; refine sb 157 (nt h_48) ?_; refine ra [] f0 [(10, B ((bits BinOp.and IntKind.i64 (IntKind.i64.wrap (1 + (Int.tmod (IntKind.i64.wrap p_1) (IntKind.i64.wrap (1 + (Int.tmod (IntKind.i64.wrap p_2) ((p_0.Entries.length : Nat) : Int))))))) (IntKind.i64.wrap ((IntKind.i64.wrap (1 + (Int.tmod (IntKind.i64.wrap p_1) (IntKind.i64.wrap (1 + (Int.tmod (IntKind.i64.wrap p_2) ((p_0.Entries.length : Nat) : Int))))))) - 1))) == 0))] ?_; refine tN ?_; exact fun a w S hK hE => ⟨((bits BinOp.and IntKind.i64 (IntKind.i64.wrap (1 + (Int.tmod (IntKind.i64.wrap p_1) (IntKind.i64.wrap (1 + (Int.tmod (IntKind.i64.wrap p_2) ((p_0.Entries.length : Nat) : Int))))))) (IntKind.i64.wrap ((IntKind.i64.wrap (1 + (Int.tmod (IntKind.i64.wrap p_1) (IntKind.i64.wrap (1 + (Int.tmod (IntKind.i64.wrap p_2) ((p_0.Entries.length : Nat) : Int))))))) - 1))) == 0), S, hK.wk, hE.sel [], Option.some.inj hG⟩
          ·refine rg ?_; refine rn 2 [] f0 [(149, B v_3)] ?_; refine sb 149 (bt h_46) ?_; refine rn 5 [] f0 [(154, B (v_29 == v_45))] ?_; refine sb 154 (bt h_47) ?_; refine rn 3 [] f0 [(157, B (!v_29))] ?_; refine sb 157 (nf h_48) ?_; refine ra [] f0 [(10, B true)] ?_; refine tN ?_; exact fun a w S hK hE => ⟨true, S, hK.wk, hE.sel [], Option.some.inj hG⟩
         ·refine rg ?_; refine rn 2 [] f0 [(149, B v_3)] ?_; refine sb 149 (bt h_46) ?_; refine rn 5 [] f0 [(154, B (v_29 == v_45))] ?_; refine sb 154 (bf h_47) ?_; refine ra [] f0 [(10, B false)] ?_; refine tN ?_; exact fun a w S hK hE => ⟨false, S, hK.wk, hE.sel [], Option.some.inj hG⟩
        ·refine rg ?_; refine rn 2 [] f0 [(149, B v_3)] ?_; refine sb 149 (bf h_46) ?_; refine ra [] f0 [(10, B false)] ?_; refine tN ?_; exact fun a w S hK hE => ⟨false, S, hK.wk, hE.sel [], Option.some.inj hG⟩
       ·rintro a w ⟨v_50, hJ⟩; refine hJ.go fun ho_ => ?_
        clear hJ; subst ho_; replace hG := hG_49; refine kR ?_; obtain rfl := Option.some.inj hG; exact rt []
end Go.Proofs.YtiijddjfiojfaaaDoor
namespace Go.Proofs.YtiijddjfiojfaaaDoor
open Go.RowKit Go.Maps
end Go.Proofs.YtiijddjfiojfaaaDoor
namespace Go.Proofs.YtiijddjfiojfaaaDoor
open Go.RowKit Go.Maps
end Go.Proofs.YtiijddjfiojfaaaDoor
namespace Go.Proofs.YtiijddjfiojfaaaDoor
open Go.RowKit
def vI (i : KInterval) : Bool := decide (0 ≤ i.Lo ∧ i.Lo ≤ i.Hi ∧ i.Hi ≤ 3000000000000000)
theorem vI_p (F : Nat) (i : KInterval) : G_interval_Valid F i = some (vI i) := by
 unfold G_interval_Valid vI
 by_cases h1 : 0 ≤ i.Lo <;> by_cases h2 : i.Lo ≤ i.Hi <;> by_cases h3 : i.Hi ≤ 3000000000000000 <;> simp [ifB, h1, h2, h3]
theorem vI_r (F : Nat) (i : KInterval) : G_regulatorref02_Valid F i = some (vI i) := vI_p F i
theorem logged_p (F : Nat) (e : KEntry) : G_office_logged_formed F ⟨e⟩ = some (vI e.Stamp) := by unfold G_office_logged_formed; rw [vI_p]; rfl
theorem btw_p (F : Nat) (n a b : Int) : G_office_between F n a b = some (decide (a ≤ n ∧ n ≤ b)) := by
 unfold G_office_between
 by_cases h1 : a ≤ n <;> by_cases h2 : n ≤ b <;> simp [ifB, h1, h2]
theorem within_p (F : Nat) (n a : Int) : G_group_within F n a = some (decide (a ≤ n ∧ n < 1073741789)) := by
 unfold G_group_within
 by_cases h1 : a ≤ n <;> by_cases h2 : n < 1073741789 <;> simp [ifB, h1, h2]
def fH (h : KHead) : Bool := decide ((1 ≤ h.Office ∧ h.Office ≤ 16) ∧ (1 ≤ h.Size ∧ h.Size ≤ 4096) ∧ (0 ≤ h.Sig.C ∧ h.Sig.C < 1073741789) ∧ (0 ≤ h.Sig.S ∧ h.Sig.S < 1073741789))
theorem fH_p (F : Nat) (h : KHead) : G_office_formed F h = some (fH h) := by
 unfold G_office_formed fH; simp only [btw_p, ob_some]
 by_cases h1 : 1 ≤ h.Office ∧ h.Office ≤ 16 <;> by_cases h2 : 1 ≤ h.Size ∧ h.Size ≤ 4096 <;> by_cases h3 : 0 ≤ h.Sig.C ∧ h.Sig.C ≤ 1073741788 <;> by_cases h4 : 0 ≤ h.Sig.S ∧ h.Sig.S ≤ 1073741788 <;> simp [ifB, h1, h2, h3, h4] <;> omega
def msgF (h : KHead) : List Int := [h.Office, h.Size, IntKind.i64.wrap (Int.fdiv h.Root (2 ^ 32)), IntKind.i64.wrap (IntKind.u32.wrap h.Root)]
theorem msg_p (F : Nat) (h : KHead) : G_office_message F h = some (msgF h) := rfl
theorem xAt_le (X : Nat) : ∀ k, xAt X k ≤ X
 | 0 => Nat.le_refl _
 | k + 1 => by have := xAt_le X k; show xAt X k / 2 ≤ X; omega
theorem xAt_pow (X : Nat) : ∀ k, xAt X k = X / 2 ^ k
 | 0 => by show X = X / 1; omega
 | k + 1 => by
  show xAt X k / 2 = _
  rw [xAt_pow X k, Nat.div_div_eq_div_mul, Nat.pow_succ]
theorem xAt_end {X e : Nat} (h : X < 2 ^ e) : ∃ n, n ≤ e ∧ xAt X n = 0 ∧ ∀ k, k < n → 0 < xAt X k := by
 induction e with
 | zero => exact ⟨0, Nat.le_refl _, by show X = 0; simp at h; omega, fun k hk => absurd hk (Nat.not_lt_zero _)⟩
 | succ e ih =>
  rcases Nat.lt_or_ge X (2 ^ e) with h1 | h1
  ·obtain ⟨n, h2, h3, h4⟩ := ih h1; exact ⟨n, by omega, h3, h4⟩
  ·refine ⟨e + 1, Nat.le_refl _, by rw [xAt_pow, Nat.div_eq_of_lt h], fun k hk => ?_⟩; rw [xAt_pow]; exact Nat.div_pos (Nat.le_trans (Nat.pow_le_pow_right (by omega) (by omega)) h1) (Nat.two_pow_pos k)
theorem odd_test (n : Nat) (h : n < 9223372036854775808) : (bits BinOp.and IntKind.i64 ((n : Nat) : Int) 1 == 1) = decide (n % 2 = 1) := by
 rw [and_in h]
 by_cases hn : n % 2 = 1
 ·rw [hn]; rfl
 ·rw [show n % 2 = 0 by omega]; rfl
theorem pow_pn (A X : Nat) (hA : A < 2147483579) (hX : X < 2 ^ 62) {F : Nat} (hF : 64 ≤ F) : G_group_power F (A : Int) (X : Int) = some ((pw A X : Nat) : Int) := by
 obtain ⟨n, hn, h0, hp⟩ := xAt_end hX; unfold G_group_power; rw [show ((X : Int), (A : Int), (1 : Int)) = (fun k => (((xAt X k : Nat) : Int), ((aAt A k : Nat) : Int), ((oAt A X k : Nat) : Int))) 0 from rfl]; rw [iter_seq (fun k => (((xAt X k : Nat) : Int), ((aAt A k : Nat) : Int), ((oAt A X k : Nat) : Int))) n ((oAt A X n : Nat) : Int) ?_ ?_ (by omega)]
 ·simp only [ob_some]; rw [at_end h0]
 ·intro k hk; have hx := xAt_le X k; have hx2 : X < 9223372036854775808 := Nat.lt_of_lt_of_le hX (by decide); simp only [un3]; rw [show decide (((xAt X k : Nat) : Int) > 0) = true from decide_eq_true (by have := hp k hk; omega), ifB_t, odd_test _ (by omega), mul_in (aAt_lt hA k) (aAt_lt hA k), mod_in, shr_in]
  by_cases ho : xAt X k % 2 = 1
  ·rw [show decide (xAt X k % 2 = 1) = true from decide_eq_true ho, ifB_t, mul_in (oAt_lt A X k) (aAt_lt hA k), mod_in]; simp only [ob_some]; rw [oAt_odd ho]; rfl
  ·rw [show decide (xAt X k % 2 = 1) = false from decide_eq_false ho, ifB_f]; simp only [ob_some]; rw [oAt_even ho]; rfl
 ·simp only [un3]; rw [h0]; rfl
theorem pow_rn (A X : Nat) (hA : A < 2147483579) (hX : X < 2 ^ 62) {F : Nat} (hF : 64 ≤ F) : G_regulatorref06_Power F (A : Int) (X : Int) 2147483579 = some ((pw A X : Nat) : Int) := by
 obtain ⟨n, hn, h0, hp⟩ := xAt_end hX; unfold G_regulatorref06_Power; rw [show ((A : Int), (X : Int), (2147483579 : Int), (1 : Int)) = (fun k => (((aAt A k : Nat) : Int), ((xAt X k : Nat) : Int), (2147483579 : Int), ((oAt A X k : Nat) : Int))) 0 from rfl]; rw [iter_seq (fun k => (((aAt A k : Nat) : Int), ((xAt X k : Nat) : Int), (2147483579 : Int), ((oAt A X k : Nat) : Int))) n ((oAt A X n : Nat) : Int) ?_ ?_ (by omega)]
 ·simp only [ob_some]; rw [at_end h0]
 ·intro k hk; have hx := xAt_le X k; have hx2 : X < 9223372036854775808 := Nat.lt_of_lt_of_le hX (by decide); simp only [un4]; have hz : whenG (!((2147483579 : Int) == 0)) () = some () := rfl; have hodd : (Int.tmod ((xAt X k : Nat) : Int) 2 == 1) = decide (xAt X k % 2 = 1) := by
   rw [show Int.tmod ((xAt X k : Nat) : Int) 2 = ((xAt X k % 2 : Nat) : Int) from rfl]
   by_cases hn : xAt X k % 2 = 1
   ·rw [hn]; rfl
   ·rw [show xAt X k % 2 = 0 by omega]; rfl
  have hhalf : IntKind.i64.wrap (Int.tdiv ((xAt X k : Nat) : Int) 2) = ((xAt X k / 2 : Nat) : Int) := by
   rw [show Int.tdiv ((xAt X k : Nat) : Int) 2 = ((xAt X k / 2 : Nat) : Int) from rfl, IntKind.wrap_i64]; omega
  rw [show decide (((xAt X k : Nat) : Int) > 0) = true from decide_eq_true (by have := hp k hk; omega), ifB_t, hodd, hz, mul_in (aAt_lt hA k) (aAt_lt hA k), mod_in, hhalf]
  by_cases ho : xAt X k % 2 = 1
  ·rw [show decide (xAt X k % 2 = 1) = true from decide_eq_true ho, ifB_t, mul_in (oAt_lt A X k) (aAt_lt hA k), mod_in]; simp only [ob_some]; rw [oAt_odd ho]; rfl
  ·rw [show decide (xAt X k % 2 = 1) = false from decide_eq_false ho, ifB_f]; simp only [ob_some]; rw [oAt_even ho]; rfl
 ·simp only [un4]; rw [h0]; rfl
def memB (a : Int) : Bool := decide (0 < a ∧ a < 2147483579 ∧ pw a.toNat 1073741789 = 1)
theorem mem_p (a : Int) {F : Nat} (hF : 64 ≤ F) : G_group_Member F a = some (memB a) := by
 unfold G_group_Member memB
 by_cases h1 : 0 < a
 ·by_cases h2 : a < 2147483579
  ·have hp := pow_pn a.toNat 1073741789 (by omega) (by decide) hF; rw [show ((a.toNat : Nat) : Int) = a by omega, show ((1073741789 : Nat) : Int) = 1073741789 from rfl] at hp; rw [hp]
   by_cases h3 : pw a.toNat 1073741789 = 1 <;> simp [ifB, h1, h2, h3] <;> omega
  ·simp [ifB, h1, h2]
 ·simp [ifB, h1]
def pubB (a : Int) : Bool := memB a && !(a == 1)
theorem pub_p (a : Int) {F : Nat} (hF : 64 ≤ F) : G_office_isPublic F a = some (pubB a) := by
 unfold G_office_isPublic pubB; rw [mem_p a hF]; cases h : (a == 1) <;> simp [ifB]
end Go.Proofs.YtiijddjfiojfaaaDoor
namespace Go.Proofs.YtiijddjfiojfaaaDoor
open Go.ChangeShapes Go.WideShapes Go.ChangeAt Go.RowKit Go.Deep
theorem own : ownKnob Tryd.prog.godebug = none := by kernel_rfl
theorem laidOut : laidOutB Tryd.prog = true := by kernel_rfl
section
variable {H : Type} {enc : TypeId × Value → H}
theorem trodAll_below {P : Program} (hl : laidOutB P = true) {W W' : World} (hb : Below W.heap.size W W') : ∀ {ts : List TypeId} {vs : List Value} {ds : List (DataW H)} {ps : List MemPlace},
  (∀ t ∈ ts, P.readableRec t = true ∧ t < P.types.size) → DataW.TrodAll enc P W 0 (fun _ => true) true ts vs ds ps → (∀ x ∈ ps, x.block < W.heap.size) →
  DataW.TrodAll enc P W' 0 (fun b => decide (b < W.heap.size)) true ts vs ds ps
 | [], vs, ds, ps, _, h, _ => by
  obtain ⟨rfl, rfl, rfl⟩ := trodAll_nil h; rfl
 | t :: ts, vs, ds, ps, hr, h, hlt => by
  obtain ⟨v, vs', d, ds', p, q, rfl, rfl, rfl, h1, h2⟩ := trodAll_cons h; have h0 := hr t (by simp); exact trodAll_cons_mk (Below.trod hl h0.1 h0.2 h1 hb (fun x hx => hlt x (by simp [hx]))) (trodAll_below hl hb (fun t ht => hr t (by simp [ht])) h2 (fun x hx => hlt x (by simp [hx])))
theorem post_true {P : Program} {fn : Func} {s : ChangeSpec} {W W' : World} {args : Array Value} {ds gs : List (DataW H)} {before : List MemPlace} {b : TypeId} (hl : laidOutB P = true)
  (hr : ∀ t ∈ fn.params.toList, P.readableRec t = true ∧ t < P.types.size) (hb4 : P.underlying b = some .bool) (hrt : fn.resultTypes = #[b]) (hs : s.vars = [])
  (hW : DataW.Whole enc P fn.params.toList s.vars false W args.toList ds gs before) (hres : (s.fn H (ds ++ gs)).results = [.lit (.bool true)]) (hargs : (s.fn H (ds ++ gs)).args = ds) (hvs : (s.fn H (ds ++ gs)).vars = [])
  (hb : Below W.heap.size W W') : s.post enc P fn false true false false W args (.bool true) W' := by
 have hW' := hW; obtain ⟨p, q, hA, hV, rfl, _, _⟩ := hW; rw [hs] at hV; obtain ⟨rfl, rfl⟩ := trodVars_none hV; refine ⟨_, _, _, [], p, [], hW', ?_, ?_, ?_, hb.frame _, fun h => by cases h⟩
 ·rw [hres, hrt]; exact trodAll_mk1 (shut_bool hb4 true)
 ·rw [hargs]; exact trodAll_below hl hb hr hA (fun x hx => by simpa using hW'.lt x (by simp [hx]))
 ·rw [hvs, hs]; rfl
end
end Go.Proofs.YtiijddjfiojfaaaDoor
