/-
  Texts joined: Z9, Za, Ma, OpA, OpR, OpZ, Mb, Mc, Lw24, Md, Me, Mf, Na, Nb, Nc, Ne, TbL.
-/
import Derived.Test.YtiijddjfiojfaaaGreatDoorProg
import Derived.Test.YtiijddjfiojfaaaGreatDoorRows
import Derived.ProofKit
import Derived.OpenShut
import Derived.Carry
import Derived.ChangeSame
import Derived.Deep.Slices
import Derived.Lib.SmallJoins
import Derived.KernelRfl
import Derived.Lib.LaidU8
import Derived.Test.YtiijddjfiojfaaaGreatDoorK60
import Derived.Test.YtiijddjfiojfaaaGreatDoorK61
import Derived.Test.YtiijddjfiojfaaaGreatDoorK62
import Derived.Test.YtiijddjfiojfaaaGreatDoorK63
import Derived.Test.YtiijddjfiojfaaaGreatDoorK64
namespace Go.Proofs.YtiijddjfiojfaaaGreatDoor
open Go.RowKit Go.Maps
def G_regulatorlaw26_CrossMatchesReference (F : Nat) (p_0 : KOffice) (p_1 : KOffice) (p_2 : KHead) (p_3 : KHead) (p_4 : KHead) (p_5 : KHop) (p_6 : List Int) (p_7 : Int) (p_8 : List Int) : Option (Bool) :=
  Option.bind (G_regulatorlaw26_head F ) (fun v_7 =>
  Option.bind (Option.bind (G_regulatorlaw26_few F p_0 p_1) (fun v_8 =>
    ifB (v_8)
      (ifB (decide (((p_6.length : Nat) : Int) > 20))
        (some (true, p_8))
        (ifB (decide (((p_8.length : Nat) : Int) > 30))
          (some (true, p_8))
          (ifB (decide (((p_5.Grow.length : Nat) : Int) > 30))
            (some (true, p_8))
            (some (decide (((p_5.By.Path.length : Nat) : Int) > 30), p_8)))))
      (some (true, p_8))) : Option ((Bool × (List Int)))) (un2 fun (v_14 : Bool) (v_15 : (List Int)) => 
    ifB (v_14)
      (some v_7)
      (Option.bind (ifB (v_7)
          (Option.bind (G_cross_Digest F p_3) (fun v_20 =>
          Option.bind (G_regulatorref26_Digest F p_3) (fun v_21 =>
          some (v_20 == v_21))))
          (some false) : Option (Bool)) (fun (v_23 : Bool) => 
        Option.bind (G_cross_Witness F p_0 p_2 p_3 p_1 p_4) (un2 fun v_24 v_25 =>
        Option.bind (G_regulatorref26_Witness F p_0 p_2 p_3 p_1 p_4) (un2 fun v_27 v_28 =>
        Option.bind (ifB (v_23)
            (Option.bind (G_regulatorref26_Same F v_24 v_27) (fun v_31 =>
            ifB (v_31)
              (some (v_25 == v_28))
              (some false)))
            (some false) : Option (Bool)) (fun (v_34 : Bool) => 
          Option.bind (G_cross_Check F p_6 p_2 p_5) (un2 fun v_35 v_36 =>
          Option.bind (G_regulatorref26_Check F p_6 p_2 p_5) (un2 fun v_37 v_38 =>
          Option.bind (ifB (v_34)
              (ifB ((v_35 == v_37))
                (some (v_36 == v_38))
                (some false))
              (some false) : Option (Bool)) (fun (v_42 : Bool) => 
            Option.bind (G_cross_Forks F p_7 p_2 p_3 v_15) (un2 fun v_43 v_44 =>
            Option.bind (G_regulatorref26_Forks F p_7 p_2 p_3 v_15) (un2 fun v_45 v_46 =>
            Option.bind (ifB (v_42)
                (ifB ((v_43 == v_45))
                  (some (v_44 == v_46))
                  (some false))
                (some false) : Option (Bool)) (fun (v_50 : Bool) => 
              some v_50)))))))))))))
set_option maxRecDepth 100000 in
set_option maxHeartbeats 16000000 in
theorem z_regulatorlaw26_CrossMatchesReference (F : Nat) (p_0 : KOfficeL) (p_1 : KOfficeL) (p_2 : KHead) (p_3 : KHead) (p_4 : KHead) (p_5 : KHopL) (p_6_A : Option Addr) (p_6_c : Nat) (p_6 : List Int) (p_7 : Int) (p_8_A : Option Addr) (p_8_c : Nat) (p_8 : List Int) (r : Bool) (hG : G_regulatorlaw26_CrossMatchesReference F p_0.p p_1.p p_2 p_3 p_4 p_5.p p_6 p_7 p_8 = some r) :
  Cf Tryz.prog 3 [.agg #[I p_0.ID, .slice p_0.Entries_A p_0.Entries.length p_0.Entries_c], .agg #[I p_1.ID, .slice p_1.Entries_A p_1.Entries.length p_1.Entries_c], .agg #[I p_2.Office, I p_2.Size, U p_2.Root, I p_2.Sig.C, I p_2.Sig.S], .agg #[I p_3.Office, I p_3.Size, U p_3.Root, I p_3.Sig.C, I p_3.Sig.S], .agg #[I p_4.Office, I p_4.Size, U p_4.Root, I p_4.Sig.C, I p_4.Sig.S], .agg #[I p_5.Of.Office, I p_5.Of.Size, U p_5.Of.Root, I p_5.Of.Sig.C, I p_5.Of.Sig.S, .slice p_5.Grow_A p_5.Grow.length p_5.Grow_c, I p_5.By.Head.Office, I p_5.By.Head.Size, U p_5.By.Head.Root, I p_5.By.Head.Sig.C, I p_5.By.Head.Sig.S, I p_5.By.Index, U p_5.By.Entry.Doc, I p_5.By.Entry.Stamp.Lo, I p_5.By.Entry.Stamp.Hi, .slice p_5.By.Path_A p_5.By.Path.length p_5.By.Path_c], .slice p_6_A p_6.length p_6_c, I p_7, .slice p_8_A p_8.length p_8_c] [KOfficeL.ok p_0, KOfficeL.ok p_1, KHopL.ok p_5, RowC p_6_A p_6_c c_i64 tr p_6, RowC p_8_A p_8_c c_u64 tr p_8] (B r) := by
 unfold G_regulatorlaw26_CrossMatchesReference at hG; refine fi Tryz.func3 rfl rfl (mc KOfficeL.mv (mc KOfficeL.mv (mc KHopL.mv (mr tr_mv (mr tr_mv m0))))) fun S0 w0 hT => ?_
 refine sq ?_; refine rg ?_; refine l1 ?_; refine nw 9 vp [I p_0.ID, .slice p_0.Entries_A p_0.Entries.length p_0.Entries_c] 24 fun g_1 => ?_
 refine l1 ?_; refine nw 10 vp [I p_1.ID, .slice p_1.Entries_A p_1.Entries.length p_1.Entries_c] 24 fun g_2 => ?_
 refine l1 ?_; refine nw 11 vp [I p_2.Office, I p_2.Size, U p_2.Root, I p_2.Sig.C, I p_2.Sig.S] 29 fun g_3 => ?_
 refine l1 ?_; refine nw 12 vp [I p_3.Office, I p_3.Size, U p_3.Root, I p_3.Sig.C, I p_3.Sig.S] 29 fun g_4 => ?_
 refine l1 ?_; refine nw 13 vp [I p_4.Office, I p_4.Size, U p_4.Root, I p_4.Sig.C, I p_4.Sig.S] 29 fun g_5 => ?_
 refine l1 ?_; refine nw 14 vp [I p_5.Of.Office, I p_5.Of.Size, U p_5.Of.Root, I p_5.Of.Sig.C, I p_5.Of.Sig.S, .slice p_5.Grow_A p_5.Grow.length p_5.Grow_c, I p_5.By.Head.Office, I p_5.By.Head.Size, U p_5.By.Head.Root, I p_5.By.Head.Sig.C, I p_5.By.Head.Sig.S, I p_5.By.Index, U p_5.By.Entry.Doc, I p_5.By.Entry.Stamp.Lo, I p_5.By.Entry.Stamp.Hi, .slice p_5.By.Path_A p_5.By.Path.length p_5.By.Path_c] 38 fun g_6 => ?_
 refine ra [] f0 [] ?_; refine tN ?_; refine sq ?_; replace hG := bind_some hG; obtain ⟨v_7, hy_7, hG⟩ := hG; refine rg ?_; refine l1 ?_; refine cl 26 (z_regulatorlaw26_head F  _ hy_7) hT trivial ?_; refine ra [] f0 [(19, B v_7)] ?_; refine tN ?_; refine sq ?_; obtain ⟨o_13, hG, hG_13⟩ := bind_some hG; refine jn (fun K E a w => ∃ (v_14 : Bool), ∃ (v_15 : List Int), ∃ (v_16_A : Option Addr), ∃ (v_17_c : Nat), Js S0 w0 144 ([(8, .slice v_16_A v_15.length v_17_c), (53, B v_14)] ++ K) ([.dat (RowC p_1.Entries_A p_1.Entries_c KEntry.cells tr p_1.Entries), .dat (RowC p_5.Grow_A p_5.Grow_c c_u64 tr p_5.Grow), .dat (RowC p_5.By.Path_A p_5.By.Path_c c_u64 tr p_5.By.Path), .dat (RowC v_16_A v_17_c c_u64 tr v_15), .dat (RowC p_0.Entries_A p_0.Entries_c KEntry.cells tr p_0.Entries)] ++ se E [0, 1, 2, 3, 4, 5, 9]) ((v_14, v_15) = o_13) a w) ?_ ?_
 ·replace hG := bind_some hG; obtain ⟨v_8, hy_8, hG⟩ := hG; replace hG := ifB_cases hG; rcases hG with ⟨h_9, hG⟩ | ⟨h_9, hG⟩
  ·replace hG := ifB_cases hG; rcases hG with ⟨h_10, hG⟩ | ⟨h_10, hG⟩
   ·refine rg ?_; refine rn 2 [(0, 2, 5, 0), (0, 2, 4, 0)] f0 [(27, .agg #[I p_0.ID, .slice p_0.Entries_A p_0.Entries.length p_0.Entries_c]), (28, .agg #[I p_1.ID, .slice p_1.Entries_A p_1.Entries.length p_1.Entries_c])] ?_; refine l1 ?_; refine cl 29 (z_regulatorlaw26_few F p_0 p_1 _ hy_8) hT ⟨(gi 6).a, (gi 7).a, trivial⟩ ?_; refine rn 2 [] f0 [(31, B (!v_8))] ?_; refine sb 31 (nt h_9) ?_; refine rn 5 [] f0 [(36, B (decide (((p_6.length : Nat) : Int) > 20)))] ?_; refine sb 36 (bt h_10) ?_; refine ra [] f0 [(53, B true)] ?_; refine tN ?_; refine fm (RowC p_1.Entries_A p_1.Entries_c KEntry.cells tr p_1.Entries) (gm (KOfficeL.ok p_1) 7 fun _ _ h => h.f_Entries) ?_; refine fm (RowC p_5.Grow_A p_5.Grow_c c_u64 tr p_5.Grow) (gm (KHopL.ok p_5) 9 fun _ _ h => h.f_Grow) ?_; refine fm (RowC p_5.By.Path_A p_5.By.Path_c c_u64 tr p_5.By.Path) (gm (KHopL.ok p_5) 10 fun _ _ h => h.b_By.f_Path) ?_; refine fm (RowC p_0.Entries_A p_0.Entries_c KEntry.cells tr p_0.Entries) (gm (KOfficeL.ok p_0) 9 fun _ _ h => h.f_Entries) ?_; exact fun a w S hK hE => ⟨true, p_8, p_8_A, p_8_c, S, hK.wk, hE.sel [3, 2, 1, 14, 0, 4, 5, 6, 7, 8, 9, 13], Option.some.inj hG⟩
   ·replace hG := ifB_cases hG; rcases hG with ⟨h_11, hG⟩ | ⟨h_11, hG⟩
    ·refine rg ?_; refine rn 2 [(0, 2, 5, 0), (0, 2, 4, 0)] f0 [(27, .agg #[I p_0.ID, .slice p_0.Entries_A p_0.Entries.length p_0.Entries_c]), (28, .agg #[I p_1.ID, .slice p_1.Entries_A p_1.Entries.length p_1.Entries_c])] ?_; refine l1 ?_; refine cl 29 (z_regulatorlaw26_few F p_0 p_1 _ hy_8) hT ⟨(gi 6).a, (gi 7).a, trivial⟩ ?_; refine rn 2 [] f0 [(31, B (!v_8))] ?_; refine sb 31 (nt h_9) ?_; refine rn 5 [] f0 [(36, B (decide (((p_6.length : Nat) : Int) > 20)))] ?_; refine sb 36 (bf h_10) ?_; refine rn 5 [] f0 [(41, B (decide (((p_8.length : Nat) : Int) > 30)))] ?_; refine sb 41 (bt h_11) ?_; refine ra [] f0 [(53, B true)] ?_; refine tN ?_; refine fm (RowC p_1.Entries_A p_1.Entries_c KEntry.cells tr p_1.Entries) (gm (KOfficeL.ok p_1) 7 fun _ _ h => h.f_Entries) ?_; refine fm (RowC p_5.Grow_A p_5.Grow_c c_u64 tr p_5.Grow) (gm (KHopL.ok p_5) 9 fun _ _ h => h.f_Grow) ?_; refine fm (RowC p_5.By.Path_A p_5.By.Path_c c_u64 tr p_5.By.Path) (gm (KHopL.ok p_5) 10 fun _ _ h => h.b_By.f_Path) ?_; refine fm (RowC p_0.Entries_A p_0.Entries_c KEntry.cells tr p_0.Entries) (gm (KOfficeL.ok p_0) 9 fun _ _ h => h.f_Entries) ?_; exact fun a w S hK hE => ⟨true, p_8, p_8_A, p_8_c, S, hK.wk, hE.sel [3, 2, 1, 14, 0, 4, 5, 6, 7, 8, 9, 13], Option.some.inj hG⟩
    ·replace hG := ifB_cases hG; rcases hG with ⟨h_12, hG⟩ | ⟨h_12, hG⟩
     ·refine rg ?_; refine rn 2 [(0, 2, 5, 0), (0, 2, 4, 0)] f0 [(27, .agg #[I p_0.ID, .slice p_0.Entries_A p_0.Entries.length p_0.Entries_c]), (28, .agg #[I p_1.ID, .slice p_1.Entries_A p_1.Entries.length p_1.Entries_c])] ?_; refine l1 ?_; refine cl 29 (z_regulatorlaw26_few F p_0 p_1 _ hy_8) hT ⟨(gi 6).a, (gi 7).a, trivial⟩ ?_; refine rn 2 [] f0 [(31, B (!v_8))] ?_; refine sb 31 (nt h_9) ?_; refine rn 5 [] f0 [(36, B (decide (((p_6.length : Nat) : Int) > 20)))] ?_; refine sb 36 (bf h_10) ?_; refine rn 5 [] f0 [(41, B (decide (((p_8.length : Nat) : Int) > 30)))] ?_; refine sb 41 (bf h_11) ?_; refine rn 6 [(1, 1, 0, 5)] f0 [(47, B (decide (((p_5.Grow.length : Nat) : Int) > 30)))] ?_; refine sb 47 (bt h_12) ?_; refine ra [] f0 [(53, B true)] ?_; refine tN ?_; refine fm (RowC p_1.Entries_A p_1.Entries_c KEntry.cells tr p_1.Entries) (gm (KOfficeL.ok p_1) 7 fun _ _ h => h.f_Entries) ?_; refine fm (RowC p_5.Grow_A p_5.Grow_c c_u64 tr p_5.Grow) (gm (KHopL.ok p_5) 9 fun _ _ h => h.f_Grow) ?_; refine fm (RowC p_5.By.Path_A p_5.By.Path_c c_u64 tr p_5.By.Path) (gm (KHopL.ok p_5) 10 fun _ _ h => h.b_By.f_Path) ?_; refine fm (RowC p_0.Entries_A p_0.Entries_c KEntry.cells tr p_0.Entries) (gm (KOfficeL.ok p_0) 9 fun _ _ h => h.f_Entries) ?_; exact fun a w S hK hE => ⟨true, p_8, p_8_A, p_8_c, S, hK.wk, hE.sel [3, 2, 1, 14, 0, 4, 5, 6, 7, 8, 9, 13], Option.some.inj hG⟩
     ·refine rg ?_; refine rn 2 [(0, 2, 5, 0), (0, 2, 4, 0)] f0 [(27, .agg #[I p_0.ID, .slice p_0.Entries_A p_0.Entries.length p_0.Entries_c]), (28, .agg #[I p_1.ID, .slice p_1.Entries_A p_1.Entries.length p_1.Entries_c])] ?_; refine l1 ?_; refine cl 29 (z_regulatorlaw26_few F p_0 p_1 _ hy_8) hT ⟨(gi 6).a, (gi 7).a, trivial⟩ ?_; refine rn 2 [] f0 [(31, B (!v_8))] ?_; refine sb 31 (nt h_9) ?_; refine rn 5 [] f0 [(36, B (decide (((p_6.length : Nat) : Int) > 20)))] ?_; refine sb 36 (bf h_10) ?_; refine rn 5 [] f0 [(41, B (decide (((p_8.length : Nat) : Int) > 30)))] ?_; refine sb 41 (bf h_11) ?_; refine rn 6 [(1, 1, 0, 5)] f0 [(47, B (decide (((p_5.Grow.length : Nat) : Int) > 30)))] ?_; refine sb 47 (bf h_12) ?_; refine ra [(2, 1, 0, 15)] f0 [(53, B (decide (((p_5.By.Path.length : Nat) : Int) > 30)))] ?_; refine tN ?_; refine fm (RowC p_1.Entries_A p_1.Entries_c KEntry.cells tr p_1.Entries) (gm (KOfficeL.ok p_1) 7 fun _ _ h => h.f_Entries) ?_; refine fm (RowC p_5.Grow_A p_5.Grow_c c_u64 tr p_5.Grow) (gm (KHopL.ok p_5) 9 fun _ _ h => h.f_Grow) ?_; refine fm (RowC p_5.By.Path_A p_5.By.Path_c c_u64 tr p_5.By.Path) (gm (KHopL.ok p_5) 10 fun _ _ h => h.b_By.f_Path) ?_; refine fm (RowC p_0.Entries_A p_0.Entries_c KEntry.cells tr p_0.Entries) (gm (KOfficeL.ok p_0) 9 fun _ _ h => h.f_Entries) ?_; exact fun a w S hK hE => ⟨decide (((p_5.By.Path.length : Nat) : Int) > 30), p_8, p_8_A, p_8_c, S, hK.wk, hE.sel [3, 2, 1, 14, 0, 4, 5, 6, 7, 8, 9, 13], Option.some.inj hG⟩
  ·refine rg ?_; refine rn 2 [(0, 2, 5, 0), (0, 2, 4, 0)] f0 [(27, .agg #[I p_0.ID, .slice p_0.Entries_A p_0.Entries.length p_0.Entries_c]), (28, .agg #[I p_1.ID, .slice p_1.Entries_A p_1.Entries.length p_1.Entries_c])] ?_; refine l1 ?_; refine cl 29 (z_regulatorlaw26_few F p_0 p_1 _ hy_8) hT ⟨(gi 6).a, (gi 7).a, trivial⟩ ?_; refine rn 2 [] f0 [(31, B (!v_8))] ?_; refine sb 31 (nf h_9) ?_; refine ra [] f0 [(53, B true)] ?_; refine tN ?_; refine fm (RowC p_1.Entries_A p_1.Entries_c KEntry.cells tr p_1.Entries) (gm (KOfficeL.ok p_1) 7 fun _ _ h => h.f_Entries) ?_; refine fm (RowC p_5.Grow_A p_5.Grow_c c_u64 tr p_5.Grow) (gm (KHopL.ok p_5) 9 fun _ _ h => h.f_Grow) ?_; refine fm (RowC p_5.By.Path_A p_5.By.Path_c c_u64 tr p_5.By.Path) (gm (KHopL.ok p_5) 10 fun _ _ h => h.b_By.f_Path) ?_; refine fm (RowC p_0.Entries_A p_0.Entries_c KEntry.cells tr p_0.Entries) (gm (KOfficeL.ok p_0) 9 fun _ _ h => h.f_Entries) ?_; exact fun a w S hK hE => ⟨true, p_8, p_8_A, p_8_c, S, hK.wk, hE.sel [3, 2, 1, 14, 0, 4, 5, 6, 7, 8, 9, 13], Option.some.inj hG⟩
 ·rintro a w ⟨v_14, v_15, v_16_A, v_17_c, hJ⟩; refine hJ.go fun ho_ => ?_
  clear hJ; subst ho_; replace hG := hG_13; rcases ifB_cases hG with ⟨h_18, hG⟩ | ⟨h_18, hG⟩
  ·refine sb 53 (bt h_18) ?_; refine ct ?_; refine sq ?_; refine rg ?_; refine ra [] f0 [(18, B v_7)] ?_; refine tN ?_; refine kR ?_; refine tR ?_; obtain rfl := Option.some.inj hG; exact rt []
  ·refine sb 53 (bf h_18) ?_; refine cf ?_; refine kS ?_; refine tN ?_; obtain ⟨o_22, hG, hG_22⟩ := bind_some hG; refine jn (fun K E a w => ∃ (v_23 : Bool), Js S0 w0 144 ([(19, B v_23)] ++ K) (se E [0, 1, 2, 3, 4, 5, 6, 7, 8, 9, 10, 11]) (v_23 = o_22) a w) ?_ ?_
   ·replace hG := ifB_cases hG; rcases hG with ⟨h_19, hG⟩ | ⟨h_19, hG⟩
    ·replace hG := bind_some hG; obtain ⟨v_20, hy_20, hG⟩ := hG; replace hG := bind_some hG; obtain ⟨v_21, hy_21, hG⟩ := hG; refine qb ?_; refine qn 2 [] f0 [(56, B v_7)] ?_; refine sb 56 (bt h_19) ?_; refine qn 1 [(0, 5, 7, 0)] f0 [(57, .agg #[I p_3.Office, I p_3.Size, U p_3.Root, I p_3.Sig.C, I p_3.Sig.S])] ?_; refine qc 58 (z_cross_Digest F p_3 _ hy_20) hT trivial ?_; refine qn 1 [(0, 5, 7, 0)] f0 [(59, .agg #[I p_3.Office, I p_3.Size, U p_3.Root, I p_3.Sig.C, I p_3.Sig.S])] ?_; refine qc 60 (z_regulatorref26_Digest F p_3 _ hy_21) hT trivial ?_; refine qa [] f0 [(19, B (v_20 == v_21))] ?_; refine tN ?_; exact fun a w S hK hE => ⟨(v_20 == v_21), S, hK.wk, hE.sel [0, 1, 2, 3, 4, 5, 6, 7, 8, 9, 10, 11], Option.some.inj hG⟩
    ·refine qb ?_; refine qn 2 [] f0 [(56, B v_7)] ?_; refine sb 56 (bf h_19) ?_; refine qa [] f0 [(19, B false)] ?_; refine tN ?_; exact fun a w S hK hE => ⟨false, S, hK.wk, hE.sel [0, 1, 2, 3, 4, 5, 6, 7, 8, 9, 10, 11], Option.some.inj hG⟩
   ·rintro a w ⟨v_23, hJ⟩; refine hJ.go fun ho_ => ?_
    clear hJ; subst ho_; replace hG := hG_22; refine sq ?_; replace hG := bind_some hG; obtain ⟨⟨v_24o, v_25⟩, hy_24, hG⟩ := hG; refine rg ?_; refine rn 5 [(0, 2, 10, 0), (0, 5, 8, 0), (0, 5, 7, 0), (0, 2, 9, 0), (0, 5, 6, 0)] f0 [(64, .agg #[I p_0.ID, .slice p_0.Entries_A p_0.Entries.length p_0.Entries_c]), (65, .agg #[I p_2.Office, I p_2.Size, U p_2.Root, I p_2.Sig.C, I p_2.Sig.S]), (66, .agg #[I p_3.Office, I p_3.Size, U p_3.Root, I p_3.Sig.C, I p_3.Sig.S]), (67, .agg #[I p_1.ID, .slice p_1.Entries_A p_1.Entries.length p_1.Entries_c]), (68, .agg #[I p_4.Office, I p_4.Size, U p_4.Root, I p_4.Sig.C, I p_4.Sig.S])] ?_; refine l1 ?_; refine cn 69 (z_cross_Witness F p_0 p_2 p_3 p_1 p_4 _ hy_24) hT (fun _ => (mc KHopL.mv m0)) ⟨(((gd' (RowC p_0.Entries_A p_0.Entries_c KEntry.cells tr p_0.Entries) 4)).m fun _ _ h => ⟨h⟩), (((gd' (RowC p_1.Entries_A p_1.Entries_c KEntry.cells tr p_1.Entries) 0)).m fun _ _ h => ⟨h⟩), trivial⟩ ?_; rintro v_24 hq_24; obtain rfl : v_24.p = v_24o := hq_24.symm; refine rn 3 [] f0 [(70, .agg #[I v_24.Of.Office, I v_24.Of.Size, U v_24.Of.Root, I v_24.Of.Sig.C, I v_24.Of.Sig.S, .slice v_24.Grow_A v_24.Grow.length v_24.Grow_c, I v_24.By.Head.Office, I v_24.By.Head.Size, U v_24.By.Head.Root, I v_24.By.Head.Sig.C, I v_24.By.Head.Sig.S, I v_24.By.Index, U v_24.By.Entry.Doc, I v_24.By.Entry.Stamp.Lo, I v_24.By.Entry.Stamp.Hi, .slice v_24.By.Path_A v_24.By.Path.length v_24.By.Path_c]), (71, I v_25)] ?_; refine l1 ?_; refine nw 20 vp [I 0, I 0, U 0, I 0, I 0, .slice none 0 0, I 0, I 0, U 0, I 0, I 0, I 0, U 0, I 0, I 0, .slice none 0 0] 38 fun g_26 => ?_
    refine l1 ?_; refine sr 0 g_26 [(0, I v_24.Of.Office), (1, I v_24.Of.Size), (2, U v_24.Of.Root), (3, I v_24.Of.Sig.C), (4, I v_24.Of.Sig.S), (5, .slice v_24.Grow_A v_24.Grow.length v_24.Grow_c), (6, I v_24.By.Head.Office), (7, I v_24.By.Head.Size), (8, U v_24.By.Head.Root), (9, I v_24.By.Head.Sig.C), (10, I v_24.By.Head.Sig.S), (11, I v_24.By.Index), (12, U v_24.By.Entry.Doc), (13, I v_24.By.Entry.Stamp.Lo), (14, I v_24.By.Entry.Stamp.Hi), (15, .slice v_24.By.Path_A v_24.By.Path.length v_24.By.Path_c)] ?_; refine ra [] f0 [(21, I v_25)] ?_; refine tN ?_; refine sq ?_; replace hG := bind_some hG; obtain ⟨⟨v_27o, v_28⟩, hy_27, hG⟩ := hG; refine rg ?_; refine rn 5 [(0, 2, 12, 0), (0, 5, 10, 0), (0, 5, 9, 0), (0, 2, 11, 0), (0, 5, 8, 0)] f0 [(73, .agg #[I p_0.ID, .slice p_0.Entries_A p_0.Entries.length p_0.Entries_c]), (74, .agg #[I p_2.Office, I p_2.Size, U p_2.Root, I p_2.Sig.C, I p_2.Sig.S]), (75, .agg #[I p_3.Office, I p_3.Size, U p_3.Root, I p_3.Sig.C, I p_3.Sig.S]), (76, .agg #[I p_1.ID, .slice p_1.Entries_A p_1.Entries.length p_1.Entries_c]), (77, .agg #[I p_4.Office, I p_4.Size, U p_4.Root, I p_4.Sig.C, I p_4.Sig.S])] ?_; refine l1 ?_; refine cn 78 (z_regulatorref26_Witness F p_0 p_2 p_3 p_1 p_4 _ hy_27) hT (fun _ => (mc KHopL.mv m0)) ⟨(((gd' (RowC p_0.Entries_A p_0.Entries_c KEntry.cells tr p_0.Entries) 6)).m fun _ _ h => ⟨h⟩), (((gd' (RowC p_1.Entries_A p_1.Entries_c KEntry.cells tr p_1.Entries) 2)).m fun _ _ h => ⟨h⟩), trivial⟩ ?_; rintro v_27 hq_27; obtain rfl : v_27.p = v_27o := hq_27.symm; refine rn 3 [] f0 [(79, .agg #[I v_27.Of.Office, I v_27.Of.Size, U v_27.Of.Root, I v_27.Of.Sig.C, I v_27.Of.Sig.S, .slice v_27.Grow_A v_27.Grow.length v_27.Grow_c, I v_27.By.Head.Office, I v_27.By.Head.Size, U v_27.By.Head.Root, I v_27.By.Head.Sig.C, I v_27.By.Head.Sig.S, I v_27.By.Index, U v_27.By.Entry.Doc, I v_27.By.Entry.Stamp.Lo, I v_27.By.Entry.Stamp.Hi, .slice v_27.By.Path_A v_27.By.Path.length v_27.By.Path_c]), (80, I v_28)] ?_; refine l1 ?_; refine nw 22 vp [I 0, I 0, U 0, I 0, I 0, .slice none 0 0, I 0, I 0, U 0, I 0, I 0, I 0, U 0, I 0, I 0, .slice none 0 0] 38 fun g_29 => ?_
    refine l1 ?_; refine sr 0 g_29 [(0, I v_27.Of.Office), (1, I v_27.Of.Size), (2, U v_27.Of.Root), (3, I v_27.Of.Sig.C), (4, I v_27.Of.Sig.S), (5, .slice v_27.Grow_A v_27.Grow.length v_27.Grow_c), (6, I v_27.By.Head.Office), (7, I v_27.By.Head.Size), (8, U v_27.By.Head.Root), (9, I v_27.By.Head.Sig.C), (10, I v_27.By.Head.Sig.S), (11, I v_27.By.Index), (12, U v_27.By.Entry.Doc), (13, I v_27.By.Entry.Stamp.Lo), (14, I v_27.By.Entry.Stamp.Hi), (15, .slice v_27.By.Path_A v_27.By.Path.length v_27.By.Path_c)] ?_; refine ra [] f0 [(23, I v_28)] ?_; refine tN ?_; obtain ⟨o_33, hG, hG_33⟩ := bind_some hG; refine jn (fun K E a w => ∃ (v_34 : Bool), Js S0 w0 144 ([(19, B v_34)] ++ K) (se E [5, 6, 7, 9, 11, 12, 15]) (v_34 = o_33) a w) ?_ ?_
    ·replace hG := ifB_cases hG; rcases hG with ⟨h_30, hG⟩ | ⟨h_30, hG⟩
     ·replace hG := bind_some hG; obtain ⟨v_31, hy_31, hG⟩ := hG; replace hG := ifB_cases hG; rcases hG with ⟨h_32, hG⟩ | ⟨h_32, hG⟩
      ·refine rg ?_; refine rn 2 [] f0 [(82, B v_23)] ?_; refine sb 82 (bt h_30) ?_; refine rn 2 [(0, 16, 2, 0), (0, 16, 0, 0)] f0 [(83, .agg #[I v_24.Of.Office, I v_24.Of.Size, U v_24.Of.Root, I v_24.Of.Sig.C, I v_24.Of.Sig.S, .slice v_24.Grow_A v_24.Grow.length v_24.Grow_c, I v_24.By.Head.Office, I v_24.By.Head.Size, U v_24.By.Head.Root, I v_24.By.Head.Sig.C, I v_24.By.Head.Sig.S, I v_24.By.Index, U v_24.By.Entry.Doc, I v_24.By.Entry.Stamp.Lo, I v_24.By.Entry.Stamp.Hi, .slice v_24.By.Path_A v_24.By.Path.length v_24.By.Path_c]), (84, .agg #[I v_27.Of.Office, I v_27.Of.Size, U v_27.Of.Root, I v_27.Of.Sig.C, I v_27.Of.Sig.S, .slice v_27.Grow_A v_27.Grow.length v_27.Grow_c, I v_27.By.Head.Office, I v_27.By.Head.Size, U v_27.By.Head.Root, I v_27.By.Head.Sig.C, I v_27.By.Head.Sig.S, I v_27.By.Index, U v_27.By.Entry.Doc, I v_27.By.Entry.Stamp.Lo, I v_27.By.Entry.Stamp.Hi, .slice v_27.By.Path_A v_27.By.Path.length v_27.By.Path_c])] ?_; refine l1 ?_; refine cl 85 (z_regulatorref26_Same F v_24 v_27 _ hy_31) hT ⟨(gi 3).a, (gi 1).a, trivial⟩ ?_; refine rn 2 [] f0 [(87, B v_31)] ?_; refine sb 87 (bt h_32) ?_; refine ra [] f0 [(19, B (v_25 == v_28))] ?_; refine tN ?_; exact fun a w S hK hE => ⟨(v_25 == v_28), S, hK.wk, hE.sel [5, 6, 7, 9, 11, 12, 15], Option.some.inj hG⟩
      ·refine rg ?_; refine rn 2 [] f0 [(82, B v_23)] ?_; refine sb 82 (bt h_30) ?_; refine rn 2 [(0, 16, 2, 0), (0, 16, 0, 0)] f0 [(83, .agg #[I v_24.Of.Office, I v_24.Of.Size, U v_24.Of.Root, I v_24.Of.Sig.C, I v_24.Of.Sig.S, .slice v_24.Grow_A v_24.Grow.length v_24.Grow_c, I v_24.By.Head.Office, I v_24.By.Head.Size, U v_24.By.Head.Root, I v_24.By.Head.Sig.C, I v_24.By.Head.Sig.S, I v_24.By.Index, U v_24.By.Entry.Doc, I v_24.By.Entry.Stamp.Lo, I v_24.By.Entry.Stamp.Hi, .slice v_24.By.Path_A v_24.By.Path.length v_24.By.Path_c]), (84, .agg #[I v_27.Of.Office, I v_27.Of.Size, U v_27.Of.Root, I v_27.Of.Sig.C, I v_27.Of.Sig.S, .slice v_27.Grow_A v_27.Grow.length v_27.Grow_c, I v_27.By.Head.Office, I v_27.By.Head.Size, U v_27.By.Head.Root, I v_27.By.Head.Sig.C, I v_27.By.Head.Sig.S, I v_27.By.Index, U v_27.By.Entry.Doc, I v_27.By.Entry.Stamp.Lo, I v_27.By.Entry.Stamp.Hi, .slice v_27.By.Path_A v_27.By.Path.length v_27.By.Path_c])] ?_; refine l1 ?_; refine cl 85 (z_regulatorref26_Same F v_24 v_27 _ hy_31) hT ⟨(gi 3).a, (gi 1).a, trivial⟩ ?_; refine rn 2 [] f0 [(87, B v_31)] ?_; refine sb 87 (bf h_32) ?_; refine ra [] f0 [(19, B false)] ?_; refine tN ?_; exact fun a w S hK hE => ⟨false, S, hK.wk, hE.sel [5, 6, 7, 9, 11, 12, 15], Option.some.inj hG⟩
     ·refine rg ?_; refine rn 2 [] f0 [(82, B v_23)] ?_; refine sb 82 (bf h_30) ?_; refine ra [] f0 [(19, B false)] ?_; refine tN ?_; exact fun a w S hK hE => ⟨false, S, hK.wk, hE.sel [5, 6, 7, 9, 11, 12, 15], Option.some.inj hG⟩
    ·rintro a w ⟨v_34, hJ⟩; refine hJ.go fun ho_ => ?_
     clear hJ; subst ho_; replace hG := hG_33; refine sq ?_; replace hG := bind_some hG; obtain ⟨⟨v_35, v_36⟩, hy_35, hG⟩ := hG; refine rg ?_; refine rn 3 [(1, 5, 5, 0), (0, 16, 3, 0)] f0 [(93, .slice p_6_A p_6.length p_6_c), (94, .agg #[I p_2.Office, I p_2.Size, U p_2.Root, I p_2.Sig.C, I p_2.Sig.S]), (95, .agg #[I p_5.Of.Office, I p_5.Of.Size, U p_5.Of.Root, I p_5.Of.Sig.C, I p_5.Of.Sig.S, .slice p_5.Grow_A p_5.Grow.length p_5.Grow_c, I p_5.By.Head.Office, I p_5.By.Head.Size, U p_5.By.Head.Root, I p_5.By.Head.Sig.C, I p_5.By.Head.Sig.S, I p_5.By.Index, U p_5.By.Entry.Doc, I p_5.By.Entry.Stamp.Lo, I p_5.By.Entry.Stamp.Hi, .slice p_5.By.Path_A p_5.By.Path.length p_5.By.Path_c])] ?_; refine l1 ?_; refine cl 96 (z_cross_Check F p_6_A p_6_c p_6 p_2 p_5 _ hy_35) hT ⟨ga 6, ((Fd.two ((gd' (RowC p_5.Grow_A p_5.Grow_c c_u64 tr p_5.Grow) 0)) ((gd' (RowC p_5.By.Path_A p_5.By.Path_c c_u64 tr p_5.By.Path) 1))).m fun _ _ h => ⟨h.1, ⟨h.2⟩⟩).a, trivial⟩ ?_; refine ra [] f0 [(24, B v_35), (21, I v_36)] ?_; refine tN ?_; refine sq ?_; replace hG := bind_some hG; obtain ⟨⟨v_37, v_38⟩, hy_37, hG⟩ := hG; refine rg ?_; refine rn 3 [(1, 5, 5, 0), (0, 16, 3, 0)] f0 [(100, .slice p_6_A p_6.length p_6_c), (101, .agg #[I p_2.Office, I p_2.Size, U p_2.Root, I p_2.Sig.C, I p_2.Sig.S]), (102, .agg #[I p_5.Of.Office, I p_5.Of.Size, U p_5.Of.Root, I p_5.Of.Sig.C, I p_5.Of.Sig.S, .slice p_5.Grow_A p_5.Grow.length p_5.Grow_c, I p_5.By.Head.Office, I p_5.By.Head.Size, U p_5.By.Head.Root, I p_5.By.Head.Sig.C, I p_5.By.Head.Sig.S, I p_5.By.Index, U p_5.By.Entry.Doc, I p_5.By.Entry.Stamp.Lo, I p_5.By.Entry.Stamp.Hi, .slice p_5.By.Path_A p_5.By.Path.length p_5.By.Path_c])] ?_; refine l1 ?_; refine cl 103 (z_regulatorref26_Check F p_6_A p_6_c p_6 p_2 p_5 _ hy_37) hT ⟨ga 6, ((Fd.two ((gd' (RowC p_5.Grow_A p_5.Grow_c c_u64 tr p_5.Grow) 0)) ((gd' (RowC p_5.By.Path_A p_5.By.Path_c c_u64 tr p_5.By.Path) 1))).m fun _ _ h => ⟨h.1, ⟨h.2⟩⟩).a, trivial⟩ ?_; refine ra [] f0 [(25, B v_37), (23, I v_38)] ?_; refine tN ?_; obtain ⟨o_41, hG, hG_41⟩ := bind_some hG; refine jn (fun K E a w => ∃ (v_42 : Bool), Js S0 w0 144 ([(19, B v_42)] ++ K) (se E [2, 4, 5]) (v_42 = o_41) a w) ?_ ?_
     ·replace hG := ifB_cases hG; rcases hG with ⟨h_39, hG⟩ | ⟨h_39, hG⟩
      ·replace hG := ifB_cases hG; rcases hG with ⟨h_40, hG⟩ | ⟨h_40, hG⟩
       ·refine rg ?_; refine rn 2 [] f0 [(107, B v_34)] ?_; refine sb 107 (bt h_39) ?_; refine rn 5 [] f0 [(112, B (v_35 == v_37))] ?_; refine sb 112 (bt h_40) ?_; refine ra [] f0 [(19, B (v_36 == v_38))] ?_; refine tN ?_; exact fun a w S hK hE => ⟨(v_36 == v_38), S, hK.wk, hE.sel [2, 4, 5], Option.some.inj hG⟩
       ·refine rg ?_; refine rn 2 [] f0 [(107, B v_34)] ?_; refine sb 107 (bt h_39) ?_; refine rn 5 [] f0 [(112, B (v_35 == v_37))] ?_; refine sb 112 (bf h_40) ?_; refine ra [] f0 [(19, B false)] ?_; refine tN ?_; exact fun a w S hK hE => ⟨false, S, hK.wk, hE.sel [2, 4, 5], Option.some.inj hG⟩
      ·refine rg ?_; refine rn 2 [] f0 [(107, B v_34)] ?_; refine sb 107 (bf h_39) ?_; refine ra [] f0 [(19, B false)] ?_; refine tN ?_; exact fun a w S hK hE => ⟨false, S, hK.wk, hE.sel [2, 4, 5], Option.some.inj hG⟩
     ·rintro a w ⟨v_42, hJ⟩; refine hJ.go fun ho_ => ?_
      clear hJ; subst ho_; replace hG := hG_41; refine sq ?_; replace hG := bind_some hG; obtain ⟨⟨v_43, v_44⟩, hy_43, hG⟩ := hG; refine rg ?_; refine rn 4 [(1, 5, 2, 0), (0, 5, 1, 0)] f0 [(118, I p_7), (119, .agg #[I p_2.Office, I p_2.Size, U p_2.Root, I p_2.Sig.C, I p_2.Sig.S]), (120, .agg #[I p_3.Office, I p_3.Size, U p_3.Root, I p_3.Sig.C, I p_3.Sig.S]), (121, .slice v_16_A v_15.length v_17_c)] ?_; refine l1 ?_; refine cl 122 (z_cross_Forks F p_7 p_2 p_3 v_16_A v_17_c v_15 _ hy_43) hT ⟨ga 0, trivial⟩ ?_; refine ra [] f0 [(24, B v_43), (21, I v_44)] ?_; refine tN ?_; refine sq ?_; replace hG := bind_some hG; obtain ⟨⟨v_45, v_46⟩, hy_45, hG⟩ := hG; refine rg ?_; refine rn 4 [(1, 5, 2, 0), (0, 5, 1, 0)] f0 [(126, I p_7), (127, .agg #[I p_2.Office, I p_2.Size, U p_2.Root, I p_2.Sig.C, I p_2.Sig.S]), (128, .agg #[I p_3.Office, I p_3.Size, U p_3.Root, I p_3.Sig.C, I p_3.Sig.S]), (129, .slice v_16_A v_15.length v_17_c)] ?_; refine l1 ?_; refine cl 130 (z_regulatorref26_Forks F p_7 p_2 p_3 v_16_A v_17_c v_15 _ hy_45) hT ⟨ga 0, trivial⟩ ?_; refine ra [] f0 [(25, B v_45), (23, I v_46)] ?_; refine tN ?_; obtain ⟨o_49, hG, hG_49⟩ := bind_some hG; refine jn (fun K E a w => ∃ (v_50 : Bool), Js S0 w0 144 ([(18, B v_50)] ++ K) (se E []) (v_50 = o_49) a w) ?_ ?_
      ·replace hG := ifB_cases hG; rcases hG with ⟨h_47, hG⟩ | ⟨h_47, hG⟩
       ·replace hG := ifB_cases hG; rcases hG with ⟨h_48, hG⟩ | ⟨h_48, hG⟩
        ·refine rg ?_; refine rn 2 [] f0 [(134, B v_42)] ?_; refine sb 134 (bt h_47) ?_; refine rn 5 [] f0 [(139, B (v_43 == v_45))] ?_; refine sb 139 (bt h_48) ?_; refine ra [] f0 [(18, B (v_44 == v_46))] ?_; refine tN ?_; exact fun a w S hK hE => ⟨(v_44 == v_46), S, hK.wk, hE.sel [], Option.some.inj hG⟩
        ·refine rg ?_; refine rn 2 [] f0 [(134, B v_42)] ?_; refine sb 134 (bt h_47) ?_; refine rn 5 [] f0 [(139, B (v_43 == v_45))] ?_; refine sb 139 (bf h_48) ?_; refine ra [] f0 [(18, B false)] ?_; refine tN ?_; exact fun a w S hK hE => ⟨false, S, hK.wk, hE.sel [], Option.some.inj hG⟩
       ·refine rg ?_; refine rn 2 [] f0 [(134, B v_42)] ?_; refine sb 134 (bf h_47) ?_; refine ra [] f0 [(18, B false)] ?_; refine tN ?_; exact fun a w S hK hE => ⟨false, S, hK.wk, hE.sel [], Option.some.inj hG⟩
      ·rintro a w ⟨v_50, hJ⟩; refine hJ.go fun ho_ => ?_
       clear hJ; subst ho_; replace hG := hG_49; refine kR ?_; obtain rfl := Option.some.inj hG; exact rt []
end Go.Proofs.YtiijddjfiojfaaaGreatDoor
namespace Go.Proofs.YtiijddjfiojfaaaGreatDoor
open Go.RowKit Go.Maps
end Go.Proofs.YtiijddjfiojfaaaGreatDoor
namespace Go.Proofs.YtiijddjfiojfaaaGreatDoor
open Go.RowKit
def vI (i : KInterval) : Bool := decide (0 ≤ i.Lo ∧ i.Lo ≤ i.Hi ∧ i.Hi ≤ 3000000000000000)
theorem vI_p (F : Nat) (i : KInterval) : G_interval_Valid F i = some (vI i) := by
 unfold G_interval_Valid vI
 by_cases h1 : 0 ≤ i.Lo <;> by_cases h2 : i.Lo ≤ i.Hi <;> by_cases h3 : i.Hi ≤ 3000000000000000 <;> simp [ifB, h1, h2, h3]
theorem vI_r (F : Nat) (i : KInterval) : G_regulatorref02_Valid F i = some (vI i) := vI_p F i
theorem logged_p (F : Nat) (e : KEntry) : G_office_logged_formed F ⟨e⟩ = some (vI e.Stamp) := by unfold G_office_logged_formed; rw [vI_p]; rfl
theorem btw_p (F : Nat) (n a b : Int) : G_office_between F n a b = some (decide (a ≤ n ∧ n ≤ b)) := by
 unfold G_office_between
 by_cases h1 : a ≤ n <;> by_cases h2 : n ≤ b <;> simp [ifB, h1, h2]
theorem within_p (F : Nat) (n a : Int) : G_group_within F n a = some (decide (a ≤ n ∧ n < 1073741789)) := by
 unfold G_group_within
 by_cases h1 : a ≤ n <;> by_cases h2 : n < 1073741789 <;> simp [ifB, h1, h2]
theorem expo_r (F : Nat) (n : Int) : G_regulatorref06_Exponent F n = some (decide (0 ≤ n ∧ n < 1073741789)) := by
 unfold G_regulatorref06_Exponent
 by_cases h1 : 0 ≤ n <;> by_cases h2 : n < 1073741789 <;> simp [ifB, h1, h2]
def fH (h : KHead) : Bool := decide ((1 ≤ h.Office ∧ h.Office ≤ 16) ∧ (1 ≤ h.Size ∧ h.Size ≤ 4096) ∧ (0 ≤ h.Sig.C ∧ h.Sig.C < 1073741789) ∧ (0 ≤ h.Sig.S ∧ h.Sig.S < 1073741789))
theorem fH_p (F : Nat) (h : KHead) : G_office_formed F h = some (fH h) := by
 unfold G_office_formed fH; simp only [btw_p, ob_some]
 by_cases h1 : 1 ≤ h.Office ∧ h.Office ≤ 16 <;> by_cases h2 : 1 ≤ h.Size ∧ h.Size ≤ 4096 <;> by_cases h3 : 0 ≤ h.Sig.C ∧ h.Sig.C ≤ 1073741788 <;> by_cases h4 : 0 ≤ h.Sig.S ∧ h.Sig.S ≤ 1073741788 <;> simp [ifB, h1, h2, h3, h4] <;> omega
theorem fH_r (F : Nat) (h : KHead) : G_regulatorref25_Form F h = some (fH h) := by
 unfold G_regulatorref25_Form fH; simp only [expo_r, ob_some]
 by_cases h1 : 1 ≤ h.Office <;> by_cases h1' : h.Office ≤ 16 <;> by_cases h2 : 1 ≤ h.Size <;> by_cases h2' : h.Size ≤ 4096 <;> by_cases h3 : 0 ≤ h.Sig.C ∧ h.Sig.C < 1073741789 <;> by_cases h4 : 0 ≤ h.Sig.S ∧ h.Sig.S < 1073741789 <;> simp [ifB, h1, h1', h2, h2', h3, h4]
def msgF (h : KHead) : List Int := [h.Office, h.Size, IntKind.i64.wrap (Int.fdiv h.Root (2 ^ 32)), IntKind.i64.wrap (IntKind.u32.wrap h.Root)]
theorem msg_p (F : Nat) (h : KHead) : G_office_message F h = some (msgF h) := rfl
theorem low32 {n : Int} (h0 : 0 ≤ n) (h1 : n ≤ 18446744073709551615) : bits BinOp.and IntKind.u64 n 4294967295 = IntKind.u32.wrap n := by
 obtain ⟨k, rfl⟩ : ∃ k : Nat, n = k := ⟨n.toNat, by omega⟩; rw [IntKind.wrap_u32, show (4294967295 : Int) = ((4294967295 : Nat) : Int) from rfl, bits_and_u64_nat k 4294967295 (by omega) (by omega)]; have e : (k : Nat) &&& 4294967295 = k % 4294967296 := Nat.and_two_pow_sub_one_eq_mod k 32; rw [e]; omega
theorem msg_r (F : Nat) (h : KHead) (h0 : 0 ≤ h.Root) (h1 : h.Root ≤ 18446744073709551615) : G_regulatorref25_Message F h = some (msgF h) := by
 unfold G_regulatorref25_Message msgF; rw [low32 h0 h1]
theorem xAt_le (X : Nat) : ∀ k, xAt X k ≤ X
 | 0 => Nat.le_refl _
 | k + 1 => by have := xAt_le X k; show xAt X k / 2 ≤ X; omega
theorem xAt_pow (X : Nat) : ∀ k, xAt X k = X / 2 ^ k
 | 0 => by show X = X / 1; omega
 | k + 1 => by
  show xAt X k / 2 = _
  rw [xAt_pow X k, Nat.div_div_eq_div_mul, Nat.pow_succ]
theorem xAt_end {X e : Nat} (h : X < 2 ^ e) : ∃ n, n ≤ e ∧ xAt X n = 0 ∧ ∀ k, k < n → 0 < xAt X k := by
 induction e with
 | zero => exact ⟨0, Nat.le_refl _, by show X = 0; simp at h; omega, fun k hk => absurd hk (Nat.not_lt_zero _)⟩
 | succ e ih =>
  rcases Nat.lt_or_ge X (2 ^ e) with h1 | h1
  ·obtain ⟨n, h2, h3, h4⟩ := ih h1; exact ⟨n, by omega, h3, h4⟩
  ·refine ⟨e + 1, Nat.le_refl _, by rw [xAt_pow, Nat.div_eq_of_lt h], fun k hk => ?_⟩; rw [xAt_pow]; exact Nat.div_pos (Nat.le_trans (Nat.pow_le_pow_right (by omega) (by omega)) h1) (Nat.two_pow_pos k)
theorem odd_test (n : Nat) (h : n < 9223372036854775808) : (bits BinOp.and IntKind.i64 ((n : Nat) : Int) 1 == 1) = decide (n % 2 = 1) := by
 rw [and_in h]
 by_cases hn : n % 2 = 1
 ·rw [hn]; rfl
 ·rw [show n % 2 = 0 by omega]; rfl
theorem pow_pn (A X : Nat) (hA : A < 2147483579) (hX : X < 2 ^ 62) {F : Nat} (hF : 64 ≤ F) : G_group_power F (A : Int) (X : Int) = some ((pw A X : Nat) : Int) := by
 obtain ⟨n, hn, h0, hp⟩ := xAt_end hX; unfold G_group_power; rw [show ((X : Int), (A : Int), (1 : Int)) = (fun k => (((xAt X k : Nat) : Int), ((aAt A k : Nat) : Int), ((oAt A X k : Nat) : Int))) 0 from rfl]; rw [iter_seq (fun k => (((xAt X k : Nat) : Int), ((aAt A k : Nat) : Int), ((oAt A X k : Nat) : Int))) n ((oAt A X n : Nat) : Int) ?_ ?_ (by omega)]
 ·simp only [ob_some]; rw [at_end h0]
 ·intro k hk; have hx := xAt_le X k; have hx2 : X < 9223372036854775808 := Nat.lt_of_lt_of_le hX (by decide); simp only [un3]; rw [show decide (((xAt X k : Nat) : Int) > 0) = true from decide_eq_true (by have := hp k hk; omega), ifB_t, odd_test _ (by omega), mul_in (aAt_lt hA k) (aAt_lt hA k), mod_in, shr_in]
  by_cases ho : xAt X k % 2 = 1
  ·rw [show decide (xAt X k % 2 = 1) = true from decide_eq_true ho, ifB_t, mul_in (oAt_lt A X k) (aAt_lt hA k), mod_in]; simp only [ob_some]; rw [oAt_odd ho]; rfl
  ·rw [show decide (xAt X k % 2 = 1) = false from decide_eq_false ho, ifB_f]; simp only [ob_some]; rw [oAt_even ho]; rfl
 ·simp only [un3]; rw [h0]; rfl
theorem pow_rn (A X : Nat) (hA : A < 2147483579) (hX : X < 2 ^ 62) {F : Nat} (hF : 64 ≤ F) : G_regulatorref06_Power F (A : Int) (X : Int) 2147483579 = some ((pw A X : Nat) : Int) := by
 obtain ⟨n, hn, h0, hp⟩ := xAt_end hX; unfold G_regulatorref06_Power; rw [show ((A : Int), (X : Int), (2147483579 : Int), (1 : Int)) = (fun k => (((aAt A k : Nat) : Int), ((xAt X k : Nat) : Int), (2147483579 : Int), ((oAt A X k : Nat) : Int))) 0 from rfl]; rw [iter_seq (fun k => (((aAt A k : Nat) : Int), ((xAt X k : Nat) : Int), (2147483579 : Int), ((oAt A X k : Nat) : Int))) n ((oAt A X n : Nat) : Int) ?_ ?_ (by omega)]
 ·simp only [ob_some]; rw [at_end h0]
 ·intro k hk; have hx := xAt_le X k; have hx2 : X < 9223372036854775808 := Nat.lt_of_lt_of_le hX (by decide); simp only [un4]; have hz : whenG (!((2147483579 : Int) == 0)) () = some () := rfl; have hodd : (Int.tmod ((xAt X k : Nat) : Int) 2 == 1) = decide (xAt X k % 2 = 1) := by
   rw [show Int.tmod ((xAt X k : Nat) : Int) 2 = ((xAt X k % 2 : Nat) : Int) from rfl]
   by_cases hn : xAt X k % 2 = 1
   ·rw [hn]; rfl
   ·rw [show xAt X k % 2 = 0 by omega]; rfl
  have hhalf : IntKind.i64.wrap (Int.tdiv ((xAt X k : Nat) : Int) 2) = ((xAt X k / 2 : Nat) : Int) := by
   rw [show Int.tdiv ((xAt X k : Nat) : Int) 2 = ((xAt X k / 2 : Nat) : Int) from rfl, IntKind.wrap_i64]; omega
  rw [show decide (((xAt X k : Nat) : Int) > 0) = true from decide_eq_true (by have := hp k hk; omega), ifB_t, hodd, hz, mul_in (aAt_lt hA k) (aAt_lt hA k), mod_in, hhalf]
  by_cases ho : xAt X k % 2 = 1
  ·rw [show decide (xAt X k % 2 = 1) = true from decide_eq_true ho, ifB_t, mul_in (oAt_lt A X k) (aAt_lt hA k), mod_in]; simp only [ob_some]; rw [oAt_odd ho]; rfl
  ·rw [show decide (xAt X k % 2 = 1) = false from decide_eq_false ho, ifB_f]; simp only [ob_some]; rw [oAt_even ho]; rfl
 ·simp only [un4]; rw [h0]; rfl
def memB (a : Int) : Bool := decide (0 < a ∧ a < 2147483579 ∧ pw a.toNat 1073741789 = 1)
theorem mem_p (a : Int) {F : Nat} (hF : 64 ≤ F) : G_group_Member F a = some (memB a) := by
 unfold G_group_Member memB
 by_cases h1 : 0 < a
 ·by_cases h2 : a < 2147483579
  ·have hp := pow_pn a.toNat 1073741789 (by omega) (by decide) hF; rw [show ((a.toNat : Nat) : Int) = a by omega, show ((1073741789 : Nat) : Int) = 1073741789 from rfl] at hp; rw [hp]
   by_cases h3 : pw a.toNat 1073741789 = 1 <;> simp [ifB, h1, h2, h3] <;> omega
  ·simp [ifB, h1, h2]
 ·simp [ifB, h1]
theorem mem_r (a : Int) {F : Nat} (hF : 64 ≤ F) : G_regulatorref06_Member F a = some (memB a) := by
 unfold G_regulatorref06_Member memB
 by_cases h1 : a ≥ 1
 ·have h1' : 0 < a := by omega
  by_cases h2 : a < 2147483579
  ·have hp := pow_rn a.toNat 1073741789 (by omega) (by decide) hF; rw [show ((a.toNat : Nat) : Int) = a by omega, show ((1073741789 : Nat) : Int) = 1073741789 from rfl] at hp; rw [hp]
   by_cases h3 : pw a.toNat 1073741789 = 1 <;> simp [ifB, h1, h1', h2, h3] <;> omega
  ·simp [ifB, h1, h2]
 ·have h1' : ¬0 < a := by omega
  simp [ifB, h1, h1']
def pubB (a : Int) : Bool := memB a && !(a == 1)
theorem pub_p (a : Int) {F : Nat} (hF : 64 ≤ F) : G_office_isPublic F a = some (pubB a) := by
 unfold G_office_isPublic pubB; rw [mem_p a hF]; cases h : (a == 1) <;> simp [ifB]
theorem pub_r (a : Int) {F : Nat} (hF : 64 ≤ F) : G_regulatorref25_Public F a = some (pubB a) := by
 unfold G_regulatorref25_Public pubB; rw [mem_r a hF]; cases h : memB a <;> simp [ifB]
end Go.Proofs.YtiijddjfiojfaaaGreatDoor
namespace Go.Proofs.YtiijddjfiojfaaaGreatDoor
open Go.ChangeShapes Go.WideShapes Go.ChangeAt Go.RowKit Go.Deep
theorem own : ownKnob Tryz.prog.godebug = none := by kernel_rfl
theorem laidOut : laidOutB Tryz.prog = true := by kernel_rfl
section
variable {H : Type} {enc : TypeId × Value → H}
theorem trodAll_below {P : Program} (hl : laidOutB P = true) {W W' : World} (hb : Below W.heap.size W W') : ∀ {ts : List TypeId} {vs : List Value} {ds : List (DataW H)} {ps : List MemPlace},
  (∀ t ∈ ts, P.readableRec t = true ∧ t < P.types.size) → DataW.TrodAll enc P W 0 (fun _ => true) true ts vs ds ps → (∀ x ∈ ps, x.block < W.heap.size) →
  DataW.TrodAll enc P W' 0 (fun b => decide (b < W.heap.size)) true ts vs ds ps
 | [], vs, ds, ps, _, h, _ => by
  obtain ⟨rfl, rfl, rfl⟩ := trodAll_nil h; rfl
 | t :: ts, vs, ds, ps, hr, h, hlt => by
  obtain ⟨v, vs', d, ds', p, q, rfl, rfl, rfl, h1, h2⟩ := trodAll_cons h; have h0 := hr t (by simp); exact trodAll_cons_mk (Below.trod hl h0.1 h0.2 h1 hb (fun x hx => hlt x (by simp [hx]))) (trodAll_below hl hb (fun t ht => hr t (by simp [ht])) h2 (fun x hx => hlt x (by simp [hx])))
theorem post_true {P : Program} {fn : Func} {s : ChangeSpec} {W W' : World} {args : Array Value} {ds gs : List (DataW H)} {before : List MemPlace} {b : TypeId} (hl : laidOutB P = true)
  (hr : ∀ t ∈ fn.params.toList, P.readableRec t = true ∧ t < P.types.size) (hb4 : P.underlying b = some .bool) (hrt : fn.resultTypes = #[b]) (hs : s.vars = [])
  (hW : DataW.Whole enc P fn.params.toList s.vars false W args.toList ds gs before) (hres : (s.fn H (ds ++ gs)).results = [.lit (.bool true)]) (hargs : (s.fn H (ds ++ gs)).args = ds) (hvs : (s.fn H (ds ++ gs)).vars = [])
  (hb : Below W.heap.size W W') : s.post enc P fn false true false false W args (.bool true) W' := by
 have hW' := hW; obtain ⟨p, q, hA, hV, rfl, _, _⟩ := hW; rw [hs] at hV; obtain ⟨rfl, rfl⟩ := trodVars_none hV; refine ⟨_, _, _, [], p, [], hW', ?_, ?_, ?_, hb.frame _, fun h => by cases h⟩
 ·rw [hres, hrt]; exact trodAll_mk1 (shut_bool hb4 true)
 ·rw [hargs]; exact trodAll_below hl hb hr hA (fun x hx => by simpa using hW'.lt x (by simp [hx]))
 ·rw [hvs, hs]; rfl
end
end Go.Proofs.YtiijddjfiojfaaaGreatDoor
namespace Go.Proofs.YtiijddjfiojfaaaGreatDoor
open Go.ChangeShapes Go.WideShapes Go.ChangeAt Go.RowKit Go.Deep
def inKd (k : IntKind) (n : Int) : Prop := (Lit.int k n).wf = true
theorem inKd_i64 {n : Int} (h : inKd .i64 n) : -9223372036854775808 ≤ n ∧ n ≤ 9223372036854775807 := by
 have : IntKind.i64.min ≤ n ∧ n ≤ IntKind.i64.max := by simpa [inKd, Lit.wf] using h
 rwa [show IntKind.i64.min = -9223372036854775808 by decide, show IntKind.i64.max = 9223372036854775807 by decide] at this
theorem inKd_u64 {n : Int} (h : inKd .u64 n) : 0 ≤ n ∧ n ≤ 18446744073709551615 := by
 have : IntKind.u64.min ≤ n ∧ n ≤ IntKind.u64.max := by simpa [inKd, Lit.wf] using h
 rwa [show IntKind.u64.min = 0 by decide, show IntKind.u64.max = 18446744073709551615 by decide] at this
theorem rowS_all {w : World} {A : Option Addr} {xs : List Value} (h : Rd w A xs) : RowS (fun g => g < w.heap.size) w A xs := ⟨h, fun hn => by obtain ⟨b, o, e, hb, _⟩ := h hn; exact ⟨b, o, e, hb⟩⟩
theorem choose_ltK {α : Type} [Inhabited α] {n : Nat} {p : Nat → α → Prop} (h : ∀ i, i < n → ∃ v, p i v) : ∃ V : Nat → α, ∀ i, i < n → p i (V i) := by
 have h' : ∀ i, ∃ v, i < n → p i v := fun i => by
  rcases Nat.lt_or_ge i n with hi | hi
  ·obtain ⟨v, hv⟩ := h i hi; exact ⟨v, fun _ => hv⟩
  ·exact ⟨default, fun h => absurd h (Nat.not_lt.2 hi)⟩
 exact ⟨fun i => Classical.choose (h' i), fun i => Classical.choose_spec (h' i)⟩
theorem fl_get {α : Type} (f : α → List Value) (m : Nat) (hm : ∀ x, (f x).length = m) : ∀ (l : List α) (k j : Nat) (hk : k < l.length), j < m → (l.flatMap f)[k * m + j]? = (f l[k])[j]?
 | [], k, j, hk, _ => absurd hk (Nat.not_lt_zero _)
 | x :: l, 0, j, _, hj => by
  rw [List.flatMap_cons, Nat.zero_mul, Nat.zero_add, List.getElem?_append_left (by rw [hm]; exact hj)]; rfl
 | x :: l, k + 1, j, hk, hj => by
  rw [List.flatMap_cons, List.getElem?_append_right (by rw [hm, Nat.add_mul]; omega), hm]; have := fl_get f m hm l k j (by simpa using hk) hj; rw [← show (k + 1) * m + j - m = k * m + j from by rw [Nat.add_mul]; omega] at this; exact this
theorem cell_ltK {w : World} {b o : Nat} {u : Value} (h : w.cell? ⟨b, o, none⟩ = some u) : b < w.heap.size := World.block_lt_of_cell? w ⟨b, o, none⟩ h
section
variable {α : Type} {f : α → List Value} {m : Nat} {w : World}
theorem rd_mk {b o : Nat} {l : List α} (hm : ∀ x, (f x).length = m) (h0 : 0 < m) (h : ∀ i (hi : i < l.length) j, j < m → w.cell? ⟨b, o + i * m + j, none⟩ = (f l[i])[j]?) : Rd w (some ⟨b, o, none⟩) (l.flatMap f) := fun hne => by
 have hl : 0 < l.length := by
  cases l with
  | nil => exact absurd rfl hne
  | cons _ _ => simp
 have hlen := fl_len f m hm l; refine ⟨b, o, rfl, ?_, fun j u hu => ?_⟩
 ·have h1 := h 0 hl 0 h0; have h2 : (f l[0])[0]? = some ((f l[0])[0]'(by rw [hm]; exact h0)) := List.getElem?_eq_getElem _; rw [h2] at h1; exact cell_ltK h1
 ·have hj : j < l.length * m := by
   have := (List.getElem?_eq_some_iff.1 hu).1
   rwa [hlen] at this
  have hi : j / m < l.length := Nat.div_lt_of_lt_mul (by rw [Nat.mul_comm]; exact hj); have hr : j % m < m := Nat.mod_lt _ h0; have he : j / m * m + j % m = j := by rw [Nat.mul_comm]; exact Nat.div_add_mod _ _
  have hg := fl_get f m hm l (j / m) (j % m) hi hr; rw [he] at hg; rw [hg] at hu; have := h (j / m) hi (j % m) hr; rw [Nat.add_assoc, he] at this; rw [this]; exact hu
end
section
variable {H : Type} {enc : TypeId × Value → H} {w : World} {base : Nat} {spare : Nat → Bool} {held : Bool}
theorem trod_rowS {α : Type} [Inhabited α] (f : α → List Value) {m : Nat} (h0 : 0 < m) (hm : ∀ x, (f x).length = m) {T E : TypeId} (hu : Tryz.prog.underlying T = some (.slice E)) (hc : Tryz.prog.cellsOf E = m) (Q : α → Prop)
  (hE : ∀ n cs x, DataW.trod enc Tryz.prog w base spare held n E cs = some x → ∃ v, cs = f v ∧ Q v) {fuel : Nat} {cs : List Value} {x : DataW H × List MemPlace} (h : DataW.trod enc Tryz.prog w base spare held fuel T cs = some x) :
  ∃ (A : Option Addr) (c : Nat) (l : List α), cs = [.slice A l.length c] ∧ l.length ≤ c ∧ c ≤ maxLen ∧ Rd w A (l.flatMap f) ∧ ∀ v ∈ l, Q v := by
 obtain ⟨d, p⟩ := x; rcases open_slice hu h with ⟨hcs, _⟩ | ⟨a, len, cap, mm, n, D, Pl, hcs, _, hl, hmx, hmm, _, hx⟩
 ·exact ⟨none, 0, [], hcs, Nat.le_refl _, Nat.zero_le _, Rd.nil _ _, fun v hv => by cases hv⟩
 ·have hlm : len ≤ mm := by rw [hmm]; split <;> omega
  have hex : ∀ i, i < len → ∃ v : α, (∀ j, j < m → w.cell? ((a.add (i * m)).add j) = (f v)[j]?) ∧ Q v := fun i hi => by
   obtain ⟨cs', h1, h2⟩ := hx i (by omega); rw [hc] at h1; obtain ⟨v, rfl, hq⟩ := hE _ _ _ h2; exact ⟨v, (World.cells?_some h1).2.2, hq⟩
  obtain ⟨V, hV⟩ := choose_ltK hex; refine ⟨some a, cap, (List.range len).map V, by rw [hcs]; simp, by simpa using hl, hmx, ?_, ?_⟩
  ·rcases Nat.eq_zero_or_pos len with h00 | h00
   ·subst h00; exact Rd.nil _ _
   obtain ⟨b, o, spot⟩ := a; have hs : spot = none := by
    have := (hV 0 h00).1 0 h0; simp only [Nat.zero_mul, Addr.add, if_true] at this; have h2 : (f (V 0))[0]? = some ((f (V 0))[0]'(by rw [hm]; exact h0)) := List.getElem?_eq_getElem _; rw [h2] at this; exact World.cell?_spot this
   subst hs; refine rd_mk hm h0 fun i hi j hj => ?_
   have hi' : i < len := by simpa using hi
   have e : ∀ j, (((⟨b, o, none⟩ : Addr).add (i * m)).add j) = ⟨b, o + i * m + j, none⟩ := fun j => by rw [add_addr, add_addr]
   have hcc := (hV i hi').1 j hj; rw [e] at hcc; simp only [List.getElem_map, List.getElem_range]; exact hcc
  ·intro v hv; obtain ⟨i, hi, rfl⟩ := List.mem_map.1 hv; exact (hV i (List.mem_range.1 hi)).2
end
end Go.Proofs.YtiijddjfiojfaaaGreatDoor
namespace Go.Proofs.YtiijddjfiojfaaaGreatDoor
open Go.ChangeShapes Go.WideShapes Go.ChangeAt Go.RowKit Go.Deep
section
variable {H : Type} {enc : TypeId × Value → H} {w : World} {base : Nat} {spare : Nat → Bool} {held : Bool}
set_option maxRecDepth 10000
theorem trod_int {n : Nat} {cs : List Value} {x : DataW H × List MemPlace} (h : DataW.trod enc Tryz.prog w base spare held n 3 cs = some x) : ∃ v : Int, cs = c_i64 v ∧ inKd .i64 v := by
 obtain ⟨a, e, _, hw⟩ := DataW.trod_int Tryz.underlying3 h; exact ⟨a, e, hw⟩
theorem cl_int : Tryz.prog.cellsOf 3 = 1 := by kernel_rfl
theorem trod_uint64 {n : Nat} {cs : List Value} {x : DataW H × List MemPlace} (h : DataW.trod enc Tryz.prog w base spare held n 25 cs = some x) : ∃ v : Int, cs = c_u64 v ∧ inKd .u64 v := by
 obtain ⟨a, e, _, hw⟩ := DataW.trod_int Tryz.underlying25 h; exact ⟨a, e, hw⟩
theorem cl_uint64 : Tryz.prog.cellsOf 25 = 1 := by kernel_rfl
theorem cl_api_Interval : Tryz.prog.cellsOf 32 = 2 := by kernel_rfl
structure KInterval.rng (x : KInterval) : Prop where
 r_Lo : inKd .i64 x.Lo
 r_Hi : inKd .i64 x.Hi
theorem tf_api_Interval : ∃ f0 f1 : Field, Tryz.prog.underlying 32 = some (.struct #[f0, f1]) ∧ (f0.offset = 0 ∧ f0.type = 3) ∧ (f1.offset = 1 ∧ f1.type = 3) := ⟨_, _, Tryz.underlying32, ⟨by kernel_rfl, by kernel_rfl⟩, ⟨by kernel_rfl, by kernel_rfl⟩⟩
theorem trod_api_Interval {n : Nat} {cs : List Value} {x : DataW H × List MemPlace} (h : DataW.trod enc Tryz.prog w base spare held n 32 cs = some x) : ∃ v : KInterval, cs = v.cells ∧ KInterval.rng v := by
 obtain ⟨f0, f1, hu, ⟨o0, t0⟩, ⟨o1, t1⟩⟩ := tf_api_Interval; obtain ⟨xs, n', _, _, hlen, hxl, hf⟩ := DataW.trod_struct hu h; rw [cl_api_Interval] at hlen
 match cs, hlen with
 | [c0, c1], _ =>
  have q0 := hf 0 f0 rfl; obtain ⟨y0, hy0⟩ : ∃ y, xs[0]? = some y := ⟨_, List.getElem?_eq_getElem (by rw [hxl]; exact (by decide : 0 < 2))⟩; rw [hy0, o0, t0, cl_int] at q0; obtain ⟨v0, e0, hg0⟩ := trod_int q0; replace e0 : [c0] = [I v0] := e0; simp only [List.cons.injEq, and_true] at e0; obtain rfl := e0; have q1 := hf 1 f1 rfl; obtain ⟨y1, hy1⟩ : ∃ y, xs[1]? = some y := ⟨_, List.getElem?_eq_getElem (by rw [hxl]; exact (by decide : 1 < 2))⟩; rw [hy1, o1, t1, cl_int] at q1; obtain ⟨v1, e1, hg1⟩ := trod_int q1; replace e1 : [c1] = [I v1] := e1; simp only [List.cons.injEq, and_true] at e1; obtain rfl := e1; exact ⟨⟨v0, v1⟩, rfl, ⟨hg0, hg1⟩⟩
theorem cl_api_Entry : Tryz.prog.cellsOf 34 = 3 := by kernel_rfl
structure KEntry.rng (x : KEntry) : Prop where
 r_Doc : inKd .u64 x.Doc
 r_Stamp : KInterval.rng x.Stamp
theorem tf_api_Entry : ∃ f0 f1 : Field, Tryz.prog.underlying 34 = some (.struct #[f0, f1]) ∧ (f0.offset = 0 ∧ f0.type = 25) ∧ (f1.offset = 1 ∧ f1.type = 32) := ⟨_, _, Tryz.underlying34, ⟨by kernel_rfl, by kernel_rfl⟩, ⟨by kernel_rfl, by kernel_rfl⟩⟩
theorem trod_api_Entry {n : Nat} {cs : List Value} {x : DataW H × List MemPlace} (h : DataW.trod enc Tryz.prog w base spare held n 34 cs = some x) : ∃ v : KEntry, cs = v.cells ∧ KEntry.rng v := by
 obtain ⟨f0, f1, hu, ⟨o0, t0⟩, ⟨o1, t1⟩⟩ := tf_api_Entry; obtain ⟨xs, n', _, _, hlen, hxl, hf⟩ := DataW.trod_struct hu h; rw [cl_api_Entry] at hlen
 match cs, hlen with
 | [c0, c1, c2], _ =>
  have q0 := hf 0 f0 rfl; obtain ⟨y0, hy0⟩ : ∃ y, xs[0]? = some y := ⟨_, List.getElem?_eq_getElem (by rw [hxl]; exact (by decide : 0 < 2))⟩; rw [hy0, o0, t0, cl_uint64] at q0; obtain ⟨v0, e0, hg0⟩ := trod_uint64 q0; replace e0 : [c0] = [U v0] := e0; simp only [List.cons.injEq, and_true] at e0; obtain rfl := e0; have q1 := hf 1 f1 rfl; obtain ⟨y1, hy1⟩ : ∃ y, xs[1]? = some y := ⟨_, List.getElem?_eq_getElem (by rw [hxl]; exact (by decide : 1 < 2))⟩; rw [hy1, o1, t1, cl_api_Interval] at q1; obtain ⟨v1, e1, hg1⟩ := trod_api_Interval q1; replace e1 : [c1, c2] = [I v1.Lo, I v1.Hi] := e1; simp only [List.cons.injEq, and_true] at e1; obtain ⟨rfl, rfl⟩ := e1; exact ⟨⟨v0, v1⟩, rfl, ⟨hg0, hg1⟩⟩
instance : Inhabited KEntry := ⟨⟨0, ⟨0, 0⟩⟩⟩
theorem trod_Sl_api_Entry {n : Nat} {cs : List Value} {x : DataW H × List MemPlace} (h : DataW.trod enc Tryz.prog w base spare held n 22 cs = some x) :
  ∃ (A : Option Addr) (c : Nat) (l : List KEntry), cs = [.slice A l.length c] ∧ RowC A c KEntry.cells tr l (fun g => g < w.heap.size) w ∧ (∀ y ∈ l, KEntry.rng y) := by
 obtain ⟨A, c, l, h1, h2, h3, h4, h5⟩ := trod_rowS KEntry.cells (m := 3) (by decide) (fun _ => rfl) Tryz.underlying22 cl_api_Entry (fun v : KEntry => KEntry.rng v) (fun _ _ _ hx => trod_api_Entry hx) h; exact ⟨A, c, l, h1, ⟨rowS_all h4, h2, fun _ _ => trivial⟩, h5⟩
theorem cl_Sl_api_Entry : Tryz.prog.cellsOf 22 = 1 := by kernel_rfl
theorem cl_api_Office : Tryz.prog.cellsOf 24 = 2 := by kernel_rfl
structure KOffice.rng (x : KOffice) : Prop where
 r_ID : inKd .i64 x.ID
 r_Entries : (fun l : List KEntry => ∀ y ∈ l, KEntry.rng y) x.Entries
theorem tf_api_Office : ∃ f0 f1 : Field, Tryz.prog.underlying 24 = some (.struct #[f0, f1]) ∧ (f0.offset = 0 ∧ f0.type = 3) ∧ (f1.offset = 1 ∧ f1.type = 22) := ⟨_, _, Tryz.underlying24, ⟨by kernel_rfl, by kernel_rfl⟩, ⟨by kernel_rfl, by kernel_rfl⟩⟩
theorem trod_api_Office {n : Nat} {cs : List Value} {x : DataW H × List MemPlace} (h : DataW.trod enc Tryz.prog w base spare held n 24 cs = some x) : ∃ v : KOfficeL, cs = v.cells ∧ KOfficeL.ok v (fun g => g < w.heap.size) w ∧ KOffice.rng v.p := by
 obtain ⟨f0, f1, hu, ⟨o0, t0⟩, ⟨o1, t1⟩⟩ := tf_api_Office; obtain ⟨xs, n', _, _, hlen, hxl, hf⟩ := DataW.trod_struct hu h; rw [cl_api_Office] at hlen
 match cs, hlen with
 | [c0, c1], _ =>
  have q0 := hf 0 f0 rfl; obtain ⟨y0, hy0⟩ : ∃ y, xs[0]? = some y := ⟨_, List.getElem?_eq_getElem (by rw [hxl]; exact (by decide : 0 < 2))⟩; rw [hy0, o0, t0, cl_int] at q0; obtain ⟨v0, e0, hg0⟩ := trod_int q0; replace e0 : [c0] = [I v0] := e0; simp only [List.cons.injEq, and_true] at e0; obtain rfl := e0; have q1 := hf 1 f1 rfl; obtain ⟨y1, hy1⟩ : ∃ y, xs[1]? = some y := ⟨_, List.getElem?_eq_getElem (by rw [hxl]; exact (by decide : 1 < 2))⟩; rw [hy1, o1, t1, cl_Sl_api_Entry] at q1; obtain ⟨A1, k1, v1, e1, hr1, hg1⟩ := trod_Sl_api_Entry q1; replace e1 : [c1] = [.slice A1 v1.length k1] := e1; simp only [List.cons.injEq, and_true] at e1; obtain rfl := e1; exact ⟨⟨v0, A1, k1, v1⟩, rfl, ⟨hr1⟩, ⟨hg0, hg1⟩⟩
theorem opn_api_Office {r : Reach} {b0 : Nat} {v : Value} {d : DataW H} {p : List MemPlace} (hv : Value.okWide Tryz.prog w r b0 24 v) (h : DataW.Trod enc Tryz.prog w base spare held 24 v d p) : ∃ x : KOfficeL, v = .agg #[I x.ID, .slice x.Entries_A x.Entries.length x.Entries_c] ∧ KOfficeL.ok x (fun g => g < w.heap.size) w ∧ KOffice.rng x.p := by
 obtain ⟨f0, f1, hu, _⟩ := tf_api_Office; obtain ⟨cs, rfl, hsz⟩ := okWide_struct hu hv; obtain ⟨fuel, hf⟩ := h; obtain ⟨x, hx, hw⟩ := trod_api_Office hf; refine ⟨x, congrArg Value.agg ?_, hw⟩; have : cs.toList = x.cells := by simpa [Value.cells] using hx
 rw [← Array.toArray_toList (xs := cs), this]; rfl
theorem cl_api_Sig : Tryz.prog.cellsOf 27 = 2 := by kernel_rfl
structure KSig.rng (x : KSig) : Prop where
 r_C : inKd .i64 x.C
 r_S : inKd .i64 x.S
theorem tf_api_Sig : ∃ f0 f1 : Field, Tryz.prog.underlying 27 = some (.struct #[f0, f1]) ∧ (f0.offset = 0 ∧ f0.type = 3) ∧ (f1.offset = 1 ∧ f1.type = 3) := ⟨_, _, Tryz.underlying27, ⟨by kernel_rfl, by kernel_rfl⟩, ⟨by kernel_rfl, by kernel_rfl⟩⟩
theorem trod_api_Sig {n : Nat} {cs : List Value} {x : DataW H × List MemPlace} (h : DataW.trod enc Tryz.prog w base spare held n 27 cs = some x) : ∃ v : KSig, cs = v.cells ∧ KSig.rng v := by
 obtain ⟨f0, f1, hu, ⟨o0, t0⟩, ⟨o1, t1⟩⟩ := tf_api_Sig; obtain ⟨xs, n', _, _, hlen, hxl, hf⟩ := DataW.trod_struct hu h; rw [cl_api_Sig] at hlen
 match cs, hlen with
 | [c0, c1], _ =>
  have q0 := hf 0 f0 rfl; obtain ⟨y0, hy0⟩ : ∃ y, xs[0]? = some y := ⟨_, List.getElem?_eq_getElem (by rw [hxl]; exact (by decide : 0 < 2))⟩; rw [hy0, o0, t0, cl_int] at q0; obtain ⟨v0, e0, hg0⟩ := trod_int q0; replace e0 : [c0] = [I v0] := e0; simp only [List.cons.injEq, and_true] at e0; obtain rfl := e0; have q1 := hf 1 f1 rfl; obtain ⟨y1, hy1⟩ : ∃ y, xs[1]? = some y := ⟨_, List.getElem?_eq_getElem (by rw [hxl]; exact (by decide : 1 < 2))⟩; rw [hy1, o1, t1, cl_int] at q1; obtain ⟨v1, e1, hg1⟩ := trod_int q1; replace e1 : [c1] = [I v1] := e1; simp only [List.cons.injEq, and_true] at e1; obtain rfl := e1; exact ⟨⟨v0, v1⟩, rfl, ⟨hg0, hg1⟩⟩
theorem cl_api_Head : Tryz.prog.cellsOf 29 = 5 := by kernel_rfl
structure KHead.rng (x : KHead) : Prop where
 r_Office : inKd .i64 x.Office
 r_Size : inKd .i64 x.Size
 r_Root : inKd .u64 x.Root
 r_Sig : KSig.rng x.Sig
theorem tf_api_Head : ∃ f0 f1 f2 f3 : Field, Tryz.prog.underlying 29 = some (.struct #[f0, f1, f2, f3]) ∧ (f0.offset = 0 ∧ f0.type = 3) ∧ (f1.offset = 1 ∧ f1.type = 3) ∧ (f2.offset = 2 ∧ f2.type = 25) ∧ (f3.offset = 3 ∧ f3.type = 27) := ⟨_, _, _, _, Tryz.underlying29, ⟨by kernel_rfl, by kernel_rfl⟩, ⟨by kernel_rfl, by kernel_rfl⟩, ⟨by kernel_rfl, by kernel_rfl⟩, ⟨by kernel_rfl, by kernel_rfl⟩⟩
theorem trod_api_Head {n : Nat} {cs : List Value} {x : DataW H × List MemPlace} (h : DataW.trod enc Tryz.prog w base spare held n 29 cs = some x) : ∃ v : KHead, cs = v.cells ∧ KHead.rng v := by
 obtain ⟨f0, f1, f2, f3, hu, ⟨o0, t0⟩, ⟨o1, t1⟩, ⟨o2, t2⟩, ⟨o3, t3⟩⟩ := tf_api_Head; obtain ⟨xs, n', _, _, hlen, hxl, hf⟩ := DataW.trod_struct hu h; rw [cl_api_Head] at hlen
 match cs, hlen with
 | [c0, c1, c2, c3, c4], _ =>
  have q0 := hf 0 f0 rfl; obtain ⟨y0, hy0⟩ : ∃ y, xs[0]? = some y := ⟨_, List.getElem?_eq_getElem (by rw [hxl]; exact (by decide : 0 < 4))⟩; rw [hy0, o0, t0, cl_int] at q0; obtain ⟨v0, e0, hg0⟩ := trod_int q0; replace e0 : [c0] = [I v0] := e0; simp only [List.cons.injEq, and_true] at e0; obtain rfl := e0; have q1 := hf 1 f1 rfl; obtain ⟨y1, hy1⟩ : ∃ y, xs[1]? = some y := ⟨_, List.getElem?_eq_getElem (by rw [hxl]; exact (by decide : 1 < 4))⟩; rw [hy1, o1, t1, cl_int] at q1; obtain ⟨v1, e1, hg1⟩ := trod_int q1; replace e1 : [c1] = [I v1] := e1; simp only [List.cons.injEq, and_true] at e1; obtain rfl := e1; have q2 := hf 2 f2 rfl; obtain ⟨y2, hy2⟩ : ∃ y, xs[2]? = some y := ⟨_, List.getElem?_eq_getElem (by rw [hxl]; exact (by decide : 2 < 4))⟩; rw [hy2, o2, t2, cl_uint64] at q2; obtain ⟨v2, e2, hg2⟩ := trod_uint64 q2; replace e2 : [c2] = [U v2] := e2; simp only [List.cons.injEq, and_true] at e2; obtain rfl := e2; have q3 := hf 3 f3 rfl; obtain ⟨y3, hy3⟩ : ∃ y, xs[3]? = some y := ⟨_, List.getElem?_eq_getElem (by rw [hxl]; exact (by decide : 3 < 4))⟩; rw [hy3, o3, t3, cl_api_Sig] at q3; obtain ⟨v3, e3, hg3⟩ := trod_api_Sig q3; replace e3 : [c3, c4] = [I v3.C, I v3.S] := e3; simp only [List.cons.injEq, and_true] at e3; obtain ⟨rfl, rfl⟩ := e3; exact ⟨⟨v0, v1, v2, v3⟩, rfl, ⟨hg0, hg1, hg2, hg3⟩⟩
theorem opn_api_Head {r : Reach} {b0 : Nat} {v : Value} {d : DataW H} {p : List MemPlace} (hv : Value.okWide Tryz.prog w r b0 29 v) (h : DataW.Trod enc Tryz.prog w base spare held 29 v d p) : ∃ x : KHead, v = .agg #[I x.Office, I x.Size, U x.Root, I x.Sig.C, I x.Sig.S] ∧ KHead.rng x := by
 obtain ⟨f0, f1, f2, f3, hu, _⟩ := tf_api_Head; obtain ⟨cs, rfl, hsz⟩ := okWide_struct hu hv; obtain ⟨fuel, hf⟩ := h; obtain ⟨x, hx, hw⟩ := trod_api_Head hf; refine ⟨x, congrArg Value.agg ?_, hw⟩; have : cs.toList = x.cells := by simpa [Value.cells] using hx
 rw [← Array.toArray_toList (xs := cs), this]; rfl
theorem trod_Sl_uint64 {n : Nat} {cs : List Value} {x : DataW H × List MemPlace} (h : DataW.trod enc Tryz.prog w base spare held n 30 cs = some x) :
  ∃ (A : Option Addr) (c : Nat) (l : List Int), cs = [.slice A l.length c] ∧ RowC A c c_u64 tr l (fun g => g < w.heap.size) w ∧ (∀ y ∈ l, inKd .u64 y) := by
 obtain ⟨A, c, l, h1, h2, h3, h4, h5⟩ := trod_rowS c_u64 (m := 1) (by decide) (fun _ => rfl) Tryz.underlying30 cl_uint64 (fun v : Int => inKd .u64 v) (fun _ _ _ hx => trod_uint64 hx) h; exact ⟨A, c, l, h1, ⟨rowS_all h4, h2, fun _ _ => trivial⟩, h5⟩
theorem cl_Sl_uint64 : Tryz.prog.cellsOf 30 = 1 := by kernel_rfl
theorem cl_api_Receipt : Tryz.prog.cellsOf 36 = 10 := by kernel_rfl
structure KReceipt.rng (x : KReceipt) : Prop where
 r_Head : KHead.rng x.Head
 r_Index : inKd .i64 x.Index
 r_Entry : KEntry.rng x.Entry
 r_Path : (fun l : List Int => ∀ y ∈ l, inKd .u64 y) x.Path
theorem tf_api_Receipt : ∃ f0 f1 f2 f3 : Field, Tryz.prog.underlying 36 = some (.struct #[f0, f1, f2, f3]) ∧ (f0.offset = 0 ∧ f0.type = 29) ∧ (f1.offset = 5 ∧ f1.type = 3) ∧ (f2.offset = 6 ∧ f2.type = 34) ∧ (f3.offset = 9 ∧ f3.type = 30) := ⟨_, _, _, _, Tryz.underlying36, ⟨by kernel_rfl, by kernel_rfl⟩, ⟨by kernel_rfl, by kernel_rfl⟩, ⟨by kernel_rfl, by kernel_rfl⟩, ⟨by kernel_rfl, by kernel_rfl⟩⟩
theorem trod_api_Receipt {n : Nat} {cs : List Value} {x : DataW H × List MemPlace} (h : DataW.trod enc Tryz.prog w base spare held n 36 cs = some x) : ∃ v : KReceiptL, cs = v.cells ∧ KReceiptL.ok v (fun g => g < w.heap.size) w ∧ KReceipt.rng v.p := by
 obtain ⟨f0, f1, f2, f3, hu, ⟨o0, t0⟩, ⟨o1, t1⟩, ⟨o2, t2⟩, ⟨o3, t3⟩⟩ := tf_api_Receipt; obtain ⟨xs, n', _, _, hlen, hxl, hf⟩ := DataW.trod_struct hu h; rw [cl_api_Receipt] at hlen
 match cs, hlen with
 | [c0, c1, c2, c3, c4, c5, c6, c7, c8, c9], _ =>
  have q0 := hf 0 f0 rfl; obtain ⟨y0, hy0⟩ : ∃ y, xs[0]? = some y := ⟨_, List.getElem?_eq_getElem (by rw [hxl]; exact (by decide : 0 < 4))⟩; rw [hy0, o0, t0, cl_api_Head] at q0; obtain ⟨v0, e0, hg0⟩ := trod_api_Head q0; replace e0 : [c0, c1, c2, c3, c4] = [I v0.Office, I v0.Size, U v0.Root, I v0.Sig.C, I v0.Sig.S] := e0; simp only [List.cons.injEq, and_true] at e0; obtain ⟨rfl, rfl, rfl, rfl, rfl⟩ := e0; have q1 := hf 1 f1 rfl; obtain ⟨y1, hy1⟩ : ∃ y, xs[1]? = some y := ⟨_, List.getElem?_eq_getElem (by rw [hxl]; exact (by decide : 1 < 4))⟩; rw [hy1, o1, t1, cl_int] at q1; obtain ⟨v1, e1, hg1⟩ := trod_int q1; replace e1 : [c5] = [I v1] := e1; simp only [List.cons.injEq, and_true] at e1; obtain rfl := e1; have q2 := hf 2 f2 rfl; obtain ⟨y2, hy2⟩ : ∃ y, xs[2]? = some y := ⟨_, List.getElem?_eq_getElem (by rw [hxl]; exact (by decide : 2 < 4))⟩; rw [hy2, o2, t2, cl_api_Entry] at q2; obtain ⟨v2, e2, hg2⟩ := trod_api_Entry q2; replace e2 : [c6, c7, c8] = [U v2.Doc, I v2.Stamp.Lo, I v2.Stamp.Hi] := e2; simp only [List.cons.injEq, and_true] at e2; obtain ⟨rfl, rfl, rfl⟩ := e2; have q3 := hf 3 f3 rfl; obtain ⟨y3, hy3⟩ : ∃ y, xs[3]? = some y := ⟨_, List.getElem?_eq_getElem (by rw [hxl]; exact (by decide : 3 < 4))⟩; rw [hy3, o3, t3, cl_Sl_uint64] at q3; obtain ⟨A3, k3, v3, e3, hr3, hg3⟩ := trod_Sl_uint64 q3; replace e3 : [c9] = [.slice A3 v3.length k3] := e3; simp only [List.cons.injEq, and_true] at e3; obtain rfl := e3; exact ⟨⟨v0, v1, v2, A3, k3, v3⟩, rfl, ⟨hr3⟩, ⟨hg0, hg1, hg2, hg3⟩⟩
theorem cl_api_Hop : Tryz.prog.cellsOf 38 = 16 := by kernel_rfl
structure KHop.rng (x : KHop) : Prop where
 r_Of : KHead.rng x.Of
 r_Grow : (fun l : List Int => ∀ y ∈ l, inKd .u64 y) x.Grow
 r_By : KReceipt.rng x.By
theorem tf_api_Hop : ∃ f0 f1 f2 : Field, Tryz.prog.underlying 38 = some (.struct #[f0, f1, f2]) ∧ (f0.offset = 0 ∧ f0.type = 29) ∧ (f1.offset = 5 ∧ f1.type = 30) ∧ (f2.offset = 6 ∧ f2.type = 36) := ⟨_, _, _, Tryz.underlying38, ⟨by kernel_rfl, by kernel_rfl⟩, ⟨by kernel_rfl, by kernel_rfl⟩, ⟨by kernel_rfl, by kernel_rfl⟩⟩
theorem trod_api_Hop {n : Nat} {cs : List Value} {x : DataW H × List MemPlace} (h : DataW.trod enc Tryz.prog w base spare held n 38 cs = some x) : ∃ v : KHopL, cs = v.cells ∧ KHopL.ok v (fun g => g < w.heap.size) w ∧ KHop.rng v.p := by
 obtain ⟨f0, f1, f2, hu, ⟨o0, t0⟩, ⟨o1, t1⟩, ⟨o2, t2⟩⟩ := tf_api_Hop; obtain ⟨xs, n', _, _, hlen, hxl, hf⟩ := DataW.trod_struct hu h; rw [cl_api_Hop] at hlen
 match cs, hlen with
 | [c0, c1, c2, c3, c4, c5, c6, c7, c8, c9, c10, c11, c12, c13, c14, c15], _ =>
  have q0 := hf 0 f0 rfl; obtain ⟨y0, hy0⟩ : ∃ y, xs[0]? = some y := ⟨_, List.getElem?_eq_getElem (by rw [hxl]; exact (by decide : 0 < 3))⟩; rw [hy0, o0, t0, cl_api_Head] at q0; obtain ⟨v0, e0, hg0⟩ := trod_api_Head q0; replace e0 : [c0, c1, c2, c3, c4] = [I v0.Office, I v0.Size, U v0.Root, I v0.Sig.C, I v0.Sig.S] := e0; simp only [List.cons.injEq, and_true] at e0; obtain ⟨rfl, rfl, rfl, rfl, rfl⟩ := e0; have q1 := hf 1 f1 rfl; obtain ⟨y1, hy1⟩ : ∃ y, xs[1]? = some y := ⟨_, List.getElem?_eq_getElem (by rw [hxl]; exact (by decide : 1 < 3))⟩; rw [hy1, o1, t1, cl_Sl_uint64] at q1; obtain ⟨A1, k1, v1, e1, hr1, hg1⟩ := trod_Sl_uint64 q1; replace e1 : [c5] = [.slice A1 v1.length k1] := e1; simp only [List.cons.injEq, and_true] at e1; obtain rfl := e1; have q2 := hf 2 f2 rfl; obtain ⟨y2, hy2⟩ : ∃ y, xs[2]? = some y := ⟨_, List.getElem?_eq_getElem (by rw [hxl]; exact (by decide : 2 < 3))⟩; rw [hy2, o2, t2, cl_api_Receipt] at q2; obtain ⟨v2, e2, hk2, hg2⟩ := trod_api_Receipt q2; replace e2 : [c6, c7, c8, c9, c10, c11, c12, c13, c14, c15] = [I v2.Head.Office, I v2.Head.Size, U v2.Head.Root, I v2.Head.Sig.C, I v2.Head.Sig.S, I v2.Index, U v2.Entry.Doc, I v2.Entry.Stamp.Lo, I v2.Entry.Stamp.Hi, .slice v2.Path_A v2.Path.length v2.Path_c] := e2; simp only [List.cons.injEq, and_true] at e2; obtain ⟨rfl, rfl, rfl, rfl, rfl, rfl, rfl, rfl, rfl, rfl⟩ := e2; exact ⟨⟨v0, A1, k1, v1, v2⟩, rfl, ⟨hr1, hk2⟩, ⟨hg0, hg1, hg2⟩⟩
theorem opn_api_Hop {r : Reach} {b0 : Nat} {v : Value} {d : DataW H} {p : List MemPlace} (hv : Value.okWide Tryz.prog w r b0 38 v) (h : DataW.Trod enc Tryz.prog w base spare held 38 v d p) : ∃ x : KHopL, v = .agg #[I x.Of.Office, I x.Of.Size, U x.Of.Root, I x.Of.Sig.C, I x.Of.Sig.S, .slice x.Grow_A x.Grow.length x.Grow_c, I x.By.Head.Office, I x.By.Head.Size, U x.By.Head.Root, I x.By.Head.Sig.C, I x.By.Head.Sig.S, I x.By.Index, U x.By.Entry.Doc, I x.By.Entry.Stamp.Lo, I x.By.Entry.Stamp.Hi, .slice x.By.Path_A x.By.Path.length x.By.Path_c] ∧ KHopL.ok x (fun g => g < w.heap.size) w ∧ KHop.rng x.p := by
 obtain ⟨f0, f1, f2, hu, _⟩ := tf_api_Hop; obtain ⟨cs, rfl, hsz⟩ := okWide_struct hu hv; obtain ⟨fuel, hf⟩ := h; obtain ⟨x, hx, hw⟩ := trod_api_Hop hf; refine ⟨x, congrArg Value.agg ?_, hw⟩; have : cs.toList = x.cells := by simpa [Value.cells] using hx
 rw [← Array.toArray_toList (xs := cs), this]; rfl
theorem trod_Sl_int {n : Nat} {cs : List Value} {x : DataW H × List MemPlace} (h : DataW.trod enc Tryz.prog w base spare held n 39 cs = some x) :
  ∃ (A : Option Addr) (c : Nat) (l : List Int), cs = [.slice A l.length c] ∧ RowC A c c_i64 tr l (fun g => g < w.heap.size) w ∧ (∀ y ∈ l, inKd .i64 y) := by
 obtain ⟨A, c, l, h1, h2, h3, h4, h5⟩ := trod_rowS c_i64 (m := 1) (by decide) (fun _ => rfl) Tryz.underlying39 cl_int (fun v : Int => inKd .i64 v) (fun _ _ _ hx => trod_int hx) h; exact ⟨A, c, l, h1, ⟨rowS_all h4, h2, fun _ _ => trivial⟩, h5⟩
theorem opn_Sl_int {r : Reach} {b0 : Nat} {v : Value} {d : DataW H} {p : List MemPlace} (hv : Value.okWide Tryz.prog w r b0 39 v) (h : DataW.Trod enc Tryz.prog w base spare held 39 v d p) : ∃ (A : Option Addr) (c : Nat) (l : List Int), v = .slice A l.length c ∧ RowC A c c_i64 tr l (fun g => g < w.heap.size) w ∧ (∀ y ∈ l, inKd .i64 y) := by
 obtain ⟨a0, len0, cap0, rfl⟩ := okWide_slice Tryz.underlying39 hv; obtain ⟨fuel, hf⟩ := h; obtain ⟨A, c, l, e, h1, h2⟩ := trod_Sl_int hf; simp only [Value.cells, List.cons.injEq, and_true] at e; exact ⟨A, c, l, e, h1, h2⟩
theorem opn_int {r : Reach} {b0 : Nat} {v : Value} {d : DataW H} {p : List MemPlace} (hv : Value.okWide Tryz.prog w r b0 3 v) (h : DataW.Trod enc Tryz.prog w base spare held 3 v d p) : ∃ x : Int, v = .int .i64 x ∧ inKd .i64 x := by
 obtain ⟨x, rfl, _, _, hw⟩ := open_int Tryz.underlying3 hv h; exact ⟨x, rfl, hw⟩
theorem opn_Sl_uint64 {r : Reach} {b0 : Nat} {v : Value} {d : DataW H} {p : List MemPlace} (hv : Value.okWide Tryz.prog w r b0 30 v) (h : DataW.Trod enc Tryz.prog w base spare held 30 v d p) : ∃ (A : Option Addr) (c : Nat) (l : List Int), v = .slice A l.length c ∧ RowC A c c_u64 tr l (fun g => g < w.heap.size) w ∧ (∀ y ∈ l, inKd .u64 y) := by
 obtain ⟨a0, len0, cap0, rfl⟩ := okWide_slice Tryz.underlying30 hv; obtain ⟨fuel, hf⟩ := h; obtain ⟨A, c, l, e, h1, h2⟩ := trod_Sl_uint64 hf; simp only [Value.cells, List.cons.injEq, and_true] at e; exact ⟨A, c, l, e, h1, h2⟩
end
end Go.Proofs.YtiijddjfiojfaaaGreatDoor
namespace Go.Proofs.YtiijddjfiojfaaaGreatDoor
open Go.RowKit
theorem wrap_i64_rng (n : Int) : -9223372036854775808 ≤ IntKind.i64.wrap n ∧ IntKind.i64.wrap n ≤ 9223372036854775807 := by rw [IntKind.wrap_i64]; omega
theorem wrap_u64_rng (n : Int) : 0 ≤ IntKind.u64.wrap n ∧ IntKind.u64.wrap n ≤ 18446744073709551615 := by rw [IntKind.wrap_u64]; omega
theorem sumB_rng (l : List Int) : 0 ≤ sumB l ∧ sumB l ≤ 18446744073709551615 := by
 unfold sumB; have key : ∀ (l : List Int) (b : Int), 0 ≤ b ∧ b ≤ 18446744073709551615 → 0 ≤ l.foldl sumF b ∧ l.foldl sumF b ≤ 18446744073709551615 := by
  intro l
  induction l with
  | nil => intro b h; exact h
  | cons x l ih => intro b _; exact ih _ (wrap_u64_rng _)
 exact key l _ (by omega)
theorem dnext {d : Int} {l : List Int} (h : inI l) (h1 : 1 ≤ l.length) (h2 : l.length ≤ 10000) {F : Nat} (hF : 64 ≤ F) : G_digest_Next F d l = some (nextF d l) := by
 obtain ⟨F', rfl⟩ : ∃ F', F = F' + 1 := ⟨F - 1, by omega⟩; exact whenG_t (decide_eq_true ⟨h, h2, h1⟩)
theorem rnext {d : Int} {l : List Int} (h : inI l) (h1 : 1 ≤ l.length) (h2 : l.length ≤ 10000) {F : Nat} (hF : 64 ≤ F) : G_regulatorref03_Next F d l = some (nextF d l) := by
 obtain ⟨F', rfl⟩ : ∃ F', F = F' + 1 := ⟨F - 1, by omega⟩; exact whenG_t (decide_eq_true ⟨h, h2, h1⟩)
theorem dints {l : List Int} (h : inI l) (h2 : l.length ≤ 10000) {F : Nat} (hF : 64 ≤ F) : G_digest_Ints F l = some (intsF l) := by
 obtain ⟨F', rfl⟩ : ∃ F', F = F' + 1 := ⟨F - 1, by omega⟩; exact whenG_t (decide_eq_true ⟨h, by omega⟩)
theorem rints {l : List Int} (h : inI l) (h2 : l.length ≤ 10000) {F : Nat} (hF : 64 ≤ F) : G_regulatorref03_Ints F l = some (intsF l) := by
 obtain ⟨F', rfl⟩ : ∃ F', F = F' + 1 := ⟨F - 1, by omega⟩; exact whenG_t (decide_eq_true ⟨h, by omega⟩)
def leafE (e : KEntry) : Int := nextF e.Doc [e.Stamp.Lo, e.Stamp.Hi]
theorem inI_two {a b : Int} (ha : inKd .i64 a) (hb : inKd .i64 b) : inI [a, b] := by
 intro z hz; rcases List.mem_cons.1 hz with rfl | hz
 ·exact inKd_i64 ha
 ·rcases List.mem_cons.1 hz with rfl | hz
  ·exact inKd_i64 hb
  ·cases hz
theorem leaf_p {e : KEntry} (h : e.rng) {F : Nat} (hF : 64 ≤ F) : G_office_Leaf F e = some (leafE e) := by
 unfold G_office_Leaf G_office_logged_value; rw [dnext (inI_two h.r_Stamp.r_Lo h.r_Stamp.r_Hi) (by simp) (by simp) hF]; rfl
theorem leaf_r {e : KEntry} (h : e.rng) {F : Nat} (hF : 64 ≤ F) : G_regulatorref25_Leaf F e = some (leafE e) := by
 unfold G_regulatorref25_Leaf; rw [rnext (inI_two h.r_Stamp.r_Lo h.r_Stamp.r_Hi) (by simp) (by simp) hF]; rfl
def eAt (l : List KEntry) (k : Nat) : KEntry := l.getD k ⟨0, ⟨0, 0⟩⟩
theorem eAt_get {l : List KEntry} {k : Nat} (h : k < l.length) : l[k]? = some (eAt l k) := by
 unfold eAt; rw [List.getD_eq_getElem?_getD, List.getElem?_eq_getElem h]; rfl
def okAt (l : List KEntry) (k : Nat) : Bool := vI (eAt l k).Stamp && !(decide (0 < k) && decide ((eAt l k).Stamp.Lo < (eAt l (k - 1)).Stamp.Lo))
def ordB (l : List KEntry) : Bool := frB (okAt l) l.length 0
def vO (o : KOffice) : Bool := ordB o.Entries && (decide (1 ≤ o.ID ∧ o.ID ≤ 16) && decide (o.Entries.length ≤ 4096))
theorem pred_w {k : Nat} (h : 0 < k) (h2 : k < 1000000) : IntKind.i64.wrap ((k : Int) - 1) = ((k - 1 : Nat) : Int) := by rw [IntKind.wrap_i64]; omega
theorem valid_p {o : KOffice} (hl : o.Entries.length ≤ 50) {F : Nat} (hF : 64 ≤ F) : G_office_Valid F o = some (vO o) := by
 unfold G_office_Valid; rw [iter_all o.Entries.length (okAt o.Entries) (.inl ()) (.inr ()) ?_ ?_ (by omega)]
 ·unfold vO; rw [btw_p]
  show _ = some (ordB o.Entries && _)
  unfold ordB; cases frB (okAt o.Entries) o.Entries.length 0 with
  | true =>
   simp only [if_true, ob_some, Sum.elim_inl, Bool.true_and]
   by_cases h1 : 1 ≤ o.ID ∧ o.ID ≤ 16 <;> by_cases h2 : o.Entries.length ≤ 4096 <;> simp [ifB, h1, h2] <;> omega
  | false => rfl
 ·rw [show decide ((o.Entries.length : Int) < ((o.Entries.length : Nat) : Int)) = false from decide_eq_false (by omega)]; rfl
 ·intro k hk; rw [show decide ((k : Int) < ((o.Entries.length : Nat) : Int)) = true from decide_eq_true (by omega), ifB_t, ixI_nat, eAt_get hk]; simp only [ob_some, logged_p]; unfold okAt; rw [w64_nat (by omega)]; cases hv : vI (eAt o.Entries k).Stamp with
  | false => rfl
  | true =>
   rw [ifB_t]
   by_cases h0 : 0 < k
   ·rw [show decide ((k : Int) > 0) = true from decide_eq_true (by omega), ifB_t, pred_w h0 (by omega), ixI_nat, eAt_get (by omega)]; simp only [ob_some]; rw [show decide (0 < k) = true from decide_eq_true h0]; cases decide ((eAt o.Entries k).Stamp.Lo < (eAt o.Entries (k - 1)).Stamp.Lo) <;> rfl
   ·rw [show decide ((k : Int) > 0) = false from decide_eq_false (by omega), ifB_f, show decide (0 < k) = false from decide_eq_false h0]; rfl
theorem valid_r {o : KOffice} (hl : o.Entries.length ≤ 50) {F : Nat} (hF : 64 ≤ F) : G_regulatorref25_Valid F o = some (vO o) := by
 unfold G_regulatorref25_Valid; have h4 : decide (((o.Entries.length : Nat) : Int) > 4096) = false := decide_eq_false (by omega); have h4' : decide (o.Entries.length ≤ 4096) = true := decide_eq_true (by omega); rw [h4]
 by_cases hid : 1 ≤ o.ID ∧ o.ID ≤ 16
 ·rw [show decide (o.ID < 1) = false from decide_eq_false (by omega), show decide (o.ID > 16) = false from decide_eq_false (by omega)]; simp only [ifB_f, ob_some]; rw [iter_all o.Entries.length (okAt o.Entries) (.inl ()) (.inr ()) ?_ ?_ (by omega)]
  ·unfold vO ordB; rw [h4', show decide (1 ≤ o.ID ∧ o.ID ≤ 16) = true from decide_eq_true hid]; cases frB (okAt o.Entries) o.Entries.length 0 <;> rfl
  ·rw [show decide ((o.Entries.length : Int) < ((o.Entries.length : Nat) : Int)) = false from decide_eq_false (by omega)]; rfl
  ·intro k hk; rw [show decide ((k : Int) < ((o.Entries.length : Nat) : Int)) = true from decide_eq_true (by omega), ifB_t, ixI_nat, eAt_get hk]; simp only [ob_some, vI_r]; unfold okAt; rw [w64_nat (by omega)]; cases hv : vI (eAt o.Entries k).Stamp with
   | false => rfl
   | true =>
    rw [ifB_t]
    by_cases h0 : 0 < k
    ·rw [show decide ((k : Int) > 0) = true from decide_eq_true (by omega), ifB_t, pred_w h0 (by omega), ixI_nat, eAt_get (by omega)]; simp only [ob_some]; rw [show decide (0 < k) = true from decide_eq_true h0]; cases decide ((eAt o.Entries k).Stamp.Lo < (eAt o.Entries (k - 1)).Stamp.Lo) <;> rfl
    ·rw [show decide ((k : Int) > 0) = false from decide_eq_false (by omega), ifB_f, show decide (0 < k) = false from decide_eq_false h0]; rfl
 ·have hv : vO o = false := by unfold vO; rw [show decide (1 ≤ o.ID ∧ o.ID ≤ 16) = false from decide_eq_false hid]; simp
  rw [hv]
  by_cases h1 : o.ID < 1
  ·rw [show decide (o.ID < 1) = true from decide_eq_true h1]; rfl
  ·rw [show decide (o.ID < 1) = false from decide_eq_false h1, show decide (o.ID > 16) = true from decide_eq_true (by omega)]; rfl
def valsF (o : KOffice) (n : Nat) : List Int := (o.Entries.take n).map leafE
theorem take_map_succ {l : List KEntry} {k : Nat} (h : k < l.length) : (l.take (k + 1)).map leafE = (l.take k).map leafE ++ [leafE (eAt l k)] := by
 rw [List.take_add_one, eAt_get h]
 simp
theorem vals_r {o : KOffice} (hr : o.rng) {n : Nat} (hn : n ≤ o.Entries.length) (hl : n ≤ 60) {F : Nat} (hF : 64 ≤ F) : G_regulatorref25_Values F o (n : Int) = some (valsF o n) := by
 unfold G_regulatorref25_Values valsF; rw [show (([] : List Int), (0 : Int)) = (fun k : Nat => ((o.Entries.take k).map leafE, (k : Int))) 0 from rfl]; rw [iter_seq (fun k : Nat => ((o.Entries.take k).map leafE, (k : Int))) n ((o.Entries.take n).map leafE) ?_ ?_ (by omega)]
 ·rfl
 ·intro k hk; simp only [un2]; have hk' : k < o.Entries.length := by omega
  rw [show decide ((k : Int) < (n : Int)) = true from decide_eq_true (by omega), ifB_t, ixI_nat, eAt_get hk']; simp only [ob_some]; rw [leaf_r (hr.r_Entries _ (List.mem_of_getElem? (eAt_get hk'))) hF]; simp only [ob_some]; rw [apG_ok (by simp only [List.length_map, List.length_take, List.length_cons, List.length_nil]; omega), w64_nat (by omega), take_map_succ hk']; rfl
 ·simp only [un2]; rw [show decide ((n : Int) < (n : Int)) = false from decide_eq_false (by omega)]; rfl
theorem coll_p {l : List KEntry} (hr : ∀ e ∈ l, e.rng) (hl : l.length ≤ 60) {F : Nat} (hF : 64 ≤ F) : iter (σ := Int × (List Int)) (ρ := (List Int)) (un2 fun (v_43 : Int) (v_44 : (List Int)) => 
          (ifB (decide (v_43 < ((l.length : Nat) : Int)))
            (Option.bind (ixI l v_43) (fun v_52 =>
            Option.bind (G_office_Leaf F v_52) (fun v_59 =>
            Option.bind (apG 8 v_44 ([v_59] : List Int)) (fun v_61 =>
            some (.inl (IntKind.i64.wrap (v_43 + 1), v_61))))))
            (some (.inr v_44)) : Option ((Int × (List Int)) ⊕ (List Int)))) F (0, ([] : List Int)) = some (l.map leafE) := by
  rw [show ((0 : Int), ([] : List Int)) = (fun k : Nat => ((k : Int), (l.take k).map leafE)) 0 from rfl]
  rw [iter_seq (fun k : Nat => ((k : Int), (l.take k).map leafE)) l.length (l.map leafE) ?_ ?_ (by omega)]
  · intro k hk
    simp only [un2]
    rw [show decide ((k : Int) < ((l.length : Nat) : Int)) = true from decide_eq_true (by omega), ifB_t, ixI_nat, eAt_get hk]
    simp only [ob_some]
    rw [leaf_p (hr _ (List.mem_of_getElem? (eAt_get hk))) hF]
    simp only [ob_some]
    rw [apG_ok (by simp only [List.length_map, List.length_take, List.length_cons, List.length_nil]; omega), w64_nat (by omega), take_map_succ hk]
    rfl
  · simp only [un2]
    rw [show decide ((l.length : Int) < ((l.length : Nat) : Int)) = false from decide_eq_false (by omega), List.take_length]
    rfl
theorem root_p {o : KOffice} (hr : o.rng) {n : Nat} (hn : n ≤ o.Entries.length) (hl : n ≤ 60) {F : Nat} (hF : 64 ≤ F) : G_office_root F o (n : Int) = some (rootS (valsF o n)) := by
 obtain ⟨F', rfl⟩ : ∃ F', F = F' + 1 := ⟨F - 1, by omega⟩; unfold G_office_root; rw [show (0 : Int) = ((0 : Nat) : Int) from rfl, slI_ok (Nat.zero_le n) hn]; simp only [ob_some, List.drop_zero]; rw [show ((0 : Nat) : Int) = 0 from rfl, coll_p (fun e he => hr.r_Entries e (List.mem_of_mem_take he)) (by rw [List.length_take]; omega) hF]; rfl
theorem rroot_p (l : List Int) {F : Nat} (hF : 64 ≤ F) : G_regulatorref24_Root F l = some (rootS l) := by
 obtain ⟨F', rfl⟩ : ∃ F', F = F' + 1 := ⟨F - 1, by omega⟩; rfl
theorem valsF_len {o : KOffice} {n : Nat} (hn : n ≤ o.Entries.length) : (valsF o n).length = n := by unfold valsF; rw [List.length_map, List.length_take]; omega
end Go.Proofs.YtiijddjfiojfaaaGreatDoor
namespace Go.Proofs.YtiijddjfiojfaaaGreatDoor
open Go.RowKit
def chF (b p : Int) (m : List Int) : Int := intsF ([b, p] ++ m) % 1073741789
theorem ch_w (l : List Int) : IntKind.i64.wrap (Int.tmod (intsF l) 1073741789) = intsF l % 1073741789 := by
 have := sumB_rng (textL l); unfold intsF; rw [Int.tmod_eq_emod_of_nonneg this.1, w64_id (by omega) (by omega)]
theorem ch_p {b p : Int} {m : List Int} (h : inI ([b, p] ++ m)) (hl : m.length ≤ 100) {F : Nat} (hF : 64 ≤ F) : G_group_challenge F b p m = some (chF b p m) := by
 unfold G_group_challenge; rw [apG_ok (by simp; omega)]; simp only [ob_some]; rw [dints h (by simp; omega) hF]; simp only [ob_some]; rw [ch_w]; rfl
theorem ch_r {b p : Int} {m : List Int} (h : inI ([b, p] ++ m)) (hl : m.length ≤ 100) {F : Nat} (hF : 64 ≤ F) : G_regulatorref06_Challenge F b p m = some (chF b p m) := by
 unfold G_regulatorref06_Challenge; rw [apG_ok (by simp; omega)]; simp only [ob_some]; rw [rints h (by simp; omega) hF]; simp only [ob_some]; rw [ch_w]; rfl
theorem inI_app {a b : List Int} (ha : inI a) (hb : inI b) : inI (a ++ b) := fun z hz => by
 rcases List.mem_append.1 hz with hz | hz
 ·exact ha z hz
 ·exact hb z hz
theorem inI_pair {a b : Int} (ha : -9223372036854775808 ≤ a ∧ a ≤ 9223372036854775807) (hb : -9223372036854775808 ≤ b ∧ b ≤ 9223372036854775807) : inI [a, b] := by
 intro z hz; rcases List.mem_cons.1 hz with rfl | hz
 ·exact ha
 ·rcases List.mem_cons.1 hz with rfl | hz
  ·exact hb
  ·cases hz
theorem inI_msg {h : KHead} (h1 : inKd .i64 h.Office) (h2 : inKd .i64 h.Size) : inI (msgF h) := by
 show inI ([h.Office, h.Size] ++ [_, _])
 exact inI_app (inI_pair (inKd_i64 h1) (inKd_i64 h2)) (inI_pair (wrap_i64_rng _) (wrap_i64_rng _))
def isK (n : Int) : Bool := decide (1 ≤ n ∧ n < 1073741789)
theorem pow4 (n : Int) (h0 : 0 ≤ n) (h1 : n ≤ 1073741789) {F : Nat} (hF : 64 ≤ F) : G_group_power F 4 n = some ((pw 4 n.toNat : Nat) : Int) ∧ G_regulatorref06_Power F 4 n 2147483579 = some ((pw 4 n.toNat : Nat) : Int) := by
  have hX : n.toNat < 2 ^ 62 := by have : (2 : Nat) ^ 62 = 4611686018427387904 := by decide
                                   omega
  have h1' := pow_pn 4 n.toNat (by decide) hX hF
  have h2' := pow_rn 4 n.toNat (by decide) hX hF
  rw [show ((n.toNat : Nat) : Int) = n by omega] at h1' h2'
  exact ⟨h1', h2'⟩
def begS (pub : Int) (s : KSig) : Nat := pw 4 s.S.toNat * pw pub.toNat (1073741789 - s.C.toNat) % 2147483579
def expB (s : KSig) : Bool := decide ((0 ≤ s.C ∧ s.C < 1073741789) ∧ (0 ≤ s.S ∧ s.S < 1073741789))
def verS (pub : Int) (s : KSig) (m : List Int) : Bool × Int :=
 if memB pub && expB s then (decide (chF (begS pub s : Int) pub m = s.C), 0) else (false, 1)
theorem memB_spec {a : Int} (h : memB a = true) : 0 < a ∧ a < 2147483579 ∧ pw a.toNat 1073741789 = 1 := of_decide_eq_true h
theorem mem_rng {a : Int} (h : memB a = true) : -9223372036854775808 ≤ a ∧ a ≤ 9223372036854775807 := by have := memB_spec h; omega
theorem beg_w (x y : Nat) (hx : x < 2147483579) (hy : y < 2147483579) : Int.tmod (IntKind.i64.wrap ((x : Int) * (y : Int))) 2147483579 = ((x * y % 2147483579 : Nat) : Int) := by rw [mul_in hx hy, mod_in]
theorem ver_p {pub : Int} {s : KSig} {m : List Int} (hm : inI m) (hl : m.length ≤ 100) {F : Nat} (hF : 64 ≤ F) : G_group_Verify F pub s m = some (verS pub s m) := by
  unfold G_group_Verify verS expB
  rw [mem_p pub hF]
  simp only [within_p, ob_some]
  cases hb : memB pub with
  | false => simp only [ifB_f, ifB_t, ob_some, Bool.false_and, Bool.false_eq_true, if_false]
  | true =>
    obtain ⟨m1, m2, m3⟩ := memB_spec hb
    by_cases h1 : 0 ≤ s.C ∧ s.C < 1073741789
    · by_cases h2 : 0 ≤ s.S ∧ s.S < 1073741789
      · simp only [h1, h2, and_self, decide_true, ifB_t, ob_some, Bool.not_true, ifB_f, Bool.and_self, if_true]
        have hp := pow_pn pub.toNat (1073741789 - s.C.toNat) (by omega) (by have : (2 : Nat) ^ 62 = 4611686018427387904 := by decide
                                                                            omega) hF
        rw [show ((pub.toNat : Nat) : Int) = pub by omega, show (((1073741789 - s.C.toNat : Nat)) : Int) = IntKind.i64.wrap (1073741789 - s.C) by rw [w64_id (by omega) (by omega)]; omega] at hp
        rw [(pow4 s.S (by omega) (by omega) hF).1, hp]
        simp only [ob_some]
        rw [beg_w _ _ (pw_lt _ _) (pw_lt _ _), ch_p (inI_app (inI_pair (by have := Nat.mod_lt (pw 4 s.S.toNat * pw pub.toNat (1073741789 - s.C.toNat)) (show 0 < 2147483579 by decide); omega) (mem_rng hb)) hm) hl hF]
        simp only [ob_some]
        congr 2
        rw [decide_eq_decide]
        constructor
        · intro h
          have := congrArg KSig.C h
          exact this.symm
        · intro h
          cases s
          simp only [KSig.mk.injEq, and_true]
          exact h.symm
      · simp only [h1, h2, and_self, and_false, decide_true, decide_false, ifB_t, ob_some, Bool.not_false, Bool.and_false, Bool.false_eq_true, if_false]
    · simp only [h1, false_and, decide_false, ifB_t, ifB_f, ob_some, Bool.and_false, Bool.false_eq_true, if_false]
theorem pw_rest {pub : Int} {c : Int} (hb : memB pub = true) (h0 : 0 ≤ c) (h1 : c < 1073741789) : pw pub.toNat ((1073741789 - c) % 1073741789).toNat = pw pub.toNat (1073741789 - c.toNat) := by
 obtain ⟨m1, m2, m3⟩ := memB_spec hb; rw [← pw_mod m3 (1073741789 - c.toNat)]
 congr 1
 omega
theorem ver_r {pub : Int} {s : KSig} {m : List Int} (hm : inI m) (hl : m.length ≤ 100) {F : Nat} (hF : 64 ≤ F) : G_regulatorref06_Verify F pub s m = some (verS pub s m) := by
  unfold G_regulatorref06_Verify verS expB
  rw [mem_r pub hF]
  simp only [expo_r, ob_some]
  cases hb : memB pub with
  | false => simp only [ifB_f, ifB_t, ob_some, Bool.false_and, Bool.false_eq_true, if_false]
  | true =>
    obtain ⟨m1, m2, m3⟩ := memB_spec hb
    by_cases h1 : 0 ≤ s.C ∧ s.C < 1073741789
    · by_cases h2 : 0 ≤ s.S ∧ s.S < 1073741789
      · simp only [h1, h2, and_self, decide_true, ifB_t, ob_some, Bool.not_true, ifB_f, Bool.and_self, if_true]
        have hback : G_regulatorref06_Back F pub s = some (begS pub s : Int) := by
          unfold G_regulatorref06_Back begS
          have hp := pow_rn pub.toNat ((1073741789 - s.C) % 1073741789).toNat (by omega) (by have : (2 : Nat) ^ 62 = 4611686018427387904 := by decide
                                                                                             omega) hF
          rw [show ((pub.toNat : Nat) : Int) = pub by omega, show (((((1073741789 - s.C) % 1073741789).toNat : Nat)) : Int) = Int.tmod (IntKind.i64.wrap (1073741789 - s.C)) 1073741789 by rw [w64_id (by omega) (by omega), Int.tmod_eq_emod_of_nonneg (by omega)]; omega] at hp
          rw [(pow4 s.S (by omega) (by omega) hF).2, hp]
          simp only [ob_some]
          rw [beg_w _ _ (pw_lt _ _) (pw_lt _ _), pw_rest hb h1.1 h1.2]
        rw [hback]
        simp only [ob_some]
        rw [ch_r (inI_app (inI_pair (by have : begS pub s < 2147483579 := Nat.mod_lt _ (by decide)
                                        omega) (mem_rng hb)) hm) hl hF]
        simp only [ob_some]
        rfl
      · simp only [h1, h2, and_self, and_false, decide_true, decide_false, ifB_t, ob_some, Bool.not_false, Bool.and_false, Bool.false_eq_true, if_false]
    · simp only [h1, false_and, decide_false, ifB_t, ifB_f, ob_some, Bool.and_false, Bool.false_eq_true, if_false]
def rightS (pub : Int) (h : KHead) : Bool × Int := if pubB pub && fH h then ((verS pub h.Sig (msgF h)).1, 0) else (false, 1)
theorem pub_mem' {a : Int} (h : pubB a = true) : memB a = true := by unfold pubB at h; simp at h; exact h.1
theorem fH_exp {h : KHead} (hh : fH h = true) : expB h.Sig = true := by
 have := of_decide_eq_true hh; exact decide_eq_true ⟨this.2.2.1, this.2.2.2⟩
theorem verS_ok {pub : Int} {s : KSig} {m : List Int} (h1 : memB pub = true) (h2 : expB s = true) : verS pub s m = (decide (chF (begS pub s : Int) pub m = s.C), 0) := by unfold verS; rw [h1, h2]; rfl
theorem right_p {pub : Int} {h : KHead} (h1 : inKd .i64 h.Office) (h2 : inKd .i64 h.Size) {F : Nat} (hF : 64 ≤ F) : G_office_Right F pub h = some (rightS pub h) := by
 unfold G_office_Right rightS; rw [pub_p pub hF]; simp only [fH_p, ob_some]; cases hp : pubB pub with
 | false => simp only [ifB_f, ifB_t, ob_some, Bool.false_and, Bool.false_eq_true, if_false]
 | true =>
  cases hh : fH h with
  | false => simp only [ifB_t, ob_some, Bool.not_false, Bool.and_false, Bool.false_eq_true, if_false]
  | true =>
   simp only [ifB_t, ob_some, Bool.not_true, ifB_f, Bool.and_self, if_true, msg_p]; rw [ver_p (inI_msg h1 h2) (by simp [msgF]) hF, verS_ok (pub_mem' hp) (fH_exp hh)]; rfl
theorem right_r {pub : Int} {h : KHead} (h1 : inKd .i64 h.Office) (h2 : inKd .i64 h.Size) (h3 : inKd .u64 h.Root) {F : Nat} (hF : 64 ≤ F) : G_regulatorref25_Right F pub h = some (rightS pub h) := by
 unfold G_regulatorref25_Right rightS; rw [pub_r pub hF]; simp only [fH_r, ob_some]; cases hp : pubB pub with
 | false => simp only [ifB_f, ifB_t, ob_some, Bool.false_and, Bool.false_eq_true, if_false]
 | true =>
  cases hh : fH h with
  | false => simp only [ifB_t, ob_some, Bool.not_false, Bool.and_false, Bool.false_eq_true, if_false]
  | true =>
   simp only [ifB_t, ob_some, Bool.not_true, ifB_f, Bool.and_self, if_true]; rw [msg_r F h (inKd_u64 h3).1 (inKd_u64 h3).2]; simp only [ob_some]; rw [ver_r (inI_msg h1 h2) (by simp [msgF]) hF, verS_ok (pub_mem' hp) (fH_exp hh)]; rfl
end Go.Proofs.YtiijddjfiojfaaaGreatDoor
namespace Go.Proofs.YtiijddjfiojfaaaGreatDoor
open Go.RowKit
theorem inclF_le {l : List Int} {i : Nat} (h : l.length ≤ 4096) : (inclF l i).length ≤ 12 := by
 unfold inclF; rw [incl_len l.length l rfl i]; exact plen_le 12 _ _ h
theorem extF_le {l : List Int} {m : Nat} {mark : Bool} (h : l.length ≤ 4096) : (extF l m mark).length ≤ 13 := by
 unfold extF; rw [ext_len l.length l rfl m mark]; exact glen_le 12 _ _ _ h
theorem rootS_ok {l : List Int} (h1 : 1 ≤ l.length) (h2 : l.length ≤ 4096) : rootS l = (rootF l, 0) := by
 have hc : checkS l = 0 := by unfold checkS; rw [if_neg (by omega), if_neg (by omega)]
 unfold rootS; rw [if_neg (by simp [hc])]
theorem incS_ok {l : List Int} {i : Nat} (h : i < l.length) (h2 : l.length ≤ 4096) : incS l i = (inclF l i, 0) := by
 have hc : checkS l = 0 := by unfold checkS; rw [if_neg (by omega), if_neg (by omega)]
 unfold incS; rw [if_neg (by simp [hc]), if_neg (by omega), Int.toNat_natCast]
theorem extS_ok {l : List Int} {m : Nat} (h1 : 1 ≤ m) (h : m ≤ l.length) (h2 : l.length ≤ 4096) : extS l m = (extF l m true, 0) := by
 have hc : checkS l = 0 := by unfold checkS; rw [if_neg (by omega), if_neg (by omega)]
 unfold extS; rw [if_neg (by simp [hc]), if_neg (by omega), Int.toNat_natCast]
end Go.Proofs.YtiijddjfiojfaaaGreatDoor
namespace Go.Proofs.YtiijddjfiojfaaaGreatDoor
open Go.RowKit
theorem inKd_w {n : Int} (h0 : -9223372036854775808 ≤ n) (h1 : n ≤ 9223372036854775807) : inKd .i64 n := by
 have : IntKind.i64.min ≤ n ∧ n ≤ IntKind.i64.max := by
  rw [show IntKind.i64.min = -9223372036854775808 by decide, show IntKind.i64.max = 9223372036854775807 by decide]; exact ⟨h0, h1⟩
 simpa [inKd, Lit.wf] using this
end Go.Proofs.YtiijddjfiojfaaaGreatDoor
namespace Go.Proofs.YtiijddjfiojfaaaGreatDoor
open Go.RowKit
def zR : KReceipt := ⟨⟨0, 0, 0, ⟨0, 0⟩⟩, 0, ⟨0, ⟨0, 0⟩⟩, []⟩
def provS (o : KOffice) (h : KHead) (i : Int) : KReceipt × Int :=
 if vO o && (fH h && decide (h.Size ≤ o.Entries.length ∧ 0 ≤ i ∧ i < h.Size)) then
  (if decide (h.Office = o.ID ∧ h.Root = rootF (valsF o h.Size.toNat)) then (⟨h, i, eAt o.Entries i.toNat, inclF (valsF o h.Size.toNat) i.toNat⟩, 0) else (zR, 33))
 else (zR, 1)
theorem fH_size {h : KHead} (hh : fH h = true) : 1 ≤ h.Size ∧ h.Size ≤ 4096 := (of_decide_eq_true hh).2.1
theorem pinc_p (l : List Int) (i : Int) {F : Nat} (hF : 64 ≤ F) : G_tree_Include F l i = some (incS l i) := by
 obtain ⟨F', rfl⟩ : ∃ F', F = F' + 1 := ⟨F - 1, by omega⟩; rfl
theorem pinc_r (l : List Int) (i : Int) {F : Nat} (hF : 64 ≤ F) : G_regulatorref24_Include F l i = some (incS l i) := by
 obtain ⟨F', rfl⟩ : ∃ F', F = F' + 1 := ⟨F - 1, by omega⟩; rfl
theorem prove_p {o : KOffice} (hr : o.rng) (hl : o.Entries.length ≤ 50) {h : KHead} {i : Int} {F : Nat} (hF : 64 ≤ F) : G_office_Prove F o h i = some (provS o h i) := by
 unfold G_office_Prove provS; rw [valid_p hl hF]; simp only [ob_some, fH_p]; cases hv : vO o with
 | false => simp only [ifB_f, ifB_t, ob_some, Bool.false_and, Bool.false_eq_true, if_false]; rfl
 | true =>
  cases hf : fH h with
  | false => simp only [ifB_f, ifB_t, ob_some, Bool.false_and, Bool.and_false, Bool.false_eq_true, if_false]; rfl
  | true =>
   obtain ⟨s1, s2⟩ := fH_size hf; obtain ⟨k, hk⟩ : ∃ k : Nat, h.Size = k := ⟨h.Size.toNat, by omega⟩; simp only [ifB_t, ob_some, Bool.true_and, hk]; rw [hk] at s1 s2
   by_cases h1 : (k : Int) ≤ ((o.Entries.length : Nat) : Int)
   ·rw [show decide ((k : Int) > ((o.Entries.length : Nat) : Int)) = false from decide_eq_false (by omega), ifB_f, btw_p, w64_id (n := (k : Int) - 1) (by omega) (by omega)]; simp only [ob_some]
    by_cases h2 : 0 ≤ i ∧ i ≤ (k : Int) - 1
    ·rw [show decide (0 ≤ i ∧ i ≤ (k : Int) - 1) = true from decide_eq_true h2, show decide ((k : Int) ≤ ((o.Entries.length : Nat) : Int) ∧ 0 ≤ i ∧ i < (k : Int)) = true from decide_eq_true (by omega)]; obtain ⟨j, rfl⟩ : ∃ j : Nat, i = j := ⟨i.toNat, by omega⟩; have hL : (valsF o k).length = k := valsF_len (by omega); simp only [Bool.not_true, ifB_f]; rw [root_p hr (by omega) (by omega) hF, rootS_ok (by rw [hL]; omega) (by rw [hL]; omega)]; simp only [un2, ob_some, beq_self_eq_true, ifB_t, Int.toNat_natCast, if_true]
     by_cases h3 : h.Office = o.ID
     ·by_cases h4 : h.Root = rootF (valsF o k)
      ·rw [show (h.Office == o.ID) = true from beq_iff_eq.2 h3, show (rootF (valsF o k) == h.Root) = true from beq_iff_eq.2 h4.symm, show decide (h.Office = o.ID ∧ h.Root = rootF (valsF o k)) = true from decide_eq_true ⟨h3, h4⟩]; simp only [ifB_t, ob_some, Bool.not_true, ifB_f, if_true]; rw [show (0 : Int) = ((0 : Nat) : Int) from rfl, slI_ok (Nat.zero_le k) (by omega)]; simp only [ob_some, List.drop_zero]; rw [show ((0 : Nat) : Int) = 0 from rfl, coll_p (fun e he => hr.r_Entries e (List.mem_of_mem_take he)) (by rw [List.length_take]; omega) hF]; simp only [ob_some]; rw [pinc_p _ _ hF, show (List.map leafE (o.Entries.take k)) = valsF o k from rfl, incS_ok (by rw [hL]; omega) (by rw [hL]; omega)]; simp only [ob_some, un2, beq_self_eq_true, ifB_t]; rw [ixI_nat, eAt_get (by omega)]; rfl
      ·rw [show (h.Office == o.ID) = true from beq_iff_eq.2 h3, show (rootF (valsF o k) == h.Root) = false from beq_eq_false_iff_ne.2 fun e => h4 e.symm, show decide (h.Office = o.ID ∧ h.Root = rootF (valsF o k)) = false from decide_eq_false fun e => h4 e.2]; rfl
     ·rw [show (h.Office == o.ID) = false from beq_eq_false_iff_ne.2 h3, show decide (h.Office = o.ID ∧ h.Root = rootF (valsF o k)) = false from decide_eq_false fun e => h3 e.1]; rfl
    ·rw [show decide (0 ≤ i ∧ i ≤ (k : Int) - 1) = false from decide_eq_false h2, show decide ((k : Int) ≤ ((o.Entries.length : Nat) : Int) ∧ 0 ≤ i ∧ i < (k : Int)) = false from decide_eq_false (by omega)]; rfl
   ·rw [show decide ((k : Int) > ((o.Entries.length : Nat) : Int)) = true from decide_eq_true (by omega), show decide ((k : Int) ≤ ((o.Entries.length : Nat) : Int) ∧ 0 ≤ i ∧ i < (k : Int)) = false from decide_eq_false (by omega)]; rfl
theorem prove_r {o : KOffice} (hr : o.rng) (hl : o.Entries.length ≤ 50) {h : KHead} {i : Int} {F : Nat} (hF : 64 ≤ F) : G_regulatorref25_Prove F o h i = some (provS o h i) := by
 unfold G_regulatorref25_Prove provS; rw [valid_r hl hF]; simp only [ob_some, fH_r]; cases hv : vO o with
 | false => simp only [ifB_f, ifB_t, ob_some, Bool.false_and, Bool.false_eq_true, if_false]; rfl
 | true =>
  cases hf : fH h with
  | false => simp only [ifB_f, ifB_t, ob_some, Bool.false_and, Bool.and_false, Bool.false_eq_true, if_false]; rfl
  | true =>
   obtain ⟨s1, s2⟩ := fH_size hf; obtain ⟨k, hk⟩ : ∃ k : Nat, h.Size = k := ⟨h.Size.toNat, by omega⟩; simp only [ifB_t, ob_some, Bool.true_and, hk]; rw [hk] at s1 s2
   by_cases h1 : (k : Int) ≤ ((o.Entries.length : Nat) : Int)
   ·rw [show decide ((k : Int) > ((o.Entries.length : Nat) : Int)) = false from decide_eq_false (by omega), ifB_f]
    by_cases h2 : 0 ≤ i ∧ i ≤ (k : Int) - 1
    ·rw [show decide (i < 0) = false from decide_eq_false (by omega), show decide (i ≥ (k : Int)) = false from decide_eq_false (by omega), show decide ((k : Int) ≤ ((o.Entries.length : Nat) : Int) ∧ 0 ≤ i ∧ i < (k : Int)) = true from decide_eq_true (by omega)]; obtain ⟨j, rfl⟩ : ∃ j : Nat, i = j := ⟨i.toNat, by omega⟩; have hL : (valsF o k).length = k := valsF_len (by omega); simp only [ob_some, ifB_f]; rw [vals_r hr (by omega) (by omega) hF]; simp only [ob_some]; rw [rroot_p _ hF, rootS_ok (by rw [hL]; omega) (by rw [hL]; omega)]; simp only [un2, ob_some, Int.toNat_natCast, if_true]
     by_cases h3 : h.Office = o.ID
     ·by_cases h4 : h.Root = rootF (valsF o k)
      ·rw [show (h.Office == o.ID) = true from beq_iff_eq.2 h3, show (h.Root == rootF (valsF o k)) = true from beq_iff_eq.2 h4, show decide (h.Office = o.ID ∧ h.Root = rootF (valsF o k)) = true from decide_eq_true ⟨h3, h4⟩]; simp only [ifB_t, ob_some, Bool.not_true, ifB_f, if_true]; rw [pinc_r _ _ hF, incS_ok (by rw [hL]; omega) (by rw [hL]; omega)]; simp only [ob_some]; rw [ixI_nat, eAt_get (by omega)]; rfl
      ·rw [show (h.Office == o.ID) = true from beq_iff_eq.2 h3, show (h.Root == rootF (valsF o k)) = false from beq_eq_false_iff_ne.2 h4, show decide (h.Office = o.ID ∧ h.Root = rootF (valsF o k)) = false from decide_eq_false fun e => h4 e.2]; rfl
     ·rw [show (h.Office == o.ID) = false from beq_eq_false_iff_ne.2 h3, show decide (h.Office = o.ID ∧ h.Root = rootF (valsF o k)) = false from decide_eq_false fun e => h3 e.1]; rfl
    ·rw [show decide ((k : Int) ≤ ((o.Entries.length : Nat) : Int) ∧ 0 ≤ i ∧ i < (k : Int)) = false from decide_eq_false (by omega)]
     by_cases h5 : i < 0
     ·rw [show decide (i < 0) = true from decide_eq_true h5]; rfl
     ·rw [show decide (i < 0) = false from decide_eq_false h5, show decide (i ≥ (k : Int)) = true from decide_eq_true (by omega)]; rfl
   ·rw [show decide ((k : Int) > ((o.Entries.length : Nat) : Int)) = true from decide_eq_true (by omega), show decide ((k : Int) ≤ ((o.Entries.length : Nat) : Int) ∧ 0 ≤ i ∧ i < (k : Int)) = false from decide_eq_false (by omega)]; rfl
def chkB (pub : Int) (r : KReceipt) : Bool := pubB pub && (fH r.Head && (vI r.Entry.Stamp && decide ((0 ≤ r.Index ∧ r.Index < r.Head.Size) ∧ r.Path.length ≤ 20)))
def chkS (pub : Int) (r : KReceipt) : Bool × Int :=
 if chkB pub r then ((verS pub r.Head.Sig (msgF r.Head)).1 && inclS r.Head.Root (leafE r.Entry) r.Index r.Head.Size r.Path, 0) else (false, 1)
theorem rightS_ok {pub : Int} {h : KHead} (h1 : pubB pub = true) (h2 : fH h = true) : rightS pub h = ((verS pub h.Sig (msgF h)).1, 0) := by unfold rightS; rw [h1, h2]; rfl
theorem pincl_p (a b i n : Int) (l : List Int) (hl : l.length ≤ 100) {F : Nat} (hF : 64 ≤ F) : G_tree_Included F a b i n l = some (inclS a b i n l) := by
 obtain ⟨F', rfl⟩ : ∃ F', F = F' + 1 := ⟨F - 1, by omega⟩; exact whenG_t (decide_eq_true (by omega))
theorem pincl_r (a b i n : Int) (l : List Int) (hl : l.length ≤ 100) {F : Nat} (hF : 64 ≤ F) : G_regulatorref24_Included F a b i n l = some (inclS a b i n l) := by
 obtain ⟨F', rfl⟩ : ∃ F', F = F' + 1 := ⟨F - 1, by omega⟩; exact whenG_t (decide_eq_true hl)
theorem check_p {pub : Int} {r : KReceipt} (q1 : inKd .i64 r.Head.Office) (q2 : inKd .i64 r.Head.Size) (q3 : r.Entry.rng) {F : Nat} (hF : 64 ≤ F) : G_office_Check F pub r = some (chkS pub r) := by
 unfold G_office_Check chkS chkB; rw [pub_p pub hF]; simp only [ob_some, fH_p, logged_p]; cases hp : pubB pub with
 | false => rfl
 | true =>
  cases hf : fH r.Head with
  | false => rfl
  | true =>
   cases hv : vI r.Entry.Stamp with
   | false => rfl
   | true =>
    obtain ⟨s1, s2⟩ := fH_size hf; simp only [ifB_t, ob_some, Bool.true_and, btw_p]; rw [w64_id (n := r.Head.Size - 1) (by omega) (by omega)]
    by_cases h1 : 0 ≤ r.Index ∧ r.Index < r.Head.Size
    ·rw [show decide (0 ≤ r.Index ∧ r.Index ≤ r.Head.Size - 1) = true from decide_eq_true (by omega)]
     by_cases h2 : r.Path.length ≤ 20
     ·rw [show decide (((r.Path.length : Nat) : Int) > 20) = false from decide_eq_false (by omega), show decide ((0 ≤ r.Index ∧ r.Index < r.Head.Size) ∧ r.Path.length ≤ 20) = true from decide_eq_true ⟨h1, h2⟩]; simp only [ifB_t, ob_some, ifB_f, if_true]; rw [right_p q1 q2 hF, rightS_ok hp hf]; simp only [un2, ob_some]; rw [leaf_p q3 hF]; simp only [ob_some]; rw [pincl_p _ _ _ _ _ (by omega) hF]; cases (verS pub r.Head.Sig (msgF r.Head)).1 <;> rfl
     ·rw [show decide (((r.Path.length : Nat) : Int) > 20) = true from decide_eq_true (by omega), show decide ((0 ≤ r.Index ∧ r.Index < r.Head.Size) ∧ r.Path.length ≤ 20) = false from decide_eq_false fun e => h2 e.2]; rfl
    ·rw [show decide (0 ≤ r.Index ∧ r.Index ≤ r.Head.Size - 1) = false from decide_eq_false (by omega), show decide ((0 ≤ r.Index ∧ r.Index < r.Head.Size) ∧ r.Path.length ≤ 20) = false from decide_eq_false fun e => h1 e.1]; rfl
theorem form_r (F : Nat) (r : KReceipt) : G_regulatorref25_Receipt F r = some (fH r.Head && (vI r.Entry.Stamp && decide ((0 ≤ r.Index ∧ r.Index < r.Head.Size) ∧ r.Path.length ≤ 20))) := by
 unfold G_regulatorref25_Receipt; simp only [fH_r, vI_r, ob_some]
 by_cases h1 : 0 ≤ r.Index <;> by_cases h2 : r.Index < r.Head.Size <;> by_cases h3 : r.Path.length ≤ 20 <;> cases fH r.Head <;> cases vI r.Entry.Stamp <;> simp [ifB, h1, h2, h3] <;> omega
theorem check_r {pub : Int} {r : KReceipt} (hr : r.rng) {F : Nat} (hF : 64 ≤ F) : G_regulatorref25_Check F pub r = some (chkS pub r) := by
 unfold G_regulatorref25_Check chkS chkB; rw [pub_r pub hF]; simp only [ob_some, form_r]; cases hp : pubB pub with
 | false => rfl
 | true =>
  cases hb : (fH r.Head && (vI r.Entry.Stamp && decide ((0 ≤ r.Index ∧ r.Index < r.Head.Size) ∧ r.Path.length ≤ 20))) with
  | false => rfl
  | true =>
   have hf : fH r.Head = true := by
    cases h : fH r.Head with
    | true => rfl
    | false => rw [h, Bool.false_and] at hb; cases hb
   have hL : r.Path.length ≤ 20 := by
    simp only [Bool.and_eq_true, decide_eq_true_eq] at hb; exact hb.2.2.2
   simp only [ifB_t, ob_some, Bool.not_true, ifB_f, Bool.and_self, if_true]; rw [right_r hr.r_Head.r_Office hr.r_Head.r_Size hr.r_Head.r_Root hF, rightS_ok hp hf]; simp only [un2, ob_some]; rw [leaf_r hr.r_Entry hF]; simp only [ob_some]; rw [pincl_r _ _ _ _ _ (by omega) hF]; cases (verS pub r.Head.Sig (msgF r.Head)).1 <;> rfl
theorem sameR_refl {r : KReceipt} (hl : r.Path.length ≤ 40) {F : Nat} (hF : 64 ≤ F) : G_regulatorref25_SameReceipt F r r = some true := by
 unfold G_regulatorref25_SameReceipt; simp only [decide_true, ifB_t, beq_self_eq_true, Bool.not_true, ob_some, ifB_f]; rw [iter_all r.Path.length (fun _ => true) (.inl ()) (.inr ()) ?_ ?_ (by omega), if_pos (frB_iff.2 fun _ _ _ => rfl)]
 ·rfl
 ·rw [show decide ((r.Path.length : Int) < ((r.Path.length : Nat) : Int)) = false from decide_eq_false (by omega)]; rfl
 ·intro k hk; rw [show decide ((k : Int) < ((r.Path.length : Nat) : Int)) = true from decide_eq_true (by omega), ifB_t, ixI_get hk]; simp only [ob_some, beq_self_eq_true, ifB_t]; rw [w64_nat (by omega)]; rfl
end Go.Proofs.YtiijddjfiojfaaaGreatDoor
namespace Go.Proofs.YtiijddjfiojfaaaGreatDoor
open Go.RowKit
theorem few_eq (F : Nat) (o : KOffice) : G_regulatorref25_Few F o = some (decide (((o.Entries.length : Nat) : Int) ≤ 40)) := rfl
theorem isK_spec {k : Int} (h : isK k = true) : 1 ≤ k ∧ k < 1073741789 := of_decide_eq_true h
def pubF (k : Int) : Int := ((pw 4 k.toNat : Nat) : Int)
theorem pubF_mem (k : Int) : memB (pubF k) = true := by
 have h1 := pub_pos k.toNat; have h2 := pw_lt 4 k.toNat; exact decide_eq_true ⟨by unfold pubF; omega, by unfold pubF; omega, by unfold pubF; rw [Int.toNat_natCast]; exact pub_mem _⟩
theorem pubF_pub {k : Int} (h : isK k = true) : pubB (pubF k) = true := by
 have hk := isK_spec h; have h1 := pub_ne (k := k.toNat) (by omega) (by omega); unfold pubB; rw [pubF_mem, show (pubF k == 1) = false from beq_eq_false_iff_ne.2 (by unfold pubF; omega)]; rfl
theorem hF : 64 ≤ 300 := by decide
theorem un2_p {a b c : Type} (f : a → b → c) (p : a × b) : un2 f p = f p.1 p.2 := rfl
theorem pext (l : List Int) (i : Int) {F : Nat} (hF : 64 ≤ F) : G_tree_Extend F l i = some (extS l i) := by
 obtain ⟨F', rfl⟩ : ∃ F', F = F' + 1 := ⟨F - 1, by omega⟩; rfl
theorem pgrow (a b m n : Int) (l : List Int) (hl : l.length ≤ 1000) {F : Nat} (hF : 64 ≤ F) : G_tree_Extended F a b m n l = some (growS a b m n l) := by
 obtain ⟨F', rfl⟩ : ∃ F', F = F' + 1 := ⟨F - 1, by omega⟩; exact whenG_t (decide_eq_true hl)
end Go.Proofs.YtiijddjfiojfaaaGreatDoor
namespace Go.Proofs.YtiijddjfiojfaaaGreatDoor
open Go.RowKit
section
variable {ρ : Type}
def fdN (p : Nat → Bool) : Nat → Nat → Option Nat
 | 0, _ => none
 | m + 1, k => if p k = true then some k else fdN p m (k + 1)
theorem fdN_some {p : Nat → Bool} : ∀ {m k j : Nat}, fdN p m k = some j → (k ≤ j ∧ j < k + m) ∧ p j = true ∧ ∀ i, k ≤ i → i < j → p i = false
 | m + 1, k, j, h => by
  unfold fdN at h
  split at h
  ·next hp => cases h; exact ⟨⟨Nat.le_refl _, by omega⟩, hp, fun i h1 h2 => absurd h2 (by omega)⟩
  ·next hp =>
   obtain ⟨h1, h2, h3⟩ := fdN_some h; refine ⟨⟨by omega, by omega⟩, h2, fun i h4 h5 => ?_⟩; rcases Nat.eq_or_lt_of_le h4 with rfl | h4
   ·simpa using hp
   ·exact h3 i h4 h5
theorem iter_fd {f : Int → Option (Int ⊕ ρ)} (n : Nat) (p : Nat → Bool) (a : ρ) (b : Nat → ρ) (hn : f (n : Int) = some (.inr a)) (hk : ∀ k, k < n → f (k : Int) = some (if p k = true then .inr (b k) else .inl ((k + 1 : Nat) : Int))) {F : Nat} (hF : n < F) :
  iter f F 0 = some (match fdN p n 0 with | some k => b k | none => a) := by
 have key : ∀ (m k F : Nat), k + m = n → m < F → iter f F (k : Int) = some (match fdN p m k with | some k => b k | none => a) := by
  intro m
  induction m with
  | zero =>
   intro k F hm hF; obtain ⟨F', rfl⟩ : ∃ F', F = F' + 1 := ⟨F - 1, by omega⟩; have : k = n := by omega
   subst this; unfold iter; rw [hn]; rfl
  | succ m ih =>
   intro k F hm hF; obtain ⟨F', rfl⟩ : ∃ F', F = F' + 1 := ⟨F - 1, by omega⟩; unfold iter fdN; rw [hk k (by omega)]; cases hp : p k with
   | true => simp
   | false =>
    simp only [Bool.false_eq_true, if_false]; exact ih (k + 1) F' (by omega) (by omega)
 exact key n 0 F (by omega) hF
end
theorem pub4 : pubB 4 = true := by
 have := pubF_pub (k := 1) rfl
 rwa [show pubF 1 = 4 by unfold pubF; rw [show (1 : Int).toNat = 1 from rfl, pw_m]; rfl] at this
def digF (h : KHead) : Int := intsF (msgF h ++ [h.Sig.C, h.Sig.S])
theorem inI_dig {h : KHead} (hr : h.rng) : inI (msgF h ++ [h.Sig.C, h.Sig.S]) := inI_app (inI_msg hr.r_Office hr.r_Size) (inI_pair (inKd_i64 hr.r_Sig.r_C) (inKd_i64 hr.r_Sig.r_S))
theorem dig_p {h : KHead} (hr : h.rng) {F : Nat} (hF : 64 ≤ F) : G_cross_Digest F h = some (digF h) := by
 unfold G_cross_Digest; rw [low32 (inKd_u64 hr.r_Root).1 (inKd_u64 hr.r_Root).2]; have h := dints (inI_dig hr) (by simp [msgF]) hF; unfold msgF at h; simp only [List.cons_append, List.nil_append] at h; rw [h]; rfl
theorem dig_r {h : KHead} (hr : h.rng) {F : Nat} (hF : 64 ≤ F) : G_regulatorref26_Digest F h = some (digF h) := by
 unfold G_regulatorref26_Digest; rw [low32 (inKd_u64 hr.r_Root).1 (inKd_u64 hr.r_Root).2]; have h := rints (inI_dig hr) (by simp [msgF]) hF; unfold msgF at h; simp only [List.cons_append, List.nil_append] at h; rw [h]; rfl
theorem rightS_e {pub : Int} {h : KHead} : ((rightS pub h).2 == 0) = (pubB pub && fH h) := by
 unfold rightS; cases pubB pub && fH h <;> rfl
theorem formed_p {h : KHead} (h1 : inKd .i64 h.Office) (h2 : inKd .i64 h.Size) {F : Nat} (hF : 64 ≤ F) : G_cross_formed F h = some (fH h) := by
 unfold G_cross_formed; rw [right_p h1 h2 hF]; rw [ob_some, un2_p]; rw [rightS_e, pub4]; rfl
theorem vals_c {o : KOffice} (hr : o.rng) {n : Nat} (hn : n ≤ o.Entries.length) (hl : n ≤ 60) {F : Nat} (hF : 64 ≤ F) : G_cross_values F o (n : Int) = some (valsF o n) := by
 unfold G_cross_values; rw [show (0 : Int) = ((0 : Nat) : Int) from rfl, slI_ok (Nat.zero_le n) hn]; simp only [ob_some, List.drop_zero]; rw [show ((0 : Nat) : Int) = 0 from rfl, coll_p (fun e he => hr.r_Entries e (List.mem_of_mem_take he)) (by rw [List.length_take]; omega) hF]; rfl
def hasS (o : KOffice) (h : KHead) : Bool := decide (h.Office = o.ID) && (decide (h.Size ≤ (o.Entries.length : Int)) && decide (rootF (valsF o h.Size.toNat) = h.Root))
theorem pRoot (l : List Int) {F : Nat} (hF : 64 ≤ F) : G_tree_Root F l = some (rootS l) := by
 obtain ⟨F', rfl⟩ : ∃ F', F = F' + 1 := ⟨F - 1, by omega⟩; rfl
theorem has_p {o : KOffice} (hr : o.rng) (hl : o.Entries.length ≤ 50) {h : KHead} (h1 : 1 ≤ h.Size) {F : Nat} (hF : 64 ≤ F) : G_cross_has F o h = some (hasS o h) := by
 unfold G_cross_has hasS
 by_cases ho : h.Office = o.ID
 ·rw [show (h.Office == o.ID) = true from beq_iff_eq.2 ho, show decide (h.Office = o.ID) = true from decide_eq_true ho]; obtain ⟨k, hk⟩ : ∃ k : Nat, h.Size = k := ⟨h.Size.toNat, by omega⟩; simp only [ifB_t, ob_some, hk]; rw [hk] at h1
  by_cases hs : (k : Int) ≤ ((o.Entries.length : Nat) : Int)
  ·rw [show decide ((k : Int) > ((o.Entries.length : Nat) : Int)) = false from decide_eq_false (by omega), show decide ((k : Int) ≤ ((o.Entries.length : Nat) : Int)) = true from decide_eq_true hs, ifB_f, vals_c hr (by omega) (by omega) hF]; have hL : (valsF o k).length = k := valsF_len (by omega); simp only [ob_some]; rw [pRoot _ hF, rootS_ok (by rw [hL]; omega) (by rw [hL]; omega)]; simp only [un2, ob_some, beq_self_eq_true, ifB_t, Int.toNat_natCast, Bool.true_and]; rfl
  ·rw [show decide ((k : Int) > ((o.Entries.length : Nat) : Int)) = true from decide_eq_true (by omega), show decide ((k : Int) ≤ ((o.Entries.length : Nat) : Int)) = false from decide_eq_false hs]; rfl
 ·rw [show (h.Office == o.ID) = false from beq_eq_false_iff_ne.2 ho, show decide (h.Office = o.ID) = false from decide_eq_false ho]; rfl
def zH : KHop := ⟨⟨0, 0, 0, ⟨0, 0⟩⟩, [], zR⟩
def fndS (l : List KEntry) (n : Nat) (d : Int) : Option Nat := fdN (fun k => (eAt l k).Doc == d) n 0
def witC (a : KOffice) (f o : KHead) (b : KOffice) (h : KHead) : Bool := vO a && (vO b && (fH f && (fH o && (fH h && (!(a.ID == b.ID) && !decide (f.Size > o.Size))))))
def witS (a : KOffice) (f o : KHead) (b : KOffice) (h : KHead) : KHop × Int :=
 if witC a f o b h then
  (if hasS a f && (hasS a o && hasS b h) then
   (match fndS b.Entries h.Size.toNat (digF o) with
   | none => (zH, 4)
   | some i => (⟨o, extF (valsF a o.Size.toNat) f.Size.toNat true, ⟨h, i, eAt b.Entries i, inclF (valsF b h.Size.toNat) i⟩⟩, 0))
  else (zH, 33))
 else (zH, 1)
theorem hasS_spec {o : KOffice} {h : KHead} (hh : hasS o h = true) : h.Office = o.ID ∧ h.Size ≤ (o.Entries.length : Int) ∧ rootF (valsF o h.Size.toNat) = h.Root := by
 simp only [hasS, Bool.and_eq_true, decide_eq_true_eq] at hh; exact hh
theorem provS_has {o : KOffice} {h : KHead} {i : Nat} (hv : vO o = true) (hf : fH h = true) (hh : hasS o h = true) (hi : (i : Int) < h.Size) : provS o h i = (⟨h, i, eAt o.Entries i, inclF (valsF o h.Size.toNat) i⟩, 0) := by
 obtain ⟨h1, h2, h3⟩ := hasS_spec hh; unfold provS; rw [hv, hf, show decide (h.Size ≤ ((o.Entries.length : Nat) : Int) ∧ 0 ≤ (i : Int) ∧ (i : Int) < h.Size) = true from decide_eq_true ⟨h2, by omega, hi⟩, show decide (h.Office = o.ID ∧ h.Root = rootF (valsF o h.Size.toNat)) = true from decide_eq_true ⟨h1, h3.symm⟩]; rfl
theorem wit_p {a b : KOffice} (ha : a.rng) (hb : b.rng) (la : a.Entries.length ≤ 50) (lb : b.Entries.length ≤ 50) {f o h : KHead} (hf : f.rng) (ho : o.rng) (hh : h.rng) {F : Nat} (hF : 64 ≤ F) : G_cross_Witness F a f o b h = some (witS a f o b h) := by
 unfold G_cross_Witness witS witC; rw [valid_p la hF, valid_p lb hF, formed_p hf.r_Office hf.r_Size hF, formed_p ho.r_Office ho.r_Size hF, formed_p hh.r_Office hh.r_Size hF]; simp only [ob_some]; cases h1 : vO a with
 | false => rfl
 | true =>
 cases h2 : vO b with
 | false => rfl
 | true =>
 cases h3 : fH f with
 | false => rfl
 | true =>
 cases h4 : fH o with
 | false => rfl
 | true =>
 cases h5 : fH h with
 | false => rfl
 | true =>
 cases h6 : (a.ID == b.ID) with
 | true => rfl
 | false =>
 cases h7 : decide (f.Size > o.Size) with
 | true => rfl
 | false =>
  simp only [ifB_t, ifB_f, ob_some, Bool.true_and, Bool.not_false, if_true]; obtain ⟨s1, s2⟩ := fH_size h3; obtain ⟨t1, t2⟩ := fH_size h4; obtain ⟨u1, u2⟩ := fH_size h5; rw [has_p ha la s1 hF, has_p ha la t1 hF, has_p hb lb u1 hF]; simp only [ob_some]; cases h8 : hasS a f with
  | false => rfl
  | true =>
  cases h9 : hasS a o with
  | false => rfl
  | true =>
  cases h10 : hasS b h with
  | false => rfl
  | true =>
   simp only [ifB_t, ifB_f, ob_some, Bool.not_true, Bool.and_self, if_true]; obtain ⟨_, q1, _⟩ := hasS_spec h10; obtain ⟨_, q2, _⟩ := hasS_spec h9; obtain ⟨k, hk⟩ : ∃ k : Nat, h.Size = k := ⟨h.Size.toNat, by omega⟩; obtain ⟨n, hn⟩ : ∃ n : Nat, o.Size = n := ⟨o.Size.toNat, by omega⟩; obtain ⟨m, hm⟩ : ∃ m : Nat, f.Size = m := ⟨f.Size.toNat, by omega⟩; have h7' := of_decide_eq_false h7; rw [dig_p ho hF]; simp only [ob_some]; have hrec : ∀ i : Nat, i < k → G_office_Prove F b h i = some (⟨h, i, eAt b.Entries i, inclF (valsF b k) i⟩, 0) := fun i hi => by
    have := provS_has (i := i) h2 h5 h10 (by omega); rw [prove_p hb lb hF, this, hk]; rfl
   rw [hk] at q1 u1; rw [hn] at q2 t1; rw [hk, show (0 : Int) = ((0 : Nat) : Int) from rfl, slI_ok (Nat.zero_le k) (by omega)]; simp only [ob_some, List.drop_zero, Int.toNat_natCast]; have hlen : (b.Entries.take k).length = k := by rw [List.length_take]; omega
   rw [show ((0 : Nat) : Int) = 0 from rfl, iter_fd k (fun j => (eAt b.Entries j).Doc == digF o) (.inl ()) (fun j => .inr (j : Int)) ?_ ?_ (by omega)]
   ·show _ = some (match fndS b.Entries k (digF o) with | none => _ | some i => _)
    unfold fndS; cases hfd : fdN (fun j => (eAt b.Entries j).Doc == digF o) k 0 with
    | none => rfl
    | some i =>
     obtain ⟨⟨_, hi⟩, _⟩ := fdN_some hfd; simp only [ob_some, Sum.elim_inr]; rw [show decide ((i : Int) < 0) = false from decide_eq_false (by omega), ifB_f, hn, vals_c ha (by omega) (by omega) hF]; simp only [ob_some]; have hL : (valsF a n).length = n := valsF_len (by omega); rw [hm] at h7' s1 ⊢; rw [hn] at h7'; rw [pext _ _ hF, extS_ok (by omega) (by rw [hL]; omega) (by rw [hL]; omega), hrec i (by omega)]; rfl
   ·rw [hlen, show decide ((k : Int) < ((k : Nat) : Int)) = false from decide_eq_false (by omega)]; rfl
   ·intro j hj; rw [hlen, show decide ((j : Int) < ((k : Nat) : Int)) = true from decide_eq_true (by omega), ifB_t, ixI_nat, List.getElem?_take, if_pos hj, eAt_get (by omega)]; simp only [ob_some]; rw [w64_nat (by omega)]; cases (eAt b.Entries j).Doc == digF o <;> rfl
def kAt (l : List Int) (k : Nat) : Int := l.getD k 0
theorem kAt_get {l : List Int} {k : Nat} (h : k < l.length) : l[k]? = some (kAt l k) := by
 unfold kAt; rw [List.getD_eq_getElem?_getD, List.getElem?_eq_getElem h]; rfl
def sgnS (l : List Int) (h : KHead) : Bool := decide (1 ≤ h.Office ∧ h.Office ≤ (l.length : Int)) && (!(kAt l (h.Office - 1).toNat == 0) && (rightS (kAt l (h.Office - 1).toNat) h).1)
theorem sgn_p {l : List Int} {h : KHead} (h1 : inKd .i64 h.Office) (h2 : inKd .i64 h.Size) {F : Nat} (hF : 64 ≤ F) : G_cross_keyring_signed F l h = some (sgnS l h) := by
 unfold G_cross_keyring_signed sgnS
 by_cases ho : 1 ≤ h.Office
 ·by_cases hl : h.Office ≤ (l.length : Int)
  ·rw [show decide (h.Office < 1) = false from decide_eq_false (by omega), show decide (h.Office > ((l.length : Nat) : Int)) = false from decide_eq_false (by omega), show decide (1 ≤ h.Office ∧ h.Office ≤ (l.length : Int)) = true from decide_eq_true ⟨ho, hl⟩]; have hi := inKd_i64 h1; rw [w64_id (n := h.Office - 1) (by omega) (by omega), show h.Office - 1 = (((h.Office - 1).toNat : Nat) : Int) by omega, ixI_nat, kAt_get (by omega)]; simp only [ifB_f, ob_some, Int.toNat_natCast, Bool.true_and]; cases (kAt l (h.Office - 1).toNat == 0) with
   | true => rfl
   | false =>
    rw [right_p h1 h2 hF]; rfl
  ·rw [show decide (h.Office < 1) = false from decide_eq_false (by omega), show decide (h.Office > ((l.length : Nat) : Int)) = true from decide_eq_true (by omega), show decide (1 ≤ h.Office ∧ h.Office ≤ (l.length : Int)) = false from decide_eq_false fun e => hl e.2]; rfl
 ·rw [show decide (h.Office < 1) = true from decide_eq_true (by omega), show decide (1 ≤ h.Office ∧ h.Office ≤ (l.length : Int)) = false from decide_eq_false fun e => ho e.1]; rfl
def okK (k : Int) : Bool := (k == 0) || pubB k
def rgtS (l : List Int) : Bool := decide (l.length ≤ 16) && frB (fun j => okK (kAt l j)) l.length 0
theorem bad_p (k : Int) {F : Nat} (hF : 64 ≤ F) : G_cross_keyring_right_1 F k = some (!okK k) := by
 unfold G_cross_keyring_right_1 okK; rw [right_p (inKd_w (by decide) (by decide)) (inKd_w (by decide) (by decide)) hF]; rw [ob_some, un2_p]; rw [rightS_e, show fH ⟨1, 1, 0, ⟨0, 0⟩⟩ = true from rfl]; cases (k == 0) <;> cases pubB k <;> rfl
theorem fd_fr {p : Nat → Bool} : ∀ {m k : Nat}, frB p m k = (fdN (fun j => !p j) m k).isNone
 | 0, _ => rfl
 | m + 1, k => by
  unfold frB fdN; cases p k with
  | true => simp [fd_fr]
  | false => simp
theorem rgt_p {l : List Int} (hl : l.length ≤ 40) {F : Nat} (hF : 64 ≤ F) : G_cross_keyring_right F l = some (rgtS l) := by
 unfold G_cross_keyring_right rgtS
 by_cases h16 : l.length ≤ 16
 ·rw [show decide (((l.length : Nat) : Int) ≤ 16) = true from decide_eq_true (by omega), show decide (l.length ≤ 16) = true from decide_eq_true h16, ifB_t]; rw [iter_fd l.length (fun j => !okK (kAt l j)) (.inl ()) (fun j => .inr (j : Int)) ?_ ?_ (by omega)]
  ·rw [fd_fr]; cases hfd : fdN (fun j => !okK (kAt l j)) l.length 0 with
   | none => rfl
   | some i =>
    simp only [ob_some, Sum.elim_inr]; rw [show decide ((i : Int) ≥ 0) = true from decide_eq_true (by omega)]; rfl
  ·rw [show decide ((l.length : Int) < ((l.length : Nat) : Int)) = false from decide_eq_false (by omega)]; rfl
  ·intro j hj; rw [show decide ((j : Int) < ((l.length : Nat) : Int)) = true from decide_eq_true (by omega), ifB_t, ixI_nat, kAt_get hj]; simp only [ob_some]; rw [bad_p _ hF, w64_nat (by omega)]; cases okK (kAt l j) <;> rfl
 ·rw [show decide (((l.length : Nat) : Int) ≤ 16) = false from decide_eq_false (by omega), show decide (l.length ≤ 16) = false from decide_eq_false h16]; rfl
def recB (r : KReceipt) : Bool := fH r.Head && (vI r.Entry.Stamp && decide ((0 ≤ r.Index ∧ r.Index < r.Head.Size) ∧ r.Path.length ≤ 20))
theorem chkS_e {pub : Int} {r : KReceipt} : ((chkS pub r).2 == 0) = (pubB pub && recB r) := by
 unfold chkS chkB recB; cases pubB pub && (fH r.Head && (vI r.Entry.Stamp && decide ((0 ≤ r.Index ∧ r.Index < r.Head.Size) ∧ r.Path.length ≤ 20))) <;> rfl
def hopC (l : List Int) (f : KHead) (h : KHop) : Bool := recB h.By && (rgtS l && (fH f && (fH h.Of && decide (h.Grow.length ≤ 20))))
def hopB (l : List Int) (f : KHead) (h : KHop) : Bool :=
 (sgnS l f && (sgnS l h.Of && sgnS l h.By.Head)) && ((decide (h.Of.Office = f.Office) && !(h.By.Head.Office == f.Office)) && (growS f.Root h.Of.Root f.Size h.Of.Size h.Grow && ((h.By.Entry.Doc == digF h.Of) && inclS h.By.Head.Root (leafE h.By.Entry) h.By.Index h.By.Head.Size h.By.Path)))
def hopS (l : List Int) (f : KHead) (h : KHop) : Bool × Int := if hopC l f h then (hopB l f h, 0) else (false, 1)
theorem hop_p {l : List Int} {f : KHead} {h : KHop} (hl : l.length ≤ 40) (hf : f.rng) (ho : h.Of.rng) (hb : h.By.Head.rng) (he : h.By.Entry.rng) {F : Nat} (hF : 64 ≤ F) : G_cross_Check F l f h = some (hopS l f h) := by
 unfold G_cross_Check hopS hopC; rw [check_p hb.r_Office hb.r_Size he hF]; rw [ob_some, un2_p]; rw [chkS_e, pub4, Bool.true_and]; cases h1 : recB h.By with
 | false => rfl
 | true =>
 rw [ifB_t, rgt_p hl hF, formed_p hf.r_Office hf.r_Size hF, formed_p ho.r_Office ho.r_Size hF]; simp only [ob_some]; cases h2 : rgtS l with
 | false => rfl
 | true =>
 cases h3 : fH f with
 | false => rfl
 | true =>
 cases h4 : fH h.Of with
 | false => rfl
 | true =>
 by_cases h5 : h.Grow.length ≤ 20
 ·rw [show decide (((h.Grow.length : Nat) : Int) > 20) = false from decide_eq_false (by omega), show decide (h.Grow.length ≤ 20) = true from decide_eq_true h5]; simp only [ifB_t, ifB_f, ob_some, Bool.and_self, if_true]; unfold hopB; rw [sgn_p hf.r_Office hf.r_Size hF, sgn_p ho.r_Office ho.r_Size hF, sgn_p hb.r_Office hb.r_Size hF]; simp only [ob_some]; cases h6 : sgnS l f with
  | false => rfl
  | true =>
  cases h7 : sgnS l h.Of with
  | false => rfl
  | true =>
  cases h8 : sgnS l h.By.Head with
  | false => rfl
  | true =>
  by_cases h9 : h.Of.Office = f.Office
  ·cases h10 : (h.By.Head.Office == f.Office) with
   | true => rw [show (h.Of.Office == f.Office) = true from beq_iff_eq.2 h9, show decide (h.Of.Office = f.Office) = true from decide_eq_true h9]; rfl
   | false =>
    rw [show (h.Of.Office == f.Office) = true from beq_iff_eq.2 h9, show decide (h.Of.Office = f.Office) = true from decide_eq_true h9]; simp only [ifB_t, ob_some, Bool.not_false, Bool.and_self, Bool.true_and]; rw [pgrow _ _ _ _ _ (by omega) hF]; simp only [ob_some]; cases growS f.Root h.Of.Root f.Size h.Of.Size h.Grow with
    | false => rfl
    | true =>
     simp only [ifB_t, ob_some, Bool.true_and]; rw [dig_p ho hF]; simp only [ob_some]; cases (h.By.Entry.Doc == digF h.Of) with
     | false => rfl
     | true =>
      have h8' := h8; simp only [sgnS, Bool.and_eq_true, decide_eq_true_eq] at h8'; obtain ⟨⟨o1, o2⟩, _, o4⟩ := h8'; have hi := inKd_i64 hb.r_Office; rw [ifB_t, w64_id (n := h.By.Head.Office - 1) (by omega) (by omega), show h.By.Head.Office - 1 = (((h.By.Head.Office - 1).toNat : Nat) : Int) by omega, ixI_nat, kAt_get (by omega)]; simp only [ob_some]; rw [check_p hb.r_Office hb.r_Size he hF]; rw [ob_some, un2_p]; have hpub : pubB (kAt l (h.By.Head.Office - 1).toNat) = true ∧ (verS (kAt l (h.By.Head.Office - 1).toNat) h.By.Head.Sig (msgF h.By.Head)).1 = true := by
       unfold rightS at o4
       split at o4
       ·next hc => simp only [Bool.and_eq_true] at hc; exact ⟨hc.1, o4⟩
       ·cases o4
      have hch : chkS (kAt l (h.By.Head.Office - 1).toNat) h.By = ((verS (kAt l (h.By.Head.Office - 1).toNat) h.By.Head.Sig (msgF h.By.Head)).1 && inclS h.By.Head.Root (leafE h.By.Entry) h.By.Index h.By.Head.Size h.By.Path, 0) := by
       unfold chkS chkB; rw [hpub.1]; unfold recB at h1; rw [h1]; rfl
      rw [hch, hpub.2]; simp only [Bool.true_and]; cases inclS h.By.Head.Root (leafE h.By.Entry) h.By.Index h.By.Head.Size h.By.Path <;> rfl
  ·rw [show (h.Of.Office == f.Office) = false from beq_eq_false_iff_ne.2 h9, show decide (h.Of.Office = f.Office) = false from decide_eq_false h9]; rfl
 ·rw [show decide (((h.Grow.length : Nat) : Int) > 20) = true from decide_eq_true (by omega), show decide (h.Grow.length ≤ 20) = false from decide_eq_false h5]; rfl
def frkS (pub : Int) (a b : KHead) (path : List Int) : Bool × Int :=
  if pubB pub && (fH a && (fH b && decide (path.length ≤ 21))) then
    (if (rightS pub a).1 && ((rightS pub b).1 && (decide (a.Office = b.Office) && !decide (a.Size > b.Size))) then
      (if a.Size = b.Size then (decide (path.length = 0) && !(a.Root == b.Root), 0)
       else match path with
        | [] => (false, 0)
        | x :: l => (if x == a.Root then (false, 0) else (growS x b.Root a.Size b.Size l, 0)))
    else (false, 0))
  else (false, 1)
theorem frk_p {pub : Int} {a b : KHead} {path : List Int} (ha : a.rng) (hb : b.rng) {F : Nat} (hF : 64 ≤ F) : G_cross_Forks F pub a b path = some (frkS pub a b path) := by
 unfold G_cross_Forks frkS; rw [right_p ha.r_Office ha.r_Size hF, right_p hb.r_Office hb.r_Size hF, ob_some, un2_p, ob_some, un2_p]; rw [rightS_e, rightS_e]; cases h1 : pubB pub with
 | false => rfl
 | true =>
 cases h2 : fH a with
 | false => rfl
 | true =>
 cases h3 : fH b with
 | false => rfl
 | true =>
 by_cases h4 : path.length ≤ 21
 ·rw [show decide (((path.length : Nat) : Int) > 21) = false from decide_eq_false (by omega), show decide (path.length ≤ 21) = true from decide_eq_true h4]; simp only [ifB_t, ifB_f, ob_some, Bool.and_self, if_true]; cases (rightS pub a).1 with
  | false => rfl
  | true =>
  cases (rightS pub b).1 with
  | false => rfl
  | true =>
  by_cases h5 : a.Office = b.Office
  ·rw [show (a.Office == b.Office) = true from beq_iff_eq.2 h5, show decide (a.Office = b.Office) = true from decide_eq_true h5]; cases decide (a.Size > b.Size) with
   | true => rfl
   | false =>
    simp only [ifB_t, ifB_f, ob_some, Bool.not_false, Bool.and_self, if_true]
    by_cases h6 : a.Size = b.Size
    ·rw [show (a.Size == b.Size) = true from beq_iff_eq.2 h6, if_pos h6, ifB_t]; cases path with
     | nil => rfl
     | cons x l => rfl
    ·rw [show (a.Size == b.Size) = false from beq_eq_false_iff_ne.2 h6, if_neg h6, ifB_f]; cases path with
     | nil => rfl
     | cons x l =>
      rw [show ((((x :: l).length : Nat) : Int) == 0) = false from beq_eq_false_iff_ne.2 (by simp only [List.length_cons]; omega)]; rw [show ixI (x :: l) 0 = some x from rfl]; simp only [ifB_f, ob_some]; cases (x == a.Root) with
      | true => rfl
      | false =>
       simp only [List.length_cons] at h4; simp only [ifB_f, ob_some, Bool.false_eq_true, if_false]; rw [show slI (x :: l) 1 (((x :: l).length : Nat) : Int) = some l from by
        rw [show (1 : Int) = ((1 : Nat) : Int) from rfl, slI_ok (by simp) (Nat.le_refl _)]
        simp]
       simp only [ob_some]; rw [pgrow _ _ _ _ _ (by omega) hF]; rfl
  ·rw [show (a.Office == b.Office) = false from beq_eq_false_iff_ne.2 h5, show decide (a.Office = b.Office) = false from decide_eq_false h5]; rfl
 ·rw [show decide (((path.length : Nat) : Int) > 21) = true from decide_eq_true (by omega), show decide (path.length ≤ 21) = false from decide_eq_false h4]; rfl
end Go.Proofs.YtiijddjfiojfaaaGreatDoor
namespace Go.Proofs.YtiijddjfiojfaaaGreatDoor
open Go.RowKit
theorem few2 (F : Nat) (a b : KOffice) : G_regulatorlaw26_few F a b = some (decide (a.Entries.length ≤ 40) && decide (b.Entries.length ≤ 40)) := by
 unfold G_regulatorlaw26_few; rw [few_eq, few_eq, show decide (((a.Entries.length : Nat) : Int) ≤ 40) = decide (a.Entries.length ≤ 40) from decide_eq_decide.2 (by omega), show decide (((b.Entries.length : Nat) : Int) ≤ 40) = decide (b.Entries.length ≤ 40) from decide_eq_decide.2 (by omega)]; cases decide (a.Entries.length ≤ 40) <;> cases decide (b.Entries.length ≤ 40) <;> rfl
theorem head26 : G_regulatorlaw26_head 300 = some true := by kernel_rfl
end Go.Proofs.YtiijddjfiojfaaaGreatDoor
namespace Go.Proofs.YtiijddjfiojfaaaGreatDoor
open Go.RowKit
end Go.Proofs.YtiijddjfiojfaaaGreatDoor
namespace Go.Proofs.YtiijddjfiojfaaaGreatDoor
open Go.RowKit
theorem of_r {o : KOffice} (hr : o.rng) (hl : o.Entries.length ≤ 50) {h : KHead} (h1 : 1 ≤ h.Size) {F : Nat} (hF : 64 ≤ F) : G_regulatorref26_of F o h = some (hasS o h) := by
 unfold G_regulatorref26_of hasS
 by_cases ho : h.Office = o.ID
 ·rw [show (h.Office == o.ID) = true from beq_iff_eq.2 ho, show decide (h.Office = o.ID) = true from decide_eq_true ho]; obtain ⟨k, hk⟩ : ∃ k : Nat, h.Size = k := ⟨h.Size.toNat, by omega⟩; simp only [ifB_t, ob_some, hk]; rw [hk] at h1
  by_cases hs : (k : Int) ≤ ((o.Entries.length : Nat) : Int)
  ·rw [show decide ((k : Int) > ((o.Entries.length : Nat) : Int)) = false from decide_eq_false (by omega), show decide ((k : Int) ≤ ((o.Entries.length : Nat) : Int)) = true from decide_eq_true hs, ifB_f, vals_r hr (by omega) (by omega) hF]; have hL : (valsF o k).length = k := valsF_len (by omega); simp only [ob_some]; rw [rroot_p _ hF, rootS_ok (by rw [hL]; omega) (by rw [hL]; omega)]; simp only [un2, ob_some, Int.toNat_natCast, Bool.true_and]; rfl
  ·rw [show decide ((k : Int) > ((o.Entries.length : Nat) : Int)) = true from decide_eq_true (by omega), show decide ((k : Int) ≤ ((o.Entries.length : Nat) : Int)) = false from decide_eq_false hs]; rfl
 ·rw [show (h.Office == o.ID) = false from beq_eq_false_iff_ne.2 ho, show decide (h.Office = o.ID) = false from decide_eq_false ho]; rfl
theorem rext (l : List Int) (i : Int) {F : Nat} (hF : 64 ≤ F) : G_regulatorref24_Extend F l i = some (extS l i) := by
 obtain ⟨F', rfl⟩ : ∃ F', F = F' + 1 := ⟨F - 1, by omega⟩; rfl
theorem rgrow (a b m n : Int) (l : List Int) (hl : l.length ≤ 100) {F : Nat} (hF : 64 ≤ F) : G_regulatorref24_Extended F a b m n l = some (growS a b m n l) := by
 obtain ⟨F', rfl⟩ : ∃ F', F = F' + 1 := ⟨F - 1, by omega⟩; exact whenG_t (decide_eq_true (by omega))
theorem wit_r {a b : KOffice} (ha : a.rng) (hb : b.rng) (la : a.Entries.length ≤ 50) (lb : b.Entries.length ≤ 50) {f o h : KHead} (hf : f.rng) (ho : o.rng) (hh : h.rng) {F : Nat} (hF : 64 ≤ F) : G_regulatorref26_Witness F a f o b h = some (witS a f o b h) := by
 unfold G_regulatorref26_Witness witS witC; rw [valid_r la hF, valid_r lb hF, fH_r, fH_r, fH_r]; simp only [ob_some]; cases h1 : vO a with
 | false => rfl
 | true =>
 cases h2 : vO b with
 | false => rfl
 | true =>
 cases h3 : fH f with
 | false => rfl
 | true =>
 cases h4 : fH o with
 | false => rfl
 | true =>
 cases h5 : fH h with
 | false => rfl
 | true =>
 cases h6 : (a.ID == b.ID) with
 | true => rfl
 | false =>
 cases h7 : decide (f.Size > o.Size) with
 | true => rfl
 | false =>
  simp only [ifB_t, ifB_f, ob_some, Bool.true_and, Bool.not_false, if_true]; obtain ⟨s1, s2⟩ := fH_size h3; obtain ⟨t1, t2⟩ := fH_size h4; obtain ⟨u1, u2⟩ := fH_size h5; rw [of_r ha la s1 hF, of_r ha la t1 hF, of_r hb lb u1 hF]; simp only [ob_some]; cases h8 : hasS a f with
  | false => rfl
  | true =>
  cases h9 : hasS a o with
  | false => rfl
  | true =>
  cases h10 : hasS b h with
  | false => rfl
  | true =>
   simp only [ifB_t, ifB_f, ob_some, Bool.not_true, Bool.and_self, if_true]; obtain ⟨_, q1, _⟩ := hasS_spec h10; obtain ⟨_, q2, _⟩ := hasS_spec h9; obtain ⟨k, hk⟩ : ∃ k : Nat, h.Size = k := ⟨h.Size.toNat, by omega⟩; obtain ⟨n, hn⟩ : ∃ n : Nat, o.Size = n := ⟨o.Size.toNat, by omega⟩; obtain ⟨m, hm⟩ : ∃ m : Nat, f.Size = m := ⟨f.Size.toNat, by omega⟩; have h7' := of_decide_eq_false h7; rw [dig_r ho hF]; simp only [ob_some]; have hrec : ∀ i : Nat, i < k → G_regulatorref25_Prove F b h i = some (⟨h, i, eAt b.Entries i, inclF (valsF b k) i⟩, 0) := fun i hi => by
    have := provS_has (i := i) h2 h5 h10 (by omega); rw [prove_r hb lb hF, this, hk]; rfl
   rw [hk] at q1 u1; rw [hn] at q2 t1; rw [hk, hn, hm]; simp only [Int.toNat_natCast]; rw [hm, hn] at h7'; have hL : (valsF a n).length = n := valsF_len (by omega); rw [iter_fd k (fun j => (eAt b.Entries j).Doc == digF o) (.inl ()) (fun j => .inr (⟨o, extF (valsF a n) m true, ⟨h, j, eAt b.Entries j, inclF (valsF b k) j⟩⟩ : KHop)) ?_ ?_ (by omega)]
   ·show _ = some (match fndS b.Entries k (digF o) with | none => _ | some i => _)
    unfold fndS; cases hfd : fdN (fun j => (eAt b.Entries j).Doc == digF o) k 0 with
    | none => rfl
    | some i => rfl
   ·rw [show decide ((k : Int) < ((k : Nat) : Int)) = false from decide_eq_false (by omega)]; rfl
   ·intro j hj; rw [show decide ((j : Int) < ((k : Nat) : Int)) = true from decide_eq_true (by omega), ifB_t, ixI_nat, eAt_get (by omega)]; simp only [ob_some]; rw [w64_nat (by omega), hrec j hj, vals_r ha (by omega) (by omega) hF]; simp only [ob_some]; rw [rext _ _ hF, extS_ok (by omega) (by rw [hL]; omega) (by rw [hL]; omega)]; cases (eAt b.Entries j).Doc == digF o <;> rfl
theorem pubs_r {l : List Int} (hl : l.length ≤ 40) {F : Nat} (hF : 64 ≤ F) : G_regulatorref26_Pubs F l = some (rgtS l) := by
 unfold G_regulatorref26_Pubs rgtS; rw [iter_all l.length (fun j => okK (kAt l j)) (.inl ()) (.inr ()) ?_ ?_ (by omega)]
 ·rw [show decide (((l.length : Nat) : Int) ≤ 16) = decide (l.length ≤ 16) from decide_eq_decide.2 (by omega)]; cases frB (fun j => okK (kAt l j)) l.length 0 <;> cases decide (l.length ≤ 16) <;> rfl
 ·rw [show decide ((l.length : Int) < ((l.length : Nat) : Int)) = false from decide_eq_false (by omega)]; rfl
 ·intro j hj; rw [show decide ((j : Int) < ((l.length : Nat) : Int)) = true from decide_eq_true (by omega), ifB_t, ixI_nat, kAt_get hj]; simp only [ob_some]; rw [pub_r _ hF, w64_nat (by omega)]; unfold okK; cases (kAt l j == 0) <;> cases pubB (kAt l j) <;> rfl
theorem sgn_r {l : List Int} {h : KHead} (hh : h.rng) (h1 : 1 ≤ h.Office) {F : Nat} (hF : 64 ≤ F) : G_regulatorref26_Right F l h = some (sgnS l h) := by
 unfold G_regulatorref26_Right sgnS
 by_cases hl : h.Office ≤ (l.length : Int)
 ·rw [show decide (h.Office > ((l.length : Nat) : Int)) = false from decide_eq_false (by omega), show decide (1 ≤ h.Office ∧ h.Office ≤ (l.length : Int)) = true from decide_eq_true ⟨h1, hl⟩]; have hi := inKd_i64 hh.r_Office; rw [w64_id (n := h.Office - 1) (by omega) (by omega), show h.Office - 1 = (((h.Office - 1).toNat : Nat) : Int) by omega, ixI_nat, kAt_get (by omega)]; simp only [ifB_f, ob_some, Int.toNat_natCast, Bool.true_and]; cases (kAt l (h.Office - 1).toNat == 0) with
  | true => rfl
  | false =>
   rw [right_r hh.r_Office hh.r_Size hh.r_Root hF]; rfl
 ·rw [show decide (h.Office > ((l.length : Nat) : Int)) = true from decide_eq_true (by omega), show decide (1 ≤ h.Office ∧ h.Office ≤ (l.length : Int)) = false from decide_eq_false fun e => hl e.2]; rfl
theorem fH_off {h : KHead} (hh : fH h = true) : 1 ≤ h.Office := (of_decide_eq_true hh).1.1
theorem growS_no {a b m n : Int} {l : List Int} (h : n < m) : growS a b m n l = false := by
 unfold growS; rw [if_pos (by omega)]
theorem hop_r {l : List Int} {f : KHead} {h : KHop} (hl : l.length ≤ 40) (hf : f.rng) (ho : h.Of.rng) (hb : h.By.rng) {F : Nat} (hF : 64 ≤ F) : G_regulatorref26_Check F l f h = some (hopS l f h) := by
 unfold G_regulatorref26_Check hopS hopC; have hhop : G_regulatorref26_Hop F h = some (fH h.Of && (recB h.By && decide (h.Grow.length ≤ 20))) := by
  unfold G_regulatorref26_Hop; rw [fH_r, form_r, show decide (((h.Grow.length : Nat) : Int) ≤ 20) = decide (h.Grow.length ≤ 20) from decide_eq_decide.2 (by omega)]; simp only [ob_some]; rw [show (fH h.By.Head && (vI h.By.Entry.Stamp && decide ((0 ≤ h.By.Index ∧ h.By.Index < h.By.Head.Size) ∧ h.By.Path.length ≤ 20))) = recB h.By from rfl]; cases fH h.Of <;> cases recB h.By <;> cases decide (h.Grow.length ≤ 20) <;> rfl
 rw [pubs_r hl hF, fH_r, hhop]; simp only [ob_some]; cases h2 : rgtS l with
 | false => cases recB h.By <;> rfl
 | true =>
 cases h3 : fH f with
 | false => cases recB h.By <;> rfl
 | true =>
 cases h4 : fH h.Of with
 | false => cases recB h.By <;> rfl
 | true =>
 cases h1 : recB h.By with
 | false => rfl
 | true =>
 by_cases h5 : h.Grow.length ≤ 20
 ·rw [show decide (h.Grow.length ≤ 20) = true from decide_eq_true h5]; simp only [ifB_t, ifB_f, ob_some, Bool.and_self, if_true, Bool.not_true]; have hbh : fH h.By.Head = true := by simp only [recB, Bool.and_eq_true] at h1; exact h1.1
  unfold hopB; rw [sgn_r hf (fH_off h3) hF, sgn_r ho (fH_off h4) hF, sgn_r hb.r_Head (fH_off hbh) hF]; simp only [ob_some]; cases h6 : sgnS l f with
  | false => rfl
  | true =>
  cases h7 : sgnS l h.Of with
  | false => rfl
  | true =>
  cases h8 : sgnS l h.By.Head with
  | false => rfl
  | true =>
  by_cases h9 : h.Of.Office = f.Office
  ·rw [show (h.Of.Office == f.Office) = true from beq_iff_eq.2 h9, show decide (h.Of.Office = f.Office) = true from decide_eq_true h9, h9]
   by_cases hsz : h.Of.Size < f.Size
   ·rw [show decide (h.Of.Size < f.Size) = true from decide_eq_true hsz, growS_no hsz]; cases (h.By.Head.Office == f.Office) <;> rfl
   ·rw [show decide (h.Of.Size < f.Size) = false from decide_eq_false hsz]; cases h10 : (h.By.Head.Office == f.Office) with
    | true => rfl
    | false =>
     simp only [ifB_t, ifB_f, ob_some, Bool.not_false, Bool.and_self, Bool.true_and]; have h8' := h8; simp only [sgnS, Bool.and_eq_true, decide_eq_true_eq] at h8'; obtain ⟨⟨o1, o2⟩, _, o4⟩ := h8'; have hi := inKd_i64 hb.r_Head.r_Office; rw [rgrow _ _ _ _ _ (by omega) hF, w64_id (n := h.By.Head.Office - 1) (by omega) (by omega), show h.By.Head.Office - 1 = (((h.By.Head.Office - 1).toNat : Nat) : Int) by omega, ixI_nat, kAt_get (by omega)]; simp only [ob_some]; rw [check_r hb hF, dig_r ho hF, ob_some, un2_p, ob_some]; have hpub : pubB (kAt l (h.By.Head.Office - 1).toNat) = true ∧ (verS (kAt l (h.By.Head.Office - 1).toNat) h.By.Head.Sig (msgF h.By.Head)).1 = true := by
      unfold rightS at o4
      split at o4
      ·next hc => simp only [Bool.and_eq_true] at hc; exact ⟨hc.1, o4⟩
      ·cases o4
     have hch : chkS (kAt l (h.By.Head.Office - 1).toNat) h.By = ((verS (kAt l (h.By.Head.Office - 1).toNat) h.By.Head.Sig (msgF h.By.Head)).1 && inclS h.By.Head.Root (leafE h.By.Entry) h.By.Index h.By.Head.Size h.By.Path, 0) := by
      unfold chkS chkB; rw [hpub.1]; unfold recB at h1; rw [h1]; rfl
     rw [hch, hpub.2]; simp only [Bool.true_and]; cases growS f.Root h.Of.Root f.Size h.Of.Size h.Grow <;> cases inclS h.By.Head.Root (leafE h.By.Entry) h.By.Index h.By.Head.Size h.By.Path <;> cases (h.By.Entry.Doc == digF h.Of) <;> rfl
  ·rw [show (h.Of.Office == f.Office) = false from beq_eq_false_iff_ne.2 h9, show decide (h.Of.Office = f.Office) = false from decide_eq_false h9]; rfl
 ·rw [show decide (h.Grow.length ≤ 20) = false from decide_eq_false h5]; rfl
theorem frk_r {pub : Int} {a b : KHead} {path : List Int} (ha : a.rng) (hb : b.rng) {F : Nat} (hF : 64 ≤ F) : G_regulatorref26_Forks F pub a b path = some (frkS pub a b path) := by
 unfold G_regulatorref26_Forks frkS; rw [pub_r pub hF, fH_r, fH_r]; simp only [ob_some]; cases h1 : pubB pub with
 | false => rfl
 | true =>
 cases h2 : fH a with
 | false => rfl
 | true =>
 cases h3 : fH b with
 | false => rfl
 | true =>
 by_cases h4 : path.length ≤ 21
 ·rw [show decide (((path.length : Nat) : Int) > 21) = false from decide_eq_false (by omega), show decide (path.length ≤ 21) = true from decide_eq_true h4]; simp only [ifB_t, ifB_f, ob_some, Bool.and_self, if_true]; rw [right_r ha.r_Office ha.r_Size ha.r_Root hF, right_r hb.r_Office hb.r_Size hb.r_Root hF, ob_some, un2_p, ob_some, un2_p]; cases (rightS pub a).1 with
  | false => rfl
  | true =>
  cases (rightS pub b).1 with
  | false => rfl
  | true =>
  by_cases h5 : a.Office = b.Office
  ·rw [show (a.Office == b.Office) = true from beq_iff_eq.2 h5, show decide (a.Office = b.Office) = true from decide_eq_true h5]; cases decide (a.Size > b.Size) with
   | true => rfl
   | false =>
    simp only [ifB_t, ifB_f, ob_some, Bool.not_false, Bool.and_self, if_true]
    by_cases h6 : a.Size = b.Size
    ·rw [show (a.Size == b.Size) = true from beq_iff_eq.2 h6, if_pos h6, ifB_t]; cases path with
     | nil => rfl
     | cons x l => rfl
    ·rw [show (a.Size == b.Size) = false from beq_eq_false_iff_ne.2 h6, if_neg h6, ifB_f]; cases path with
     | nil => rfl
     | cons x l =>
      rw [show ((((x :: l).length : Nat) : Int) == 0) = false from beq_eq_false_iff_ne.2 (by simp only [List.length_cons]; omega)]; rw [show ixI (x :: l) 0 = some x from rfl]; simp only [ifB_f, ob_some]; cases (x == a.Root) with
      | true => rfl
      | false =>
       simp only [List.length_cons] at h4; simp only [ifB_f, ob_some, Bool.false_eq_true, if_false]; rw [show slI (x :: l) 1 (((x :: l).length : Nat) : Int) = some l from by
        rw [show (1 : Int) = ((1 : Nat) : Int) from rfl, slI_ok (by simp) (Nat.le_refl _)]
        simp]
       simp only [ob_some]; rw [rgrow _ _ _ _ _ (by omega) hF]; rfl
  ·rw [show (a.Office == b.Office) = false from beq_eq_false_iff_ne.2 h5, show decide (a.Office = b.Office) = false from decide_eq_false h5]; rfl
 ·rw [show decide (((path.length : Nat) : Int) > 21) = true from decide_eq_true (by omega), show decide (path.length ≤ 21) = false from decide_eq_false h4]; rfl
theorem same03 {l : List Int} (hl : l.length ≤ 60) {F : Nat} (hF : 64 ≤ F) : G_regulatorref03_Same F l l = some true := by
 unfold G_regulatorref03_Same; rw [show (((l.length : Nat) : Int) == ((l.length : Nat) : Int)) = true from beq_self_eq_true _, ifB_t]; rw [iter_all l.length (fun _ => true) (.inl ()) (.inr ()) ?_ ?_ (by omega), if_pos (frB_iff.2 fun _ _ _ => rfl)]
 ·rfl
 ·rw [show decide ((l.length : Int) < ((l.length : Nat) : Int)) = false from decide_eq_false (by omega)]; rfl
 ·intro k hk; rw [show decide ((k : Int) < ((l.length : Nat) : Int)) = true from decide_eq_true (by omega), ifB_t, ixI_nat, kAt_get hk]; simp only [ob_some, beq_self_eq_true, ifB_t]; rw [w64_nat (by omega)]; rfl
theorem same26 {h : KHop} (h1 : h.Grow.length ≤ 40) (h2 : h.By.Path.length ≤ 40) {F : Nat} (hF : 64 ≤ F) : G_regulatorref26_Same F h h = some true := by
 unfold G_regulatorref26_Same; rw [same03 (by omega) hF, sameR_refl h2 hF]; simp only [ob_some, decide_true, ifB_t]
theorem witS_len {a b : KOffice} {f o h : KHead} (la : a.Entries.length ≤ 50) (lb : b.Entries.length ≤ 50) : (witS a f o b h).1.Grow.length ≤ 40 ∧ (witS a f o b h).1.By.Path.length ≤ 40 := by
 unfold witS
 split
 ·split
  ·split
   ·exact ⟨Nat.zero_le _, Nat.zero_le _⟩
   ·have h1 := extF_le (l := valsF a o.Size.toNat) (m := f.Size.toNat) (mark := true) (by unfold valsF; rw [List.length_map, List.length_take]; omega)
    rename_i i _
    have h2 := inclF_le (l := valsF b h.Size.toNat) (i := i) (by unfold valsF; rw [List.length_map, List.length_take]; omega); exact ⟨by simp only; omega, by simp only; omega⟩
  ·exact ⟨Nat.zero_le _, Nat.zero_le _⟩
 ·exact ⟨Nat.zero_le _, Nat.zero_le _⟩
theorem law26_match {a b : KOffice} {f o h : KHead} {p : KHop} {pubs : List Int} {pub : Int} {path : List Int} (ha : a.rng) (hb : b.rng) (hf : f.rng) (ho : o.rng) (hh : h.rng) (hp : p.rng) (hpubs : ∀ y ∈ pubs, inKd .i64 y) (hpub : inKd .i64 pub) (hpath : ∀ y ∈ path, inKd .u64 y) : G_regulatorlaw26_CrossMatchesReference 300 a b f o h p pubs pub path = some true := by
 unfold G_regulatorlaw26_CrossMatchesReference; rw [head26, few2]; simp only [ob_some]; cases hc : (decide (a.Entries.length ≤ 40) && decide (b.Entries.length ≤ 40)) with
 | false => rfl
 | true =>
 simp only [Bool.and_eq_true, decide_eq_true_eq] at hc; obtain ⟨la, lb⟩ := hc
 by_cases c1 : pubs.length ≤ 20
 ·by_cases c2 : path.length ≤ 30
  ·by_cases c3 : p.Grow.length ≤ 30
   ·by_cases c4 : p.By.Path.length ≤ 30
    ·rw [show decide (((pubs.length : Nat) : Int) > 20) = false from decide_eq_false (by omega), show decide (((path.length : Nat) : Int) > 30) = false from decide_eq_false (by omega), show decide (((p.Grow.length : Nat) : Int) > 30) = false from decide_eq_false (by omega), show decide (((p.By.Path.length : Nat) : Int) > 30) = false from decide_eq_false (by omega)]; obtain ⟨g1, g2⟩ := witS_len (a := a) (b := b) (f := f) (o := o) (h := h) (by omega) (by omega); simp only [ifB_t, ifB_f, ob_some, un2]; rw [dig_p ho hF, dig_r ho hF]; simp only [ob_some, beq_self_eq_true]; rw [wit_p ha hb (by omega) (by omega) hf ho hh hF, wit_r ha hb (by omega) (by omega) hf ho hh hF]; rcases hw : witS a f o b h with ⟨w1, w2⟩; rw [hw] at g1 g2; replace g1 : w1.Grow.length ≤ 40 := g1; replace g2 : w1.By.Path.length ≤ 40 := g2; simp only [ob_some, un2]; rw [same26 g1 g2 hF]; simp only [ob_some, un2, ifB_t, beq_self_eq_true]; rw [hop_p (by omega) hf hp.r_Of hp.r_By.r_Head hp.r_By.r_Entry hF, hop_r (by omega) hf hp.r_Of hp.r_By hF]; rcases hopS pubs f p with ⟨u1, u2⟩; simp only [ob_some, un2, ifB_t, beq_self_eq_true]; rw [frk_p hf ho hF, frk_r hf ho hF]; rcases frkS pub f o path with ⟨k1, k2⟩; simp only [ob_some, un2, ifB_t, beq_self_eq_true]
    ·rw [show decide (((pubs.length : Nat) : Int) > 20) = false from decide_eq_false (by omega), show decide (((path.length : Nat) : Int) > 30) = false from decide_eq_false (by omega), show decide (((p.Grow.length : Nat) : Int) > 30) = false from decide_eq_false (by omega), show decide (((p.By.Path.length : Nat) : Int) > 30) = true from decide_eq_true (by omega)]; rfl
   ·rw [show decide (((pubs.length : Nat) : Int) > 20) = false from decide_eq_false (by omega), show decide (((path.length : Nat) : Int) > 30) = false from decide_eq_false (by omega), show decide (((p.Grow.length : Nat) : Int) > 30) = true from decide_eq_true (by omega)]; rfl
  ·rw [show decide (((pubs.length : Nat) : Int) > 20) = false from decide_eq_false (by omega), show decide (((path.length : Nat) : Int) > 30) = true from decide_eq_true (by omega)]; rfl
 ·rw [show decide (((pubs.length : Nat) : Int) > 20) = true from decide_eq_true (by omega)]; rfl
end Go.Proofs.YtiijddjfiojfaaaGreatDoor
namespace Go.Proofs.YtiijddjfiojfaaaGreatDoor
open Go.RowKit
theorem tb_of {W : World} {L : List (String × DataW Unit)} (h : laidMet Tryz.prog L W) (hm : ("internal/strconv.uint64pow10", Rows.laid_internal_strconv_uint64pow10) ∈ L) : Tb W := by
 refine Lib.tabBelow_of_tabIs ?_; obtain ⟨g, t, cs, fuel, p, hg, ht, hvar, hd⟩ := Lib.laidMet.reads h hm; have h1 : (Tryz.prog.globalNamed "internal/strconv.uint64pow10").bind (fun g => (Tryz.prog.globals[g]?).map (·.type)) = some 148 := by kernel_rfl
 rw [hg] at h1; obtain rfl : t = 148 := Option.some.inj (ht.symm.trans h1); unfold Lib.TabIs; rw [hvar, ← Lib.cells_of_tab (k := .u64) (zs := Lib.pow10Tab) Tryz.underlying148 Tryz.underlying25 (by kernel_rfl) (by kernel_rfl) hd]
end Go.Proofs.YtiijddjfiojfaaaGreatDoor
