/-
  Texts joined: O12, Ma, OpA, OpR, OpO, Mb, Mc, Rg, Lw24, Md, Me.
-/
import Derived.Test.YtmfjcachghboiaaDoorProg
import Derived.Test.YtmfjcachghboiaaDoorRows
import Derived.ProofKit
import Derived.OpenShut
import Derived.Carry
import Derived.ChangeSame
import Derived.Deep.Slices
import Derived.Lib.SmallJoins
import Derived.Test.YtmfjcachghboiaaDoorJa0
import Derived.Test.YtmfjcachghboiaaDoorJa1
import Derived.Test.YtmfjcachghboiaaDoorJa2
import Derived.Test.YtmfjcachghboiaaDoorJa3
namespace Go.Proofs.YtmfjcachghboiaaDoor
open Go.RowKit Go.Maps
def G_office_Check (F : Nat) (p_0 : Int) (p_1 : KReceipt) : Option (Bool × Int) :=
  Option.bind (Option.bind (G_office_isPublic F p_0) (fun v_4 =>
    ifB (v_4)
      (Option.bind (G_office_formed F p_1.Head) (fun v_6 =>
      ifB (v_6)
        (Option.bind (G_office_logged_formed F (⟨p_1.Entry⟩ : Koffice_logged)) (fun v_8 =>
        ifB (v_8)
          (Option.bind (G_office_between F p_1.Index 0 (IntKind.i64.wrap (p_1.Head.Size - 1))) (fun v_10 =>
          ifB (v_10)
            (some (decide (((p_1.Path.length : Nat) : Int) > 20)))
            (some true)))
          (some true)))
        (some true)))
      (some true)) : Option (Bool)) (fun (v_41 : Bool) => 
    ifB (v_41)
      (some (false, 1))
      (Option.bind (G_office_Right F p_0 p_1.Head) (un2 fun v_45 v_46 =>
      Option.bind (ifB (v_45)
          (Option.bind (G_office_Leaf F p_1.Entry) (fun v_50 =>
          Option.bind (G_tree_Included F p_1.Head.Root v_50 p_1.Index p_1.Head.Size p_1.Path) (fun v_51 =>
          some v_51)))
          (some false) : Option (Bool)) (fun (v_57 : Bool) => 
        some (v_57, v_46)))))
set_option maxRecDepth 100000 in
set_option maxHeartbeats 16000000 in
theorem g_office_Check (F : Nat) (p_0 : Int) (p_1 : KReceiptL) (S0 : Nat → Prop) (w0 : World) (hS : ∀ g, S0 g → g < w0.heap.size) (hT : Tb w0) (hk_p_1 : KReceiptL.ok S0 w0 p_1) (r : Bool × Int) (hG : G_office_Check F p_0 p_1.p = some r) :
  Calls Tryd.prog 25 #[.int .i64 p_0, .agg #[.int .i64 p_1.Head.Office, .int .i64 p_1.Head.Size, .int .u64 p_1.Head.Root, .int .i64 p_1.Head.Sig.C, .int .i64 p_1.Head.Sig.S, .int .i64 p_1.Index, .int .u64 p_1.Entry.Doc, .int .i64 p_1.Entry.Stamp.Lo, .int .i64 p_1.Entry.Stamp.Hi, .slice p_1.Path_A p_1.Path.length p_1.Path_c]] w0 fun e w' => e = .returned (.tuple #[.bool r.1, .int .i64 r.2]) ∧ Below w0.heap.size w0 w' := by
 refine vc_enter (n := 65) Tryd.func25 rfl rfl rfl (fun a hK => ?_); replace hK := hK.weak (K' := [(0, .int .i64 p_0), (1, .agg #[.int .i64 p_1.Head.Office, .int .i64 p_1.Head.Size, .int .u64 p_1.Head.Root, .int .i64 p_1.Head.Sig.C, .int .i64 p_1.Head.Sig.S, .int .i64 p_1.Index, .int .u64 p_1.Entry.Doc, .int .i64 p_1.Entry.Stamp.Lo, .int .i64 p_1.Entry.Stamp.Hi, .slice p_1.Path_A p_1.Path.length p_1.Path_c])]) ⟨rfl, rfl, trivial⟩; have hE := Es.start hS; replace hE := hE.dat (p := fun S W => RowS S W p_1.Path_A (p_1.Path.flatMap c_u64)) (fun _ _ hS hA => (hk_p_1.to hS hA).f_Path); have hc_1 := hk_p_1.c_Path; unfold G_office_Check at hG; refine wp_seq ?_; refine wp_region_lit ?_; refine sq_new (d := 3) (v := fun g => .pointer (some ⟨g, 0, none⟩)) (cs := #[.int .i64 p_1.Head.Office, .int .i64 p_1.Head.Size, .int .u64 p_1.Head.Root, .int .i64 p_1.Head.Sig.C, .int .i64 p_1.Head.Sig.S, .int .i64 p_1.Index, .int .u64 p_1.Entry.Doc, .int .i64 p_1.Entry.Stamp.Lo, .int .i64 p_1.Entry.Stamp.Hi, .slice p_1.Path_A p_1.Path.length p_1.Path_c]) (t := 36) hK hE rfl (fun _ _ => by kernel_rfl) rfl rfl ?_; clear hK hE a; intro a g_2 w_3 hK hE; refine o0 4 (.bool false) hK rfl (fun _ => by kernel_rfl) rfl rfl rfl ?_; clear hK a; intro a hK; refine o0 5 (.int .i64 0) hK rfl (fun _ => by kernel_rfl) rfl rfl rfl ?_; clear hK a; intro a hK; refine wpList_nil ?_; refine xt_norm ?_; refine wp_seq ?_; obtain ⟨o_40, hA_40, hG_40⟩ := bind_some hG; replace hG := hA_40; clear hA_40; refine seq_join1 (fun a w_ => ∃ (v_41 : Bool), ∃ S_, Kn 65 [(0, .int .i64 p_0), (3, .pointer (some ⟨g_2, 0, none⟩)), (39, .bool v_41)] a ∧ Es S0 w0 w_ S_ [.blk g_2 36 #[.int .i64 p_1.Head.Office, .int .i64 p_1.Head.Size, .int .u64 p_1.Head.Root, .int .i64 p_1.Head.Sig.C, .int .i64 p_1.Head.Sig.S, .int .i64 p_1.Index, .int .u64 p_1.Entry.Doc, .int .i64 p_1.Entry.Stamp.Lo, .int .i64 p_1.Entry.Stamp.Hi, .slice p_1.Path_A p_1.Path.length p_1.Path_c], .dat (fun S W => RowS S W p_1.Path_A (p_1.Path.flatMap c_u64))] ∧ v_41 = o_40) ?_ ?_
 ·replace hG := bind_some hG; obtain ⟨v_4, hy_4, hG⟩ := hG; replace hG := ifB_cases hG; rcases hG with ⟨h_5, hG⟩ | ⟨h_5, hG⟩
  ·replace hG := bind_some hG; obtain ⟨v_6, hy_6, hG⟩ := hG; replace hG := ifB_cases hG; rcases hG with ⟨h_7, hG⟩ | ⟨h_7, hG⟩
   ·replace hG := bind_some hG; obtain ⟨v_8, hy_8, hG⟩ := hG; replace hG := ifB_cases hG; rcases hG with ⟨h_9, hG⟩ | ⟨h_9, hG⟩
    ·replace hG := bind_some hG; obtain ⟨v_10, hy_10, hG⟩ := hG; replace hG := ifB_cases hG; rcases hG with ⟨h_11, hG⟩ | ⟨h_11, hG⟩
     ·refine wp_region_lit ?_; refine o0 8 (.int .i64 p_0) hK rfl (fun _ => by kernel_rfl) rfl rfl rfl ?_; clear hK a; intro a hK; refine st_call (d := 9) (f := 47) (args := #[.int .i64 p_0]) hK rfl (fun _ => by kernel_rfl) rfl rfl (g_office_isPublic F p_0 (fun g => g < _) _ (fun _ h => h) (hT.to hE.b)  _ hy_4) ?_; rintro e w_12 ⟨rfl, hb⟩; refine ⟨_, rfl, ?_⟩; clear hK a; intro a hK; replace hE := hE.call hb; obtain ⟨S_13, hE⟩ : ∃ S, Es _ _ _ S _ := ⟨_, hE⟩; clear hb; refine o0 10 (.bool (!v_4)) hK rfl (fun _ => by kernel_rfl) rfl rfl rfl ?_; clear hK a; intro a hK; refine o0 11 (.bool (!v_4)) hK rfl (fun _ => by kernel_rfl) rfl rfl rfl ?_; clear hK a; intro a hK; replace hK := hK.sub (d := 11) (v' := .bool false) rfl (congrArg (fun b => Value.bool (!b)) h_5); refine o0 12 (.pointer (some ⟨g_2, 0, none⟩)) hK rfl (fun _ => by kernel_rfl) rfl rfl rfl ?_; clear hK a; intro a hK; refine st_op (d := 13) (v' := .agg #[.int .i64 p_1.Head.Office, .int .i64 p_1.Head.Size, .int .u64 p_1.Head.Root, .int .i64 p_1.Head.Sig.C, .int .i64 p_1.Head.Sig.S]) (vs := [.int .i64 p_1.Head.Office, .int .i64 p_1.Head.Size, .int .u64 p_1.Head.Root, .int .i64 p_1.Head.Sig.C, .int .i64 p_1.Head.Sig.S]) (obs := [(⟨g_2, 0, none⟩, .int .i64 p_1.Head.Office), (⟨g_2, 1, none⟩, .int .i64 p_1.Head.Size), (⟨g_2, 2, none⟩, .int .u64 p_1.Head.Root), (⟨g_2, 3, none⟩, .int .i64 p_1.Head.Sig.C), (⟨g_2, 4, none⟩, .int .i64 p_1.Head.Sig.S)]) hK rfl (fun _ => by kernel_rfl) ⟨((hE.blk 0 rfl).cell 0).trans rfl, ((hE.blk 0 rfl).cell 1).trans rfl, ((hE.blk 0 rfl).cell 2).trans rfl, ((hE.blk 0 rfl).cell 3).trans rfl, ((hE.blk 0 rfl).cell 4).trans rfl, trivial⟩ rfl rfl rfl ?_; clear hK a; intro a hK; refine st_call (d := 14) (f := 48) (args := #[.agg #[.int .i64 p_1.Head.Office, .int .i64 p_1.Head.Size, .int .u64 p_1.Head.Root, .int .i64 p_1.Head.Sig.C, .int .i64 p_1.Head.Sig.S]]) hK rfl (fun _ => by kernel_rfl) rfl rfl (g_office_formed F p_1.Head (fun g => g < _) _ (fun _ h => h) (hT.to hE.b)  _ hy_6) ?_; rintro e w_14 ⟨rfl, hb⟩; refine ⟨_, rfl, ?_⟩; clear hK a; intro a hK; replace hE := hE.call hb; obtain ⟨S_15, hE⟩ : ∃ S, Es _ _ _ S _ := ⟨_, hE⟩; clear hb; refine o0 15 (.bool (!v_6)) hK rfl (fun _ => by kernel_rfl) rfl rfl rfl ?_; clear hK a; intro a hK; refine o0 16 (.bool (!v_6)) hK rfl (fun _ => by kernel_rfl) rfl rfl rfl ?_; clear hK a; intro a hK; refine o0 17 (.bool (!v_6)) hK rfl (fun _ => by kernel_rfl) rfl rfl rfl ?_; clear hK a; intro a hK; replace hK := hK.sub (d := 17) (v' := .bool false) rfl (congrArg (fun b => Value.bool (!b)) h_7); refine o0 18 (.pointer (some ⟨g_2, 6, none⟩)) hK rfl (fun _ => by kernel_rfl) rfl rfl rfl ?_; clear hK a; intro a hK; refine st_op (d := 19) (v' := .agg #[.int .u64 p_1.Entry.Doc, .int .i64 p_1.Entry.Stamp.Lo, .int .i64 p_1.Entry.Stamp.Hi]) (vs := [.int .u64 p_1.Entry.Doc, .int .i64 p_1.Entry.Stamp.Lo, .int .i64 p_1.Entry.Stamp.Hi]) (obs := [(⟨g_2, 6, none⟩, .int .u64 p_1.Entry.Doc), (⟨g_2, 7, none⟩, .int .i64 p_1.Entry.Stamp.Lo), (⟨g_2, 8, none⟩, .int .i64 p_1.Entry.Stamp.Hi)]) hK rfl (fun _ => by kernel_rfl) ⟨((hE.blk 0 rfl).cell 6).trans rfl, ((hE.blk 0 rfl).cell 7).trans rfl, ((hE.blk 0 rfl).cell 8).trans rfl, trivial⟩ rfl rfl rfl ?_; clear hK a; intro a hK; refine o0 20 (.agg #[.int .u64 p_1.Entry.Doc, .int .i64 p_1.Entry.Stamp.Lo, .int .i64 p_1.Entry.Stamp.Hi]) hK rfl (fun _ => by kernel_rfl) rfl rfl rfl ?_; clear hK a; intro a hK; refine st_call (d := 21) (f := 38) (args := #[.agg #[.int .u64 p_1.Entry.Doc, .int .i64 p_1.Entry.Stamp.Lo, .int .i64 p_1.Entry.Stamp.Hi]]) hK rfl (fun _ => by kernel_rfl) rfl rfl (g_office_logged_formed F (⟨p_1.Entry⟩ : Koffice_logged) (fun g => g < _) _ (fun _ h => h) (hT.to hE.b)  _ hy_8) ?_
      rintro e w_16 ⟨rfl, hb⟩; refine ⟨_, rfl, ?_⟩; clear hK a; intro a hK; replace hE := hE.call hb; obtain ⟨S_17, hE⟩ : ∃ S, Es _ _ _ S _ := ⟨_, hE⟩; clear hb; refine o0 22 (.bool (!v_8)) hK rfl (fun _ => by kernel_rfl) rfl rfl rfl ?_; clear hK a; intro a hK; refine o0 23 (.bool (!v_8)) hK rfl (fun _ => by kernel_rfl) rfl rfl rfl ?_; clear hK a; intro a hK; refine o0 24 (.bool (!v_8)) hK rfl (fun _ => by kernel_rfl) rfl rfl rfl ?_; clear hK a; intro a hK; replace hK := hK.sub (d := 24) (v' := .bool false) rfl (congrArg (fun b => Value.bool (!b)) h_9); refine o0 25 (.pointer (some ⟨g_2, 5, none⟩)) hK rfl (fun _ => by kernel_rfl) rfl rfl rfl ?_; clear hK a; intro a hK; refine st_op (d := 26) (v' := .int .i64 p_1.Index) (vs := [.int .i64 p_1.Index]) (obs := [(⟨g_2, 5, none⟩, .int .i64 p_1.Index)]) hK rfl (fun _ => by kernel_rfl) ⟨((hE.blk 0 rfl).cell 5).trans rfl, trivial⟩ rfl rfl rfl ?_; clear hK a; intro a hK; refine o0 27 (.pointer (some ⟨g_2, 0, none⟩)) hK rfl (fun _ => by kernel_rfl) rfl rfl rfl ?_; clear hK a; intro a hK; refine o0 28 (.pointer (some ⟨g_2, 1, none⟩)) hK rfl (fun _ => by kernel_rfl) rfl rfl rfl ?_; clear hK a; intro a hK; refine st_op (d := 29) (v' := .int .i64 p_1.Head.Size) (vs := [.int .i64 p_1.Head.Size]) (obs := [(⟨g_2, 1, none⟩, .int .i64 p_1.Head.Size)]) hK rfl (fun _ => by kernel_rfl) ⟨((hE.blk 0 rfl).cell 1).trans rfl, trivial⟩ rfl rfl rfl ?_; clear hK a; intro a hK; refine o0 30 (.int .i64 (IntKind.i64.wrap (p_1.Head.Size - 1))) hK rfl (fun _ => by kernel_rfl) rfl rfl rfl ?_; clear hK a; intro a hK; refine st_call (d := 31) (f := 40) (args := #[.int .i64 p_1.Index, .int .i64 0, .int .i64 (IntKind.i64.wrap (p_1.Head.Size - 1))]) hK rfl (fun _ => by kernel_rfl) rfl rfl (g_office_between F p_1.Index 0 (IntKind.i64.wrap (p_1.Head.Size - 1)) (fun g => g < _) _ (fun _ h => h) (hT.to hE.b)  _ hy_10) ?_; rintro e w_18 ⟨rfl, hb⟩; refine ⟨_, rfl, ?_⟩; clear hK a; intro a hK; replace hE := hE.call hb; obtain ⟨S_19, hE⟩ : ∃ S, Es _ _ _ S _ := ⟨_, hE⟩; clear hb; refine o0 32 (.bool (!v_10)) hK rfl (fun _ => by kernel_rfl) rfl rfl rfl ?_; clear hK a; intro a hK; refine o0 33 (.bool (!v_10)) hK rfl (fun _ => by kernel_rfl) rfl rfl rfl ?_; clear hK a; intro a hK; refine o0 34 (.bool (!v_10)) hK rfl (fun _ => by kernel_rfl) rfl rfl rfl ?_; clear hK a; intro a hK; replace hK := hK.sub (d := 34) (v' := .bool false) rfl (congrArg (fun b => Value.bool (!b)) h_11); refine o0 35 (.pointer (some ⟨g_2, 9, none⟩)) hK rfl (fun _ => by kernel_rfl) rfl rfl rfl ?_; clear hK a; intro a hK; refine st_op (d := 36) (v' := .slice p_1.Path_A p_1.Path.length p_1.Path_c) (vs := [.slice p_1.Path_A p_1.Path.length p_1.Path_c]) (obs := [(⟨g_2, 9, none⟩, .slice p_1.Path_A p_1.Path.length p_1.Path_c)]) hK rfl (fun _ => by kernel_rfl) ⟨((hE.blk 0 rfl).cell 9).trans rfl, trivial⟩ rfl rfl rfl ?_; clear hK a; intro a hK; refine o0 37 (.int .i64 ((p_1.Path.length : Nat) : Int)) hK rfl (fun _ => by kernel_rfl) rfl rfl rfl ?_; clear hK a; intro a hK; refine o0 38 (.bool (decide (((p_1.Path.length : Nat) : Int) > 20))) hK rfl (fun _ => by kernel_rfl) rfl rfl rfl ?_; clear hK a; intro a hK; refine o0 39 (.bool (decide (((p_1.Path.length : Nat) : Int) > 20))) hK rfl (fun _ => by kernel_rfl) rfl rfl rfl ?_; clear hK a; intro a hK; refine wpList_nil ?_; refine xt_norm ?_; exact ⟨decide (((p_1.Path.length : Nat) : Int) > 20), _, hK.weak ⟨rfl, rfl, rfl, trivial⟩, hE.sel [0, 1] rfl rfl, Option.some.inj hG⟩
     ·refine wp_region_lit ?_; refine o0 8 (.int .i64 p_0) hK rfl (fun _ => by kernel_rfl) rfl rfl rfl ?_; clear hK a; intro a hK; refine st_call (d := 9) (f := 47) (args := #[.int .i64 p_0]) hK rfl (fun _ => by kernel_rfl) rfl rfl (g_office_isPublic F p_0 (fun g => g < _) _ (fun _ h => h) (hT.to hE.b)  _ hy_4) ?_; rintro e w_20 ⟨rfl, hb⟩; refine ⟨_, rfl, ?_⟩; clear hK a; intro a hK; replace hE := hE.call hb; obtain ⟨S_21, hE⟩ : ∃ S, Es _ _ _ S _ := ⟨_, hE⟩; clear hb; refine o0 10 (.bool (!v_4)) hK rfl (fun _ => by kernel_rfl) rfl rfl rfl ?_; clear hK a; intro a hK; refine o0 11 (.bool (!v_4)) hK rfl (fun _ => by kernel_rfl) rfl rfl rfl ?_; clear hK a; intro a hK; replace hK := hK.sub (d := 11) (v' := .bool false) rfl (congrArg (fun b => Value.bool (!b)) h_5); refine o0 12 (.pointer (some ⟨g_2, 0, none⟩)) hK rfl (fun _ => by kernel_rfl) rfl rfl rfl ?_; clear hK a; intro a hK; refine st_op (d := 13) (v' := .agg #[.int .i64 p_1.Head.Office, .int .i64 p_1.Head.Size, .int .u64 p_1.Head.Root, .int .i64 p_1.Head.Sig.C, .int .i64 p_1.Head.Sig.S]) (vs := [.int .i64 p_1.Head.Office, .int .i64 p_1.Head.Size, .int .u64 p_1.Head.Root, .int .i64 p_1.Head.Sig.C, .int .i64 p_1.Head.Sig.S]) (obs := [(⟨g_2, 0, none⟩, .int .i64 p_1.Head.Office), (⟨g_2, 1, none⟩, .int .i64 p_1.Head.Size), (⟨g_2, 2, none⟩, .int .u64 p_1.Head.Root), (⟨g_2, 3, none⟩, .int .i64 p_1.Head.Sig.C), (⟨g_2, 4, none⟩, .int .i64 p_1.Head.Sig.S)]) hK rfl (fun _ => by kernel_rfl) ⟨((hE.blk 0 rfl).cell 0).trans rfl, ((hE.blk 0 rfl).cell 1).trans rfl, ((hE.blk 0 rfl).cell 2).trans rfl, ((hE.blk 0 rfl).cell 3).trans rfl, ((hE.blk 0 rfl).cell 4).trans rfl, trivial⟩ rfl rfl rfl ?_; clear hK a; intro a hK; refine st_call (d := 14) (f := 48) (args := #[.agg #[.int .i64 p_1.Head.Office, .int .i64 p_1.Head.Size, .int .u64 p_1.Head.Root, .int .i64 p_1.Head.Sig.C, .int .i64 p_1.Head.Sig.S]]) hK rfl (fun _ => by kernel_rfl) rfl rfl (g_office_formed F p_1.Head (fun g => g < _) _ (fun _ h => h) (hT.to hE.b)  _ hy_6) ?_; rintro e w_22 ⟨rfl, hb⟩; refine ⟨_, rfl, ?_⟩; clear hK a; intro a hK; replace hE := hE.call hb; obtain ⟨S_23, hE⟩ : ∃ S, Es _ _ _ S _ := ⟨_, hE⟩; clear hb; refine o0 15 (.bool (!v_6)) hK rfl (fun _ => by kernel_rfl) rfl rfl rfl ?_; clear hK a; intro a hK; refine o0 16 (.bool (!v_6)) hK rfl (fun _ => by kernel_rfl) rfl rfl rfl ?_; clear hK a; intro a hK; refine o0 17 (.bool (!v_6)) hK rfl (fun _ => by kernel_rfl) rfl rfl rfl ?_; clear hK a; intro a hK; replace hK := hK.sub (d := 17) (v' := .bool false) rfl (congrArg (fun b => Value.bool (!b)) h_7); refine o0 18 (.pointer (some ⟨g_2, 6, none⟩)) hK rfl (fun _ => by kernel_rfl) rfl rfl rfl ?_; clear hK a; intro a hK; refine st_op (d := 19) (v' := .agg #[.int .u64 p_1.Entry.Doc, .int .i64 p_1.Entry.Stamp.Lo, .int .i64 p_1.Entry.Stamp.Hi]) (vs := [.int .u64 p_1.Entry.Doc, .int .i64 p_1.Entry.Stamp.Lo, .int .i64 p_1.Entry.Stamp.Hi]) (obs := [(⟨g_2, 6, none⟩, .int .u64 p_1.Entry.Doc), (⟨g_2, 7, none⟩, .int .i64 p_1.Entry.Stamp.Lo), (⟨g_2, 8, none⟩, .int .i64 p_1.Entry.Stamp.Hi)]) hK rfl (fun _ => by kernel_rfl) ⟨((hE.blk 0 rfl).cell 6).trans rfl, ((hE.blk 0 rfl).cell 7).trans rfl, ((hE.blk 0 rfl).cell 8).trans rfl, trivial⟩ rfl rfl rfl ?_; clear hK a; intro a hK; refine o0 20 (.agg #[.int .u64 p_1.Entry.Doc, .int .i64 p_1.Entry.Stamp.Lo, .int .i64 p_1.Entry.Stamp.Hi]) hK rfl (fun _ => by kernel_rfl) rfl rfl rfl ?_; clear hK a; intro a hK; refine st_call (d := 21) (f := 38) (args := #[.agg #[.int .u64 p_1.Entry.Doc, .int .i64 p_1.Entry.Stamp.Lo, .int .i64 p_1.Entry.Stamp.Hi]]) hK rfl (fun _ => by kernel_rfl) rfl rfl (g_office_logged_formed F (⟨p_1.Entry⟩ : Koffice_logged) (fun g => g < _) _ (fun _ h => h) (hT.to hE.b)  _ hy_8) ?_
      rintro e w_24 ⟨rfl, hb⟩; refine ⟨_, rfl, ?_⟩; clear hK a; intro a hK; replace hE := hE.call hb; obtain ⟨S_25, hE⟩ : ∃ S, Es _ _ _ S _ := ⟨_, hE⟩; clear hb; refine o0 22 (.bool (!v_8)) hK rfl (fun _ => by kernel_rfl) rfl rfl rfl ?_; clear hK a; intro a hK; refine o0 23 (.bool (!v_8)) hK rfl (fun _ => by kernel_rfl) rfl rfl rfl ?_; clear hK a; intro a hK; refine o0 24 (.bool (!v_8)) hK rfl (fun _ => by kernel_rfl) rfl rfl rfl ?_; clear hK a; intro a hK; replace hK := hK.sub (d := 24) (v' := .bool false) rfl (congrArg (fun b => Value.bool (!b)) h_9); refine o0 25 (.pointer (some ⟨g_2, 5, none⟩)) hK rfl (fun _ => by kernel_rfl) rfl rfl rfl ?_; clear hK a; intro a hK; refine st_op (d := 26) (v' := .int .i64 p_1.Index) (vs := [.int .i64 p_1.Index]) (obs := [(⟨g_2, 5, none⟩, .int .i64 p_1.Index)]) hK rfl (fun _ => by kernel_rfl) ⟨((hE.blk 0 rfl).cell 5).trans rfl, trivial⟩ rfl rfl rfl ?_; clear hK a; intro a hK; refine o0 27 (.pointer (some ⟨g_2, 0, none⟩)) hK rfl (fun _ => by kernel_rfl) rfl rfl rfl ?_; clear hK a; intro a hK; refine o0 28 (.pointer (some ⟨g_2, 1, none⟩)) hK rfl (fun _ => by kernel_rfl) rfl rfl rfl ?_; clear hK a; intro a hK; refine st_op (d := 29) (v' := .int .i64 p_1.Head.Size) (vs := [.int .i64 p_1.Head.Size]) (obs := [(⟨g_2, 1, none⟩, .int .i64 p_1.Head.Size)]) hK rfl (fun _ => by kernel_rfl) ⟨((hE.blk 0 rfl).cell 1).trans rfl, trivial⟩ rfl rfl rfl ?_; clear hK a; intro a hK; refine o0 30 (.int .i64 (IntKind.i64.wrap (p_1.Head.Size - 1))) hK rfl (fun _ => by kernel_rfl) rfl rfl rfl ?_; clear hK a; intro a hK; refine st_call (d := 31) (f := 40) (args := #[.int .i64 p_1.Index, .int .i64 0, .int .i64 (IntKind.i64.wrap (p_1.Head.Size - 1))]) hK rfl (fun _ => by kernel_rfl) rfl rfl (g_office_between F p_1.Index 0 (IntKind.i64.wrap (p_1.Head.Size - 1)) (fun g => g < _) _ (fun _ h => h) (hT.to hE.b)  _ hy_10) ?_; rintro e w_26 ⟨rfl, hb⟩; refine ⟨_, rfl, ?_⟩; clear hK a; intro a hK; replace hE := hE.call hb; obtain ⟨S_27, hE⟩ : ∃ S, Es _ _ _ S _ := ⟨_, hE⟩; clear hb; refine o0 32 (.bool (!v_10)) hK rfl (fun _ => by kernel_rfl) rfl rfl rfl ?_; clear hK a; intro a hK; refine o0 33 (.bool (!v_10)) hK rfl (fun _ => by kernel_rfl) rfl rfl rfl ?_; clear hK a; intro a hK; refine o0 34 (.bool (!v_10)) hK rfl (fun _ => by kernel_rfl) rfl rfl rfl ?_; clear hK a; intro a hK; replace hK := hK.sub (d := 34) (v' := .bool true) rfl (congrArg (fun b => Value.bool (!b)) h_11); refine st_skip (d := 35) hK rfl rfl rfl ?_; clear hK a; intro a hK; refine st_skip (d := 36) hK rfl rfl rfl ?_; clear hK a; intro a hK; refine st_skip (d := 37) hK rfl rfl rfl ?_; clear hK a; intro a hK; refine st_skip (d := 38) hK rfl rfl rfl ?_; clear hK a; intro a hK; refine o0 39 (.bool true) hK rfl (fun _ => by kernel_rfl) rfl rfl rfl ?_; clear hK a; intro a hK; refine wpList_nil ?_; refine xt_norm ?_; exact ⟨true, _, hK.weak ⟨rfl, rfl, rfl, trivial⟩, hE.sel [0, 1] rfl rfl, Option.some.inj hG⟩
    ·refine wp_region_lit ?_; refine o0 8 (.int .i64 p_0) hK rfl (fun _ => by kernel_rfl) rfl rfl rfl ?_; clear hK a; intro a hK; refine st_call (d := 9) (f := 47) (args := #[.int .i64 p_0]) hK rfl (fun _ => by kernel_rfl) rfl rfl (g_office_isPublic F p_0 (fun g => g < _) _ (fun _ h => h) (hT.to hE.b)  _ hy_4) ?_; rintro e w_28 ⟨rfl, hb⟩; refine ⟨_, rfl, ?_⟩; clear hK a; intro a hK; replace hE := hE.call hb; obtain ⟨S_29, hE⟩ : ∃ S, Es _ _ _ S _ := ⟨_, hE⟩; clear hb; refine o0 10 (.bool (!v_4)) hK rfl (fun _ => by kernel_rfl) rfl rfl rfl ?_; clear hK a; intro a hK; refine o0 11 (.bool (!v_4)) hK rfl (fun _ => by kernel_rfl) rfl rfl rfl ?_; clear hK a; intro a hK; replace hK := hK.sub (d := 11) (v' := .bool false) rfl (congrArg (fun b => Value.bool (!b)) h_5); refine o0 12 (.pointer (some ⟨g_2, 0, none⟩)) hK rfl (fun _ => by kernel_rfl) rfl rfl rfl ?_; clear hK a; intro a hK; refine st_op (d := 13) (v' := .agg #[.int .i64 p_1.Head.Office, .int .i64 p_1.Head.Size, .int .u64 p_1.Head.Root, .int .i64 p_1.Head.Sig.C, .int .i64 p_1.Head.Sig.S]) (vs := [.int .i64 p_1.Head.Office, .int .i64 p_1.Head.Size, .int .u64 p_1.Head.Root, .int .i64 p_1.Head.Sig.C, .int .i64 p_1.Head.Sig.S]) (obs := [(⟨g_2, 0, none⟩, .int .i64 p_1.Head.Office), (⟨g_2, 1, none⟩, .int .i64 p_1.Head.Size), (⟨g_2, 2, none⟩, .int .u64 p_1.Head.Root), (⟨g_2, 3, none⟩, .int .i64 p_1.Head.Sig.C), (⟨g_2, 4, none⟩, .int .i64 p_1.Head.Sig.S)]) hK rfl (fun _ => by kernel_rfl) ⟨((hE.blk 0 rfl).cell 0).trans rfl, ((hE.blk 0 rfl).cell 1).trans rfl, ((hE.blk 0 rfl).cell 2).trans rfl, ((hE.blk 0 rfl).cell 3).trans rfl, ((hE.blk 0 rfl).cell 4).trans rfl, trivial⟩ rfl rfl rfl ?_; clear hK a; intro a hK; refine st_call (d := 14) (f := 48) (args := #[.agg #[.int .i64 p_1.Head.Office, .int .i64 p_1.Head.Size, .int .u64 p_1.Head.Root, .int .i64 p_1.Head.Sig.C, .int .i64 p_1.Head.Sig.S]]) hK rfl (fun _ => by kernel_rfl) rfl rfl (g_office_formed F p_1.Head (fun g => g < _) _ (fun _ h => h) (hT.to hE.b)  _ hy_6) ?_; rintro e w_30 ⟨rfl, hb⟩; refine ⟨_, rfl, ?_⟩; clear hK a; intro a hK; replace hE := hE.call hb; obtain ⟨S_31, hE⟩ : ∃ S, Es _ _ _ S _ := ⟨_, hE⟩; clear hb; refine o0 15 (.bool (!v_6)) hK rfl (fun _ => by kernel_rfl) rfl rfl rfl ?_; clear hK a; intro a hK; refine o0 16 (.bool (!v_6)) hK rfl (fun _ => by kernel_rfl) rfl rfl rfl ?_; clear hK a; intro a hK; refine o0 17 (.bool (!v_6)) hK rfl (fun _ => by kernel_rfl) rfl rfl rfl ?_; clear hK a; intro a hK; replace hK := hK.sub (d := 17) (v' := .bool false) rfl (congrArg (fun b => Value.bool (!b)) h_7); refine o0 18 (.pointer (some ⟨g_2, 6, none⟩)) hK rfl (fun _ => by kernel_rfl) rfl rfl rfl ?_; clear hK a; intro a hK; refine st_op (d := 19) (v' := .agg #[.int .u64 p_1.Entry.Doc, .int .i64 p_1.Entry.Stamp.Lo, .int .i64 p_1.Entry.Stamp.Hi]) (vs := [.int .u64 p_1.Entry.Doc, .int .i64 p_1.Entry.Stamp.Lo, .int .i64 p_1.Entry.Stamp.Hi]) (obs := [(⟨g_2, 6, none⟩, .int .u64 p_1.Entry.Doc), (⟨g_2, 7, none⟩, .int .i64 p_1.Entry.Stamp.Lo), (⟨g_2, 8, none⟩, .int .i64 p_1.Entry.Stamp.Hi)]) hK rfl (fun _ => by kernel_rfl) ⟨((hE.blk 0 rfl).cell 6).trans rfl, ((hE.blk 0 rfl).cell 7).trans rfl, ((hE.blk 0 rfl).cell 8).trans rfl, trivial⟩ rfl rfl rfl ?_; clear hK a; intro a hK; refine o0 20 (.agg #[.int .u64 p_1.Entry.Doc, .int .i64 p_1.Entry.Stamp.Lo, .int .i64 p_1.Entry.Stamp.Hi]) hK rfl (fun _ => by kernel_rfl) rfl rfl rfl ?_; clear hK a; intro a hK; refine st_call (d := 21) (f := 38) (args := #[.agg #[.int .u64 p_1.Entry.Doc, .int .i64 p_1.Entry.Stamp.Lo, .int .i64 p_1.Entry.Stamp.Hi]]) hK rfl (fun _ => by kernel_rfl) rfl rfl (g_office_logged_formed F (⟨p_1.Entry⟩ : Koffice_logged) (fun g => g < _) _ (fun _ h => h) (hT.to hE.b)  _ hy_8) ?_
     rintro e w_32 ⟨rfl, hb⟩; refine ⟨_, rfl, ?_⟩; clear hK a; intro a hK; replace hE := hE.call hb; obtain ⟨S_33, hE⟩ : ∃ S, Es _ _ _ S _ := ⟨_, hE⟩; clear hb; refine o0 22 (.bool (!v_8)) hK rfl (fun _ => by kernel_rfl) rfl rfl rfl ?_; clear hK a; intro a hK; refine o0 23 (.bool (!v_8)) hK rfl (fun _ => by kernel_rfl) rfl rfl rfl ?_; clear hK a; intro a hK; refine o0 24 (.bool (!v_8)) hK rfl (fun _ => by kernel_rfl) rfl rfl rfl ?_; clear hK a; intro a hK; replace hK := hK.sub (d := 24) (v' := .bool true) rfl (congrArg (fun b => Value.bool (!b)) h_9); refine st_skip (d := 25) hK rfl rfl rfl ?_; clear hK a; intro a hK; refine st_skip (d := 26) hK rfl rfl rfl ?_; clear hK a; intro a hK; refine st_skip (d := 27) hK rfl rfl rfl ?_; clear hK a; intro a hK; refine st_skip (d := 28) hK rfl rfl rfl ?_; clear hK a; intro a hK; refine st_skip (d := 29) hK rfl rfl rfl ?_; clear hK a; intro a hK; refine st_skip (d := 30) hK rfl rfl rfl ?_; clear hK a; intro a hK; refine st_skip (d := 31) hK rfl rfl rfl ?_; clear hK a; intro a hK; refine st_skip (d := 32) hK rfl rfl rfl ?_; clear hK a; intro a hK; refine o0 33 (.bool true) hK rfl (fun _ => by kernel_rfl) rfl rfl rfl ?_; clear hK a; intro a hK; refine o0 34 (.bool true) hK rfl (fun _ => by kernel_rfl) rfl rfl rfl ?_; clear hK a; intro a hK; refine st_skip (d := 35) hK rfl rfl rfl ?_; clear hK a; intro a hK; refine st_skip (d := 36) hK rfl rfl rfl ?_; clear hK a; intro a hK; refine st_skip (d := 37) hK rfl rfl rfl ?_; clear hK a; intro a hK; refine st_skip (d := 38) hK rfl rfl rfl ?_; clear hK a; intro a hK; refine o0 39 (.bool true) hK rfl (fun _ => by kernel_rfl) rfl rfl rfl ?_; clear hK a; intro a hK; refine wpList_nil ?_; refine xt_norm ?_; exact ⟨true, _, hK.weak ⟨rfl, rfl, rfl, trivial⟩, hE.sel [0, 1] rfl rfl, Option.some.inj hG⟩
   ·refine wp_region_lit ?_; refine o0 8 (.int .i64 p_0) hK rfl (fun _ => by kernel_rfl) rfl rfl rfl ?_; clear hK a; intro a hK; refine st_call (d := 9) (f := 47) (args := #[.int .i64 p_0]) hK rfl (fun _ => by kernel_rfl) rfl rfl (g_office_isPublic F p_0 (fun g => g < _) _ (fun _ h => h) (hT.to hE.b)  _ hy_4) ?_; rintro e w_34 ⟨rfl, hb⟩; refine ⟨_, rfl, ?_⟩; clear hK a; intro a hK; replace hE := hE.call hb; obtain ⟨S_35, hE⟩ : ∃ S, Es _ _ _ S _ := ⟨_, hE⟩; clear hb; refine o0 10 (.bool (!v_4)) hK rfl (fun _ => by kernel_rfl) rfl rfl rfl ?_; clear hK a; intro a hK; refine o0 11 (.bool (!v_4)) hK rfl (fun _ => by kernel_rfl) rfl rfl rfl ?_; clear hK a; intro a hK; replace hK := hK.sub (d := 11) (v' := .bool false) rfl (congrArg (fun b => Value.bool (!b)) h_5); refine o0 12 (.pointer (some ⟨g_2, 0, none⟩)) hK rfl (fun _ => by kernel_rfl) rfl rfl rfl ?_; clear hK a; intro a hK; refine st_op (d := 13) (v' := .agg #[.int .i64 p_1.Head.Office, .int .i64 p_1.Head.Size, .int .u64 p_1.Head.Root, .int .i64 p_1.Head.Sig.C, .int .i64 p_1.Head.Sig.S]) (vs := [.int .i64 p_1.Head.Office, .int .i64 p_1.Head.Size, .int .u64 p_1.Head.Root, .int .i64 p_1.Head.Sig.C, .int .i64 p_1.Head.Sig.S]) (obs := [(⟨g_2, 0, none⟩, .int .i64 p_1.Head.Office), (⟨g_2, 1, none⟩, .int .i64 p_1.Head.Size), (⟨g_2, 2, none⟩, .int .u64 p_1.Head.Root), (⟨g_2, 3, none⟩, .int .i64 p_1.Head.Sig.C), (⟨g_2, 4, none⟩, .int .i64 p_1.Head.Sig.S)]) hK rfl (fun _ => by kernel_rfl) ⟨((hE.blk 0 rfl).cell 0).trans rfl, ((hE.blk 0 rfl).cell 1).trans rfl, ((hE.blk 0 rfl).cell 2).trans rfl, ((hE.blk 0 rfl).cell 3).trans rfl, ((hE.blk 0 rfl).cell 4).trans rfl, trivial⟩ rfl rfl rfl ?_; clear hK a; intro a hK; refine st_call (d := 14) (f := 48) (args := #[.agg #[.int .i64 p_1.Head.Office, .int .i64 p_1.Head.Size, .int .u64 p_1.Head.Root, .int .i64 p_1.Head.Sig.C, .int .i64 p_1.Head.Sig.S]]) hK rfl (fun _ => by kernel_rfl) rfl rfl (g_office_formed F p_1.Head (fun g => g < _) _ (fun _ h => h) (hT.to hE.b)  _ hy_6) ?_; rintro e w_36 ⟨rfl, hb⟩; refine ⟨_, rfl, ?_⟩; clear hK a; intro a hK; replace hE := hE.call hb; obtain ⟨S_37, hE⟩ : ∃ S, Es _ _ _ S _ := ⟨_, hE⟩; clear hb; refine o0 15 (.bool (!v_6)) hK rfl (fun _ => by kernel_rfl) rfl rfl rfl ?_; clear hK a; intro a hK; refine o0 16 (.bool (!v_6)) hK rfl (fun _ => by kernel_rfl) rfl rfl rfl ?_; clear hK a; intro a hK; refine o0 17 (.bool (!v_6)) hK rfl (fun _ => by kernel_rfl) rfl rfl rfl ?_; clear hK a; intro a hK; replace hK := hK.sub (d := 17) (v' := .bool true) rfl (congrArg (fun b => Value.bool (!b)) h_7); refine st_skip (d := 18) hK rfl rfl rfl ?_; clear hK a; intro a hK; refine st_skip (d := 19) hK rfl rfl rfl ?_; clear hK a; intro a hK; refine st_skip (d := 20) hK rfl rfl rfl ?_; clear hK a; intro a hK; refine st_skip (d := 21) hK rfl rfl rfl ?_; clear hK a; intro a hK; refine st_skip (d := 22) hK rfl rfl rfl ?_; clear hK a; intro a hK; refine o0 23 (.bool true) hK rfl (fun _ => by kernel_rfl) rfl rfl rfl ?_; clear hK a; intro a hK; refine o0 24 (.bool true) hK rfl (fun _ => by kernel_rfl) rfl rfl rfl ?_; clear hK a; intro a hK; refine st_skip (d := 25) hK rfl rfl rfl ?_; clear hK a; intro a hK; refine st_skip (d := 26) hK rfl rfl rfl ?_; clear hK a; intro a hK; refine st_skip (d := 27) hK rfl rfl rfl ?_; clear hK a; intro a hK; refine st_skip (d := 28) hK rfl rfl rfl ?_; clear hK a; intro a hK; refine st_skip (d := 29) hK rfl rfl rfl ?_; clear hK a; intro a hK; refine st_skip (d := 30) hK rfl rfl rfl ?_; clear hK a; intro a hK; refine st_skip (d := 31) hK rfl rfl rfl ?_; clear hK a; intro a hK; refine st_skip (d := 32) hK rfl rfl rfl ?_
    clear hK a; intro a hK; refine o0 33 (.bool true) hK rfl (fun _ => by kernel_rfl) rfl rfl rfl ?_; clear hK a; intro a hK; refine o0 34 (.bool true) hK rfl (fun _ => by kernel_rfl) rfl rfl rfl ?_; clear hK a; intro a hK; refine st_skip (d := 35) hK rfl rfl rfl ?_; clear hK a; intro a hK; refine st_skip (d := 36) hK rfl rfl rfl ?_; clear hK a; intro a hK; refine st_skip (d := 37) hK rfl rfl rfl ?_; clear hK a; intro a hK; refine st_skip (d := 38) hK rfl rfl rfl ?_; clear hK a; intro a hK; refine o0 39 (.bool true) hK rfl (fun _ => by kernel_rfl) rfl rfl rfl ?_; clear hK a; intro a hK; refine wpList_nil ?_; refine xt_norm ?_; exact ⟨true, _, hK.weak ⟨rfl, rfl, rfl, trivial⟩, hE.sel [0, 1] rfl rfl, Option.some.inj hG⟩
  ·refine wp_region_lit ?_; refine o0 8 (.int .i64 p_0) hK rfl (fun _ => by kernel_rfl) rfl rfl rfl ?_; clear hK a; intro a hK; refine st_call (d := 9) (f := 47) (args := #[.int .i64 p_0]) hK rfl (fun _ => by kernel_rfl) rfl rfl (g_office_isPublic F p_0 (fun g => g < _) _ (fun _ h => h) (hT.to hE.b)  _ hy_4) ?_; rintro e w_38 ⟨rfl, hb⟩; refine ⟨_, rfl, ?_⟩; clear hK a; intro a hK; replace hE := hE.call hb; obtain ⟨S_39, hE⟩ : ∃ S, Es _ _ _ S _ := ⟨_, hE⟩; clear hb; refine o0 10 (.bool (!v_4)) hK rfl (fun _ => by kernel_rfl) rfl rfl rfl ?_; clear hK a; intro a hK; refine o0 11 (.bool (!v_4)) hK rfl (fun _ => by kernel_rfl) rfl rfl rfl ?_; clear hK a; intro a hK; replace hK := hK.sub (d := 11) (v' := .bool true) rfl (congrArg (fun b => Value.bool (!b)) h_5); refine st_skip (d := 12) hK rfl rfl rfl ?_; clear hK a; intro a hK; refine st_skip (d := 13) hK rfl rfl rfl ?_; clear hK a; intro a hK; refine st_skip (d := 14) hK rfl rfl rfl ?_; clear hK a; intro a hK; refine st_skip (d := 15) hK rfl rfl rfl ?_; clear hK a; intro a hK; refine o0 16 (.bool true) hK rfl (fun _ => by kernel_rfl) rfl rfl rfl ?_; clear hK a; intro a hK; refine o0 17 (.bool true) hK rfl (fun _ => by kernel_rfl) rfl rfl rfl ?_; clear hK a; intro a hK; refine st_skip (d := 18) hK rfl rfl rfl ?_; clear hK a; intro a hK; refine st_skip (d := 19) hK rfl rfl rfl ?_; clear hK a; intro a hK; refine st_skip (d := 20) hK rfl rfl rfl ?_; clear hK a; intro a hK; refine st_skip (d := 21) hK rfl rfl rfl ?_; clear hK a; intro a hK; refine st_skip (d := 22) hK rfl rfl rfl ?_; clear hK a; intro a hK; refine o0 23 (.bool true) hK rfl (fun _ => by kernel_rfl) rfl rfl rfl ?_; clear hK a; intro a hK; refine o0 24 (.bool true) hK rfl (fun _ => by kernel_rfl) rfl rfl rfl ?_; clear hK a; intro a hK; refine st_skip (d := 25) hK rfl rfl rfl ?_; clear hK a; intro a hK; refine st_skip (d := 26) hK rfl rfl rfl ?_; clear hK a; intro a hK; refine st_skip (d := 27) hK rfl rfl rfl ?_; clear hK a; intro a hK; refine st_skip (d := 28) hK rfl rfl rfl ?_; clear hK a; intro a hK; refine st_skip (d := 29) hK rfl rfl rfl ?_; clear hK a; intro a hK; refine st_skip (d := 30) hK rfl rfl rfl ?_; clear hK a; intro a hK; refine st_skip (d := 31) hK rfl rfl rfl ?_; clear hK a; intro a hK; refine st_skip (d := 32) hK rfl rfl rfl ?_; clear hK a; intro a hK; refine o0 33 (.bool true) hK rfl (fun _ => by kernel_rfl) rfl rfl rfl ?_; clear hK a; intro a hK; refine o0 34 (.bool true) hK rfl (fun _ => by kernel_rfl) rfl rfl rfl ?_; clear hK a; intro a hK; refine st_skip (d := 35) hK rfl rfl rfl ?_; clear hK a; intro a hK; refine st_skip (d := 36) hK rfl rfl rfl ?_; clear hK a; intro a hK; refine st_skip (d := 37) hK rfl rfl rfl ?_; clear hK a; intro a hK; refine st_skip (d := 38) hK rfl rfl rfl ?_; clear hK a; intro a hK; refine o0 39 (.bool true) hK rfl (fun _ => by kernel_rfl) rfl rfl rfl ?_; clear hK a; intro a hK; refine wpList_nil ?_; refine xt_norm ?_; exact ⟨true, _, hK.weak ⟨rfl, rfl, rfl, trivial⟩, hE.sel [0, 1] rfl rfl, Option.some.inj hG⟩
 ·clear hK hE a; rintro a w_42 ⟨v_41, S_43, hK, hE, ho_⟩; subst ho_; replace hG := hG_40; clear hG_40; replace hG := ifB_cases hG; rcases hG with ⟨h_44, hG⟩ | ⟨h_44, hG⟩
  ·replace hK := hK.sub (d := 39) (v' := .bool true) rfl (congrArg Value.bool h_44); refine vc_cond (t := true) hK (fun _ => rfl) ?_; rw [if_pos rfl]; refine wp_seq ?_; refine wp_region_lit ?_; refine o0 4 (.bool false) hK rfl (fun _ => by kernel_rfl) rfl rfl rfl ?_; clear hK a; intro a hK; refine o0 5 (.int .i64 1) hK rfl (fun _ => by kernel_rfl) rfl rfl rfl ?_; clear hK a; intro a hK; refine wpList_nil ?_; refine xt_norm ?_; refine wp_ret ?_; refine xt_ret ?_; refine vc_ret (v' := .tuple #[.bool false, .int .i64 1]) (vs := []) (obs := []) hK (fun _ => by kernel_rfl) trivial rfl ?_; obtain rfl := Option.some.inj hG; exact ⟨rfl, hE.b⟩
  ·replace hK := hK.sub (d := 39) (v' := .bool false) rfl (congrArg Value.bool h_44); refine vc_cond (t := false) hK (fun _ => rfl) ?_; rw [if_neg (by simp)]; refine wp_skip ?_; refine xt_norm ?_; refine wp_seq ?_; replace hG := bind_some hG; obtain ⟨⟨v_45, v_46⟩, hy_45, hG⟩ := hG; refine wp_region_lit ?_; refine o0 41 (.int .i64 p_0) hK rfl (fun _ => by kernel_rfl) rfl rfl rfl ?_; clear hK a; intro a hK; refine o0 42 (.pointer (some ⟨g_2, 0, none⟩)) hK rfl (fun _ => by kernel_rfl) rfl rfl rfl ?_; clear hK a; intro a hK; refine st_op (d := 43) (v' := .agg #[.int .i64 p_1.Head.Office, .int .i64 p_1.Head.Size, .int .u64 p_1.Head.Root, .int .i64 p_1.Head.Sig.C, .int .i64 p_1.Head.Sig.S]) (vs := [.int .i64 p_1.Head.Office, .int .i64 p_1.Head.Size, .int .u64 p_1.Head.Root, .int .i64 p_1.Head.Sig.C, .int .i64 p_1.Head.Sig.S]) (obs := [(⟨g_2, 0, none⟩, .int .i64 p_1.Head.Office), (⟨g_2, 1, none⟩, .int .i64 p_1.Head.Size), (⟨g_2, 2, none⟩, .int .u64 p_1.Head.Root), (⟨g_2, 3, none⟩, .int .i64 p_1.Head.Sig.C), (⟨g_2, 4, none⟩, .int .i64 p_1.Head.Sig.S)]) hK rfl (fun _ => by kernel_rfl) ⟨((hE.blk 0 rfl).cell 0).trans rfl, ((hE.blk 0 rfl).cell 1).trans rfl, ((hE.blk 0 rfl).cell 2).trans rfl, ((hE.blk 0 rfl).cell 3).trans rfl, ((hE.blk 0 rfl).cell 4).trans rfl, trivial⟩ rfl rfl rfl ?_; clear hK a; intro a hK; refine st_call (d := 44) (f := 20) (args := #[.int .i64 p_0, .agg #[.int .i64 p_1.Head.Office, .int .i64 p_1.Head.Size, .int .u64 p_1.Head.Root, .int .i64 p_1.Head.Sig.C, .int .i64 p_1.Head.Sig.S]]) hK rfl (fun _ => by kernel_rfl) rfl rfl (g_office_Right F p_0 p_1.Head (fun g => g < _) _ (fun _ h => h) (hT.to hE.b)  _ hy_45) ?_; rintro e w_47 ⟨rfl, hb⟩; refine ⟨_, rfl, ?_⟩; clear hK a; intro a hK; replace hE := hE.call hb; obtain ⟨S_48, hE⟩ : ∃ S, Es _ _ _ S _ := ⟨_, hE⟩; clear hb; refine o0 40 (.tuple #[.bool v_45, .int .i64 v_46]) hK rfl (fun _ => by kernel_rfl) rfl rfl rfl ?_; clear hK a; intro a hK; refine o0 45 (.bool v_45) hK rfl (fun _ => by kernel_rfl) rfl rfl rfl ?_; clear hK a; intro a hK; refine o0 46 (.int .i64 v_46) hK rfl (fun _ => by kernel_rfl) rfl rfl rfl ?_; clear hK a; intro a hK; refine o0 6 (.bool v_45) hK rfl (fun _ => by kernel_rfl) rfl rfl rfl ?_; clear hK a; intro a hK; refine o0 7 (.int .i64 v_46) hK rfl (fun _ => by kernel_rfl) rfl rfl rfl ?_; clear hK a; intro a hK; refine wpList_nil ?_; refine xt_norm ?_; obtain ⟨o_56, hA_56, hG_56⟩ := bind_some hG; replace hG := hA_56; clear hA_56; refine seq_join1 (fun a w_ => ∃ (v_57 : Bool), ∃ S_, Kn 65 [(4, .bool v_57), (5, .int .i64 v_46)] a ∧ Es S0 w0 w_ S_ [] ∧ v_57 = o_56) ?_ ?_
   ·replace hG := ifB_cases hG; rcases hG with ⟨h_49, hG⟩ | ⟨h_49, hG⟩
    ·replace hG := bind_some hG; obtain ⟨v_50, hy_50, hG⟩ := hG; replace hG := bind_some hG; obtain ⟨v_51, hy_51, hG⟩ := hG; refine sq_quiet hE rfl (by kernel_rfl) ?_; refine qs_op (d := 47) (v' := .bool v_45) (vs := []) (obs := []) hK rfl (fun _ => by kernel_rfl) (fun x => trivial) rfl rfl rfl ?_; clear hK a; intro a hK; refine qs_op (d := 48) (v' := .bool v_45) (vs := []) (obs := []) hK rfl (fun _ => by kernel_rfl) (fun x => trivial) rfl rfl rfl ?_; clear hK a; intro a hK; replace hK := hK.sub (d := 48) (v' := .bool true) rfl (congrArg Value.bool h_49); refine qs_op (d := 49) (v' := .pointer (some ⟨g_2, 0, none⟩)) (vs := []) (obs := []) hK rfl (fun _ => by kernel_rfl) (fun x => trivial) rfl rfl rfl ?_; clear hK a; intro a hK; refine qs_op (d := 50) (v' := .pointer (some ⟨g_2, 2, none⟩)) (vs := []) (obs := []) hK rfl (fun _ => by kernel_rfl) (fun x => trivial) rfl rfl rfl ?_; clear hK a; intro a hK; refine qs_op (d := 51) (v' := .int .u64 p_1.Head.Root) (vs := [.int .u64 p_1.Head.Root]) (obs := [(⟨g_2, 2, none⟩, .int .u64 p_1.Head.Root)]) hK rfl (fun _ => by kernel_rfl) (fun x => ⟨(((hE.call x.h).blk 0 rfl).cell 2).trans rfl, trivial⟩) rfl rfl rfl ?_; clear hK a; intro a hK; refine qs_op (d := 52) (v' := .pointer (some ⟨g_2, 6, none⟩)) (vs := []) (obs := []) hK rfl (fun _ => by kernel_rfl) (fun x => trivial) rfl rfl rfl ?_; clear hK a; intro a hK; refine qs_op (d := 53) (v' := .agg #[.int .u64 p_1.Entry.Doc, .int .i64 p_1.Entry.Stamp.Lo, .int .i64 p_1.Entry.Stamp.Hi]) (vs := [.int .u64 p_1.Entry.Doc, .int .i64 p_1.Entry.Stamp.Lo, .int .i64 p_1.Entry.Stamp.Hi]) (obs := [(⟨g_2, 6, none⟩, .int .u64 p_1.Entry.Doc), (⟨g_2, 7, none⟩, .int .i64 p_1.Entry.Stamp.Lo), (⟨g_2, 8, none⟩, .int .i64 p_1.Entry.Stamp.Hi)]) hK rfl (fun _ => by kernel_rfl) (fun x => ⟨(((hE.call x.h).blk 0 rfl).cell 6).trans rfl, (((hE.call x.h).blk 0 rfl).cell 7).trans rfl, (((hE.call x.h).blk 0 rfl).cell 8).trans rfl, trivial⟩) rfl rfl rfl ?_; clear hK a; intro a hK; refine qs_call (d := 54) (v := .int .u64 v_50) (f := 13) (args := #[.agg #[.int .u64 p_1.Entry.Doc, .int .i64 p_1.Entry.Stamp.Lo, .int .i64 p_1.Entry.Stamp.Hi]]) hK rfl (fun _ => by kernel_rfl) rfl rfl (fun x => Fut.call (Nat.le_refl _) (g_office_Leaf F p_1.Entry (fun g => g < x.v.heap.size) x.v (fun _ h => h) (hT.to (hE.call x.h).b)  _ hy_50)) ?_; clear hK a; intro a hK; refine qs_op (d := 55) (v' := .pointer (some ⟨g_2, 5, none⟩)) (vs := []) (obs := []) hK rfl (fun _ => by kernel_rfl) (fun x => trivial) rfl rfl rfl ?_; clear hK a; intro a hK; refine qs_op (d := 56) (v' := .int .i64 p_1.Index) (vs := [.int .i64 p_1.Index]) (obs := [(⟨g_2, 5, none⟩, .int .i64 p_1.Index)]) hK rfl (fun _ => by kernel_rfl) (fun x => ⟨(((hE.call x.h).blk 0 rfl).cell 5).trans rfl, trivial⟩) rfl rfl rfl ?_; clear hK a; intro a hK; refine qs_op (d := 57) (v' := .pointer (some ⟨g_2, 0, none⟩)) (vs := []) (obs := []) hK rfl (fun _ => by kernel_rfl) (fun x => trivial) rfl rfl rfl ?_; clear hK a; intro a hK; refine qs_op (d := 58) (v' := .pointer (some ⟨g_2, 1, none⟩)) (vs := []) (obs := []) hK rfl (fun _ => by kernel_rfl) (fun x => trivial) rfl rfl rfl ?_; clear hK a; intro a hK; refine qs_op (d := 59) (v' := .int .i64 p_1.Head.Size) (vs := [.int .i64 p_1.Head.Size]) (obs := [(⟨g_2, 1, none⟩, .int .i64 p_1.Head.Size)]) hK rfl (fun _ => by kernel_rfl) (fun x => ⟨(((hE.call x.h).blk 0 rfl).cell 1).trans rfl, trivial⟩) rfl rfl rfl ?_; clear hK a; intro a hK; refine qs_op (d := 60) (v' := .pointer (some ⟨g_2, 9, none⟩)) (vs := []) (obs := []) hK rfl (fun _ => by kernel_rfl) (fun x => trivial) rfl rfl rfl ?_; clear hK a; intro a hK; refine qs_op (d := 61) (v' := .slice p_1.Path_A p_1.Path.length p_1.Path_c) (vs := [.slice p_1.Path_A p_1.Path.length p_1.Path_c]) (obs := [(⟨g_2, 9, none⟩, .slice p_1.Path_A p_1.Path.length p_1.Path_c)]) hK rfl (fun _ => by kernel_rfl) (fun x => ⟨(((hE.call x.h).blk 0 rfl).cell 9).trans rfl, trivial⟩) rfl rfl rfl ?_; clear hK a; intro a hK; refine qs_call (d := 62) (v := .bool v_51) (f := 55) (args := #[.int .u64 p_1.Head.Root, .int .u64 v_50, .int .i64 p_1.Index, .int .i64 p_1.Head.Size, .slice p_1.Path_A p_1.Path.length p_1.Path_c]) hK rfl (fun _ => by kernel_rfl) rfl rfl (fun x => Fut.call (Nat.le_refl _) (g_tree_Included F p_1.Head.Root v_50 p_1.Index p_1.Head.Size p_1.Path_A p_1.Path_c p_1.Path (fun g => g < x.v.heap.size) x.v (fun _ h => h) (hT.to (hE.call x.h).b) ((hE.call x.h).getAll 1 rfl) (by first | omega | simp) _ hy_51)) ?_
     clear hK a; intro a hK; refine qs_op (d := 63) (v' := .bool v_51) (vs := []) (obs := []) hK rfl (fun _ => by kernel_rfl) (fun x => trivial) rfl rfl rfl ?_; clear hK a; intro a hK; refine qs_op (d := 64) (v' := .int .i64 v_46) (vs := []) (obs := []) hK rfl (fun _ => by kernel_rfl) (fun x => trivial) rfl rfl rfl ?_; clear hK a; intro a hK; refine qs_op (d := 4) (v' := .bool v_51) (vs := []) (obs := []) hK rfl (fun _ => by kernel_rfl) (fun x => trivial) rfl rfl rfl ?_; clear hK a; intro a hK; refine qs_op (d := 5) (v' := .int .i64 v_46) (vs := []) (obs := []) hK rfl (fun _ => by kernel_rfl) (fun x => trivial) rfl rfl rfl ?_; clear hK a; intro a hK; refine wpQuiet_nil ?_; clear hE; intro w_52 S_53 hE; refine xt_norm ?_; exact ⟨v_51, _, hK.weak ⟨rfl, rfl, trivial⟩, hE.sel [] rfl rfl, Option.some.inj hG⟩
    ·refine sq_quiet hE rfl (by kernel_rfl) ?_; refine qs_op (d := 47) (v' := .bool v_45) (vs := []) (obs := []) hK rfl (fun _ => by kernel_rfl) (fun x => trivial) rfl rfl rfl ?_; clear hK a; intro a hK; refine qs_op (d := 48) (v' := .bool v_45) (vs := []) (obs := []) hK rfl (fun _ => by kernel_rfl) (fun x => trivial) rfl rfl rfl ?_; clear hK a; intro a hK; replace hK := hK.sub (d := 48) (v' := .bool false) rfl (congrArg Value.bool h_49); refine qs_skip (d := 49) hK rfl rfl rfl ?_; clear hK a; intro a hK; refine qs_skip (d := 50) hK rfl rfl rfl ?_; clear hK a; intro a hK; refine qs_skip (d := 51) hK rfl rfl rfl ?_; clear hK a; intro a hK; refine qs_skip (d := 52) hK rfl rfl rfl ?_; clear hK a; intro a hK; refine qs_skip (d := 53) hK rfl rfl rfl ?_; clear hK a; intro a hK; refine qs_skip (d := 54) hK rfl rfl rfl ?_; clear hK a; intro a hK; refine qs_skip (d := 55) hK rfl rfl rfl ?_; clear hK a; intro a hK; refine qs_skip (d := 56) hK rfl rfl rfl ?_; clear hK a; intro a hK; refine qs_skip (d := 57) hK rfl rfl rfl ?_; clear hK a; intro a hK; refine qs_skip (d := 58) hK rfl rfl rfl ?_; clear hK a; intro a hK; refine qs_skip (d := 59) hK rfl rfl rfl ?_; clear hK a; intro a hK; refine qs_skip (d := 60) hK rfl rfl rfl ?_; clear hK a; intro a hK; refine qs_skip (d := 61) hK rfl rfl rfl ?_; clear hK a; intro a hK; refine qs_skip (d := 62) hK rfl rfl rfl ?_; clear hK a; intro a hK; refine qs_op (d := 63) (v' := .bool false) (vs := []) (obs := []) hK rfl (fun _ => by kernel_rfl) (fun x => trivial) rfl rfl rfl ?_; clear hK a; intro a hK; refine qs_op (d := 64) (v' := .int .i64 v_46) (vs := []) (obs := []) hK rfl (fun _ => by kernel_rfl) (fun x => trivial) rfl rfl rfl ?_; clear hK a; intro a hK; refine qs_op (d := 4) (v' := .bool false) (vs := []) (obs := []) hK rfl (fun _ => by kernel_rfl) (fun x => trivial) rfl rfl rfl ?_; clear hK a; intro a hK; refine qs_op (d := 5) (v' := .int .i64 v_46) (vs := []) (obs := []) hK rfl (fun _ => by kernel_rfl) (fun x => trivial) rfl rfl rfl ?_; clear hK a; intro a hK; refine wpQuiet_nil ?_; clear hE; intro w_54 S_55 hE; refine xt_norm ?_; exact ⟨false, _, hK.weak ⟨rfl, rfl, trivial⟩, hE.sel [] rfl rfl, Option.some.inj hG⟩
   ·clear hK hE a; rintro a w_58 ⟨v_57, S_59, hK, hE, ho_⟩; subst ho_; replace hG := hG_56; clear hG_56; refine wp_ret ?_; refine vc_ret (v' := .tuple #[.bool v_57, .int .i64 v_46]) (vs := []) (obs := []) hK (fun _ => by kernel_rfl) trivial rfl ?_; obtain rfl := Option.some.inj hG; exact ⟨rfl, hE.b⟩
end Go.Proofs.YtmfjcachghboiaaDoor
namespace Go.Proofs.YtmfjcachghboiaaDoor
open Go.RowKit
def vI (i : KInterval) : Bool := decide (0 ≤ i.Lo ∧ i.Lo ≤ i.Hi ∧ i.Hi ≤ 3000000000000000)
theorem vI_p (F : Nat) (i : KInterval) : G_interval_Valid F i = some (vI i) := by
 unfold G_interval_Valid vI
 by_cases h1 : 0 ≤ i.Lo <;> by_cases h2 : i.Lo ≤ i.Hi <;> by_cases h3 : i.Hi ≤ 3000000000000000 <;> simp [ifB, h1, h2, h3]
theorem vI_r (F : Nat) (i : KInterval) : G_regulatorref02_Valid F i = some (vI i) := vI_p F i
theorem logged_p (F : Nat) (e : KEntry) : G_office_logged_formed F ⟨e⟩ = some (vI e.Stamp) := by unfold G_office_logged_formed; rw [vI_p]; rfl
theorem btw_p (F : Nat) (n a b : Int) : G_office_between F n a b = some (decide (a ≤ n ∧ n ≤ b)) := by
 unfold G_office_between
 by_cases h1 : a ≤ n <;> by_cases h2 : n ≤ b <;> simp [ifB, h1, h2]
theorem within_p (F : Nat) (n a : Int) : G_group_within F n a = some (decide (a ≤ n ∧ n < 1073741789)) := by
 unfold G_group_within
 by_cases h1 : a ≤ n <;> by_cases h2 : n < 1073741789 <;> simp [ifB, h1, h2]
def fH (h : KHead) : Bool := decide ((1 ≤ h.Office ∧ h.Office ≤ 16) ∧ (1 ≤ h.Size ∧ h.Size ≤ 4096) ∧ (0 ≤ h.Sig.C ∧ h.Sig.C < 1073741789) ∧ (0 ≤ h.Sig.S ∧ h.Sig.S < 1073741789))
theorem fH_p (F : Nat) (h : KHead) : G_office_formed F h = some (fH h) := by
 unfold G_office_formed fH; simp only [btw_p, ob_some]
 by_cases h1 : 1 ≤ h.Office ∧ h.Office ≤ 16 <;> by_cases h2 : 1 ≤ h.Size ∧ h.Size ≤ 4096 <;> by_cases h3 : 0 ≤ h.Sig.C ∧ h.Sig.C ≤ 1073741788 <;> by_cases h4 : 0 ≤ h.Sig.S ∧ h.Sig.S ≤ 1073741788 <;> simp [ifB, h1, h2, h3, h4] <;> omega
def msgF (h : KHead) : List Int := [h.Office, h.Size, IntKind.i64.wrap (Int.fdiv h.Root (2 ^ 32)), IntKind.i64.wrap (IntKind.u32.wrap h.Root)]
theorem msg_p (F : Nat) (h : KHead) : G_office_message F h = some (msgF h) := rfl
theorem xAt_le (X : Nat) : ∀ k, xAt X k ≤ X
 | 0 => Nat.le_refl _
 | k + 1 => by have := xAt_le X k; show xAt X k / 2 ≤ X; omega
theorem xAt_pow (X : Nat) : ∀ k, xAt X k = X / 2 ^ k
 | 0 => by show X = X / 1; omega
 | k + 1 => by
  show xAt X k / 2 = _
  rw [xAt_pow X k, Nat.div_div_eq_div_mul, Nat.pow_succ]
theorem xAt_end {X e : Nat} (h : X < 2 ^ e) : ∃ n, n ≤ e ∧ xAt X n = 0 ∧ ∀ k, k < n → 0 < xAt X k := by
 induction e with
 | zero => exact ⟨0, Nat.le_refl _, by show X = 0; simp at h; omega, fun k hk => absurd hk (Nat.not_lt_zero _)⟩
 | succ e ih =>
  rcases Nat.lt_or_ge X (2 ^ e) with h1 | h1
  ·obtain ⟨n, h2, h3, h4⟩ := ih h1; exact ⟨n, by omega, h3, h4⟩
  ·refine ⟨e + 1, Nat.le_refl _, by rw [xAt_pow, Nat.div_eq_of_lt h], fun k hk => ?_⟩; rw [xAt_pow]; exact Nat.div_pos (Nat.le_trans (Nat.pow_le_pow_right (by omega) (by omega)) h1) (Nat.two_pow_pos k)
theorem odd_test (n : Nat) (h : n < 9223372036854775808) : (bits BinOp.and IntKind.i64 ((n : Nat) : Int) 1 == 1) = decide (n % 2 = 1) := by
 rw [and_in h]
 by_cases hn : n % 2 = 1
 ·rw [hn]; rfl
 ·rw [show n % 2 = 0 by omega]; rfl
theorem pow_pn (A X : Nat) (hA : A < 2147483579) (hX : X < 2 ^ 62) {F : Nat} (hF : 64 ≤ F) : G_group_power F (A : Int) (X : Int) = some ((pw A X : Nat) : Int) := by
 obtain ⟨n, hn, h0, hp⟩ := xAt_end hX; unfold G_group_power; rw [show ((X : Int), (A : Int), (1 : Int)) = (fun k => (((xAt X k : Nat) : Int), ((aAt A k : Nat) : Int), ((oAt A X k : Nat) : Int))) 0 from rfl]; rw [iter_seq (fun k => (((xAt X k : Nat) : Int), ((aAt A k : Nat) : Int), ((oAt A X k : Nat) : Int))) n ((oAt A X n : Nat) : Int) ?_ ?_ (by omega)]
 ·simp only [ob_some]; rw [at_end h0]
 ·intro k hk; have hx := xAt_le X k; have hx2 : X < 9223372036854775808 := Nat.lt_of_lt_of_le hX (by decide); simp only [un3]; rw [show decide (((xAt X k : Nat) : Int) > 0) = true from decide_eq_true (by have := hp k hk; omega), ifB_t, odd_test _ (by omega), mul_in (aAt_lt hA k) (aAt_lt hA k), mod_in, shr_in]
  by_cases ho : xAt X k % 2 = 1
  ·rw [show decide (xAt X k % 2 = 1) = true from decide_eq_true ho, ifB_t, mul_in (oAt_lt A X k) (aAt_lt hA k), mod_in]; simp only [ob_some]; rw [oAt_odd ho]; rfl
  ·rw [show decide (xAt X k % 2 = 1) = false from decide_eq_false ho, ifB_f]; simp only [ob_some]; rw [oAt_even ho]; rfl
 ·simp only [un3]; rw [h0]; rfl
theorem pow_rn (A X : Nat) (hA : A < 2147483579) (hX : X < 2 ^ 62) {F : Nat} (hF : 64 ≤ F) : G_regulatorref06_Power F (A : Int) (X : Int) 2147483579 = some ((pw A X : Nat) : Int) := by
 obtain ⟨n, hn, h0, hp⟩ := xAt_end hX; unfold G_regulatorref06_Power; rw [show ((A : Int), (X : Int), (2147483579 : Int), (1 : Int)) = (fun k => (((aAt A k : Nat) : Int), ((xAt X k : Nat) : Int), (2147483579 : Int), ((oAt A X k : Nat) : Int))) 0 from rfl]; rw [iter_seq (fun k => (((aAt A k : Nat) : Int), ((xAt X k : Nat) : Int), (2147483579 : Int), ((oAt A X k : Nat) : Int))) n ((oAt A X n : Nat) : Int) ?_ ?_ (by omega)]
 ·simp only [ob_some]; rw [at_end h0]
 ·intro k hk; have hx := xAt_le X k; have hx2 : X < 9223372036854775808 := Nat.lt_of_lt_of_le hX (by decide); simp only [un4]; have hz : whenG (!((2147483579 : Int) == 0)) () = some () := rfl; have hodd : (Int.tmod ((xAt X k : Nat) : Int) 2 == 1) = decide (xAt X k % 2 = 1) := by
   rw [show Int.tmod ((xAt X k : Nat) : Int) 2 = ((xAt X k % 2 : Nat) : Int) from rfl]
   by_cases hn : xAt X k % 2 = 1
   ·rw [hn]; rfl
   ·rw [show xAt X k % 2 = 0 by omega]; rfl
  have hhalf : IntKind.i64.wrap (Int.tdiv ((xAt X k : Nat) : Int) 2) = ((xAt X k / 2 : Nat) : Int) := by
   rw [show Int.tdiv ((xAt X k : Nat) : Int) 2 = ((xAt X k / 2 : Nat) : Int) from rfl, IntKind.wrap_i64]; omega
  rw [show decide (((xAt X k : Nat) : Int) > 0) = true from decide_eq_true (by have := hp k hk; omega), ifB_t, hodd, hz, mul_in (aAt_lt hA k) (aAt_lt hA k), mod_in, hhalf]
  by_cases ho : xAt X k % 2 = 1
  ·rw [show decide (xAt X k % 2 = 1) = true from decide_eq_true ho, ifB_t, mul_in (oAt_lt A X k) (aAt_lt hA k), mod_in]; simp only [ob_some]; rw [oAt_odd ho]; rfl
  ·rw [show decide (xAt X k % 2 = 1) = false from decide_eq_false ho, ifB_f]; simp only [ob_some]; rw [oAt_even ho]; rfl
 ·simp only [un4]; rw [h0]; rfl
def memB (a : Int) : Bool := decide (0 < a ∧ a < 2147483579 ∧ pw a.toNat 1073741789 = 1)
theorem mem_p (a : Int) {F : Nat} (hF : 64 ≤ F) : G_group_Member F a = some (memB a) := by
 unfold G_group_Member memB
 by_cases h1 : 0 < a
 ·by_cases h2 : a < 2147483579
  ·have hp := pow_pn a.toNat 1073741789 (by omega) (by decide) hF; rw [show ((a.toNat : Nat) : Int) = a by omega, show ((1073741789 : Nat) : Int) = 1073741789 from rfl] at hp; rw [hp]
   by_cases h3 : pw a.toNat 1073741789 = 1 <;> simp [ifB, h1, h2, h3] <;> omega
  ·simp [ifB, h1, h2]
 ·simp [ifB, h1]
def pubB (a : Int) : Bool := memB a && !(a == 1)
theorem pub_p (a : Int) {F : Nat} (hF : 64 ≤ F) : G_office_isPublic F a = some (pubB a) := by
 unfold G_office_isPublic pubB; rw [mem_p a hF]; cases h : (a == 1) <;> simp [ifB]
end Go.Proofs.YtmfjcachghboiaaDoor
namespace Go.Proofs.YtmfjcachghboiaaDoor
open Go.ChangeShapes Go.WideShapes Go.ChangeAt Go.RowKit Go.Deep
theorem own : ownKnob Tryd.prog.godebug = none := by kernel_rfl
theorem laidOut : laidOutB Tryd.prog = true := by kernel_rfl
section
variable {H : Type} {enc : TypeId × Value → H}
theorem trodAll_below {P : Program} (hl : laidOutB P = true) {W W' : World} (hb : Below W.heap.size W W') : ∀ {ts : List TypeId} {vs : List Value} {ds : List (DataW H)} {ps : List MemPlace},
  (∀ t ∈ ts, P.readableRec t = true ∧ t < P.types.size) → DataW.TrodAll enc P W 0 (fun _ => true) true ts vs ds ps → (∀ x ∈ ps, x.block < W.heap.size) →
  DataW.TrodAll enc P W' 0 (fun b => decide (b < W.heap.size)) true ts vs ds ps
 | [], vs, ds, ps, _, h, _ => by
  obtain ⟨rfl, rfl, rfl⟩ := trodAll_nil h; rfl
 | t :: ts, vs, ds, ps, hr, h, hlt => by
  obtain ⟨v, vs', d, ds', p, q, rfl, rfl, rfl, h1, h2⟩ := trodAll_cons h; have h0 := hr t (by simp); exact trodAll_cons_mk (Below.trod hl h0.1 h0.2 h1 hb (fun x hx => hlt x (by simp [hx]))) (trodAll_below hl hb (fun t ht => hr t (by simp [ht])) h2 (fun x hx => hlt x (by simp [hx])))
theorem post_true {P : Program} {fn : Func} {s : ChangeSpec} {W W' : World} {args : Array Value} {ds gs : List (DataW H)} {before : List MemPlace} {b : TypeId} (hl : laidOutB P = true)
  (hr : ∀ t ∈ fn.params.toList, P.readableRec t = true ∧ t < P.types.size) (hb4 : P.underlying b = some .bool) (hrt : fn.resultTypes = #[b]) (hs : s.vars = [])
  (hW : DataW.Whole enc P fn.params.toList s.vars false W args.toList ds gs before) (hres : (s.fn H (ds ++ gs)).results = [.lit (.bool true)]) (hargs : (s.fn H (ds ++ gs)).args = ds) (hvs : (s.fn H (ds ++ gs)).vars = [])
  (hb : Below W.heap.size W W') : s.post enc P fn false true false false W args (.bool true) W' := by
 have hW' := hW; obtain ⟨p, q, hA, hV, rfl, _, _⟩ := hW; rw [hs] at hV; obtain ⟨rfl, rfl⟩ := trodVars_none hV; refine ⟨_, _, _, [], p, [], hW', ?_, ?_, ?_, hb.frame _, fun h => by cases h⟩
 ·rw [hres, hrt]; exact trodAll_mk1 (shut_bool hb4 true)
 ·rw [hargs]; exact trodAll_below hl hb hr hA (fun x hx => by simpa using hW'.lt x (by simp [hx]))
 ·rw [hvs, hs]; rfl
end
end Go.Proofs.YtmfjcachghboiaaDoor
namespace Go.Proofs.YtmfjcachghboiaaDoor
open Go.ChangeShapes Go.WideShapes Go.ChangeAt Go.RowKit Go.Deep
def inKd (k : IntKind) (n : Int) : Prop := (Lit.int k n).wf = true
theorem inKd_i64 {n : Int} (h : inKd .i64 n) : -9223372036854775808 ≤ n ∧ n ≤ 9223372036854775807 := by
 have : IntKind.i64.min ≤ n ∧ n ≤ IntKind.i64.max := by simpa [inKd, Lit.wf] using h
 rwa [show IntKind.i64.min = -9223372036854775808 by decide, show IntKind.i64.max = 9223372036854775807 by decide] at this
theorem inKd_u64 {n : Int} (h : inKd .u64 n) : 0 ≤ n ∧ n ≤ 18446744073709551615 := by
 have : IntKind.u64.min ≤ n ∧ n ≤ IntKind.u64.max := by simpa [inKd, Lit.wf] using h
 rwa [show IntKind.u64.min = 0 by decide, show IntKind.u64.max = 18446744073709551615 by decide] at this
theorem inKd_u8 {n : Int} (h : inKd .u8 n) : 0 ≤ n ∧ n ≤ 255 := by
 have : IntKind.u8.min ≤ n ∧ n ≤ IntKind.u8.max := by simpa [inKd, Lit.wf] using h
 rwa [show IntKind.u8.min = 0 by decide, show IntKind.u8.max = 255 by decide] at this
theorem rowS_all {w : World} {A : Option Addr} {xs : List Value} (h : Rd w A xs) : RowS (fun g => g < w.heap.size) w A xs := ⟨h, fun hn => by obtain ⟨b, o, e, hb, _⟩ := h hn; exact ⟨b, o, e, hb⟩⟩
theorem choose_ltK {α : Type} [Inhabited α] {n : Nat} {p : Nat → α → Prop} (h : ∀ i, i < n → ∃ v, p i v) : ∃ V : Nat → α, ∀ i, i < n → p i (V i) := by
 have h' : ∀ i, ∃ v, i < n → p i v := fun i => by
  rcases Nat.lt_or_ge i n with hi | hi
  ·obtain ⟨v, hv⟩ := h i hi; exact ⟨v, fun _ => hv⟩
  ·exact ⟨default, fun h => absurd h (Nat.not_lt.2 hi)⟩
 exact ⟨fun i => Classical.choose (h' i), fun i => Classical.choose_spec (h' i)⟩
theorem fl_get {α : Type} (f : α → List Value) (m : Nat) (hm : ∀ x, (f x).length = m) : ∀ (l : List α) (k j : Nat) (hk : k < l.length), j < m → (l.flatMap f)[k * m + j]? = (f l[k])[j]?
 | [], k, j, hk, _ => absurd hk (Nat.not_lt_zero _)
 | x :: l, 0, j, _, hj => by
  rw [List.flatMap_cons, Nat.zero_mul, Nat.zero_add, List.getElem?_append_left (by rw [hm]; exact hj)]; rfl
 | x :: l, k + 1, j, hk, hj => by
  rw [List.flatMap_cons, List.getElem?_append_right (by rw [hm, Nat.add_mul]; omega), hm]; have := fl_get f m hm l k j (by simpa using hk) hj; rw [← show (k + 1) * m + j - m = k * m + j from by rw [Nat.add_mul]; omega] at this; exact this
theorem cell_ltK {w : World} {b o : Nat} {u : Value} (h : w.cell? ⟨b, o, none⟩ = some u) : b < w.heap.size := World.block_lt_of_cell? w ⟨b, o, none⟩ h
section
variable {α : Type} {f : α → List Value} {m : Nat} {w : World}
theorem rd_mk {b o : Nat} {l : List α} (hm : ∀ x, (f x).length = m) (h0 : 0 < m) (h : ∀ i (hi : i < l.length) j, j < m → w.cell? ⟨b, o + i * m + j, none⟩ = (f l[i])[j]?) : Rd w (some ⟨b, o, none⟩) (l.flatMap f) := fun hne => by
 have hl : 0 < l.length := by
  cases l with
  | nil => exact absurd rfl hne
  | cons _ _ => simp
 have hlen := fl_len f m hm l; refine ⟨b, o, rfl, ?_, fun j u hu => ?_⟩
 ·have h1 := h 0 hl 0 h0; have h2 : (f l[0])[0]? = some ((f l[0])[0]'(by rw [hm]; exact h0)) := List.getElem?_eq_getElem _; rw [h2] at h1; exact cell_ltK h1
 ·have hj : j < l.length * m := by
   have := (List.getElem?_eq_some_iff.1 hu).1
   rwa [hlen] at this
  have hi : j / m < l.length := Nat.div_lt_of_lt_mul (by rw [Nat.mul_comm]; exact hj); have hr : j % m < m := Nat.mod_lt _ h0; have he : j / m * m + j % m = j := by rw [Nat.mul_comm]; exact Nat.div_add_mod _ _
  have hg := fl_get f m hm l (j / m) (j % m) hi hr; rw [he] at hg; rw [hg] at hu; have := h (j / m) hi (j % m) hr; rw [Nat.add_assoc, he] at this; rw [this]; exact hu
end
section
variable {H : Type} {enc : TypeId × Value → H} {w : World} {base : Nat} {spare : Nat → Bool} {held : Bool}
theorem trod_rowS {α : Type} [Inhabited α] (f : α → List Value) {m : Nat} (h0 : 0 < m) (hm : ∀ x, (f x).length = m) {T E : TypeId} (hu : Tryd.prog.underlying T = some (.slice E)) (hc : Tryd.prog.cellsOf E = m) (Q : α → Prop)
  (hE : ∀ n cs x, DataW.trod enc Tryd.prog w base spare held n E cs = some x → ∃ v, cs = f v ∧ Q v) {fuel : Nat} {cs : List Value} {x : DataW H × List MemPlace} (h : DataW.trod enc Tryd.prog w base spare held fuel T cs = some x) :
  ∃ (A : Option Addr) (c : Nat) (l : List α), cs = [.slice A l.length c] ∧ l.length ≤ c ∧ c ≤ maxLen ∧ Rd w A (l.flatMap f) ∧ ∀ v ∈ l, Q v := by
 obtain ⟨d, p⟩ := x; rcases open_slice hu h with ⟨hcs, _⟩ | ⟨a, len, cap, mm, n, D, Pl, hcs, _, hl, hmx, hmm, _, hx⟩
 ·exact ⟨none, 0, [], hcs, Nat.le_refl _, Nat.zero_le _, Rd.nil _ _, fun v hv => by cases hv⟩
 ·have hlm : len ≤ mm := by rw [hmm]; split <;> omega
  have hex : ∀ i, i < len → ∃ v : α, (∀ j, j < m → w.cell? ((a.add (i * m)).add j) = (f v)[j]?) ∧ Q v := fun i hi => by
   obtain ⟨cs', h1, h2⟩ := hx i (by omega); rw [hc] at h1; obtain ⟨v, rfl, hq⟩ := hE _ _ _ h2; exact ⟨v, (World.cells?_some h1).2.2, hq⟩
  obtain ⟨V, hV⟩ := choose_ltK hex; refine ⟨some a, cap, (List.range len).map V, by rw [hcs]; simp, by simpa using hl, hmx, ?_, ?_⟩
  ·rcases Nat.eq_zero_or_pos len with h00 | h00
   ·subst h00; exact Rd.nil _ _
   obtain ⟨b, o, spot⟩ := a; have hs : spot = none := by
    have := (hV 0 h00).1 0 h0; simp only [Nat.zero_mul, Addr.add, if_true] at this; have h2 : (f (V 0))[0]? = some ((f (V 0))[0]'(by rw [hm]; exact h0)) := List.getElem?_eq_getElem _; rw [h2] at this; exact World.cell?_spot this
   subst hs; refine rd_mk hm h0 fun i hi j hj => ?_
   have hi' : i < len := by simpa using hi
   have e : ∀ j, (((⟨b, o, none⟩ : Addr).add (i * m)).add j) = ⟨b, o + i * m + j, none⟩ := fun j => by rw [add_addr, add_addr]
   have hcc := (hV i hi').1 j hj; rw [e] at hcc; simp only [List.getElem_map, List.getElem_range]; exact hcc
  ·intro v hv; obtain ⟨i, hi, rfl⟩ := List.mem_map.1 hv; exact (hV i (List.mem_range.1 hi)).2
end
end Go.Proofs.YtmfjcachghboiaaDoor
namespace Go.Proofs.YtmfjcachghboiaaDoor
open Go.ChangeShapes Go.WideShapes Go.ChangeAt Go.RowKit Go.Deep
section
variable {H : Type} {enc : TypeId × Value → H} {w : World} {base : Nat} {spare : Nat → Bool} {held : Bool}
set_option maxRecDepth 10000
theorem trod_3 {n : Nat} {cs : List Value} {x : DataW H × List MemPlace} (h : DataW.trod enc Tryd.prog w base spare held n 3 cs = some x) : ∃ v : Int, cs = c_i64 v ∧ inKd .i64 v := by
 obtain ⟨a, e, _, hw⟩ := DataW.trod_int Tryd.underlying3 h; exact ⟨a, e, hw⟩
theorem cl_3 : Tryd.prog.cellsOf 3 = 1 := by kernel_rfl
theorem trod_25 {n : Nat} {cs : List Value} {x : DataW H × List MemPlace} (h : DataW.trod enc Tryd.prog w base spare held n 25 cs = some x) : ∃ v : Int, cs = c_u64 v ∧ inKd .u64 v := by
 obtain ⟨a, e, _, hw⟩ := DataW.trod_int Tryd.underlying25 h; exact ⟨a, e, hw⟩
theorem cl_25 : Tryd.prog.cellsOf 25 = 1 := by kernel_rfl
theorem cl_27 : Tryd.prog.cellsOf 27 = 2 := by kernel_rfl
structure KInterval.rng (x : KInterval) : Prop where
 r_Lo : inKd .i64 x.Lo
 r_Hi : inKd .i64 x.Hi
theorem tf_27 : ∃ f0 f1 : Field, Tryd.prog.underlying 27 = some (.struct #[f0, f1]) ∧ (f0.offset = 0 ∧ f0.type = 3) ∧ (f1.offset = 1 ∧ f1.type = 3) := ⟨_, _, Tryd.underlying27, ⟨by kernel_rfl, by kernel_rfl⟩, ⟨by kernel_rfl, by kernel_rfl⟩⟩
theorem trod_27 {n : Nat} {cs : List Value} {x : DataW H × List MemPlace} (h : DataW.trod enc Tryd.prog w base spare held n 27 cs = some x) : ∃ v : KInterval, cs = v.cells ∧ KInterval.rng v := by
 obtain ⟨f0, f1, hu, ⟨o0, t0⟩, ⟨o1, t1⟩⟩ := tf_27; obtain ⟨xs, n', _, _, hlen, hxl, hf⟩ := DataW.trod_struct hu h; rw [cl_27] at hlen
 match cs, hlen with
 | [c0, c1], _ =>
  have q0 := hf 0 f0 rfl; obtain ⟨y0, hy0⟩ : ∃ y, xs[0]? = some y := ⟨_, List.getElem?_eq_getElem (by rw [hxl]; exact (by decide : 0 < 2))⟩; rw [hy0, o0, t0, cl_3] at q0; obtain ⟨v0, e0, hg0⟩ := trod_3 q0; replace e0 : [c0] = [.int .i64 v0] := e0; simp only [List.cons.injEq, and_true] at e0; obtain rfl := e0; have q1 := hf 1 f1 rfl; obtain ⟨y1, hy1⟩ : ∃ y, xs[1]? = some y := ⟨_, List.getElem?_eq_getElem (by rw [hxl]; exact (by decide : 1 < 2))⟩; rw [hy1, o1, t1, cl_3] at q1; obtain ⟨v1, e1, hg1⟩ := trod_3 q1; replace e1 : [c1] = [.int .i64 v1] := e1; simp only [List.cons.injEq, and_true] at e1; obtain rfl := e1; exact ⟨⟨v0, v1⟩, rfl, ⟨hg0, hg1⟩⟩
theorem cl_29 : Tryd.prog.cellsOf 29 = 3 := by kernel_rfl
structure KEntry.rng (x : KEntry) : Prop where
 r_Doc : inKd .u64 x.Doc
 r_Stamp : KInterval.rng x.Stamp
theorem tf_29 : ∃ f0 f1 : Field, Tryd.prog.underlying 29 = some (.struct #[f0, f1]) ∧ (f0.offset = 0 ∧ f0.type = 25) ∧ (f1.offset = 1 ∧ f1.type = 27) := ⟨_, _, Tryd.underlying29, ⟨by kernel_rfl, by kernel_rfl⟩, ⟨by kernel_rfl, by kernel_rfl⟩⟩
theorem trod_29 {n : Nat} {cs : List Value} {x : DataW H × List MemPlace} (h : DataW.trod enc Tryd.prog w base spare held n 29 cs = some x) : ∃ v : KEntry, cs = v.cells ∧ KEntry.rng v := by
 obtain ⟨f0, f1, hu, ⟨o0, t0⟩, ⟨o1, t1⟩⟩ := tf_29; obtain ⟨xs, n', _, _, hlen, hxl, hf⟩ := DataW.trod_struct hu h; rw [cl_29] at hlen
 match cs, hlen with
 | [c0, c1, c2], _ =>
  have q0 := hf 0 f0 rfl; obtain ⟨y0, hy0⟩ : ∃ y, xs[0]? = some y := ⟨_, List.getElem?_eq_getElem (by rw [hxl]; exact (by decide : 0 < 2))⟩; rw [hy0, o0, t0, cl_25] at q0; obtain ⟨v0, e0, hg0⟩ := trod_25 q0; replace e0 : [c0] = [.int .u64 v0] := e0; simp only [List.cons.injEq, and_true] at e0; obtain rfl := e0; have q1 := hf 1 f1 rfl; obtain ⟨y1, hy1⟩ : ∃ y, xs[1]? = some y := ⟨_, List.getElem?_eq_getElem (by rw [hxl]; exact (by decide : 1 < 2))⟩; rw [hy1, o1, t1, cl_27] at q1; obtain ⟨v1, e1, hg1⟩ := trod_27 q1; replace e1 : [c1, c2] = [.int .i64 v1.Lo, .int .i64 v1.Hi] := e1; simp only [List.cons.injEq, and_true] at e1; obtain ⟨rfl, rfl⟩ := e1; exact ⟨⟨v0, v1⟩, rfl, ⟨hg0, hg1⟩⟩
instance : Inhabited KEntry := ⟨⟨0, ⟨0, 0⟩⟩⟩
theorem trod_22 {n : Nat} {cs : List Value} {x : DataW H × List MemPlace} (h : DataW.trod enc Tryd.prog w base spare held n 22 cs = some x) :
  ∃ (A : Option Addr) (c : Nat) (l : List KEntry), cs = [.slice A l.length c] ∧ l.length ≤ c ∧ c ≤ maxLen ∧ RowS (fun g => g < w.heap.size) w A (l.flatMap KEntry.cells) ∧ (∀ y ∈ l, KEntry.rng y) := by
 obtain ⟨A, c, l, h1, h2, h3, h4, h5⟩ := trod_rowS KEntry.cells (m := 3) (by decide) (fun _ => rfl) Tryd.underlying22 cl_29 (fun v : KEntry => KEntry.rng v) (fun _ _ _ hx => trod_29 hx) h; exact ⟨A, c, l, h1, h2, h3, rowS_all h4, h5⟩
theorem cl_22 : Tryd.prog.cellsOf 22 = 1 := by kernel_rfl
theorem cl_24 : Tryd.prog.cellsOf 24 = 2 := by kernel_rfl
structure KOffice.rng (x : KOffice) : Prop where
 r_ID : inKd .i64 x.ID
 r_Entries : (fun l : List KEntry => ∀ y ∈ l, KEntry.rng y) x.Entries
theorem tf_24 : ∃ f0 f1 : Field, Tryd.prog.underlying 24 = some (.struct #[f0, f1]) ∧ (f0.offset = 0 ∧ f0.type = 3) ∧ (f1.offset = 1 ∧ f1.type = 22) := ⟨_, _, Tryd.underlying24, ⟨by kernel_rfl, by kernel_rfl⟩, ⟨by kernel_rfl, by kernel_rfl⟩⟩
theorem trod_24 {n : Nat} {cs : List Value} {x : DataW H × List MemPlace} (h : DataW.trod enc Tryd.prog w base spare held n 24 cs = some x) : ∃ v : KOfficeL, cs = v.cells ∧ KOfficeL.ok (fun g => g < w.heap.size) w v ∧ KOffice.rng v.p := by
 obtain ⟨f0, f1, hu, ⟨o0, t0⟩, ⟨o1, t1⟩⟩ := tf_24; obtain ⟨xs, n', _, _, hlen, hxl, hf⟩ := DataW.trod_struct hu h; rw [cl_24] at hlen
 match cs, hlen with
 | [c0, c1], _ =>
  have q0 := hf 0 f0 rfl; obtain ⟨y0, hy0⟩ : ∃ y, xs[0]? = some y := ⟨_, List.getElem?_eq_getElem (by rw [hxl]; exact (by decide : 0 < 2))⟩; rw [hy0, o0, t0, cl_3] at q0; obtain ⟨v0, e0, hg0⟩ := trod_3 q0; replace e0 : [c0] = [.int .i64 v0] := e0; simp only [List.cons.injEq, and_true] at e0; obtain rfl := e0; have q1 := hf 1 f1 rfl; obtain ⟨y1, hy1⟩ : ∃ y, xs[1]? = some y := ⟨_, List.getElem?_eq_getElem (by rw [hxl]; exact (by decide : 1 < 2))⟩; rw [hy1, o1, t1, cl_22] at q1; obtain ⟨A1, k1, v1, e1, hc1, _, hr1, hg1⟩ := trod_22 q1; replace e1 : [c1] = [.slice A1 v1.length k1] := e1; simp only [List.cons.injEq, and_true] at e1; obtain rfl := e1; exact ⟨⟨v0, A1, k1, v1⟩, rfl, ⟨hr1, hc1⟩, ⟨hg0, hg1⟩⟩
theorem opn_24 {r : Reach} {b0 : Nat} {v : Value} {d : DataW H} {p : List MemPlace} (hv : Value.okWide Tryd.prog w r b0 24 v) (h : DataW.Trod enc Tryd.prog w base spare held 24 v d p) : ∃ x : KOfficeL, v = .agg #[.int .i64 x.ID, .slice x.Entries_A x.Entries.length x.Entries_c] ∧ KOfficeL.ok (fun g => g < w.heap.size) w x ∧ KOffice.rng x.p := by
 obtain ⟨f0, f1, hu, _⟩ := tf_24; obtain ⟨cs, rfl, hsz⟩ := okWide_struct hu hv; obtain ⟨fuel, hf⟩ := h; obtain ⟨x, hx, hw⟩ := trod_24 hf; refine ⟨x, congrArg Value.agg ?_, hw⟩; have : cs.toList = x.cells := by simpa [Value.cells] using hx
 rw [← Array.toArray_toList (xs := cs), this]; rfl
structure KSig.rng (x : KSig) : Prop where
 r_C : inKd .i64 x.C
 r_S : inKd .i64 x.S
structure KHead.rng (x : KHead) : Prop where
 r_Office : inKd .i64 x.Office
 r_Size : inKd .i64 x.Size
 r_Root : inKd .u64 x.Root
 r_Sig : KSig.rng x.Sig
structure KReceipt.rng (x : KReceipt) : Prop where
 r_Head : KHead.rng x.Head
 r_Index : inKd .i64 x.Index
 r_Entry : KEntry.rng x.Entry
 r_Path : (fun l : List Int => ∀ y ∈ l, inKd .u64 y) x.Path
theorem opn_5 {r : Reach} {b0 : Nat} {v : Value} {d : DataW H} {p : List MemPlace} (hv : Value.okWide Tryd.prog w r b0 5 v) (h : DataW.Trod enc Tryd.prog w base spare held 5 v d p) : ∃ x : Int, v = .int .u8 x ∧ inKd .u8 x := by
 obtain ⟨x, rfl, _, _, hw⟩ := open_int Tryd.underlying5 hv h; exact ⟨x, rfl, hw⟩
theorem opn_25 {r : Reach} {b0 : Nat} {v : Value} {d : DataW H} {p : List MemPlace} (hv : Value.okWide Tryd.prog w r b0 25 v) (h : DataW.Trod enc Tryd.prog w base spare held 25 v d p) : ∃ x : Int, v = .int .u64 x ∧ inKd .u64 x := by
 obtain ⟨x, rfl, _, _, hw⟩ := open_int Tryd.underlying25 hv h; exact ⟨x, rfl, hw⟩
end
end Go.Proofs.YtmfjcachghboiaaDoor
namespace Go.Proofs.YtmfjcachghboiaaDoor
open Go.RowKit
theorem wrap_i64_rng (n : Int) : -9223372036854775808 ≤ IntKind.i64.wrap n ∧ IntKind.i64.wrap n ≤ 9223372036854775807 := by rw [IntKind.wrap_i64]; omega
theorem wrap_u64_rng (n : Int) : 0 ≤ IntKind.u64.wrap n ∧ IntKind.u64.wrap n ≤ 18446744073709551615 := by rw [IntKind.wrap_u64]; omega
theorem sumB_rng (l : List Int) : 0 ≤ sumB l ∧ sumB l ≤ 18446744073709551615 := by
 unfold sumB; have key : ∀ (l : List Int) (b : Int), 0 ≤ b ∧ b ≤ 18446744073709551615 → 0 ≤ l.foldl sumF b ∧ l.foldl sumF b ≤ 18446744073709551615 := by
  intro l
  induction l with
  | nil => intro b h; exact h
  | cons x l ih => intro b _; exact ih _ (wrap_u64_rng _)
 exact key l _ (by omega)
theorem dnext {d : Int} {l : List Int} (h : inI l) (h1 : 1 ≤ l.length) (h2 : l.length ≤ 10000) {F : Nat} (hF : 64 ≤ F) : G_digest_Next F d l = some (nextF d l) := by
 obtain ⟨F', rfl⟩ : ∃ F', F = F' + 1 := ⟨F - 1, by omega⟩; exact whenG_t (decide_eq_true ⟨h, h2, h1⟩)
theorem dints {l : List Int} (h : inI l) (h2 : l.length ≤ 10000) {F : Nat} (hF : 64 ≤ F) : G_digest_Ints F l = some (intsF l) := by
 obtain ⟨F', rfl⟩ : ∃ F', F = F' + 1 := ⟨F - 1, by omega⟩; exact whenG_t (decide_eq_true ⟨h, by omega⟩)
def leafE (e : KEntry) : Int := nextF e.Doc [e.Stamp.Lo, e.Stamp.Hi]
theorem inI_two {a b : Int} (ha : inKd .i64 a) (hb : inKd .i64 b) : inI [a, b] := by
 intro z hz; rcases List.mem_cons.1 hz with rfl | hz
 ·exact inKd_i64 ha
 ·rcases List.mem_cons.1 hz with rfl | hz
  ·exact inKd_i64 hb
  ·cases hz
theorem leaf_p {e : KEntry} (h : e.rng) {F : Nat} (hF : 64 ≤ F) : G_office_Leaf F e = some (leafE e) := by
 unfold G_office_Leaf G_office_logged_value; rw [dnext (inI_two h.r_Stamp.r_Lo h.r_Stamp.r_Hi) (by simp) (by simp) hF]; rfl
def eAt (l : List KEntry) (k : Nat) : KEntry := l.getD k ⟨0, ⟨0, 0⟩⟩
theorem eAt_get {l : List KEntry} {k : Nat} (h : k < l.length) : l[k]? = some (eAt l k) := by
 unfold eAt; rw [List.getD_eq_getElem?_getD, List.getElem?_eq_getElem h]; rfl
def okAt (l : List KEntry) (k : Nat) : Bool := vI (eAt l k).Stamp && !(decide (0 < k) && decide ((eAt l k).Stamp.Lo < (eAt l (k - 1)).Stamp.Lo))
def ordB (l : List KEntry) : Bool := frB (okAt l) l.length 0
def vO (o : KOffice) : Bool := ordB o.Entries && (decide (1 ≤ o.ID ∧ o.ID ≤ 16) && decide (o.Entries.length ≤ 4096))
theorem pred_w {k : Nat} (h : 0 < k) (h2 : k < 1000000) : IntKind.i64.wrap ((k : Int) - 1) = ((k - 1 : Nat) : Int) := by rw [IntKind.wrap_i64]; omega
theorem valid_p {o : KOffice} (hl : o.Entries.length ≤ 50) {F : Nat} (hF : 64 ≤ F) : G_office_Valid F o = some (vO o) := by
 unfold G_office_Valid; rw [iter_all o.Entries.length (okAt o.Entries) (.inl ()) (.inr ()) ?_ ?_ (by omega)]
 ·unfold vO; rw [btw_p]
  show _ = some (ordB o.Entries && _)
  unfold ordB; cases frB (okAt o.Entries) o.Entries.length 0 with
  | true =>
   simp only [if_true, ob_some, Sum.elim_inl, Bool.true_and]
   by_cases h1 : 1 ≤ o.ID ∧ o.ID ≤ 16 <;> by_cases h2 : o.Entries.length ≤ 4096 <;> simp [ifB, h1, h2] <;> omega
  | false => rfl
 ·rw [show decide ((o.Entries.length : Int) < ((o.Entries.length : Nat) : Int)) = false from decide_eq_false (by omega)]; rfl
 ·intro k hk; rw [show decide ((k : Int) < ((o.Entries.length : Nat) : Int)) = true from decide_eq_true (by omega), ifB_t, ixI_nat, eAt_get hk]; simp only [ob_some, logged_p]; unfold okAt; rw [w64_nat (by omega)]; cases hv : vI (eAt o.Entries k).Stamp with
  | false => rfl
  | true =>
   rw [ifB_t]
   by_cases h0 : 0 < k
   ·rw [show decide ((k : Int) > 0) = true from decide_eq_true (by omega), ifB_t, pred_w h0 (by omega), ixI_nat, eAt_get (by omega)]; simp only [ob_some]; rw [show decide (0 < k) = true from decide_eq_true h0]; cases decide ((eAt o.Entries k).Stamp.Lo < (eAt o.Entries (k - 1)).Stamp.Lo) <;> rfl
   ·rw [show decide ((k : Int) > 0) = false from decide_eq_false (by omega), ifB_f, show decide (0 < k) = false from decide_eq_false h0]; rfl
theorem valid_r {o : KOffice} (hl : o.Entries.length ≤ 50) {F : Nat} (hF : 64 ≤ F) : G_regulatorref25_Valid F o = some (vO o) := by
 unfold G_regulatorref25_Valid; have h4 : decide (((o.Entries.length : Nat) : Int) > 4096) = false := decide_eq_false (by omega); have h4' : decide (o.Entries.length ≤ 4096) = true := decide_eq_true (by omega); rw [h4]
 by_cases hid : 1 ≤ o.ID ∧ o.ID ≤ 16
 ·rw [show decide (o.ID < 1) = false from decide_eq_false (by omega), show decide (o.ID > 16) = false from decide_eq_false (by omega)]; simp only [ifB_f, ob_some]; rw [iter_all o.Entries.length (okAt o.Entries) (.inl ()) (.inr ()) ?_ ?_ (by omega)]
  ·unfold vO ordB; rw [h4', show decide (1 ≤ o.ID ∧ o.ID ≤ 16) = true from decide_eq_true hid]; cases frB (okAt o.Entries) o.Entries.length 0 <;> rfl
  ·rw [show decide ((o.Entries.length : Int) < ((o.Entries.length : Nat) : Int)) = false from decide_eq_false (by omega)]; rfl
  ·intro k hk; rw [show decide ((k : Int) < ((o.Entries.length : Nat) : Int)) = true from decide_eq_true (by omega), ifB_t, ixI_nat, eAt_get hk]; simp only [ob_some, vI_r]; unfold okAt; rw [w64_nat (by omega)]; cases hv : vI (eAt o.Entries k).Stamp with
   | false => rfl
   | true =>
    rw [ifB_t]
    by_cases h0 : 0 < k
    ·rw [show decide ((k : Int) > 0) = true from decide_eq_true (by omega), ifB_t, pred_w h0 (by omega), ixI_nat, eAt_get (by omega)]; simp only [ob_some]; rw [show decide (0 < k) = true from decide_eq_true h0]; cases decide ((eAt o.Entries k).Stamp.Lo < (eAt o.Entries (k - 1)).Stamp.Lo) <;> rfl
    ·rw [show decide ((k : Int) > 0) = false from decide_eq_false (by omega), ifB_f, show decide (0 < k) = false from decide_eq_false h0]; rfl
 ·have hv : vO o = false := by unfold vO; rw [show decide (1 ≤ o.ID ∧ o.ID ≤ 16) = false from decide_eq_false hid]; simp
  rw [hv]
  by_cases h1 : o.ID < 1
  ·rw [show decide (o.ID < 1) = true from decide_eq_true h1]; rfl
  ·rw [show decide (o.ID < 1) = false from decide_eq_false h1, show decide (o.ID > 16) = true from decide_eq_true (by omega)]; rfl
def valsF (o : KOffice) (n : Nat) : List Int := (o.Entries.take n).map leafE
theorem take_map_succ {l : List KEntry} {k : Nat} (h : k < l.length) : (l.take (k + 1)).map leafE = (l.take k).map leafE ++ [leafE (eAt l k)] := by
 rw [List.take_succ, eAt_get h]
 simp
theorem coll_p {l : List KEntry} (hr : ∀ e ∈ l, e.rng) (hl : l.length ≤ 60) {F : Nat} (hF : 64 ≤ F) : iter (σ := Int × (List Int)) (ρ := (List Int)) (un2 fun (v_43 : Int) (v_44 : (List Int)) => 
          (ifB (decide (v_43 < ((l.length : Nat) : Int)))
            (Option.bind (ixI l v_43) (fun v_52 =>
            Option.bind (G_office_Leaf F v_52) (fun v_59 =>
            Option.bind (apG 8 v_44 ([v_59] : List Int)) (fun v_61 =>
            some (.inl (IntKind.i64.wrap (v_43 + 1), v_61))))))
            (some (.inr v_44)) : Option ((Int × (List Int)) ⊕ (List Int)))) F (0, ([] : List Int)) = some (l.map leafE) := by
  rw [show ((0 : Int), ([] : List Int)) = (fun k : Nat => ((k : Int), (l.take k).map leafE)) 0 from rfl]
  rw [iter_seq (fun k : Nat => ((k : Int), (l.take k).map leafE)) l.length (l.map leafE) ?_ ?_ (by omega)]
  · intro k hk
    simp only [un2]
    rw [show decide ((k : Int) < ((l.length : Nat) : Int)) = true from decide_eq_true (by omega), ifB_t, ixI_nat, eAt_get hk]
    simp only [ob_some]
    rw [leaf_p (hr _ (List.mem_of_getElem? (eAt_get hk))) hF]
    simp only [ob_some]
    rw [apG_ok (by simp only [List.length_map, List.length_take, List.length_cons, List.length_nil]; omega), w64_nat (by omega), take_map_succ hk]
    rfl
  · simp only [un2]
    rw [show decide ((l.length : Int) < ((l.length : Nat) : Int)) = false from decide_eq_false (by omega), List.take_length]
    rfl
theorem root_p {o : KOffice} (hr : o.rng) {n : Nat} (hn : n ≤ o.Entries.length) (hl : n ≤ 60) {F : Nat} (hF : 64 ≤ F) : G_office_root F o (n : Int) = some (rootS (valsF o n)) := by
 obtain ⟨F', rfl⟩ : ∃ F', F = F' + 1 := ⟨F - 1, by omega⟩; unfold G_office_root; rw [show (0 : Int) = ((0 : Nat) : Int) from rfl, slI_ok (Nat.zero_le n) hn]; simp only [ob_some, List.drop_zero]; rw [show ((0 : Nat) : Int) = 0 from rfl, coll_p (fun e he => hr.r_Entries e (List.mem_of_mem_take he)) (by rw [List.length_take]; omega) hF]; rfl
theorem valsF_len {o : KOffice} {n : Nat} (hn : n ≤ o.Entries.length) : (valsF o n).length = n := by unfold valsF; rw [List.length_map, List.length_take]; omega
end Go.Proofs.YtmfjcachghboiaaDoor
namespace Go.Proofs.YtmfjcachghboiaaDoor
open Go.RowKit
def chF (b p : Int) (m : List Int) : Int := intsF ([b, p] ++ m) % 1073741789
theorem chF_rng (b p : Int) (m : List Int) : 0 ≤ chF b p m ∧ chF b p m < 1073741789 := by unfold chF; omega
theorem ch_w (l : List Int) : IntKind.i64.wrap (Int.tmod (intsF l) 1073741789) = intsF l % 1073741789 := by
 have := sumB_rng (textL l); unfold intsF; rw [Int.tmod_eq_emod_of_nonneg this.1, w64_id (by omega) (by omega)]
theorem ch_p {b p : Int} {m : List Int} (h : inI ([b, p] ++ m)) (hl : m.length ≤ 100) {F : Nat} (hF : 64 ≤ F) : G_group_challenge F b p m = some (chF b p m) := by
 unfold G_group_challenge; rw [apG_ok (by simp; omega)]; simp only [ob_some]; rw [dints h (by simp; omega) hF]; simp only [ob_some]; rw [ch_w]; rfl
theorem inI_app {a b : List Int} (ha : inI a) (hb : inI b) : inI (a ++ b) := fun z hz => by
 rcases List.mem_append.1 hz with hz | hz
 ·exact ha z hz
 ·exact hb z hz
theorem inI_pair {a b : Int} (ha : -9223372036854775808 ≤ a ∧ a ≤ 9223372036854775807) (hb : -9223372036854775808 ≤ b ∧ b ≤ 9223372036854775807) : inI [a, b] := by
 intro z hz; rcases List.mem_cons.1 hz with rfl | hz
 ·exact ha
 ·rcases List.mem_cons.1 hz with rfl | hz
  ·exact hb
  ·cases hz
theorem inI_msg {h : KHead} (h1 : inKd .i64 h.Office) (h2 : inKd .i64 h.Size) : inI (msgF h) := by
 show inI ([h.Office, h.Size] ++ [_, _])
 exact inI_app (inI_pair (inKd_i64 h1) (inKd_i64 h2)) (inI_pair (wrap_i64_rng _) (wrap_i64_rng _))
theorem pw_rng (a x : Nat) : -9223372036854775808 ≤ ((pw a x : Nat) : Int) ∧ ((pw a x : Nat) : Int) ≤ 9223372036854775807 := by have := pw_lt a x; omega
def isK (n : Int) : Bool := decide (1 ≤ n ∧ n < 1073741789)
def sigS (key once : Int) (m : List Int) : KSig × Int :=
 if isK key && isK once then (⟨chF ((pw 4 once.toNat : Nat) : Int) ((pw 4 key.toNat : Nat) : Int) m, (once + chF ((pw 4 once.toNat : Nat) : Int) ((pw 4 key.toNat : Nat) : Int) m * key) % 1073741789⟩, 0) else (⟨0, 0⟩, 1)
theorem pow4 (n : Int) (h0 : 0 ≤ n) (h1 : n ≤ 1073741789) {F : Nat} (hF : 64 ≤ F) : G_group_power F 4 n = some ((pw 4 n.toNat : Nat) : Int) ∧ G_regulatorref06_Power F 4 n 2147483579 = some ((pw 4 n.toNat : Nat) : Int) := by
  have hX : n.toNat < 2 ^ 62 := by have : (2 : Nat) ^ 62 = 4611686018427387904 := by decide
                                   omega
  have h1' := pow_pn 4 n.toNat (by decide) hX hF
  have h2' := pow_rn 4 n.toNat (by decide) hX hF
  rw [show ((n.toNat : Nat) : Int) = n by omega] at h1' h2'
  exact ⟨h1', h2'⟩
theorem sum_w {o c k : Int} (ho : 0 ≤ o ∧ o < 1073741789) (hc : 0 ≤ c ∧ c < 1073741789) (hk : 0 ≤ k ∧ k < 1073741789) : Int.tmod (IntKind.i64.wrap (o + IntKind.i64.wrap (c * k))) 1073741789 = (o + c * k) % 1073741789 := by
 have h1 : 0 ≤ c * k := Int.mul_nonneg hc.1 hk.1; have h2 : c * k ≤ 1073741789 * 1073741789 := Int.mul_le_mul (by omega) (by omega) hk.1 (by omega); rw [w64_id (n := c * k) (by omega) (by omega), w64_id (by omega) (by omega), Int.tmod_eq_emod_of_nonneg (by omega)]
theorem sig_p {key once : Int} {m : List Int} (hm : inI m) (hl : m.length ≤ 100) {F : Nat} (hF : 64 ≤ F) : G_group_Sign F key once m = some (sigS key once m) := by
 unfold G_group_Sign sigS isK; simp only [within_p, ob_some]
 by_cases h1 : 1 ≤ key ∧ key < 1073741789
 ·by_cases h2 : 1 ≤ once ∧ once < 1073741789
  ·simp only [h1, h2, and_self, decide_true, ifB_t, ob_some, Bool.not_true, ifB_f, Bool.and_self, if_true]; rw [(pow4 once (by omega) (by omega) hF).1, (pow4 key (by omega) (by omega) hF).1]; simp only [ob_some]; rw [ch_p (inI_app (inI_pair (pw_rng _ _) (pw_rng _ _)) hm) hl hF]; simp only [ob_some]; rw [sum_w ⟨by omega, h2.2⟩ (chF_rng _ _ _) ⟨by omega, h1.2⟩]
  ·simp only [h1, h2, and_self, decide_true, decide_false, ifB_t, ob_some, Bool.not_false, Bool.and_false, Bool.false_eq_true, if_false]
 ·simp only [h1, decide_false, ifB_f, ob_some, ifB_t, Bool.false_and, Bool.false_eq_true, if_false]
def begS (pub : Int) (s : KSig) : Nat := pw 4 s.S.toNat * pw pub.toNat (1073741789 - s.C.toNat) % 2147483579
def expB (s : KSig) : Bool := decide ((0 ≤ s.C ∧ s.C < 1073741789) ∧ (0 ≤ s.S ∧ s.S < 1073741789))
def verS (pub : Int) (s : KSig) (m : List Int) : Bool × Int :=
 if memB pub && expB s then (decide (chF (begS pub s : Int) pub m = s.C), 0) else (false, 1)
theorem memB_spec {a : Int} (h : memB a = true) : 0 < a ∧ a < 2147483579 ∧ pw a.toNat 1073741789 = 1 := of_decide_eq_true h
theorem mem_rng {a : Int} (h : memB a = true) : -9223372036854775808 ≤ a ∧ a ≤ 9223372036854775807 := by have := memB_spec h; omega
theorem beg_w (x y : Nat) (hx : x < 2147483579) (hy : y < 2147483579) : Int.tmod (IntKind.i64.wrap ((x : Int) * (y : Int))) 2147483579 = ((x * y % 2147483579 : Nat) : Int) := by rw [mul_in hx hy, mod_in]
theorem ver_p {pub : Int} {s : KSig} {m : List Int} (hm : inI m) (hl : m.length ≤ 100) {F : Nat} (hF : 64 ≤ F) : G_group_Verify F pub s m = some (verS pub s m) := by
  unfold G_group_Verify verS expB
  rw [mem_p pub hF]
  simp only [within_p, ob_some]
  cases hb : memB pub with
  | false => simp only [ifB_f, ifB_t, ob_some, Bool.false_and, Bool.false_eq_true, if_false]
  | true =>
    obtain ⟨m1, m2, m3⟩ := memB_spec hb
    by_cases h1 : 0 ≤ s.C ∧ s.C < 1073741789
    · by_cases h2 : 0 ≤ s.S ∧ s.S < 1073741789
      · simp only [h1, h2, and_self, decide_true, ifB_t, ob_some, Bool.not_true, ifB_f, Bool.and_self, if_true]
        have hp := pow_pn pub.toNat (1073741789 - s.C.toNat) (by omega) (by have : (2 : Nat) ^ 62 = 4611686018427387904 := by decide
                                                                            omega) hF
        rw [show ((pub.toNat : Nat) : Int) = pub by omega, show (((1073741789 - s.C.toNat : Nat)) : Int) = IntKind.i64.wrap (1073741789 - s.C) by rw [w64_id (by omega) (by omega)]; omega] at hp
        rw [(pow4 s.S (by omega) (by omega) hF).1, hp]
        simp only [ob_some]
        rw [beg_w _ _ (pw_lt _ _) (pw_lt _ _), ch_p (inI_app (inI_pair (by have := Nat.mod_lt (pw 4 s.S.toNat * pw pub.toNat (1073741789 - s.C.toNat)) (show 0 < 2147483579 by decide); omega) (mem_rng hb)) hm) hl hF]
        simp only [ob_some]
        congr 2
        rw [decide_eq_decide]
        constructor
        · intro h
          have := congrArg KSig.C h
          exact this.symm
        · intro h
          cases s
          simp only [KSig.mk.injEq, and_true]
          exact h.symm
      · simp only [h1, h2, and_self, and_false, decide_true, decide_false, ifB_t, ob_some, Bool.not_false, Bool.and_false, Bool.false_eq_true, if_false]
    · simp only [h1, false_and, decide_false, ifB_t, ifB_f, ob_some, Bool.and_false, Bool.false_eq_true, if_false]
def rightS (pub : Int) (h : KHead) : Bool × Int := if pubB pub && fH h then ((verS pub h.Sig (msgF h)).1, 0) else (false, 1)
theorem pub_mem' {a : Int} (h : pubB a = true) : memB a = true := by unfold pubB at h; simp at h; exact h.1
theorem fH_exp {h : KHead} (hh : fH h = true) : expB h.Sig = true := by
 have := of_decide_eq_true hh; exact decide_eq_true ⟨this.2.2.1, this.2.2.2⟩
theorem verS_ok {pub : Int} {s : KSig} {m : List Int} (h1 : memB pub = true) (h2 : expB s = true) : verS pub s m = (decide (chF (begS pub s : Int) pub m = s.C), 0) := by unfold verS; rw [h1, h2]; rfl
theorem right_p {pub : Int} {h : KHead} (h1 : inKd .i64 h.Office) (h2 : inKd .i64 h.Size) {F : Nat} (hF : 64 ≤ F) : G_office_Right F pub h = some (rightS pub h) := by
 unfold G_office_Right rightS; rw [pub_p pub hF]; simp only [fH_p, ob_some]; cases hp : pubB pub with
 | false => simp only [ifB_f, ifB_t, ob_some, Bool.false_and, Bool.false_eq_true, if_false]
 | true =>
  cases hh : fH h with
  | false => simp only [ifB_t, ob_some, Bool.not_false, Bool.and_false, Bool.false_eq_true, if_false]
  | true =>
   simp only [ifB_t, ob_some, Bool.not_true, ifB_f, Bool.and_self, if_true, msg_p]; rw [ver_p (inI_msg h1 h2) (by simp [msgF]) hF, verS_ok (pub_mem' hp) (fH_exp hh)]; rfl
end Go.Proofs.YtmfjcachghboiaaDoor
namespace Go.Proofs.YtmfjcachghboiaaDoor
open Go.RowKit
end Go.Proofs.YtmfjcachghboiaaDoor
namespace Go.Proofs.YtmfjcachghboiaaDoor
open Go.RowKit
theorem inclS_lead {r x : Int} {i n : Nat} {path : List Int} (hi : i < n) (hn : n ≤ 4096) : inclS r x i n path = decide (leadO leafF pairF x i n path = some r) := by
 unfold inclS; rw [if_neg (by omega), Int.toNat_natCast, Int.toNat_natCast, lead_walk n x i path hi]; rfl
theorem inclS_law {l : List Int} {i : Nat} {x r : Int} (hi : i < l.length) (hn : l.length ≤ 4096) : inclS r x i l.length (inclF l i) = decide (rootF (l.set i x) = r) := by
 rw [inclS_lead hi hn]; unfold leadO inclF rootF; rw [lead_incl l.length l rfl i x hi]
 simp
theorem inclF_le {l : List Int} {i : Nat} (h : l.length ≤ 4096) : (inclF l i).length ≤ 12 := by
 unfold inclF; rw [incl_len l.length l rfl i]; exact plen_le 12 _ _ h
theorem rootS_ok {l : List Int} (h1 : 1 ≤ l.length) (h2 : l.length ≤ 4096) : rootS l = (rootF l, 0) := by
 have hc : checkS l = 0 := by unfold checkS; rw [if_neg (by omega), if_neg (by omega)]
 unfold rootS; rw [if_neg (by simp [hc])]
theorem incS_ok {l : List Int} {i : Nat} (h : i < l.length) (h2 : l.length ≤ 4096) : incS l i = (inclF l i, 0) := by
 have hc : checkS l = 0 := by unfold checkS; rw [if_neg (by omega), if_neg (by omega)]
 unfold incS; rw [if_neg (by simp [hc]), if_neg (by omega), Int.toNat_natCast]
end Go.Proofs.YtmfjcachghboiaaDoor
namespace Go.Proofs.YtmfjcachghboiaaDoor
open Go.RowKit
theorem inKd_w {n : Int} (h0 : -9223372036854775808 ≤ n) (h1 : n ≤ 9223372036854775807) : inKd .i64 n := by
 have : IntKind.i64.min ≤ n ∧ n ≤ IntKind.i64.max := by
  rw [show IntKind.i64.min = -9223372036854775808 by decide, show IntKind.i64.max = 9223372036854775807 by decide]; exact ⟨h0, h1⟩
 simpa [inKd, Lit.wf] using this
def bareF (o : KOffice) (n : Nat) : KHead := ⟨o.ID, n, rootF (valsF o n), ⟨0, 0⟩⟩
def signS (o : KOffice) (n key once : Int) : KHead × Int :=
 if vO o && decide (1 ≤ n ∧ n ≤ o.Entries.length) && (isK key && isK once) then
  (⟨o.ID, n, rootF (valsF o n.toNat), (sigS key once (msgF (bareF o n.toNat))).1⟩, 0)
 else (⟨0, 0, 0, ⟨0, 0⟩⟩, 1)
theorem sigS_ok {k o : Int} {m : List Int} (h : (isK k && isK o) = true) : sigS k o m = ((sigS k o m).1, 0) := by unfold sigS; rw [h]; rfl
theorem sigS_no {k o : Int} {m : List Int} (h : (isK k && isK o) = false) : sigS k o m = (⟨0, 0⟩, 1) := by unfold sigS; rw [h]; rfl
theorem inI_bare {o : KOffice} (hr : o.rng) {k : Nat} (hk : k ≤ 1000) : inI (msgF (bareF o k)) := inI_msg hr.r_ID (show inKd .i64 (k : Int) from inKd_w (by omega) (by omega))
theorem sign_p {o : KOffice} (hr : o.rng) (hl : o.Entries.length ≤ 50) {n key once : Int} {F : Nat} (hF : 64 ≤ F) : G_office_Sign F o n key once = some (signS o n key once) := by
 unfold G_office_Sign signS; rw [valid_p hl hF]; simp only [ob_some]; cases hv : vO o with
 | false => simp only [ifB_f, ifB_t, ob_some, Bool.false_and, Bool.false_eq_true, if_false]
 | true =>
  rw [ifB_t, btw_p]; simp only [ob_some]
  by_cases hn : 1 ≤ n ∧ n ≤ (o.Entries.length : Int)
  ·rw [show decide (1 ≤ n ∧ n ≤ ((o.Entries.length : Nat) : Int)) = true from decide_eq_true hn]; obtain ⟨k, rfl⟩ : ∃ k : Nat, n = k := ⟨n.toNat, by omega⟩; simp only [Bool.not_true, ifB_f, Bool.true_and]; rw [root_p hr (by omega) (by omega) hF, rootS_ok (by rw [valsF_len (by omega)]; omega) (by rw [valsF_len (by omega)]; omega)]; simp only [un2, msg_p, ob_some, beq_self_eq_true, ifB_t, Int.toNat_natCast]; rw [show (⟨o.ID, (k : Int), rootF (valsF o k), ⟨0, 0⟩⟩ : KHead) = bareF o k from rfl, sig_p (inI_bare hr (by omega)) (by simp [msgF]) hF]; cases hk : (isK key && isK once) with
   | true =>
    rw [sigS_ok hk]; rfl
   | false =>
    rw [sigS_no hk]; rfl
  ·rw [show decide (1 ≤ n ∧ n ≤ ((o.Entries.length : Nat) : Int)) = false from decide_eq_false hn]; simp only [ifB_t, Bool.not_false, Bool.true_and, Bool.false_and, Bool.false_eq_true, if_false]
end Go.Proofs.YtmfjcachghboiaaDoor
namespace Go.Proofs.YtmfjcachghboiaaDoor
open Go.RowKit
def zR : KReceipt := ⟨⟨0, 0, 0, ⟨0, 0⟩⟩, 0, ⟨0, ⟨0, 0⟩⟩, []⟩
def provS (o : KOffice) (h : KHead) (i : Int) : KReceipt × Int :=
 if vO o && (fH h && decide (h.Size ≤ o.Entries.length ∧ 0 ≤ i ∧ i < h.Size)) then
  (if decide (h.Office = o.ID ∧ h.Root = rootF (valsF o h.Size.toNat)) then (⟨h, i, eAt o.Entries i.toNat, inclF (valsF o h.Size.toNat) i.toNat⟩, 0) else (zR, 33))
 else (zR, 1)
theorem fH_size {h : KHead} (hh : fH h = true) : 1 ≤ h.Size ∧ h.Size ≤ 4096 := (of_decide_eq_true hh).2.1
theorem pinc (l : List Int) (i : Int) {F : Nat} (hF : 64 ≤ F) : G_tree_Include F l i = some (incS l i) ∧ G_regulatorref24_Include F l i = some (incS l i) := by
 obtain ⟨F', rfl⟩ : ∃ F', F = F' + 1 := ⟨F - 1, by omega⟩; exact ⟨rfl, rfl⟩
theorem prove_p {o : KOffice} (hr : o.rng) (hl : o.Entries.length ≤ 50) {h : KHead} {i : Int} {F : Nat} (hF : 64 ≤ F) : G_office_Prove F o h i = some (provS o h i) := by
 unfold G_office_Prove provS; rw [valid_p hl hF]; simp only [ob_some, fH_p]; cases hv : vO o with
 | false => simp only [ifB_f, ifB_t, ob_some, Bool.false_and, Bool.false_eq_true, if_false]; rfl
 | true =>
  cases hf : fH h with
  | false => simp only [ifB_f, ifB_t, ob_some, Bool.false_and, Bool.and_false, Bool.false_eq_true, if_false]; rfl
  | true =>
   obtain ⟨s1, s2⟩ := fH_size hf; obtain ⟨k, hk⟩ : ∃ k : Nat, h.Size = k := ⟨h.Size.toNat, by omega⟩; simp only [ifB_t, ob_some, Bool.true_and, hk]; rw [hk] at s1 s2
   by_cases h1 : (k : Int) ≤ ((o.Entries.length : Nat) : Int)
   ·rw [show decide ((k : Int) > ((o.Entries.length : Nat) : Int)) = false from decide_eq_false (by omega), ifB_f, btw_p, w64_id (n := (k : Int) - 1) (by omega) (by omega)]; simp only [ob_some]
    by_cases h2 : 0 ≤ i ∧ i ≤ (k : Int) - 1
    ·rw [show decide (0 ≤ i ∧ i ≤ (k : Int) - 1) = true from decide_eq_true h2, show decide ((k : Int) ≤ ((o.Entries.length : Nat) : Int) ∧ 0 ≤ i ∧ i < (k : Int)) = true from decide_eq_true (by omega)]; obtain ⟨j, rfl⟩ : ∃ j : Nat, i = j := ⟨i.toNat, by omega⟩; have hL : (valsF o k).length = k := valsF_len (by omega); simp only [Bool.not_true, ifB_f]; rw [root_p hr (by omega) (by omega) hF, rootS_ok (by rw [hL]; omega) (by rw [hL]; omega)]; simp only [un2, ob_some, beq_self_eq_true, ifB_t, Int.toNat_natCast, if_true]
     by_cases h3 : h.Office = o.ID
     ·by_cases h4 : h.Root = rootF (valsF o k)
      ·rw [show (h.Office == o.ID) = true from beq_iff_eq.2 h3, show (rootF (valsF o k) == h.Root) = true from beq_iff_eq.2 h4.symm, show decide (h.Office = o.ID ∧ h.Root = rootF (valsF o k)) = true from decide_eq_true ⟨h3, h4⟩]; simp only [ifB_t, ob_some, Bool.not_true, ifB_f, if_true]; rw [show (0 : Int) = ((0 : Nat) : Int) from rfl, slI_ok (Nat.zero_le k) (by omega)]; simp only [ob_some, List.drop_zero]; rw [show ((0 : Nat) : Int) = 0 from rfl, coll_p (fun e he => hr.r_Entries e (List.mem_of_mem_take he)) (by rw [List.length_take]; omega) hF]; simp only [ob_some]; rw [(pinc _ _ hF).1, show (List.map leafE (o.Entries.take k)) = valsF o k from rfl, incS_ok (by rw [hL]; omega) (by rw [hL]; omega)]; simp only [ob_some, un2, beq_self_eq_true, ifB_t]; rw [ixI_nat, eAt_get (by omega)]; rfl
      ·rw [show (h.Office == o.ID) = true from beq_iff_eq.2 h3, show (rootF (valsF o k) == h.Root) = false from beq_eq_false_iff_ne.2 fun e => h4 e.symm, show decide (h.Office = o.ID ∧ h.Root = rootF (valsF o k)) = false from decide_eq_false fun e => h4 e.2]; rfl
     ·rw [show (h.Office == o.ID) = false from beq_eq_false_iff_ne.2 h3, show decide (h.Office = o.ID ∧ h.Root = rootF (valsF o k)) = false from decide_eq_false fun e => h3 e.1]; rfl
    ·rw [show decide (0 ≤ i ∧ i ≤ (k : Int) - 1) = false from decide_eq_false h2, show decide ((k : Int) ≤ ((o.Entries.length : Nat) : Int) ∧ 0 ≤ i ∧ i < (k : Int)) = false from decide_eq_false (by omega)]; rfl
   ·rw [show decide ((k : Int) > ((o.Entries.length : Nat) : Int)) = true from decide_eq_true (by omega), show decide ((k : Int) ≤ ((o.Entries.length : Nat) : Int) ∧ 0 ≤ i ∧ i < (k : Int)) = false from decide_eq_false (by omega)]; rfl
def chkB (pub : Int) (r : KReceipt) : Bool := pubB pub && (fH r.Head && (vI r.Entry.Stamp && decide ((0 ≤ r.Index ∧ r.Index < r.Head.Size) ∧ r.Path.length ≤ 20)))
def chkS (pub : Int) (r : KReceipt) : Bool × Int :=
 if chkB pub r then ((verS pub r.Head.Sig (msgF r.Head)).1 && inclS r.Head.Root (leafE r.Entry) r.Index r.Head.Size r.Path, 0) else (false, 1)
theorem rightS_ok {pub : Int} {h : KHead} (h1 : pubB pub = true) (h2 : fH h = true) : rightS pub h = ((verS pub h.Sig (msgF h)).1, 0) := by unfold rightS; rw [h1, h2]; rfl
theorem pincl (a b i n : Int) (l : List Int) (hl : l.length ≤ 100) {F : Nat} (hF : 64 ≤ F) : G_tree_Included F a b i n l = some (inclS a b i n l) ∧ G_regulatorref24_Included F a b i n l = some (inclS a b i n l) := by
 obtain ⟨F', rfl⟩ : ∃ F', F = F' + 1 := ⟨F - 1, by omega⟩; exact ⟨whenG_t (decide_eq_true (by omega)), whenG_t (decide_eq_true hl)⟩
theorem check_p {pub : Int} {r : KReceipt} (q1 : inKd .i64 r.Head.Office) (q2 : inKd .i64 r.Head.Size) (q3 : r.Entry.rng) {F : Nat} (hF : 64 ≤ F) : G_office_Check F pub r = some (chkS pub r) := by
 unfold G_office_Check chkS chkB; rw [pub_p pub hF]; simp only [ob_some, fH_p, logged_p]; cases hp : pubB pub with
 | false => rfl
 | true =>
  cases hf : fH r.Head with
  | false => rfl
  | true =>
   cases hv : vI r.Entry.Stamp with
   | false => rfl
   | true =>
    obtain ⟨s1, s2⟩ := fH_size hf; simp only [ifB_t, ob_some, Bool.true_and, btw_p]; rw [w64_id (n := r.Head.Size - 1) (by omega) (by omega)]
    by_cases h1 : 0 ≤ r.Index ∧ r.Index < r.Head.Size
    ·rw [show decide (0 ≤ r.Index ∧ r.Index ≤ r.Head.Size - 1) = true from decide_eq_true (by omega)]
     by_cases h2 : r.Path.length ≤ 20
     ·rw [show decide (((r.Path.length : Nat) : Int) > 20) = false from decide_eq_false (by omega), show decide ((0 ≤ r.Index ∧ r.Index < r.Head.Size) ∧ r.Path.length ≤ 20) = true from decide_eq_true ⟨h1, h2⟩]; simp only [ifB_t, ob_some, ifB_f, if_true]; rw [right_p q1 q2 hF, rightS_ok hp hf]; simp only [un2, ob_some]; rw [leaf_p q3 hF]; simp only [ob_some]; rw [(pincl _ _ _ _ _ (by omega) hF).1]; cases (verS pub r.Head.Sig (msgF r.Head)).1 <;> rfl
     ·rw [show decide (((r.Path.length : Nat) : Int) > 20) = true from decide_eq_true (by omega), show decide ((0 ≤ r.Index ∧ r.Index < r.Head.Size) ∧ r.Path.length ≤ 20) = false from decide_eq_false fun e => h2 e.2]; rfl
    ·rw [show decide (0 ≤ r.Index ∧ r.Index ≤ r.Head.Size - 1) = false from decide_eq_false (by omega), show decide ((0 ≤ r.Index ∧ r.Index < r.Head.Size) ∧ r.Path.length ≤ 20) = false from decide_eq_false fun e => h1 e.1]; rfl
end Go.Proofs.YtmfjcachghboiaaDoor
