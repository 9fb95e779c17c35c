/-
  Texts joined: Z3, Z4, Z5, Z6, Z7, Z8, Z9.
-/
import Derived.Test.YtggaodokkcoagaaGreatDoorProg
import Derived.Test.YtggaodokkcoagaaGreatDoorK31
import Derived.Test.YtggaodokkcoagaaGreatDoorK32
set_option linter.unusedSimpArgs false
set_option linter.unusedVariables false
namespace Go.Proofs.YtggaodokkcoagaaGreatDoor
open Go.RowKit Go.Maps
def G_group_Member (F : Nat) (p_0 : Int) : Option (Bool) :=
  Option.bind (ifB (decide (0 < p_0))
      (ifB (decide (p_0 < 2147483579))
        (Option.bind (G_group_power F p_0 1073741789) (fun v_3 =>
        some (v_3 == 1)))
        (some false))
      (some false) : Option (Bool)) (fun (v_5 : Bool) => 
    some v_5)
set_option maxRecDepth 100000 in
set_option maxHeartbeats 16000000 in
theorem z_group_Member (F : Nat) (p_0 : Int) (r : Bool) (hG : G_group_Member F p_0 = some r) :
  Cf Tryz.prog 157 [I p_0] [] (B r) := by
 unfold G_group_Member at hG
 try (simp only [un2, un3, un4, un5, un6, un7, un8, Sum.elim_inl, Sum.elim_inr, List.length_map, KProofL.n_Hops] at hG; replace hG : _ = _ := hG)
 refine fi Tryz.func157 rfl rfl m0 fun S0 w0 hT => ?_
 refine sq ?_; refine rg ?_; refine ra [] f0 [] ?_; refine tN ?_; obtain ⟨o_4, hG, hG_4⟩ := bind_some hG; refine jn (fun K E a w => ∃ (v_5 : Bool), Js S0 w0 14 ([(2, B v_5)] ++ K) (se E []) (v_5 = o_4) a w) ?_ ?_
 ·replace hG := ifB_cases hG; rcases hG with ⟨h_1, hG⟩ | ⟨h_1, hG⟩
  ·replace hG := ifB_cases hG; rcases hG with ⟨h_2, hG⟩ | ⟨h_2, hG⟩
   ·replace hG := bind_some hG; obtain ⟨v_3, hy_3, hG⟩ := hG; refine rg ?_; refine rn 3 [] f0 [(5, B (decide (0 < p_0)))] ?_; refine sb 5 (bt h_1) ?_; refine rn 4 [] f0 [(9, B (decide (p_0 < 2147483579)))] ?_; refine sb 9 (bt h_2) ?_; refine rn 1 [] f0 [(10, I p_0)] ?_; refine l1 ?_; refine cl 11 (z_group_power F p_0 1073741789 _ hy_3) hT trivial ?_; refine ra [] f0 [(2, B (v_3 == 1))] ?_; refine tN ?_; exact fun a w S hK hE => ⟨(v_3 == 1), S, hK.wk, hE.sel [], Option.some.inj hG⟩
   ·refine rg ?_; refine rn 3 [] f0 [(5, B (decide (0 < p_0)))] ?_; refine sb 5 (bt h_1) ?_; refine rn 4 [] f0 [(9, B (decide (p_0 < 2147483579)))] ?_; refine sb 9 (bf h_2) ?_; refine ra [] f0 [(2, B false)] ?_; refine tN ?_; exact fun a w S hK hE => ⟨false, S, hK.wk, hE.sel [], Option.some.inj hG⟩
  ·refine rg ?_; refine rn 3 [] f0 [(5, B (decide (0 < p_0)))] ?_; refine sb 5 (bf h_1) ?_; refine ra [] f0 [(2, B false)] ?_; refine tN ?_; exact fun a w S hK hE => ⟨false, S, hK.wk, hE.sel [], Option.some.inj hG⟩
 ·rintro a w ⟨v_5, hJ⟩; refine hJ.go fun ho_ => ?_
  clear hJ; subst ho_; replace hG := hG_4
  try (simp only [un2, un3, un4, un5, un6, un7, un8, Sum.elim_inl, Sum.elim_inr, List.length_map, KProofL.n_Hops] at hG; replace hG : _ = _ := hG)
  refine kR ?_; obtain rfl := Option.some.inj hG; exact rt []
def G_office_formed (F : Nat) (p_0 : KHead) : Option (Bool) :=
 Option.bind (Option.bind (G_office_between F p_0.Office 1 16) (fun v_2 =>
  ifB (v_2)
   (Option.bind (G_office_between F p_0.Size 1 4096) (fun v_4 =>
   ifB (v_4)
    (Option.bind (G_office_between F p_0.Sig.C 0 1073741788) (fun v_6 =>
    ifB (v_6)
     (Option.bind (G_office_between F p_0.Sig.S 0 1073741788) (fun v_8 =>
     some v_8))
     (some false)))
    (some false)))
   (some false)) : Option (Bool)) (fun (v_10 : Bool) =>
  some v_10)
set_option maxRecDepth 100000 in
set_option maxHeartbeats 16000000 in
theorem z_office_formed (F : Nat) (p_0 : KHead) (r : Bool) (hG : G_office_formed F p_0 = some r) :
  Cf Tryz.prog 63 [.agg #[I p_0.Office, I p_0.Size, U p_0.Root, I p_0.Sig.C, I p_0.Sig.S]] [] (B r) := by
 unfold G_office_formed at hG
 try (simp only [un2, un3, un4, un5, un6, un7, un8, Sum.elim_inl, Sum.elim_inr, List.length_map, KProofL.n_Hops] at hG; replace hG : _ = _ := hG)
 refine fi Tryz.func63 rfl rfl m0 fun S0 w0 hT => ?_
 refine sq ?_; refine rg ?_; refine l1 ?_; refine nw 1 vp [I p_0.Office, I p_0.Size, U p_0.Root, I p_0.Sig.C, I p_0.Sig.S] 27 fun g_1 => ?_
 refine ra [] f0 [] ?_; refine tN ?_; obtain ⟨o_9, hG, hG_9⟩ := bind_some hG; refine jn (fun K E a w => ∃ (v_10 : Bool), Js S0 w0 23 ([(2, B v_10)] ++ K) (se E []) (v_10 = o_9) a w) ?_ ?_
 ·replace hG := bind_some hG; obtain ⟨v_2, hy_2, hG⟩ := hG; replace hG := ifB_cases hG; rcases hG with ⟨h_3, hG⟩ | ⟨h_3, hG⟩
  ·replace hG := bind_some hG; obtain ⟨v_4, hy_4, hG⟩ := hG; replace hG := ifB_cases hG; rcases hG with ⟨h_5, hG⟩ | ⟨h_5, hG⟩
   ·replace hG := bind_some hG; obtain ⟨v_6, hy_6, hG⟩ := hG; replace hG := ifB_cases hG; rcases hG with ⟨h_7, hG⟩ | ⟨h_7, hG⟩
    ·replace hG := bind_some hG; obtain ⟨v_8, hy_8, hG⟩ := hG; refine rg ?_; refine rn 2 [(1, 1, 0, 0)] f0 [(4, I p_0.Office)] ?_; refine l1 ?_; refine cl 5 (z_office_between F p_0.Office 1 16 _ hy_2) hT trivial ?_; refine rn 1 [] f0 [(6, B v_2)] ?_; refine sb 6 (bt h_3) ?_; refine rn 2 [(1, 1, 0, 1)] f0 [(8, I p_0.Size)] ?_; refine l1 ?_; refine cl 9 (z_office_between F p_0.Size 1 4096 _ hy_4) hT trivial ?_; refine rn 2 [] f0 [(11, B v_4)] ?_; refine sb 11 (bt h_5) ?_; refine rn 3 [(2, 1, 0, 3)] f0 [(14, I p_0.Sig.C)] ?_; refine l1 ?_; refine cl 15 (z_office_between F p_0.Sig.C 0 1073741788 _ hy_6) hT trivial ?_; refine rn 2 [] f0 [(17, B v_6)] ?_; refine sb 17 (bt h_7) ?_; refine rn 3 [(2, 1, 0, 4)] f0 [(20, I p_0.Sig.S)] ?_; refine l1 ?_; refine cl 21 (z_office_between F p_0.Sig.S 0 1073741788 _ hy_8) hT trivial ?_; refine ra [] f0 [(2, B v_8)] ?_; refine tN ?_; exact fun a w S hK hE => ⟨v_8, S, hK.wk, hE.sel [], Option.some.inj hG⟩
    ·refine rg ?_; refine rn 2 [(1, 1, 0, 0)] f0 [(4, I p_0.Office)] ?_; refine l1 ?_; refine cl 5 (z_office_between F p_0.Office 1 16 _ hy_2) hT trivial ?_; refine rn 1 [] f0 [(6, B v_2)] ?_; refine sb 6 (bt h_3) ?_; refine rn 2 [(1, 1, 0, 1)] f0 [(8, I p_0.Size)] ?_; refine l1 ?_; refine cl 9 (z_office_between F p_0.Size 1 4096 _ hy_4) hT trivial ?_; refine rn 2 [] f0 [(11, B v_4)] ?_; refine sb 11 (bt h_5) ?_; refine rn 3 [(2, 1, 0, 3)] f0 [(14, I p_0.Sig.C)] ?_; refine l1 ?_; refine cl 15 (z_office_between F p_0.Sig.C 0 1073741788 _ hy_6) hT trivial ?_; refine rn 2 [] f0 [(17, B v_6)] ?_; refine sb 17 (bf h_7) ?_; refine ra [] f0 [(2, B false)] ?_; refine tN ?_; exact fun a w S hK hE => ⟨false, S, hK.wk, hE.sel [], Option.some.inj hG⟩
   ·refine rg ?_; refine rn 2 [(1, 1, 0, 0)] f0 [(4, I p_0.Office)] ?_; refine l1 ?_; refine cl 5 (z_office_between F p_0.Office 1 16 _ hy_2) hT trivial ?_; refine rn 1 [] f0 [(6, B v_2)] ?_; refine sb 6 (bt h_3) ?_; refine rn 2 [(1, 1, 0, 1)] f0 [(8, I p_0.Size)] ?_; refine l1 ?_; refine cl 9 (z_office_between F p_0.Size 1 4096 _ hy_4) hT trivial ?_; refine rn 2 [] f0 [(11, B v_4)] ?_; refine sb 11 (bf h_5) ?_; refine ra [] f0 [(2, B false)] ?_; refine tN ?_; exact fun a w S hK hE => ⟨false, S, hK.wk, hE.sel [], Option.some.inj hG⟩
  ·refine rg ?_; refine rn 2 [(1, 1, 0, 0)] f0 [(4, I p_0.Office)] ?_; refine l1 ?_; refine cl 5 (z_office_between F p_0.Office 1 16 _ hy_2) hT trivial ?_; refine rn 1 [] f0 [(6, B v_2)] ?_; refine sb 6 (bf h_3) ?_; refine ra [] f0 [(2, B false)] ?_; refine tN ?_; exact fun a w S hK hE => ⟨false, S, hK.wk, hE.sel [], Option.some.inj hG⟩
 ·rintro a w ⟨v_10, hJ⟩; refine hJ.go fun ho_ => ?_
  clear hJ; subst ho_; replace hG := hG_9
  try (simp only [un2, un3, un4, un5, un6, un7, un8, Sum.elim_inl, Sum.elim_inr, List.length_map, KProofL.n_Hops] at hG; replace hG : _ = _ := hG)
  refine kR ?_; obtain rfl := Option.some.inj hG; exact rt []
def G_office_logged_formed (F : Nat) (p_0 : Koffice_logged) : Option (Bool) :=
 Option.bind (G_interval_Valid F p_0.Entry.Stamp) (fun v_2 =>
 some v_2)
set_option maxRecDepth 100000 in
set_option maxHeartbeats 16000000 in
theorem z_office_logged_formed (F : Nat) (p_0 : Koffice_logged) (r : Bool) (hG : G_office_logged_formed F p_0 = some r) :
  Cf Tryz.prog 113 [.agg #[U p_0.Entry.Doc, I p_0.Entry.Stamp.Lo, I p_0.Entry.Stamp.Hi]] [] (B r) := by
 unfold G_office_logged_formed at hG
 try (simp only [un2, un3, un4, un5, un6, un7, un8, Sum.elim_inl, Sum.elim_inr, List.length_map, KProofL.n_Hops] at hG; replace hG : _ = _ := hG)
 refine fi Tryz.func113 rfl rfl m0 fun S0 w0 hT => ?_
 refine sq ?_; refine rg ?_; refine l1 ?_; refine nw 1 vp [U p_0.Entry.Doc, I p_0.Entry.Stamp.Lo, I p_0.Entry.Stamp.Hi] 165 fun g_1 => ?_
 refine ra [] f0 [] ?_; refine tN ?_; refine sq ?_; replace hG := bind_some hG; obtain ⟨v_2, hy_2, hG⟩ := hG; refine rg ?_; refine rn 3 [(2, 2, 0, 1)] f0 [(5, .agg #[I p_0.Entry.Stamp.Lo, I p_0.Entry.Stamp.Hi])] ?_; refine l1 ?_; refine cl 6 (z_interval_Valid F p_0.Entry.Stamp _ hy_2) hT trivial ?_; refine ra [] f0 [(2, B v_2)] ?_; refine tN ?_; refine kR ?_; obtain rfl := Option.some.inj hG; exact rt []
def G_office_Leaf (F : Nat) (p_0 : KEntry) : Option (Int) :=
 Option.bind (G_office_logged_value F (⟨p_0⟩ : Koffice_logged)) (fun v_2 =>
 some v_2)
set_option maxRecDepth 100000 in
set_option maxHeartbeats 16000000 in
theorem z_office_Leaf (F : Nat) (p_0 : KEntry) (r : Int) (hG : G_office_Leaf F p_0 = some r) :
  Cf Tryz.prog 66 [.agg #[U p_0.Doc, I p_0.Stamp.Lo, I p_0.Stamp.Hi]] [] (U r) := by
 unfold G_office_Leaf at hG
 try (simp only [un2, un3, un4, un5, un6, un7, un8, Sum.elim_inl, Sum.elim_inr, List.length_map, KProofL.n_Hops] at hG; replace hG : _ = _ := hG)
 refine fi Tryz.func66 rfl rfl m0 fun S0 w0 hT => ?_
 refine sq ?_; refine rg ?_; refine l1 ?_; refine nw 1 vp [U p_0.Doc, I p_0.Stamp.Lo, I p_0.Stamp.Hi] 31 fun g_1 => ?_
 refine ra [] f0 [] ?_; refine tN ?_; refine sq ?_; replace hG := bind_some hG; obtain ⟨v_2, hy_2, hG⟩ := hG; refine rg ?_; refine rn 2 [(0, 3, 0, 0)] f0 [(4, .agg #[U p_0.Doc, I p_0.Stamp.Lo, I p_0.Stamp.Hi])] ?_; refine l1 ?_; refine cl 5 (z_office_logged_value F (⟨p_0⟩ : Koffice_logged) _ hy_2) hT trivial ?_; refine ra [] f0 [(2, U v_2)] ?_; refine tN ?_; refine kR ?_; obtain rfl := Option.some.inj hG; exact rt []
def G_order_archive_longer (F : Nat) (p_0 : Korder_archive) (p_1 : Korder_chain) : Option ((List Korder_chain)) :=
  Option.bind (G_order_chain_last F p_1) (fun v_2 =>
  Option.bind (G_cross_Digest F v_2) (fun v_3 =>
  Option.bind (Option.bind (iter (σ := Int × (List Korder_chain)) (ρ := (List Korder_chain)) (un2 fun (v_211 : Int) (v_212 : (List Korder_chain)) => 
        (ifB (decide (v_211 < ((p_0.heads.length : Nat) : Int)))
          (Option.bind (Option.bind (ixI p_0.heads v_211) (fun v_217 =>
            Option.bind (Option.bind (iter (σ := Int) (ρ := Unit ⊕ Unit) (fun (v_234 : Int) => 
                  (ifB (decide (v_234 < ((p_1.heads.length : Nat) : Int)))
                    (Option.bind (ixI p_1.heads v_234) (fun v_237 =>
                    ifB ((v_237.Office == v_217.Office))
                      (some (.inr (.inr ())))
                      (some (.inl (IntKind.i64.wrap (v_234 + 1))))))
                    (some (.inr (.inl ()))) : Option (Int ⊕ (Unit ⊕ Unit)))) F 0) (Sum.elim (fun (_ : Unit) => 
                some (.inl ())) (fun (_ : Unit) => 
                some (.inr ()))) : Option (Unit ⊕ Unit)) (Sum.elim (fun (_ : Unit) => 
              Option.bind (some (mpG p_0.offices v_217.Office KOffice.z)) (fun v_243 =>
              Option.bind (slI v_243.Entries 0 v_217.Size) (fun v_244 =>
              Option.bind (Option.bind (Option.bind (iter (σ := Int) (ρ := Unit ⊕ Int) (fun (v_262 : Int) => 
                      (ifB (decide (v_262 < ((v_244.length : Nat) : Int)))
                        (Option.bind (ixI v_244 v_262) (fun v_265 =>
                        Option.bind (some () : Option (Unit)) (fun (_ : Unit) => 
                          ifB ((v_265.Doc == v_3))
                            (some (.inr (.inr v_262)))
                            (some (.inl (IntKind.i64.wrap (v_262 + 1)))))))
                        (some (.inr (.inl ()))) : Option (Int ⊕ (Unit ⊕ Int)))) F 0) (Sum.elim (fun (_ : Unit) => 
                    some (.inl ())) (fun (v_272 : Int) => 
                    some (.inr v_272))) : Option (Unit ⊕ Int)) (Sum.elim (fun (_ : Unit) => 
                  some (-1)) (fun (v_274 : Int) => 
                  some v_274)) : Option (Int)) (fun (v_275 : Int) => 
                ifB (decide (v_275 ≥ 0))
                  (Option.bind (apG 40 ([] : List KHead) p_1.heads) (fun v_308 =>
                  Option.bind (apG 40 p_1.heads ([v_217] : List KHead)) (fun v_310 =>
                  Option.bind (apG 32 v_212 ([(⟨v_310, v_275⟩ : Korder_chain)] : List Korder_chain)) (fun v_312 =>
                  some v_312))))
                  (some v_212))))) (fun (_ : Unit) => 
              some v_212))) : Option ((List Korder_chain))) (fun (v_314 : (List Korder_chain)) => 
            some (.inl (IntKind.i64.wrap (v_211 + 1), v_314))))
          (some (.inr v_212)) : Option ((Int × (List Korder_chain)) ⊕ (List Korder_chain)))) F (0, ([] : List Korder_chain))) (fun (v_317 : (List Korder_chain)) => 
      some v_317) : Option ((List Korder_chain))) (fun (v_321 : (List Korder_chain)) => 
    some v_321)))
set_option maxRecDepth 100000 in
set_option maxHeartbeats 16000000 in
theorem z_order_archive_longer (F : Nat) (p_0_A : Nat) (p_0 : Korder_archiveL) (p_1 : Korder_chainL) (r : (List Korder_chain)) (hG : G_order_archive_longer F p_0.p p_1.p = some r) :
  Cn Tryz.prog 102 [Pt p_0_A 0, .agg #[.slice p_1.heads_A p_1.heads.length p_1.heads_c, I p_1.at_]] [fun S W => RecS S W p_0_A 0 p_0.cells, Korder_archiveL.ok p_0, Korder_chainL.ok p_1] (fun q : KSorder_chainL => r = (q.l.map Korder_chainL.p)) (fun q => .slice q.A q.l.length q.c) (fun q => [RowC q.A q.c Korder_chainL.cells Korder_chainL.ok q.l]) := by
 unfold G_order_archive_longer at hG
 try (simp only [un2, un3, un4, un5, un6, un7, un8, Sum.elim_inl, Sum.elim_inr, List.length_map, KProofL.n_Hops] at hG; replace hG : _ = _ := hG)
 refine fin Tryz.func102 rfl rfl (mrec (mc Korder_archiveL.mv (mc Korder_chainL.mv m0))) fun S0 w0 hT => ?_
 refine rp p_0_A p_0.cells (gd' (fun S W => RecS S W p_0_A 0 p_0.cells) 0) ?_; refine sq ?_; refine rg ?_; refine l1 ?_; refine nw 3 vp [.slice p_1.heads_A p_1.heads.length p_1.heads_c, I p_1.at_] 96 fun g_1 => ?_
 refine ra [] f0 [] ?_; refine tN ?_; refine sc ?_; refine sq ?_; refine rg ?_; refine ra [] f0 [(5, .slice none 0 0)] ?_; refine tN ?_; refine sq ?_; replace hG := bind_some hG; obtain ⟨v_2, hy_2, hG⟩ := hG; replace hG := bind_some hG; obtain ⟨v_3, hy_3, hG⟩ := hG; refine rg ?_; refine rn 1 [(0, 2, 0, 0)] f0 [(13, .agg #[.slice p_1.heads_A p_1.heads.length p_1.heads_c, I p_1.at_])] ?_; refine l1 ?_; refine cl 14 (z_order_chain_last F p_1 _ hy_2) hT ⟨(gi 4).a, trivial⟩ ?_; refine l1 ?_; refine cl 15 (z_cross_Digest F v_2 _ hy_3) hT trivial ?_; refine l1 ?_; refine nw 6 vp [U 0] 23 fun g_4 => ?_
 refine l1 ?_; refine sr 0 g_4 [(0, U v_3)] ?_; refine nl ?_; refine tN ?_; refine sq ?_; refine lb ?_; refine tN ?_; obtain ⟨o_320, hG, hG_320⟩ := bind_some hG; refine jn (fun K E a w => ∃ (v_321 : List Korder_chainL), ∃ (v_322_A : Option Addr), ∃ (v_323_c : Nat), Js S0 w0 67 ([(5, .slice v_322_A v_321.length v_323_c)] ++ K) ([.own 96 2 (.slice v_322_A v_321.length v_323_c) v_321.length (v_321.flatMap Korder_chainL.cells), .dat (Each Korder_chainL.ok v_321)]) ((v_321.map Korder_chainL.p) = o_320) a w) ?_ ?_
 ·refine sq ?_; refine rg ?_; refine ra [(3, 1, 2, 1)] f0 [(19, .slice p_0.heads_A p_0.heads.length p_0.heads_c), (20, I ((p_0.heads.length : Nat) : Int)), (21, I 0)] ?_; refine tN ?_; refine bk ?_; obtain ⟨e_215, hL, hG_215⟩ := bind_some hG; clear hG; obtain ⟨stp_215, hs_215, hL⟩ := iter_gen hL; refine lp (fun K E n_ a w => ∃ (v_211 : Int), ∃ (v_212 : List Korder_chainL), ∃ (v_213_A : Option Addr), ∃ (v_214_c : Nat), Js S0 w0 67 ([(5, .slice v_213_A v_212.length v_214_c), (21, I v_211)] ++ K) ([.dat (RowC p_1.heads_A p_1.heads_c KHead.cells tr p_1.heads), .own 96 2 (.slice v_213_A v_212.length v_214_c) v_212.length (v_212.flatMap Korder_chainL.cells), .dat (Each Korder_chainL.ok v_212)] ++ se E [0, 1, 2, 4]) (iter stp_215 n_ (v_211, (v_212.map Korder_chainL.p)) = some e_215) a w) F ?_ ?_
  ·refine fm (RowC p_1.heads_A p_1.heads_c KHead.cells tr p_1.heads) (gm (Korder_chainL.ok p_1) 5 fun _ _ h => h.f_heads) ?_; refine on 96 2 ?_; refine fm (Each Korder_chainL.ok ([] : List Korder_chainL)) e0 ?_; exact fun a w S hK hE => ⟨0, ([] : List Korder_chainL), none, 0, S, hK.wk, hE.sel [2, 1, 0, 3, 4, 5, 7], hL⟩
  ·clear hL; rintro n_215 a w ⟨v_211, v_212, v_213_A, v_214_c, hJ⟩; refine hJ.go fun hL => ?_
   clear hJ; obtain ⟨m_215, o_215, rfl, hG, hO1_215, hO2_215⟩ := iter_step hL; clear hL; rw [hs_215] at hG
   try (simp only [un2, un3, un4, un5, un6, un7, un8, Sum.elim_inl, Sum.elim_inr, List.length_map, KProofL.n_Hops] at hG; replace hG : _ = _ := hG)
   refine sq ?_; refine rg ?_; refine ra [] f0 [(22, B (decide (v_211 < ((p_0.heads.length : Nat) : Int))))] ?_; refine tN ?_; refine sq ?_; rcases ifB_cases hG with ⟨h_216, hG⟩ | ⟨h_216, hG⟩
   ·try simp only [List.length_map, KProofL.n_Hops] at h_216
    refine sb 22 (bt h_216) ?_; refine ct ?_; refine kS ?_; refine tN ?_; obtain ⟨o_313, hG, hG_313⟩ := bind_some hG; refine jn (fun K E a w => ∃ (v_314 : List Korder_chainL), ∃ (v_315_A : Option Addr), ∃ (v_316_c : Nat), Js S0 w0 67 ([(5, .slice v_315_A v_314.length v_316_c)] ++ K) ([.own 96 2 (.slice v_315_A v_314.length v_316_c) v_314.length (v_314.flatMap Korder_chainL.cells), .dat (Each Korder_chainL.ok v_314)] ++ se E [0, 3, 4, 5, 6]) ((v_314.map Korder_chainL.p) = o_313) a w) ?_ ?_
    ·refine bk ?_; refine sq ?_; replace hG := bind_some hG; obtain ⟨v_217, hy_217, hG⟩ := hG; refine rg ?_; refine fx inf39 (gm (Korder_archiveL.ok p_0) 6 fun _ _ h => h.f_heads) hy_217 fun b_218 o_219 hi_217 => ?_
     refine rn 2 [(0, 0, 0, 0), (0, 5, 0, 0)] (fc (hi_217 .i64) f0) [(24, .agg #[I v_217.Office, I v_217.Size, U v_217.Root, I v_217.Sig.C, I v_217.Sig.S])] ?_; refine l1 ?_; refine nw 8 vp [I 0, I 0, U 0, I 0, I 0] 27 fun g_220 => ?_
     refine l1 ?_; refine sr 0 g_220 [(0, I v_217.Office), (1, I v_217.Size), (2, U v_217.Root), (3, I v_217.Sig.C), (4, I v_217.Sig.S)] ?_; refine nl ?_; refine tN ?_; obtain ⟨o_242, hG, hG_242⟩ := bind_some hG; refine jn (fun K E a w => Js S0 w0 67 (K) (se E [0, 2, 3, 4, 5, 6, 7, 8]) (.inl () = o_242) a w) ?_ ?_
     ·refine sq ?_; refine rg ?_; refine ra [(1, 1, 6, 0)] f0 [(26, .slice p_1.heads_A p_1.heads.length p_1.heads_c), (27, I ((p_1.heads.length : Nat) : Int)), (28, I 0)] ?_; refine tN ?_; refine bk ?_; obtain ⟨e_235, hL, hG_235⟩ := bind_some hG; clear hG; obtain ⟨stp_235, hs_235, hL⟩ := iter_gen hL; refine lp (fun K E n_ a w => ∃ (v_234 : Int), Js S0 w0 67 ([(28, I v_234)] ++ K) (se E [0, 2, 3, 4, 5, 6, 7, 8]) (iter stp_235 n_ v_234 = some e_235) a w) F ?_ ?_
      ·exact fun a w S hK hE => ⟨0, S, hK.wk, hE.sel [0, 2, 3, 4, 5, 6, 7, 8], hL⟩
      ·clear hL; rintro n_235 a w ⟨v_234, hJ⟩; refine hJ.go fun hL => ?_
       clear hJ; obtain ⟨m_235, o_235, rfl, hG, hO1_235, hO2_235⟩ := iter_step hL; clear hL; rw [hs_235] at hG
       try (simp only [un2, un3, un4, un5, un6, un7, un8, Sum.elim_inl, Sum.elim_inr, List.length_map, KProofL.n_Hops] at hG; replace hG : _ = _ := hG)
       refine sq ?_; refine rg ?_; refine ra [] f0 [(29, B (decide (v_234 < ((p_1.heads.length : Nat) : Int))))] ?_; refine tN ?_; refine sq ?_; rcases ifB_cases hG with ⟨h_236, hG⟩ | ⟨h_236, hG⟩
       ·try simp only [List.length_map, KProofL.n_Hops] at h_236
        refine sb 29 (bt h_236) ?_; refine ct ?_; refine kS ?_; refine tN ?_; refine sq ?_; refine bk ?_; refine sq ?_; replace hG := bind_some hG; obtain ⟨v_237, hy_237, hG⟩ := hG; refine rg ?_; refine fx inf39 (gd' (RowC p_1.heads_A p_1.heads_c KHead.cells tr p_1.heads) 1) hy_237 fun b_238 o_239 hi_237 => ?_
        refine rn 2 [(0, 0, 0, 0), (0, 5, 0, 0)] (fc (hi_237 .i64) f0) [(31, .agg #[I v_237.Office, I v_237.Size, U v_237.Root, I v_237.Sig.C, I v_237.Sig.S])] ?_; refine l1 ?_; refine nw 10 vp [I 0, I 0, U 0, I 0, I 0] 27 fun g_240 => ?_
        refine l1 ?_; refine sr 0 g_240 [(0, I v_237.Office), (1, I v_237.Size), (2, U v_237.Root), (3, I v_237.Sig.C), (4, I v_237.Sig.S)] ?_; refine nl ?_; refine tN ?_; refine sq ?_; refine rg ?_; refine ra [(1, 1, 0, 0), (1, 1, 2, 0)] f0 [(36, B (v_237.Office == v_217.Office))] ?_; refine tN ?_; rcases ifB_cases hG with ⟨h_241, hG⟩ | ⟨h_241, hG⟩
        ·refine sb 36 (bt h_241) ?_; refine ct ?_; refine kX ?_; refine hM ?_; refine tX ?_; refine tX ?_; have he_ := hO2_235 _ (Option.some.inj hG).symm; subst he_; replace hG := hG_235
         try (simp only [un2, un3, un4, un5, un6, un7, un8, Sum.elim_inl, Sum.elim_inr, List.length_map, KProofL.n_Hops] at hG; replace hG : _ = _ := hG)
         refine hM ?_; refine tX ?_; obtain rfl := Option.some.inj hG; replace hG := hG_242
         try (simp only [un2, un3, un4, un5, un6, un7, un8, Sum.elim_inl, Sum.elim_inr, List.length_map, KProofL.n_Hops] at hG; replace hG : _ = _ := hG)
         refine hH ?_; refine tN ?_; exact fun a w S hK hE => ⟨v_212, v_213_A, v_214_c, S, hK.wk, hE.sel [4, 5, 3, 6, 7, 8, 9], Option.some.inj hG⟩
        ·refine sb 36 (bf h_241) ?_; refine cf ?_; refine kS ?_; refine hN ?_; refine tN ?_; refine rg ?_; refine ra [] f0 [(28, I (IntKind.i64.wrap (v_234 + 1)))] ?_; refine tN ?_; exact fun a w S hK hE => ⟨m_235, ⟨IntKind.i64.wrap (v_234 + 1), S, hK.wk, hE.sel [2, 3, 4, 5, 6, 7, 8, 9], hO1_235 _ (Option.some.inj hG).symm⟩, Nat.lt_succ_self _⟩
       ·try simp only [List.length_map, KProofL.n_Hops] at h_236
        refine sb 29 (bf h_236) ?_; refine cf ?_; refine kX ?_; refine tX ?_; refine tX ?_; have he_ := hO2_235 _ (Option.some.inj hG).symm; subst he_; replace hG := hG_235
        try (simp only [un2, un3, un4, un5, un6, un7, un8, Sum.elim_inl, Sum.elim_inr, List.length_map, KProofL.n_Hops] at hG; replace hG : _ = _ := hG)
        refine hH ?_; refine tN ?_; exact fun a w S hK hE => ⟨S, hK.wk, hE.sel [0, 1, 2, 3, 4, 5, 6, 7], Option.some.inj hG⟩
     ·rintro a w hJ; refine hJ.go fun ho_ => ?_
      clear hJ; subst ho_; replace hG := hG_242
      try (simp only [un2, un3, un4, un5, un6, un7, un8, Sum.elim_inl, Sum.elim_inr, List.length_map, KProofL.n_Hops] at hG; replace hG : _ = _ := hG)
      refine sq ?_; replace hG := bind_some hG; obtain ⟨v_243o, hy_243, hG⟩ := hG; replace hG := bind_some hG; obtain ⟨v_244, hy_244, hG⟩ := hG; refine hb [0, 1, 2, 3, 4, 5, 6, 7] ?_; refine ht [0, 1, 2, 3, 4, 5, 6, 7] [0, 1, 2, 3, 4, 5, 8, 9] [(3, 1, 6, 0), (1, 1, 0, 0), (1, 1, 0, 1)] f0 [(41, .map (some p_0.offices_b)), (43, I v_217.Office), (47, I v_217.Size)] ?_; refine ho [6] ⟨?_, trivial⟩; refine h1 ?_; refine ml 44 p_0.offices_b p_0.offices v_217.Office KOfficeL.z KOfficeL.p _ hy_243 (gm (Korder_archiveL.ok p_0) 7 fun _ _ h => h.f_offices) KOfficeL.z_ok Tryz.underlying99 Tryz.underlying3 (fun w => by kernel_rfl) fun v_243 he_243 => ?_
      subst he_243
      try (simp only [un2, un3, un4, un5, un6, un7, un8, Sum.elim_inl, Sum.elim_inr, List.length_map, KProofL.n_Hops] at hG; replace hG : _ = _ := hG)
      refine hk [1, 2, 3, 4, 5, 6, 7, 8] ?_; refine ht [1, 2, 3, 4, 5, 6, 7, 8] [7] [] f0 [(45, .slice v_243.Entries_A v_243.Entries.length v_243.Entries_c)] ?_; refine ho [10] ⟨?_, trivial⟩; refine fp false true inf51 (gm (KOfficeL.ok v_243) 0 fun _ _ h => h.f_Entries) hy_244 fun v_244_A v_244_c hp_244 => ?_
      refine h1 ?_; refine po 48 (.slice v_244_A v_244.length v_244_c) [(0, 0, 0, 0)] (fc (hp_244 .i64 .i64) f0) ?_; refine hk [2, 3, 4, 5, 6, 7, 8, 9] ?_; refine ht [2, 3, 4, 5, 6, 7, 8, 9] [11] [] f0 [(11, .slice v_244_A v_244.length v_244_c)] ?_; refine he ?_; refine tN ?_; refine sq ?_; replace hG := bind_some hG; obtain ⟨v_275o, hy_276, hG⟩ := hG; refine rg ?_; refine rn 2 [] f0 [(49, .slice v_244_A v_244.length v_244_c), (50, .func (.func 142) #[] #[Pt g_4 0])] ?_; refine l1 ?_; refine ci 51 (args := [.slice v_244_A v_244.length v_244_c, .func (.func 142) #[] #[Pt g_4 0]]) (fun E e w => ∃ (v_275 : Int), Rs S0 w0 (I v_275) ([.dat (RowC v_243.Entries_A v_243.Entries_c KEntry.cells tr v_243.Entries)] ++ se E [0, 2, 3, 4, 5, 6, 7, 8, 9]) (v_275 = v_275o) e w) Tryz.func104 rfl rfl ?_ ?_
      ·replace hG := hy_276
       try (simp only [un2, un3, un4, un5, un6, un7, un8, Sum.elim_inl, Sum.elim_inr, List.length_map, KProofL.n_Hops] at hG; replace hG : _ = _ := hG)
       refine sq ?_; refine rg ?_; refine ra [] f0 [] ?_; refine tN ?_; obtain ⟨o_305, hG, hG_305⟩ := bind_some hG; refine jn (fun K E a w => Js S0 w0 19 (K) ([.dat (RowC v_243.Entries_A v_243.Entries_c KEntry.cells tr v_243.Entries)] ++ se E [0, 2, 3, 4, 5, 6, 7, 8, 9]) (.inl () = o_305) a w) ?_ ?_
       ·refine sq ?_; refine rg ?_; refine ra [] f0 [(7, I ((v_244.length : Nat) : Int)), (8, I 0)] ?_; refine tN ?_; refine bk ?_; obtain ⟨e_295, hL, hG_295⟩ := bind_some hG; clear hG; obtain ⟨stp_295, hs_295, hL⟩ := iter_gen hL; refine lp (fun K E n_ a w => ∃ (v_294 : Int), Js S0 w0 19 ([(8, I v_294)] ++ K) ([.dat (RowC v_243.Entries_A v_243.Entries_c KEntry.cells tr v_243.Entries)] ++ se E [0, 2, 3, 4, 5, 6, 7, 8, 9]) (iter stp_295 n_ v_294 = some e_295) a w) F ?_ ?_
        ·refine fm (RowC v_243.Entries_A v_243.Entries_c KEntry.cells tr v_243.Entries) (gm (KOfficeL.ok v_243) 1 fun _ _ h => h.f_Entries) ?_; exact fun a w S hK hE => ⟨0, S, hK.wk, hE.sel [0, 1, 3, 4, 5, 6, 7, 8, 9, 10], hL⟩
        ·clear hL; rintro n_295 a w ⟨v_294, hJ⟩; refine hJ.go fun hL => ?_
         clear hJ; obtain ⟨m_295, o_295, rfl, hG, hO1_295, hO2_295⟩ := iter_step hL; clear hL; rw [hs_295] at hG
         try (simp only [un2, un3, un4, un5, un6, un7, un8, Sum.elim_inl, Sum.elim_inr, List.length_map, KProofL.n_Hops] at hG; replace hG : _ = _ := hG)
         refine sq ?_; refine rg ?_; refine ra [] f0 [(9, B (decide (v_294 < ((v_244.length : Nat) : Int))))] ?_; refine tN ?_; refine sq ?_; rcases ifB_cases hG with ⟨h_296, hG⟩ | ⟨h_296, hG⟩
         ·try simp only [List.length_map, KProofL.n_Hops] at h_296
          refine sb 9 (bt h_296) ?_; refine ct ?_; refine kS ?_; refine tN ?_; refine sq ?_; refine bk ?_; refine sq ?_; refine rg ?_; refine ra [] f0 [(5, I v_294)] ?_; refine tN ?_; refine sq ?_; replace hG := bind_some hG; obtain ⟨v_297, hy_297, hG⟩ := hG; replace hG := bind_some hG; obtain ⟨⟨⟩, hy_301, hG⟩ := hG; refine rg ?_; refine fx inf51 (gd' (RowC v_244_A v_244_c KEntry.cells tr v_244) 1) hy_297 fun b_298 o_299 hi_297 => ?_
          refine rn 5 [(3, 0, 0, 0), (0, 3, 0, 0)] (fc (hi_297 .i64) f0) [(11, .func (.func 142) #[] #[Pt g_4 0]), (15, .agg #[U v_297.Doc, I v_297.Stamp.Lo, I v_297.Stamp.Hi])] ?_; refine l1 ?_; refine ci 16 (args := [.agg #[U v_297.Doc, I v_297.Stamp.Lo, I v_297.Stamp.Hi], Pt g_4 0]) (fun E e w => Rs S0 w0 (B (v_297.Doc == v_3)) (se E [0, 1, 2, 3, 4, 5, 6, 7, 8, 9, 10]) (() = ()) e w) Tryz.func142 rfl rfl ?_ ?_
          ·replace hG := hy_301
           try (simp only [un2, un3, un4, un5, un6, un7, un8, Sum.elim_inl, Sum.elim_inr, List.length_map, KProofL.n_Hops] at hG; replace hG : _ = _ := hG)
           refine sq ?_; refine rg ?_; refine l1 ?_; refine nw 2 vp [U v_297.Doc, I v_297.Stamp.Lo, I v_297.Stamp.Hi] 31 fun g_302 => ?_
           refine ra [] f0 [] ?_; refine tN ?_; refine sq ?_; refine rg ?_; refine ra [(1, 1, 0, 0), (0, 1, 8, 0)] f0 [(3, B (v_297.Doc == v_3))] ?_; refine tN ?_; refine kR ?_; refine ri [] (B (v_297.Doc == v_3)) ?_; exact fun a w S hK hE => ⟨rfl, ⟨S, hE.sel [1, 2, 3, 4, 5, 6, 7, 8, 9, 10, 11]⟩, Option.some.inj hG⟩
          ·rintro e w hJ; refine hJ.go fun ho_ => ?_
           clear hJ; refine nl ?_; refine tN ?_; rcases ifB_cases hG with ⟨h_303, hG⟩ | ⟨h_303, hG⟩
           ·refine sb 16 (bt h_303) ?_; refine ct ?_; refine sq ?_; refine rg ?_; refine ra [] f0 [(4, I v_294)] ?_; refine tN ?_; refine kR ?_; refine hR ?_; refine tR ?_; refine tR ?_; have he_ := hO2_295 _ (Option.some.inj hG).symm; subst he_; replace hG := hG_295
            try (simp only [un2, un3, un4, un5, un6, un7, un8, Sum.elim_inl, Sum.elim_inr, List.length_map, KProofL.n_Hops] at hG; replace hG : _ = _ := hG)
            refine hR ?_; refine tR ?_; obtain rfl := Option.some.inj hG; replace hG := hG_305
            try (simp only [un2, un3, un4, un5, un6, un7, un8, Sum.elim_inl, Sum.elim_inr, List.length_map, KProofL.n_Hops] at hG; replace hG : _ = _ := hG)
            refine ri [] (I v_294) ?_; exact fun a w S hK hE => ⟨v_294, rfl, ⟨S, hE.sel [1, 2, 3, 4, 5, 6, 7, 8, 9, 10]⟩, Option.some.inj hG⟩
           ·refine sb 16 (bf h_303) ?_; refine cf ?_; refine kS ?_; refine hN ?_; refine tN ?_; refine rg ?_; refine ra [] f0 [(8, I (IntKind.i64.wrap (v_294 + 1)))] ?_; refine tN ?_; exact fun a w S hK hE => ⟨m_295, ⟨IntKind.i64.wrap (v_294 + 1), S, hK.wk, hE.sel [1, 2, 3, 4, 5, 6, 7, 8, 9, 10], hO1_295 _ (Option.some.inj hG).symm⟩, Nat.lt_succ_self _⟩
         ·try simp only [List.length_map, KProofL.n_Hops] at h_296
          refine sb 9 (bf h_296) ?_; refine cf ?_; refine kX ?_; refine tX ?_; refine tX ?_; have he_ := hO2_295 _ (Option.some.inj hG).symm; subst he_; replace hG := hG_295
          try (simp only [un2, un3, un4, un5, un6, un7, un8, Sum.elim_inl, Sum.elim_inr, List.length_map, KProofL.n_Hops] at hG; replace hG : _ = _ := hG)
          refine hH ?_; refine tN ?_; exact fun a w S hK hE => ⟨S, hK.wk, hE.sel [0, 1, 2, 3, 4, 5, 6, 7, 8, 9], Option.some.inj hG⟩
       ·rintro a w hJ; refine hJ.go fun ho_ => ?_
        clear hJ; subst ho_; replace hG := hG_305
        try (simp only [un2, un3, un4, un5, un6, un7, un8, Sum.elim_inl, Sum.elim_inr, List.length_map, KProofL.n_Hops] at hG; replace hG : _ = _ := hG)
        refine sq ?_; refine rg ?_; refine ra [] f0 [(4, I (-1))] ?_; refine tN ?_; refine kR ?_; refine ri [] (I (-1)) ?_; exact fun a w S hK hE => ⟨(-1), rfl, ⟨S, hE.sel [0, 1, 2, 3, 4, 5, 6, 7, 8, 9]⟩, Option.some.inj hG⟩
      ·rintro e w ⟨v_275, hJ⟩; refine hJ.go fun ho_ => ?_
       clear hJ; subst ho_
       try (simp only [un2, un3, un4, un5, un6, un7, un8, Sum.elim_inl, Sum.elim_inr, List.length_map, KProofL.n_Hops] at hG; replace hG : _ = _ := hG)
       refine ra [] f0 [(12, I v_275)] ?_; refine tN ?_; refine sq ?_; refine rg ?_; refine ra [] f0 [(53, B (decide (v_275 ≥ 0)))] ?_; refine tN ?_; rcases ifB_cases hG with ⟨h_307, hG⟩ | ⟨h_307, hG⟩
       ·refine sb 53 (bt h_307) ?_; refine ct ?_; replace hG := bind_some hG; obtain ⟨v_308, hy_308, hG⟩ := hG; replace hG := bind_some hG; obtain ⟨v_310, hy_310, hG⟩ := hG; replace hG := bind_some hG; obtain ⟨v_312o, hy_312, hG⟩ := hG; refine hb [0, 1, 2, 3, 5, 6, 7, 8, 9] ?_; refine ht [0, 1, 2, 3, 5, 6, 7, 8, 9] [0, 1, 2, 4, 7] [(2, 1, 6, 0), (0, 5, 2, 0)] f0 [(54, .slice v_213_A v_212.length v_214_c), (56, .slice p_1.heads_A p_1.heads.length p_1.heads_c), (58, .agg #[I v_217.Office, I v_217.Size, U v_217.Root, I v_217.Sig.C, I v_217.Sig.S]), (61, I v_275)] ?_; refine ho [3, 5] ⟨?_, ?_, trivial⟩
        ·refine h1 ?_; refine cln_KSapi_Head 57 p_1.heads_A p_1.heads_c p_1.heads (gd' (RowC p_1.heads_A p_1.heads_c KHead.cells tr p_1.heads) 3).a (by first | simpa using (apG_some hy_308).1 | (have hh_ := (apG_some hy_308).1; rw [List.length_nil, Nat.zero_add] at hh_; exact hh_)) fun v_308_A v_308_c => ?_
         refine hk [1, 2, 3, 4, 6, 7, 8, 9, 10] ?_; refine ho [5] ⟨?_, trivial⟩; refine h1 ?_; refine nw 59 (vs 1) [I v_217.Office, I v_217.Size, U v_217.Root, I v_217.Sig.C, I v_217.Sig.S] 27 fun g_309 => ?_
         refine hk [2, 3, 4, 5, 7, 8, 9, 10, 11] ?_; refine ho [6] ⟨?_, trivial⟩; refine h1 ?_; refine ap 1 60 v_308_A v_308_c p_1.heads ([v_217] : List KHead) inf39 (bA (f := KHead.cells) (ok := tr) (l := ([v_217] : List KHead)) g_309 0 et.a) hy_310 KHead.one fun v_310_A v_310_c _ => ?_
         refine hk [2, 3, 4, 5, 7, 8, 9, 10, 11] ?_; refine ht [2, 3, 4, 5, 7, 8, 9, 10, 11] [8] [] f0 [(62, .agg #[.slice v_310_A v_310.length v_310_c, I v_275])] ?_; refine ho [9] ⟨?_, trivial⟩; refine h1 ?_; refine nw 63 (vs 1) [.slice v_310_A v_310.length v_310_c, I v_275] 96 fun g_311 => ?_
         refine hk [3, 4, 5, 6, 8, 9, 10, 11, 12] ?_; refine ho [10] ⟨?_, trivial⟩; refine so (A := v_310_A) (c := v_310_c) 2 KHead.cells tr v_310 tr_mv et ?_; refine h1 ?_; refine apn (p := Korder_chainL.p) (ok := Korder_chainL.ok) 7 64 v_213_A v_214_c v_212 ([(⟨v_310_A, v_310_c, v_310, v_275⟩ : Korder_chainL)] : List Korder_chainL) inf157 (bA (f := Korder_chainL.cells) (ok := tr) (l := ([(⟨v_310_A, v_310_c, v_310, v_275⟩ : Korder_chainL)] : List Korder_chainL)) g_311 0 et.a) (gd' (Each Korder_chainL.ok v_212) 8) (ec (((gd' (RowC v_310_A v_310_c KHead.cells tr v_310) 2)).m fun _ _ h => ⟨h⟩) e0) hy_312 Korder_chainL.one fun v_312 v_312_A v_312_c he_312 _ => ?_
         subst he_312
         try (simp only [un2, un3, un4, un5, un6, un7, un8, Sum.elim_inl, Sum.elim_inr, List.length_map, KProofL.n_Hops] at hG; replace hG : _ = _ := hG)
         refine hk [4, 5, 6, 7, 9, 10, 11, 12, 13] ?_; refine ht [4, 5, 6, 7, 9, 10, 11, 12, 13] [11] [] f0 [(5, .slice v_312_A v_312.length v_312_c)] ?_; refine he ?_; refine hN ?_; refine tN ?_; exact fun a w S hK hE => ⟨v_312, v_312_A, v_312_c, S, hK.wk, hE.sel [8, 0, 7, 10, 11, 12, 13], Option.some.inj hG⟩
        ·refine h1 ?_; refine nw 59 (vs 1) [I v_217.Office, I v_217.Size, U v_217.Root, I v_217.Sig.C, I v_217.Sig.S] 27 fun g_309 => ?_
         refine hk [1, 2, 3, 4, 6, 7, 8, 9, 10] ?_; refine ho [3] ⟨?_, trivial⟩; refine h1 ?_; refine cln_KSapi_Head 57 p_1.heads_A p_1.heads_c p_1.heads (gd' (RowC p_1.heads_A p_1.heads_c KHead.cells tr p_1.heads) 4).a (by first | simpa using (apG_some hy_308).1 | (have hh_ := (apG_some hy_308).1; rw [List.length_nil, Nat.zero_add] at hh_; exact hh_)) fun v_308_A v_308_c => ?_
         refine hk [2, 3, 4, 5, 7, 8, 9, 10, 11] ?_; refine ho [6] ⟨?_, trivial⟩; refine h1 ?_; refine ap 0 60 v_308_A v_308_c p_1.heads ([v_217] : List KHead) inf39 (bA (f := KHead.cells) (ok := tr) (l := ([v_217] : List KHead)) g_309 1 et.a) hy_310 KHead.one fun v_310_A v_310_c _ => ?_
         refine hk [2, 3, 4, 5, 7, 8, 9, 10, 11] ?_; refine ht [2, 3, 4, 5, 7, 8, 9, 10, 11] [8] [] f0 [(62, .agg #[.slice v_310_A v_310.length v_310_c, I v_275])] ?_; refine ho [9] ⟨?_, trivial⟩; refine h1 ?_; refine nw 63 (vs 1) [.slice v_310_A v_310.length v_310_c, I v_275] 96 fun g_311 => ?_
         refine hk [3, 4, 5, 6, 8, 9, 10, 11, 12] ?_; refine ho [10] ⟨?_, trivial⟩; refine so (A := v_310_A) (c := v_310_c) 1 KHead.cells tr v_310 tr_mv et ?_; refine h1 ?_; refine apn (p := Korder_chainL.p) (ok := Korder_chainL.ok) 7 64 v_213_A v_214_c v_212 ([(⟨v_310_A, v_310_c, v_310, v_275⟩ : Korder_chainL)] : List Korder_chainL) inf157 (bA (f := Korder_chainL.cells) (ok := tr) (l := ([(⟨v_310_A, v_310_c, v_310, v_275⟩ : Korder_chainL)] : List Korder_chainL)) g_311 0 et.a) (gd' (Each Korder_chainL.ok v_212) 8) (ec (((gd' (RowC v_310_A v_310_c KHead.cells tr v_310) 1)).m fun _ _ h => ⟨h⟩) e0) hy_312 Korder_chainL.one fun v_312 v_312_A v_312_c he_312 _ => ?_
         subst he_312
         try (simp only [un2, un3, un4, un5, un6, un7, un8, Sum.elim_inl, Sum.elim_inr, List.length_map, KProofL.n_Hops] at hG; replace hG : _ = _ := hG)
         refine hk [4, 5, 6, 7, 9, 10, 11, 12, 13] ?_; refine ht [4, 5, 6, 7, 9, 10, 11, 12, 13] [11] [] f0 [(5, .slice v_312_A v_312.length v_312_c)] ?_; refine he ?_; refine hN ?_; refine tN ?_; exact fun a w S hK hE => ⟨v_312, v_312_A, v_312_c, S, hK.wk, hE.sel [8, 0, 7, 10, 11, 12, 13], Option.some.inj hG⟩
       ·refine sb 53 (bf h_307) ?_; refine cf ?_; refine kS ?_; refine hN ?_; refine tN ?_; exact fun a w S hK hE => ⟨v_212, v_213_A, v_214_c, S, hK.wk, hE.sel [4, 5, 3, 6, 7, 8, 9], Option.some.inj hG⟩
    ·rintro a w ⟨v_314, v_315_A, v_316_c, hJ⟩; refine hJ.go fun ho_ => ?_
     clear hJ; subst ho_; replace hG := hG_313
     try (simp only [un2, un3, un4, un5, un6, un7, un8, Sum.elim_inl, Sum.elim_inr, List.length_map, KProofL.n_Hops] at hG; replace hG : _ = _ := hG)
     refine rg ?_; refine ra [] f0 [(21, I (IntKind.i64.wrap (v_211 + 1)))] ?_; refine tN ?_; exact fun a w S hK hE => ⟨m_215, ⟨IntKind.i64.wrap (v_211 + 1), v_314, v_315_A, v_316_c, S, hK.wk, hE.sel [2, 0, 1, 3, 4, 5, 6], hO1_215 _ (Option.some.inj hG).symm⟩, Nat.lt_succ_self _⟩
   ·try simp only [List.length_map, KProofL.n_Hops] at h_216
    refine sb 22 (bf h_216) ?_; refine cf ?_; refine kX ?_; refine tX ?_; refine tX ?_; have he_ := hO2_215 _ (Option.some.inj hG).symm; subst he_; replace hG := hG_215
    try (simp only [un2, un3, un4, un5, un6, un7, un8, Sum.elim_inl, Sum.elim_inr, List.length_map, KProofL.n_Hops] at hG; replace hG : _ = _ := hG)
    refine hH ?_; refine tN ?_; exact fun a w S hK hE => ⟨v_212, v_213_A, v_214_c, S, hK.wk, hE.sel [1, 2], Option.some.inj hG⟩
 ·rintro a w ⟨v_321, v_322_A, v_323_c, hJ⟩; refine hJ.go fun ho_ => ?_
  clear hJ; subst ho_; replace hG := hG_320
  try (simp only [un2, un3, un4, un5, un6, un7, un8, Sum.elim_inl, Sum.elim_inr, List.length_map, KProofL.n_Hops] at hG; replace hG : _ = _ := hG)
  refine sq ?_; refine rg ?_; refine ra [] f0 [(4, .slice v_322_A v_321.length v_323_c)] ?_; refine tN ?_; refine kR ?_; refine gR ?_; obtain rfl := Option.some.inj hG; refine so (A := v_322_A) (c := v_323_c) 0 Korder_chainL.cells Korder_chainL.ok v_321 Korder_chainL.mv (gd' (Each Korder_chainL.ok v_321) 1) ?_; exact rtn [] ⟨v_322_A, v_323_c, v_321⟩ rfl ⟨gi 0, trivial⟩
def G_group_Sign (F : Nat) (p_0 : Int) (p_1 : Int) (p_2 : List Int) : Option (KSig × Int) :=
 Option.bind (Option.bind (G_group_within F p_0 1) (fun v_2 =>
  ifB (v_2)
   (Option.bind (G_group_within F p_1 1) (fun v_4 =>
   some (!v_4, p_2)))
   (some (true, p_2))) : Option ((Bool × (List Int)))) (un2 fun (v_6 : Bool) (v_7 : (List Int)) =>
  ifB (v_6)
   (some ((⟨0, 0⟩ : KSig), 1))
   (Option.bind (G_group_power F 4 p_1) (fun v_11 =>
   Option.bind (G_group_power F 4 p_0) (fun v_12 =>
   Option.bind (G_group_challenge F v_11 v_12 v_7) (fun v_13 =>
   some ((⟨v_13, Int.tmod (IntKind.i64.wrap (p_1 + (IntKind.i64.wrap (v_13 * p_0)))) 1073741789⟩ : KSig), 0))))))
set_option maxRecDepth 100000 in
set_option maxHeartbeats 16000000 in
theorem z_group_Sign (F : Nat) (p_0 : Int) (p_1 : Int) (p_2_A : Option Addr) (p_2_c : Nat) (p_2 : List Int) (r : KSig × Int) (hG : G_group_Sign F p_0 p_1 p_2 = some r) :
  Cf Tryz.prog 61 [I p_0, I p_1, .slice p_2_A p_2.length p_2_c] [RowC p_2_A p_2_c c_i64 tr p_2] (.tuple #[.agg #[I r.1.C, I r.1.S], I r.2]) := by
 unfold G_group_Sign at hG
 try (simp only [un2, un3, un4, un5, un6, un7, un8, Sum.elim_inl, Sum.elim_inr, List.length_map, KProofL.n_Hops] at hG; replace hG : _ = _ := hG)
 refine fi Tryz.func61 rfl rfl (mr tr_mv m0) fun S0 w0 hT => ?_
 refine sq ?_; refine rg ?_; refine l1 ?_; refine nw 6 vp [I 0, I 0] 25 fun g_1 => ?_
 refine ra [] f0 [] ?_; refine tN ?_; refine sq ?_; obtain ⟨o_5, hG, hG_5⟩ := bind_some hG; refine jn (fun K E a w => ∃ (v_6 : Bool), ∃ (v_7 : List Int), ∃ (v_8_A : Option Addr), ∃ (v_9_c : Nat), Js S0 w0 32 ([(2, .slice v_8_A v_7.length v_9_c), (16, B v_6)] ++ K) ([.dat (RowC v_8_A v_9_c c_i64 tr v_7)] ++ se E [0]) ((v_6, v_7) = o_5) a w) ?_ ?_
 ·replace hG := bind_some hG; obtain ⟨v_2, hy_2, hG⟩ := hG; replace hG := ifB_cases hG; rcases hG with ⟨h_3, hG⟩ | ⟨h_3, hG⟩
  ·replace hG := bind_some hG; obtain ⟨v_4, hy_4, hG⟩ := hG; refine rg ?_; refine rn 1 [] f0 [(9, I p_0)] ?_; refine l1 ?_; refine cl 10 (z_group_within F p_0 1 _ hy_2) hT trivial ?_; refine rn 2 [] f0 [(12, B (!v_2))] ?_; refine sb 12 (nt h_3) ?_; refine rn 1 [] f0 [(13, I p_1)] ?_; refine l1 ?_; refine cl 14 (z_group_within F p_1 1 _ hy_4) hT trivial ?_; refine ra [] f0 [(16, B (!v_4))] ?_; refine tN ?_; exact fun a w S hK hE => ⟨!v_4, p_2, p_2_A, p_2_c, S, hK.wk, hE.sel [1, 0], Option.some.inj hG⟩
  ·refine rg ?_; refine rn 1 [] f0 [(9, I p_0)] ?_; refine l1 ?_; refine cl 10 (z_group_within F p_0 1 _ hy_2) hT trivial ?_; refine rn 2 [] f0 [(12, B (!v_2))] ?_; refine sb 12 (nf h_3) ?_; refine ra [] f0 [(16, B true)] ?_; refine tN ?_; exact fun a w S hK hE => ⟨true, p_2, p_2_A, p_2_c, S, hK.wk, hE.sel [1, 0], Option.some.inj hG⟩
 ·rintro a w ⟨v_6, v_7, v_8_A, v_9_c, hJ⟩; refine hJ.go fun ho_ => ?_
  clear hJ; subst ho_; replace hG := hG_5
  try (simp only [un2, un3, un4, un5, un6, un7, un8, Sum.elim_inl, Sum.elim_inr, List.length_map, KProofL.n_Hops] at hG; replace hG : _ = _ := hG)
  rcases ifB_cases hG with ⟨h_10, hG⟩ | ⟨h_10, hG⟩
  ·refine sb 16 (bt h_10) ?_; refine ct ?_; refine sq ?_; refine rg ?_; refine rn 1 [] f0 [(17, .agg #[I 0, I 0])] ?_; refine l1 ?_; refine sr 1 g_1 [(0, I 0), (1, I 0)] ?_; refine ra [] f0 [(7, I 1)] ?_; refine tN ?_; refine kR ?_; refine tR ?_; obtain rfl := Option.some.inj hG; exact rt [(1, 0, 2)]
  ·refine sb 16 (bf h_10) ?_; refine cf ?_; refine kS ?_; refine tN ?_; refine sq ?_; replace hG := bind_some hG; obtain ⟨v_11, hy_11, hG⟩ := hG; replace hG := bind_some hG; obtain ⟨v_12, hy_12, hG⟩ := hG; replace hG := bind_some hG; obtain ⟨v_13, hy_13, hG⟩ := hG; refine rg ?_; refine rn 1 [] f0 [(18, I p_1)] ?_; refine l1 ?_; refine cl 19 (z_group_power F 4 p_1 _ hy_11) hT trivial ?_; refine rn 1 [] f0 [(20, I p_0)] ?_; refine l1 ?_; refine cl 21 (z_group_power F 4 p_0 _ hy_12) hT trivial ?_; refine rn 1 [] f0 [(22, .slice v_8_A v_7.length v_9_c)] ?_; refine l1 ?_; refine cl 23 (z_group_challenge F v_11 v_12 v_8_A v_9_c v_7 _ hy_13) hT ⟨ga 0, trivial⟩ ?_; refine ra [] f0 [(8, I v_13)] ?_; refine tN ?_; refine sq ?_; refine rg ?_; refine rn 8 [(6, 0, 0, 0)] (fc (fun W => run_rem (T := 3) (k := .i64) (p := IntKind.i64.wrap (p_1 + (IntKind.i64.wrap (v_13 * p_0)))) (q := 1073741789) (by decide) W) f0) [(31, .agg #[I v_13, I (Int.tmod (IntKind.i64.wrap (p_1 + (IntKind.i64.wrap (v_13 * p_0)))) 1073741789)])] ?_; refine l1 ?_; refine sr 1 g_1 [(0, I v_13), (1, I (Int.tmod (IntKind.i64.wrap (p_1 + (IntKind.i64.wrap (v_13 * p_0)))) 1073741789))] ?_; refine ra [] f0 [(7, I 0)] ?_; refine tN ?_; refine kR ?_; obtain rfl := Option.some.inj hG; exact rt [(1, 0, 2)]
def G_regulatorref06_Public (F : Nat) (p_0 : Int) : Option (Int) :=
 Option.bind (G_regulatorref06_Power F 4 p_0 2147483579) (fun v_1 =>
 some v_1)
set_option maxRecDepth 100000 in
set_option maxHeartbeats 16000000 in
theorem z_regulatorref06_Public (F : Nat) (p_0 : Int) (r : Int) (hG : G_regulatorref06_Public F p_0 = some r) :
  Cf Tryz.prog 27 [I p_0] [] (I r) := by
 unfold G_regulatorref06_Public at hG
 try (simp only [un2, un3, un4, un5, un6, un7, un8, Sum.elim_inl, Sum.elim_inr, List.length_map, KProofL.n_Hops] at hG; replace hG : _ = _ := hG)
 refine fi Tryz.func27 rfl rfl m0 fun S0 w0 hT => ?_
 refine sq ?_; refine rg ?_; refine ra [] f0 [] ?_; refine tN ?_; refine sq ?_; replace hG := bind_some hG; obtain ⟨v_1, hy_1, hG⟩ := hG; refine rg ?_; refine rn 1 [] f0 [(3, I p_0)] ?_; refine l1 ?_; refine cl 4 (z_regulatorref06_Power F 4 p_0 2147483579 _ hy_1) hT trivial ?_; refine ra [] f0 [(2, I v_1)] ?_; refine tN ?_; refine kR ?_; obtain rfl := Option.some.inj hG; exact rt []
def G_regulatorref25_Valid (F : Nat) (p_0 : KOffice) : Option (Bool) :=
  Option.bind (ifB (decide (p_0.ID < 1))
      (some true)
      (ifB (decide (p_0.ID > 16))
        (some true)
        (some (decide (((p_0.Entries.length : Nat) : Int) > 4096)))) : Option (Bool)) (fun (v_5 : Bool) => 
    ifB (v_5)
      (some false)
      (Option.bind (Option.bind (iter (σ := Int) (ρ := Unit ⊕ Unit) (fun (v_33 : Int) => 
            (ifB (decide (v_33 < ((p_0.Entries.length : Nat) : Int)))
              (Option.bind (ixI p_0.Entries v_33) (fun v_36 =>
              Option.bind (G_regulatorref02_Valid F v_36.Stamp) (fun v_39 =>
              Option.bind (ifB (v_39)
                  (ifB (decide (v_33 > 0))
                    (Option.bind (ixI p_0.Entries v_33) (fun v_42 =>
                    Option.bind (ixI p_0.Entries (IntKind.i64.wrap (v_33 - 1))) (fun v_45 =>
                    some (decide (v_42.Stamp.Lo < v_45.Stamp.Lo)))))
                    (some false))
                  (some true) : Option (Bool)) (fun (v_49 : Bool) => 
                ifB (v_49)
                  (some (.inr (.inr ())))
                  (some (.inl (IntKind.i64.wrap (v_33 + 1))))))))
              (some (.inr (.inl ()))) : Option (Int ⊕ (Unit ⊕ Unit)))) F 0) (Sum.elim (fun (_ : Unit) => 
          some (.inl ())) (fun (_ : Unit) => 
          some (.inr ()))) : Option (Unit ⊕ Unit)) (Sum.elim (fun (_ : Unit) => 
        some true) (fun (_ : Unit) => 
        some false))))
set_option maxRecDepth 100000 in
set_option maxHeartbeats 16000000 in
theorem z_regulatorref25_Valid (F : Nat) (p_0 : KOfficeL) (r : Bool) (hG : G_regulatorref25_Valid F p_0.p = some r) :
  Cf Tryz.prog 21 [.agg #[I p_0.ID, .slice p_0.Entries_A p_0.Entries.length p_0.Entries_c]] [KOfficeL.ok p_0] (B r) := by
 unfold G_regulatorref25_Valid at hG
 try (simp only [un2, un3, un4, un5, un6, un7, un8, Sum.elim_inl, Sum.elim_inr, List.length_map, KProofL.n_Hops] at hG; replace hG : _ = _ := hG)
 refine fi Tryz.func21 rfl rfl (mc KOfficeL.mv m0) fun S0 w0 hT => ?_
 refine sq ?_; refine rg ?_; refine l1 ?_; refine nw 1 vp [I p_0.ID, .slice p_0.Entries_A p_0.Entries.length p_0.Entries_c] 53 fun g_1 => ?_
 refine ra [] f0 [] ?_; refine tN ?_; refine sq ?_; obtain ⟨o_4, hG, hG_4⟩ := bind_some hG; refine jn (fun K E a w => ∃ (v_5 : Bool), Js S0 w0 57 ([(18, B v_5)] ++ K) ([.dat (RowC p_0.Entries_A p_0.Entries_c KEntry.cells tr p_0.Entries)] ++ se E [0]) (v_5 = o_4) a w) ?_ ?_
 ·replace hG := ifB_cases hG; rcases hG with ⟨h_2, hG⟩ | ⟨h_2, hG⟩
  ·refine rg ?_; refine rn 4 [(1, 1, 0, 0)] f0 [(8, B (decide (p_0.ID < 1)))] ?_; refine sb 8 (bt h_2) ?_; refine ra [] f0 [(18, B true)] ?_; refine tN ?_; refine fm (RowC p_0.Entries_A p_0.Entries_c KEntry.cells tr p_0.Entries) (gm (KOfficeL.ok p_0) 1 fun _ _ h => h.f_Entries) ?_; exact fun a w S hK hE => ⟨true, S, hK.wk, hE.sel [0, 1], Option.some.inj hG⟩
  ·replace hG := ifB_cases hG; rcases hG with ⟨h_3, hG⟩ | ⟨h_3, hG⟩
   ·refine rg ?_; refine rn 4 [(1, 1, 0, 0)] f0 [(8, B (decide (p_0.ID < 1)))] ?_; refine sb 8 (bf h_2) ?_; refine rn 5 [(1, 1, 0, 0)] f0 [(13, B (decide (p_0.ID > 16)))] ?_; refine sb 13 (bt h_3) ?_; refine ra [] f0 [(18, B true)] ?_; refine tN ?_; refine fm (RowC p_0.Entries_A p_0.Entries_c KEntry.cells tr p_0.Entries) (gm (KOfficeL.ok p_0) 1 fun _ _ h => h.f_Entries) ?_; exact fun a w S hK hE => ⟨true, S, hK.wk, hE.sel [0, 1], Option.some.inj hG⟩
   ·refine rg ?_; refine rn 4 [(1, 1, 0, 0)] f0 [(8, B (decide (p_0.ID < 1)))] ?_; refine sb 8 (bf h_2) ?_; refine rn 5 [(1, 1, 0, 0)] f0 [(13, B (decide (p_0.ID > 16)))] ?_; refine sb 13 (bf h_3) ?_; refine ra [(1, 1, 0, 1)] f0 [(18, B (decide (((p_0.Entries.length : Nat) : Int) > 4096)))] ?_; refine tN ?_; refine fm (RowC p_0.Entries_A p_0.Entries_c KEntry.cells tr p_0.Entries) (gm (KOfficeL.ok p_0) 1 fun _ _ h => h.f_Entries) ?_; exact fun a w S hK hE => ⟨decide (((p_0.Entries.length : Nat) : Int) > 4096), S, hK.wk, hE.sel [0, 1], Option.some.inj hG⟩
 ·rintro a w ⟨v_5, hJ⟩; refine hJ.go fun ho_ => ?_
  clear hJ; subst ho_; replace hG := hG_4
  try (simp only [un2, un3, un4, un5, un6, un7, un8, Sum.elim_inl, Sum.elim_inr, List.length_map, KProofL.n_Hops] at hG; replace hG : _ = _ := hG)
  rcases ifB_cases hG with ⟨h_6, hG⟩ | ⟨h_6, hG⟩
  ·refine sb 18 (bt h_6) ?_; refine ct ?_; refine sq ?_; refine rg ?_; refine ra [] f0 [(2, B false)] ?_; refine tN ?_; refine kR ?_; refine tR ?_; obtain rfl := Option.some.inj hG; exact rt []
  ·refine sb 18 (bf h_6) ?_; refine cf ?_; refine kS ?_; refine tN ?_; obtain ⟨o_51, hG, hG_51⟩ := bind_some hG; refine jn (fun K E a w => Js S0 w0 57 (K) (se E []) (.inl () = o_51) a w) ?_ ?_
   ·refine sq ?_; refine rg ?_; refine ra [] f0 [(3, I 0)] ?_; refine tN ?_; refine bk ?_; obtain ⟨e_34, hL, hG_34⟩ := bind_some hG; clear hG; obtain ⟨stp_34, hs_34, hL⟩ := iter_gen hL; refine lp (fun K E n_ a w => ∃ (v_33 : Int), Js S0 w0 57 ([(3, I v_33)] ++ K) (se E [0, 1]) (iter stp_34 n_ v_33 = some e_34) a w) F ?_ ?_
    ·exact fun a w S hK hE => ⟨0, S, hK.wk, hE.sel [0, 1], hL⟩
    ·clear hL; rintro n_34 a w ⟨v_33, hJ⟩; refine hJ.go fun hL => ?_
     clear hJ; obtain ⟨m_34, o_34, rfl, hG, hO1_34, hO2_34⟩ := iter_step hL; clear hL; rw [hs_34] at hG
     try (simp only [un2, un3, un4, un5, un6, un7, un8, Sum.elim_inl, Sum.elim_inr, List.length_map, KProofL.n_Hops] at hG; replace hG : _ = _ := hG)
     refine sq ?_; refine sq ?_; refine rg ?_; refine ra [(2, 1, 1, 1)] f0 [(23, B (decide (v_33 < ((p_0.Entries.length : Nat) : Int))))] ?_; refine tN ?_; rcases ifB_cases hG with ⟨h_35, hG⟩ | ⟨h_35, hG⟩
     ·try simp only [List.length_map, KProofL.n_Hops] at h_35
      refine sb 23 (bt h_35) ?_; refine ct ?_; refine kS ?_; refine tN ?_; refine sq ?_; refine bk ?_; refine sq ?_; replace hG := bind_some hG; obtain ⟨v_36, hy_36, hG⟩ := hG; replace hG := bind_some hG; obtain ⟨v_39, hy_39, hG⟩ := hG; refine rg ?_; refine fx inf51 (gd' (RowC p_0.Entries_A p_0.Entries_c KEntry.cells tr p_0.Entries) 0) hy_36 fun b_37 o_38 hi_36 => ?_
      refine rn 6 [(1, 1, 2, 1), (1, 0, 0, 0), (1, 2, 0, 1)] (fc (hi_36 .i64) f0) [(31, .agg #[I v_36.Stamp.Lo, I v_36.Stamp.Hi])] ?_; refine l1 ?_; refine cl 32 (z_regulatorref02_Valid F v_36.Stamp _ hy_39) hT trivial ?_; refine ra [] f0 [(4, B v_39)] ?_; refine tN ?_; obtain ⟨o_48, hG, hG_48⟩ := bind_some hG; refine jn (fun K E a w => ∃ (v_49 : Bool), Js S0 w0 57 ([(56, B v_49)] ++ K) (se E [1, 2]) (v_49 = o_48) a w) ?_ ?_
      ·replace hG := ifB_cases hG; rcases hG with ⟨h_40, hG⟩ | ⟨h_40, hG⟩
       ·replace hG := ifB_cases hG; rcases hG with ⟨h_41, hG⟩ | ⟨h_41, hG⟩
        ·replace hG := bind_some hG; obtain ⟨v_42, hy_42, hG⟩ := hG; replace hG := bind_some hG; obtain ⟨v_45, hy_45, hG⟩ := hG; refine qb ?_; refine qn 3 [] f0 [(35, B (!v_39))] ?_; refine sb 35 (nt h_40) ?_; refine qn 3 [] f0 [(38, B (decide (v_33 > 0)))] ?_; refine sb 38 (bt h_41) ?_; refine fx inf51 (gd' (RowC p_0.Entries_A p_0.Entries_c KEntry.cells tr p_0.Entries) 1) hy_42 fun b_43 o_44 hi_42 => ?_
         refine fx inf51 (gd' (RowC p_0.Entries_A p_0.Entries_c KEntry.cells tr p_0.Entries) 2) hy_45 fun b_46 o_47 hi_45 => ?_
         refine qa [(1, 1, 4, 1), (1, 0, 0, 0), (2, 1, 1, 1), (1, 1, 4, 1), (2, 0, 0, 0), (2, 1, 0, 1)] (fc (hi_42 .i64) (fc (hi_45 .i64) f0)) [(56, B (decide (v_42.Stamp.Lo < v_45.Stamp.Lo)))] ?_; refine tN ?_; exact fun a w S hK hE => ⟨decide (v_42.Stamp.Lo < v_45.Stamp.Lo), S, hK.wk, hE.sel [3, 4], Option.some.inj hG⟩
        ·refine qb ?_; refine qn 3 [] f0 [(35, B (!v_39))] ?_; refine sb 35 (nt h_40) ?_; refine qn 3 [] f0 [(38, B (decide (v_33 > 0)))] ?_; refine sb 38 (bf h_41) ?_; refine qa [] f0 [(56, B false)] ?_; refine tN ?_; exact fun a w S hK hE => ⟨false, S, hK.wk, hE.sel [1, 2], Option.some.inj hG⟩
       ·refine qb ?_; refine qn 3 [] f0 [(35, B (!v_39))] ?_; refine sb 35 (nf h_40) ?_; refine qa [] f0 [(56, B true)] ?_; refine tN ?_; exact fun a w S hK hE => ⟨true, S, hK.wk, hE.sel [1, 2], Option.some.inj hG⟩
      ·rintro a w ⟨v_49, hJ⟩; refine hJ.go fun ho_ => ?_
       clear hJ; subst ho_; replace hG := hG_48
       try (simp only [un2, un3, un4, un5, un6, un7, un8, Sum.elim_inl, Sum.elim_inr, List.length_map, KProofL.n_Hops] at hG; replace hG : _ = _ := hG)
       rcases ifB_cases hG with ⟨h_50, hG⟩ | ⟨h_50, hG⟩
       ·refine sb 56 (bt h_50) ?_; refine ct ?_; refine sq ?_; refine rg ?_; refine ra [] f0 [(2, B false)] ?_; refine tN ?_; refine kR ?_; refine hR ?_; refine tR ?_; refine tR ?_; have he_ := hO2_34 _ (Option.some.inj hG).symm; subst he_; replace hG := hG_34
        try (simp only [un2, un3, un4, un5, un6, un7, un8, Sum.elim_inl, Sum.elim_inr, List.length_map, KProofL.n_Hops] at hG; replace hG : _ = _ := hG)
        refine hR ?_; refine tR ?_; obtain rfl := Option.some.inj hG; replace hG := hG_51
        try (simp only [un2, un3, un4, un5, un6, un7, un8, Sum.elim_inl, Sum.elim_inr, List.length_map, KProofL.n_Hops] at hG; replace hG : _ = _ := hG)
        obtain rfl := Option.some.inj hG; exact rt []
       ·refine sb 56 (bf h_50) ?_; refine cf ?_; refine kS ?_; refine hN ?_; refine tN ?_; refine rg ?_; refine ra [] f0 [(3, I (IntKind.i64.wrap (v_33 + 1)))] ?_; refine tN ?_; exact fun a w S hK hE => ⟨m_34, ⟨IntKind.i64.wrap (v_33 + 1), S, hK.wk, hE.sel [0, 1], hO1_34 _ (Option.some.inj hG).symm⟩, Nat.lt_succ_self _⟩
     ·try simp only [List.length_map, KProofL.n_Hops] at h_35
      refine sb 23 (bf h_35) ?_; refine cf ?_; refine kX ?_; refine tX ?_; refine tX ?_; have he_ := hO2_34 _ (Option.some.inj hG).symm; subst he_; replace hG := hG_34
      try (simp only [un2, un3, un4, un5, un6, un7, un8, Sum.elim_inl, Sum.elim_inr, List.length_map, KProofL.n_Hops] at hG; replace hG : _ = _ := hG)
      refine hH ?_; refine tN ?_; exact fun a w S hK hE => ⟨S, hK.wk, hE.sel [], Option.some.inj hG⟩
   ·rintro a w hJ; refine hJ.go fun ho_ => ?_
    clear hJ; subst ho_; replace hG := hG_51
    try (simp only [un2, un3, un4, un5, un6, un7, un8, Sum.elim_inl, Sum.elim_inr, List.length_map, KProofL.n_Hops] at hG; replace hG : _ = _ := hG)
    refine sq ?_; refine rg ?_; refine ra [] f0 [(2, B true)] ?_; refine tN ?_; refine kR ?_; obtain rfl := Option.some.inj hG; exact rt []
def G_regulatorref25_Values (F : Nat) (p_0 : KOffice) (p_1 : Int) : Option ((List Int)) :=
  Option.bind (Option.bind (iter (σ := (List Int) × Int) (ρ := (List Int)) (un2 fun (v_20 : (List Int)) (v_23 : Int) => 
        (ifB (decide (v_23 < p_1))
          (Option.bind (ixI p_0.Entries v_23) (fun v_26 =>
          Option.bind (G_regulatorref25_Leaf F v_26) (fun v_29 =>
          Option.bind (apG 8 v_20 ([v_29] : List Int)) (fun v_31 =>
          some (.inl (v_31, IntKind.i64.wrap (v_23 + 1)))))))
          (some (.inr v_20)) : Option (((List Int) × Int) ⊕ (List Int)))) F (([] : List Int), 0)) (fun (v_32 : (List Int)) => 
      some v_32) : Option ((List Int))) (fun (v_36 : (List Int)) => 
    some v_36)
set_option maxRecDepth 100000 in
set_option maxHeartbeats 16000000 in
theorem z_regulatorref25_Values (F : Nat) (p_0 : KOfficeL) (p_1 : Int) (r : (List Int)) (hG : G_regulatorref25_Values F p_0.p p_1 = some r) :
  Cn Tryz.prog 26 [.agg #[I p_0.ID, .slice p_0.Entries_A p_0.Entries.length p_0.Entries_c], I p_1] [KOfficeL.ok p_0] (fun q : KSuint64L => r = q.l) (fun q => .slice q.A q.l.length q.c) (fun q => [RowC q.A q.c c_u64 tr q.l]) := by
 unfold G_regulatorref25_Values at hG
 try (simp only [un2, un3, un4, un5, un6, un7, un8, Sum.elim_inl, Sum.elim_inr, List.length_map, KProofL.n_Hops] at hG; replace hG : _ = _ := hG)
 refine fin Tryz.func26 rfl rfl (mc KOfficeL.mv m0) fun S0 w0 hT => ?_
 refine sq ?_; refine rg ?_; refine l1 ?_; refine nw 2 vp [I p_0.ID, .slice p_0.Entries_A p_0.Entries.length p_0.Entries_c] 53 fun g_1 => ?_
 refine ra [] f0 [] ?_; refine tN ?_; refine sq ?_; refine rg ?_; refine ra [] f0 [(5, .slice none 0 0)] ?_; refine tN ?_; obtain ⟨o_35, hG, hG_35⟩ := bind_some hG; refine jn (fun K E a w => ∃ (v_36 : List Int), ∃ (v_37_A : Option Addr), ∃ (v_38_c : Nat), Js S0 w0 22 ([(5, .slice v_37_A v_36.length v_38_c)] ++ K) ([.own 23 1 (.slice v_37_A v_36.length v_38_c) v_36.length (v_36.flatMap c_u64)]) (v_36 = o_35) a w) ?_ ?_
 ·refine sq ?_; refine rg ?_; refine ra [] f0 [(6, I 0)] ?_; refine tN ?_; refine bk ?_; obtain ⟨e_24, hL, hG_24⟩ := bind_some hG; clear hG; obtain ⟨stp_24, hs_24, hL⟩ := iter_gen hL; refine lp (fun K E n_ a w => ∃ (v_20 : List Int), ∃ (v_21_A : Option Addr), ∃ (v_22_c : Nat), ∃ (v_23 : Int), Js S0 w0 22 ([(5, .slice v_21_A v_20.length v_22_c), (6, I v_23)] ++ K) ([.dat (RowC p_0.Entries_A p_0.Entries_c KEntry.cells tr p_0.Entries), .own 23 1 (.slice v_21_A v_20.length v_22_c) v_20.length (v_20.flatMap c_u64)] ++ se E [0]) (iter stp_24 n_ (v_20, v_23) = some e_24) a w) F ?_ ?_
  ·refine fm (RowC p_0.Entries_A p_0.Entries_c KEntry.cells tr p_0.Entries) (gm (KOfficeL.ok p_0) 1 fun _ _ h => h.f_Entries) ?_; refine on 23 1 ?_; exact fun a w S hK hE => ⟨([] : List Int), none, 0, 0, S, hK.wk, hE.sel [1, 0, 2], hL⟩
  ·clear hL; rintro n_24 a w ⟨v_20, v_21_A, v_22_c, v_23, hJ⟩; refine hJ.go fun hL => ?_
   clear hJ; obtain ⟨m_24, o_24, rfl, hG, hO1_24, hO2_24⟩ := iter_step hL; clear hL; rw [hs_24] at hG
   try (simp only [un2, un3, un4, un5, un6, un7, un8, Sum.elim_inl, Sum.elim_inr, List.length_map, KProofL.n_Hops] at hG; replace hG : _ = _ := hG)
   refine sq ?_; refine sq ?_; refine rg ?_; refine ra [] f0 [(9, B (decide (v_23 < p_1)))] ?_; refine tN ?_; rcases ifB_cases hG with ⟨h_25, hG⟩ | ⟨h_25, hG⟩
   ·refine sb 9 (bt h_25) ?_; refine ct ?_; refine kS ?_; refine tN ?_; refine sq ?_; refine bk ?_; replace hG := bind_some hG; obtain ⟨v_26, hy_26, hG⟩ := hG; replace hG := bind_some hG; obtain ⟨v_29, hy_29, hG⟩ := hG; replace hG := bind_some hG; obtain ⟨v_31, hy_31, hG⟩ := hG; refine rg ?_; refine fx inf51 (gd' (RowC p_0.Entries_A p_0.Entries_c KEntry.cells tr p_0.Entries) 0) hy_26 fun b_27 o_28 hi_26 => ?_
    refine rn 6 [(2, 1, 3, 1), (1, 0, 0, 0), (0, 3, 0, 0)] (fc (hi_26 .i64) f0) [(12, .slice v_21_A v_20.length v_22_c), (17, .agg #[U v_26.Doc, I v_26.Stamp.Lo, I v_26.Stamp.Hi])] ?_; refine l1 ?_; refine cl 18 (z_regulatorref25_Leaf F v_26 _ hy_29) hT trivial ?_; refine l1 ?_; refine nw 19 (vs 1) [U v_29] 23 fun g_30 => ?_
    refine l1 ?_; refine ap 3 20 v_21_A v_22_c v_20 ([v_29] : List Int) inf32 (bA (f := c_u64) (ok := tr) (l := ([v_29] : List Int)) g_30 0 et.a) hy_31 one_u64 fun v_31_A v_31_c _ => ?_
    refine ra [] f0 [(5, .slice v_31_A v_31.length v_31_c)] ?_; refine hN ?_; refine tN ?_; refine rg ?_; refine ra [] f0 [(6, I (IntKind.i64.wrap (v_23 + 1)))] ?_; refine tN ?_; exact fun a w S hK hE => ⟨m_24, ⟨v_31, v_31_A, v_31_c, IntKind.i64.wrap (v_23 + 1), S, hK.wk, hE.sel [2, 3, 4], hO1_24 _ (Option.some.inj hG).symm⟩, Nat.lt_succ_self _⟩
   ·refine sb 9 (bf h_25) ?_; refine cf ?_; refine kX ?_; refine tX ?_; refine tX ?_; have he_ := hO2_24 _ (Option.some.inj hG).symm; subst he_; replace hG := hG_24
    try (simp only [un2, un3, un4, un5, un6, un7, un8, Sum.elim_inl, Sum.elim_inr, List.length_map, KProofL.n_Hops] at hG; replace hG : _ = _ := hG)
    refine hH ?_; refine tN ?_; exact fun a w S hK hE => ⟨v_20, v_21_A, v_22_c, S, hK.wk, hE.sel [1], Option.some.inj hG⟩
 ·rintro a w ⟨v_36, v_37_A, v_38_c, hJ⟩; refine hJ.go fun ho_ => ?_
  clear hJ; subst ho_; replace hG := hG_35
  try (simp only [un2, un3, un4, un5, un6, un7, un8, Sum.elim_inl, Sum.elim_inr, List.length_map, KProofL.n_Hops] at hG; replace hG : _ = _ := hG)
  refine sq ?_; refine rg ?_; refine ra [] f0 [(4, .slice v_37_A v_36.length v_38_c)] ?_; refine tN ?_; refine kR ?_; obtain rfl := Option.some.inj hG; refine so (A := v_37_A) (c := v_38_c) 0 c_u64 tr v_36 tr_mv et ?_; exact rtn [] ⟨v_37_A, v_38_c, v_36⟩ rfl ⟨gi 0, trivial⟩
end Go.Proofs.YtggaodokkcoagaaGreatDoor
namespace Go.Proofs.YtggaodokkcoagaaGreatDoor
open Go.RowKit Go.Maps
end Go.Proofs.YtggaodokkcoagaaGreatDoor
namespace Go.Proofs.YtggaodokkcoagaaGreatDoor
open Go.RowKit Go.Maps
def G_group_Verify (F : Nat) (p_0 : Int) (p_1 : KSig) (p_2 : List Int) : Option (Bool × Int) :=
 Option.bind (Option.bind (G_group_Member F p_0) (fun v_2 =>
  ifB (v_2)
   (Option.bind (G_group_within F p_1.C 0) (fun v_4 =>
   ifB (v_4)
    (Option.bind (G_group_within F p_1.S 0) (fun v_6 =>
    some (p_2, !v_6)))
    (some (p_2, true))))
   (some (p_2, true))) : Option (((List Int) × Bool))) (un2 fun (v_8 : (List Int)) (v_11 : Bool) =>
  ifB (v_11)
   (some (false, 1))
   (Option.bind (G_group_power F 4 p_1.S) (fun v_13 =>
   Option.bind (G_group_power F p_0 (IntKind.i64.wrap (1073741789 - p_1.C))) (fun v_14 =>
   Option.bind (G_group_challenge F (Int.tmod (IntKind.i64.wrap (v_13 * v_14)) 2147483579) p_0 v_8) (fun v_15 =>
   some (decide (p_1 = (⟨v_15, p_1.S⟩ : KSig)), 0))))))
set_option maxRecDepth 100000 in
set_option maxHeartbeats 16000000 in
theorem z_group_Verify (F : Nat) (p_0 : Int) (p_1 : KSig) (p_2_A : Option Addr) (p_2_c : Nat) (p_2 : List Int) (r : Bool × Int) (hG : G_group_Verify F p_0 p_1 p_2 = some r) :
  Cf Tryz.prog 128 [I p_0, .agg #[I p_1.C, I p_1.S], .slice p_2_A p_2.length p_2_c] [RowC p_2_A p_2_c c_i64 tr p_2] (.tuple #[B r.1, I r.2]) := by
 unfold G_group_Verify at hG
 try (simp only [un2, un3, un4, un5, un6, un7, un8, Sum.elim_inl, Sum.elim_inr, List.length_map, KProofL.n_Hops] at hG; replace hG : _ = _ := hG)
 refine fi Tryz.func128 rfl rfl (mr tr_mv m0) fun S0 w0 hT => ?_
 refine sq ?_; refine rg ?_; refine l1 ?_; refine nw 4 vp [I p_1.C, I p_1.S] 25 fun g_1 => ?_
 refine ra [] f0 [] ?_; refine tN ?_; refine sq ?_; obtain ⟨o_7, hG, hG_7⟩ := bind_some hG; refine jn (fun K E a w => ∃ (v_8 : List Int), ∃ (v_9_A : Option Addr), ∃ (v_10_c : Nat), ∃ (v_11 : Bool), Js S0 w0 43 ([(2, .slice v_9_A v_8.length v_10_c), (23, B v_11)] ++ K) ([.dat (RowC v_9_A v_10_c c_i64 tr v_8)] ++ se E [0]) ((v_8, v_11) = o_7) a w) ?_ ?_
 ·replace hG := bind_some hG; obtain ⟨v_2, hy_2, hG⟩ := hG; replace hG := ifB_cases hG; rcases hG with ⟨h_3, hG⟩ | ⟨h_3, hG⟩
  ·replace hG := bind_some hG; obtain ⟨v_4, hy_4, hG⟩ := hG; replace hG := ifB_cases hG; rcases hG with ⟨h_5, hG⟩ | ⟨h_5, hG⟩
   ·replace hG := bind_some hG; obtain ⟨v_6, hy_6, hG⟩ := hG; refine rg ?_; refine rn 1 [] f0 [(9, I p_0)] ?_; refine l1 ?_; refine cl 10 (z_group_Member F p_0 _ hy_2) hT trivial ?_; refine rn 2 [] f0 [(12, B (!v_2))] ?_; refine sb 12 (nt h_3) ?_; refine rn 2 [(1, 1, 0, 0)] f0 [(14, I p_1.C)] ?_; refine l1 ?_; refine cl 15 (z_group_within F p_1.C 0 _ hy_4) hT trivial ?_; refine rn 3 [] f0 [(18, B (!v_4))] ?_; refine sb 18 (nt h_5) ?_; refine rn 2 [(1, 1, 0, 1)] f0 [(20, I p_1.S)] ?_; refine l1 ?_; refine cl 21 (z_group_within F p_1.S 0 _ hy_6) hT trivial ?_; refine ra [] f0 [(23, B (!v_6))] ?_; refine tN ?_; exact fun a w S hK hE => ⟨p_2, p_2_A, p_2_c, !v_6, S, hK.wk, hE.sel [1, 0], Option.some.inj hG⟩
   ·refine rg ?_; refine rn 1 [] f0 [(9, I p_0)] ?_; refine l1 ?_; refine cl 10 (z_group_Member F p_0 _ hy_2) hT trivial ?_; refine rn 2 [] f0 [(12, B (!v_2))] ?_; refine sb 12 (nt h_3) ?_; refine rn 2 [(1, 1, 0, 0)] f0 [(14, I p_1.C)] ?_; refine l1 ?_; refine cl 15 (z_group_within F p_1.C 0 _ hy_4) hT trivial ?_; refine rn 3 [] f0 [(18, B (!v_4))] ?_; refine sb 18 (nf h_5) ?_; refine ra [] f0 [(23, B true)] ?_; refine tN ?_; exact fun a w S hK hE => ⟨p_2, p_2_A, p_2_c, true, S, hK.wk, hE.sel [1, 0], Option.some.inj hG⟩
  ·refine rg ?_; refine rn 1 [] f0 [(9, I p_0)] ?_; refine l1 ?_; refine cl 10 (z_group_Member F p_0 _ hy_2) hT trivial ?_; refine rn 2 [] f0 [(12, B (!v_2))] ?_; refine sb 12 (nf h_3) ?_; refine ra [] f0 [(23, B true)] ?_; refine tN ?_; exact fun a w S hK hE => ⟨p_2, p_2_A, p_2_c, true, S, hK.wk, hE.sel [1, 0], Option.some.inj hG⟩
 ·rintro a w ⟨v_8, v_9_A, v_10_c, v_11, hJ⟩; refine hJ.go fun ho_ => ?_
  clear hJ; subst ho_; replace hG := hG_7
  try (simp only [un2, un3, un4, un5, un6, un7, un8, Sum.elim_inl, Sum.elim_inr, List.length_map, KProofL.n_Hops] at hG; replace hG : _ = _ := hG)
  rcases ifB_cases hG with ⟨h_12, hG⟩ | ⟨h_12, hG⟩
  ·refine sb 23 (bt h_12) ?_; refine ct ?_; refine sq ?_; refine rg ?_; refine ra [] f0 [(6, B false), (7, I 1)] ?_; refine tN ?_; refine kR ?_; refine tR ?_; obtain rfl := Option.some.inj hG; exact rt []
  ·refine sb 23 (bf h_12) ?_; refine cf ?_; refine kS ?_; refine tN ?_; refine sq ?_; replace hG := bind_some hG; obtain ⟨v_13, hy_13, hG⟩ := hG; replace hG := bind_some hG; obtain ⟨v_14, hy_14, hG⟩ := hG; refine qb ?_; refine qn 2 [(1, 1, 1, 1)] f0 [(25, I p_1.S)] ?_; refine qc 26 (z_group_power F 4 p_1.S _ hy_13) hT trivial ?_; refine qn 4 [(2, 1, 1, 0)] f0 [(27, I p_0), (30, I (IntKind.i64.wrap (1073741789 - p_1.C)))] ?_; refine qc 31 (z_group_power F p_0 (IntKind.i64.wrap (1073741789 - p_1.C)) _ hy_14) hT trivial ?_; refine qa [(1, 0, 0, 0)] (fc (fun W => run_rem (T := 3) (k := .i64) (p := IntKind.i64.wrap (v_13 * v_14)) (q := 2147483579) (by decide) W) f0) [(8, I (Int.tmod (IntKind.i64.wrap (v_13 * v_14)) 2147483579))] ?_; refine tN ?_; refine sq ?_; replace hG := bind_some hG; obtain ⟨v_15, hy_15, hG⟩ := hG; refine qb ?_; refine qn 4 [(0, 2, 1, 0)] f0 [(34, .agg #[I p_1.C, I p_1.S]), (35, I (Int.tmod (IntKind.i64.wrap (v_13 * v_14)) 2147483579)), (36, I p_0), (37, .slice v_9_A v_8.length v_10_c)] ?_; refine qc 38 (z_group_challenge F (Int.tmod (IntKind.i64.wrap (v_13 * v_14)) 2147483579) p_0 v_9_A v_10_c v_8 _ hy_15) hT ⟨ga 0, trivial⟩ ?_; refine qa [(1, 1, 1, 1), (1, 0, 0, 0)] (fc (eql_KSig p_1 (⟨v_15, p_1.S⟩ : KSig)) f0) [(6, B (decide (p_1 = (⟨v_15, p_1.S⟩ : KSig)))), (7, I 0)] ?_; refine tN ?_; refine kR ?_; obtain rfl := Option.some.inj hG; exact rt []
def G_office_isPublic (F : Nat) (p_0 : Int) : Option (Bool) :=
  Option.bind (ifB ((p_0 == 1))
      (some false)
      (Option.bind (G_group_Member F p_0) (fun v_2 =>
      some v_2)) : Option (Bool)) (fun (v_4 : Bool) => 
    some v_4)
set_option maxRecDepth 100000 in
set_option maxHeartbeats 16000000 in
theorem z_office_isPublic (F : Nat) (p_0 : Int) (r : Bool) (hG : G_office_isPublic F p_0 = some r) :
  Cf Tryz.prog 126 [I p_0] [] (B r) := by
 unfold G_office_isPublic at hG
 try (simp only [un2, un3, un4, un5, un6, un7, un8, Sum.elim_inl, Sum.elim_inr, List.length_map, KProofL.n_Hops] at hG; replace hG : _ = _ := hG)
 refine fi Tryz.func126 rfl rfl m0 fun S0 w0 hT => ?_
 refine sq ?_; refine rg ?_; refine ra [] f0 [] ?_; refine tN ?_; obtain ⟨o_3, hG, hG_3⟩ := bind_some hG; refine jn (fun K E a w => ∃ (v_4 : Bool), Js S0 w0 9 ([(2, B v_4)] ++ K) (se E []) (v_4 = o_3) a w) ?_ ?_
 ·replace hG := ifB_cases hG; rcases hG with ⟨h_1, hG⟩ | ⟨h_1, hG⟩
  ·refine rg ?_; refine rn 3 [] f0 [(5, B (!(p_0 == 1)))] ?_; refine sb 5 (nt h_1) ?_; refine ra [] f0 [(2, B false)] ?_; refine tN ?_; exact fun a w S hK hE => ⟨false, S, hK.wk, hE.sel [], Option.some.inj hG⟩
  ·replace hG := bind_some hG; obtain ⟨v_2, hy_2, hG⟩ := hG; refine rg ?_; refine rn 3 [] f0 [(5, B (!(p_0 == 1)))] ?_; refine sb 5 (nf h_1) ?_; refine rn 1 [] f0 [(6, I p_0)] ?_; refine l1 ?_; refine cl 7 (z_group_Member F p_0 _ hy_2) hT trivial ?_; refine ra [] f0 [(2, B v_2)] ?_; refine tN ?_; exact fun a w S hK hE => ⟨v_2, S, hK.wk, hE.sel [], Option.some.inj hG⟩
 ·rintro a w ⟨v_4, hJ⟩; refine hJ.go fun ho_ => ?_
  clear hJ; subst ho_; replace hG := hG_3
  try (simp only [un2, un3, un4, un5, un6, un7, un8, Sum.elim_inl, Sum.elim_inr, List.length_map, KProofL.n_Hops] at hG; replace hG : _ = _ := hG)
  refine kR ?_; obtain rfl := Option.some.inj hG; exact rt []
def G_order_archive_search (F : Nat) (p_0 : Korder_archive) (p_1 : Int) (p_2 : Int) (p_3 : Int) (p_4 : Int) : Option (Korder_chain × Bool) :=
  Option.bind (Option.bind (iter (σ := (List Korder_chain) × Int × Int × Int × Int) (ρ := ((List Korder_chain) × Int × Int)) (un5 fun (v_44 : (List Korder_chain)) (v_47 : Int) (v_48 : Int) (v_49 : Int) (v_50 : Int) => 
        (ifB (decide (v_48 < ((p_0.heads.length : Nat) : Int)))
          (Option.bind (Option.bind (ixI p_0.heads v_48) (fun v_53 =>
            Option.bind (ifB ((v_53.Office == p_1))
                (some (decide (v_53.Size > v_47)))
                (some false) : Option (Bool)) (fun (v_59 : Bool) => 
              ifB (v_59)
                (Option.bind (apG 32 v_44 ([(⟨([v_53] : List KHead), v_47⟩ : Korder_chain)] : List Korder_chain)) (fun v_63 =>
                some v_63))
                (some v_44))) : Option ((List Korder_chain))) (fun (v_65 : (List Korder_chain)) => 
            some (.inl (v_65, v_47, IntKind.i64.wrap (v_48 + 1), v_49, v_50))))
          (some (.inr (v_44, v_49, v_50))) : Option (((List Korder_chain) × Int × Int × Int × Int) ⊕ ((List Korder_chain) × Int × Int)))) F (([] : List Korder_chain), p_2, 0, p_3, p_4)) (un3 fun (v_68 : (List Korder_chain)) (v_71 : Int) (v_72 : Int) => 
      some (v_68, v_71, v_72)) : Option (((List Korder_chain) × Int × Int))) (un3 fun (v_74 : (List Korder_chain)) (v_77 : Int) (v_78 : Int) => 
    Option.bind (Option.bind (iter (σ := (List Korder_chain) × Int) (ρ := Unit ⊕ Korder_chain) (un2 fun (v_212 : (List Korder_chain)) (v_215 : Int) => 
          (ifB (decide (v_215 < 4))
            (Option.bind (Option.bind (iter (σ := (List Korder_chain) × Int) (ρ := (List Korder_chain) ⊕ Korder_chain) (un2 fun (v_252 : (List Korder_chain)) (v_257 : Int) => 
                  (ifB (decide (v_257 < ((v_212.length : Nat) : Int)))
                    (Option.bind (ixI v_212 v_257) (fun v_260 =>
                    Option.bind (G_order_chain_last F v_260) (fun v_264 =>
                    Option.bind (ifB ((v_264.Office == v_77))
                        (ifB (decide (v_264.Size > v_78))
                          (some (decide (v_78 > v_260.at_)))
                          (some false))
                        (some false) : Option (Bool)) (fun (v_269 : Bool) => 
                      ifB (v_269)
                        (some (.inr (.inr v_260)))
                        (Option.bind (G_order_archive_longer F p_0 v_260) (fun v_271 =>
                        Option.bind (apG 32 v_252 v_271) (fun v_272 =>
                        some (.inl (v_272, IntKind.i64.wrap (v_257 + 1))))))))))
                    (some (.inr (.inl v_252))) : Option (((List Korder_chain) × Int) ⊕ ((List Korder_chain) ⊕ Korder_chain)))) F (([] : List Korder_chain), 0)) (Sum.elim (fun (v_273 : (List Korder_chain)) => 
                some (.inl v_273)) (fun (v_276 : Korder_chain) => 
                some (.inr v_276))) : Option ((List Korder_chain) ⊕ Korder_chain)) (Sum.elim (fun (v_278 : (List Korder_chain)) => 
              some (.inl (v_278, IntKind.i64.wrap (v_215 + 1)))) (fun (v_281 : Korder_chain) => 
              some (.inr (.inr v_281)))))
            (some (.inr (.inl ()))) : Option (((List Korder_chain) × Int) ⊕ (Unit ⊕ Korder_chain)))) F (v_74, 0)) (Sum.elim (fun (_ : Unit) => 
        some (.inl ())) (fun (v_282 : Korder_chain) => 
        some (.inr v_282))) : Option (Unit ⊕ Korder_chain)) (Sum.elim (fun (_ : Unit) => 
      some ((⟨([] : List KHead), 0⟩ : Korder_chain), false)) (fun (v_284 : Korder_chain) => 
      some (v_284, true))))
set_option maxRecDepth 100000 in
set_option maxHeartbeats 16000000 in
theorem z_order_archive_search (F : Nat) (p_0_A : Nat) (p_0 : Korder_archiveL) (p_1 : Int) (p_2 : Int) (p_3 : Int) (p_4 : Int) (r : Korder_chain × Bool) (hG : G_order_archive_search F p_0.p p_1 p_2 p_3 p_4 = some r) :
  Cn Tryz.prog 46 [Pt p_0_A 0, I p_1, I p_2, I p_3, I p_4] [fun S W => RecS S W p_0_A 0 p_0.cells, Korder_archiveL.ok p_0] (fun q : Korder_chainL => r.1 = q.p) (fun q => .tuple #[.agg #[.slice q.heads_A q.heads.length q.heads_c, I q.at_], B r.2]) (fun q => [Korder_chainL.ok q]) := by
 unfold G_order_archive_search at hG
 try (simp only [un2, un3, un4, un5, un6, un7, un8, Sum.elim_inl, Sum.elim_inr, List.length_map, KProofL.n_Hops] at hG; replace hG : _ = _ := hG)
 refine fin Tryz.func46 rfl rfl (mrec (mc Korder_archiveL.mv m0)) fun S0 w0 hT => ?_
 refine rp p_0_A p_0.cells (gd' (fun S W => RecS S W p_0_A 0 p_0.cells) 0) ?_; refine sq ?_; refine rg ?_; refine l1 ?_; refine nw 10 vp [.slice none 0 0, I 0] 96 fun g_1 => ?_
 refine ra [] f0 [] ?_; refine tN ?_; refine sq ?_; refine rg ?_; refine ra [] f0 [(12, .slice none 0 0)] ?_; refine tN ?_; obtain ⟨o_73, hG, hG_73⟩ := bind_some hG; refine jn (fun K E a w => ∃ (v_74 : List Korder_chainL), ∃ (v_75_A : Option Addr), ∃ (v_76_c : Nat), ∃ (v_77 : Int), ∃ (v_78 : Int), Js S0 w0 82 ([(3, I v_77), (4, I v_78), (12, .slice v_75_A v_74.length v_76_c)] ++ dk [2] K) ([.own 96 2 (.slice v_75_A v_74.length v_76_c) v_74.length (v_74.flatMap Korder_chainL.cells), .dat (Each Korder_chainL.ok v_74)] ++ se E [0, 1, 3]) (((v_74.map Korder_chainL.p), v_77, v_78) = o_73) a w) ?_ ?_
 ·refine sq ?_; refine rg ?_; refine ra [(3, 1, 1, 1)] f0 [(22, .slice p_0.heads_A p_0.heads.length p_0.heads_c), (23, I ((p_0.heads.length : Nat) : Int)), (24, I 0)] ?_; refine tN ?_; refine bk ?_; obtain ⟨e_51, hL, hG_51⟩ := bind_some hG; clear hG; obtain ⟨stp_51, hs_51, hL⟩ := iter_gen hL; refine lp (fun K E n_ a w => ∃ (v_44 : List Korder_chainL), ∃ (v_45_A : Option Addr), ∃ (v_46_c : Nat), ∃ (v_47 : Int), ∃ (v_48 : Int), ∃ (v_49 : Int), ∃ (v_50 : Int), Js S0 w0 82 ([(2, I v_47), (3, I v_49), (4, I v_50), (12, .slice v_45_A v_44.length v_46_c), (24, I v_48)] ++ K) ([.own 96 2 (.slice v_45_A v_44.length v_46_c) v_44.length (v_44.flatMap Korder_chainL.cells), .dat (Each Korder_chainL.ok v_44)] ++ se E [0, 1, 3]) (iter stp_51 n_ ((v_44.map Korder_chainL.p), v_47, v_48, v_49, v_50) = some e_51) a w) F ?_ ?_
  ·refine on 96 2 ?_; refine fm (Each Korder_chainL.ok ([] : List Korder_chainL)) e0 ?_; exact fun a w S hK hE => ⟨([] : List Korder_chainL), none, 0, p_2, 0, p_3, p_4, S, hK.wk, hE.sel [1, 0, 2, 3, 5], hL⟩
  ·clear hL; rintro n_51 a w ⟨v_44, v_45_A, v_46_c, v_47, v_48, v_49, v_50, hJ⟩; refine hJ.go fun hL => ?_
   clear hJ; obtain ⟨m_51, o_51, rfl, hG, hO1_51, hO2_51⟩ := iter_step hL; clear hL; rw [hs_51] at hG
   try (simp only [un2, un3, un4, un5, un6, un7, un8, Sum.elim_inl, Sum.elim_inr, List.length_map, KProofL.n_Hops] at hG; replace hG : _ = _ := hG)
   refine sq ?_; refine rg ?_; refine ra [] f0 [(25, B (decide (v_48 < ((p_0.heads.length : Nat) : Int))))] ?_; refine tN ?_; refine sq ?_; rcases ifB_cases hG with ⟨h_52, hG⟩ | ⟨h_52, hG⟩
   ·try simp only [List.length_map, KProofL.n_Hops] at h_52
    refine sb 25 (bt h_52) ?_; refine ct ?_; refine kS ?_; refine tN ?_; obtain ⟨o_64, hG, hG_64⟩ := bind_some hG; refine jn (fun K E a w => ∃ (v_65 : List Korder_chainL), ∃ (v_66_A : Option Addr), ∃ (v_67_c : Nat), Js S0 w0 82 ([(12, .slice v_66_A v_65.length v_67_c)] ++ K) ([.own 96 2 (.slice v_66_A v_65.length v_67_c) v_65.length (v_65.flatMap Korder_chainL.cells), .dat (Each Korder_chainL.ok v_65)] ++ se E [2, 3, 4]) ((v_65.map Korder_chainL.p) = o_64) a w) ?_ ?_
    ·refine bk ?_; refine sq ?_; replace hG := bind_some hG; obtain ⟨v_53, hy_53, hG⟩ := hG; refine rg ?_; refine fx inf39 (gm (Korder_archiveL.ok p_0) 4 fun _ _ h => h.f_heads) hy_53 fun b_54 o_55 hi_53 => ?_
     refine rn 2 [(0, 0, 0, 0), (0, 5, 0, 0)] (fc (hi_53 .i64) f0) [(27, .agg #[I v_53.Office, I v_53.Size, U v_53.Root, I v_53.Sig.C, I v_53.Sig.S])] ?_; refine l1 ?_; refine nw 14 vp [I 0, I 0, U 0, I 0, I 0] 27 fun g_56 => ?_
     refine l1 ?_; refine sr 0 g_56 [(0, I v_53.Office), (1, I v_53.Size), (2, U v_53.Root), (3, I v_53.Sig.C), (4, I v_53.Sig.S)] ?_; refine nl ?_; refine tN ?_; obtain ⟨o_58, hG, hG_58⟩ := bind_some hG; refine jn (fun K E a w => ∃ (v_59 : Bool), Js S0 w0 82 ([(37, B v_59)] ++ K) (se E [0, 2, 3, 4, 5, 6]) (v_59 = o_58) a w) ?_ ?_
     ·replace hG := ifB_cases hG; rcases hG with ⟨h_57, hG⟩ | ⟨h_57, hG⟩
      ·refine rg ?_; refine rn 5 [(1, 1, 0, 0)] f0 [(32, B (v_53.Office == p_1))] ?_; refine sb 32 (bt h_57) ?_; refine ra [(1, 1, 0, 1)] f0 [(37, B (decide (v_53.Size > v_47)))] ?_; refine tN ?_; exact fun a w S hK hE => ⟨decide (v_53.Size > v_47), S, hK.wk, hE.sel [0, 2, 3, 4, 5, 6], Option.some.inj hG⟩
      ·refine rg ?_; refine rn 5 [(1, 1, 0, 0)] f0 [(32, B (v_53.Office == p_1))] ?_; refine sb 32 (bf h_57) ?_; refine ra [] f0 [(37, B false)] ?_; refine tN ?_; exact fun a w S hK hE => ⟨false, S, hK.wk, hE.sel [0, 2, 3, 4, 5, 6], Option.some.inj hG⟩
     ·rintro a w ⟨v_59, hJ⟩; refine hJ.go fun ho_ => ?_
      clear hJ; subst ho_; replace hG := hG_58
      try (simp only [un2, un3, un4, un5, un6, un7, un8, Sum.elim_inl, Sum.elim_inr, List.length_map, KProofL.n_Hops] at hG; replace hG : _ = _ := hG)
      rcases ifB_cases hG with ⟨h_60, hG⟩ | ⟨h_60, hG⟩
      ·refine sb 37 (bt h_60) ?_; refine ct ?_; replace hG := bind_some hG; obtain ⟨v_63o, hy_63, hG⟩ := hG; refine rg ?_; refine rn 2 [(1, 5, 0, 0)] f0 [(38, .slice v_45_A v_44.length v_46_c), (39, .agg #[I v_53.Office, I v_53.Size, U v_53.Root, I v_53.Sig.C, I v_53.Sig.S])] ?_; refine l1 ?_; refine nw 40 (vs 1) [I v_53.Office, I v_53.Size, U v_53.Root, I v_53.Sig.C, I v_53.Sig.S] 27 fun g_61 => ?_
       refine rn 2 [] f0 [(42, .agg #[Sb g_61 1 1, I v_47])] ?_; refine l1 ?_; refine nw 43 (vs 1) [Sb g_61 1 1, I v_47] 96 fun g_62 => ?_
       refine sB 1 g_61 KHead.cells tr ([v_53] : List KHead) tr_mv et ?_; refine l1 ?_; refine apn (p := Korder_chainL.p) (ok := Korder_chainL.ok) 3 44 v_45_A v_46_c v_44 ([(⟨(some ⟨g_61, 0, none⟩), 1, ([v_53] : List KHead), v_47⟩ : Korder_chainL)] : List Korder_chainL) inf157 (bA (f := Korder_chainL.cells) (ok := tr) (l := ([(⟨(some ⟨g_61, 0, none⟩), 1, ([v_53] : List KHead), v_47⟩ : Korder_chainL)] : List Korder_chainL)) g_62 0 et.a) (gd' (Each Korder_chainL.ok v_44) 4) (ec (((gd' (RowC (some ⟨g_61, 0, none⟩) 1 KHead.cells tr ([v_53] : List KHead)) 1)).m fun _ _ h => ⟨h⟩) e0) hy_63 Korder_chainL.one fun v_63 v_63_A v_63_c he_63 _ => ?_
       subst he_63
       try (simp only [un2, un3, un4, un5, un6, un7, un8, Sum.elim_inl, Sum.elim_inr, List.length_map, KProofL.n_Hops] at hG; replace hG : _ = _ := hG)
       refine ra [] f0 [(12, .slice v_63_A v_63.length v_63_c)] ?_; refine hN ?_; refine tN ?_; exact fun a w S hK hE => ⟨v_63, v_63_A, v_63_c, S, hK.wk, hE.sel [4, 0, 6, 7, 8], Option.some.inj hG⟩
      ·refine sb 37 (bf h_60) ?_; refine cf ?_; refine kS ?_; refine hN ?_; refine tN ?_; exact fun a w S hK hE => ⟨v_44, v_45_A, v_46_c, S, hK.wk, hE.sel [1, 2, 3, 4, 5], Option.some.inj hG⟩
    ·rintro a w ⟨v_65, v_66_A, v_67_c, hJ⟩; refine hJ.go fun ho_ => ?_
     clear hJ; subst ho_; replace hG := hG_64
     try (simp only [un2, un3, un4, un5, un6, un7, un8, Sum.elim_inl, Sum.elim_inr, List.length_map, KProofL.n_Hops] at hG; replace hG : _ = _ := hG)
     refine rg ?_; refine ra [] f0 [(24, I (IntKind.i64.wrap (v_48 + 1)))] ?_; refine tN ?_; exact fun a w S hK hE => ⟨m_51, ⟨v_65, v_66_A, v_67_c, v_47, IntKind.i64.wrap (v_48 + 1), v_49, v_50, S, hK.wk, hE.sel [0, 1, 2, 3, 4], hO1_51 _ (Option.some.inj hG).symm⟩, Nat.lt_succ_self _⟩
   ·try simp only [List.length_map, KProofL.n_Hops] at h_52
    refine sb 25 (bf h_52) ?_; refine cf ?_; refine kX ?_; refine tX ?_; refine tX ?_; have he_ := hO2_51 _ (Option.some.inj hG).symm; subst he_; replace hG := hG_51
    try (simp only [un2, un3, un4, un5, un6, un7, un8, Sum.elim_inl, Sum.elim_inr, List.length_map, KProofL.n_Hops] at hG; replace hG : _ = _ := hG)
    refine hH ?_; refine tN ?_; exact fun a w S hK hE => ⟨v_44, v_45_A, v_46_c, v_49, v_50, S, hK.wk, hE.sel [0, 1, 2, 3, 4], Option.some.inj hG⟩
 ·rintro a w ⟨v_74, v_75_A, v_76_c, v_77, v_78, hJ⟩; refine hJ.go fun ho_ => ?_
  clear hJ; subst ho_; replace hG := hG_73
  try (simp only [un2, un3, un4, un5, un6, un7, un8, Sum.elim_inl, Sum.elim_inr, List.length_map, KProofL.n_Hops] at hG; replace hG : _ = _ := hG)
  obtain ⟨o_283, hG, hG_283⟩ := bind_some hG; refine jn (fun K E a w => Js S0 w0 82 (dk [12] K) (se E [2]) (.inl () = o_283) a w) ?_ ?_
  ·refine sq ?_; refine rg ?_; refine ra [] f0 [(46, I 0)] ?_; refine tN ?_; refine bk ?_; obtain ⟨e_216, hL, hG_216⟩ := bind_some hG; clear hG; obtain ⟨stp_216, hs_216, hL⟩ := iter_gen hL; refine lp (fun K E n_ a w => ∃ (v_212 : List Korder_chainL), ∃ (v_213_A : Option Addr), ∃ (v_214_c : Nat), ∃ (v_215 : Int), Js S0 w0 82 ([(12, .slice v_213_A v_212.length v_214_c), (46, I v_215)] ++ K) ([.own 96 2 (.slice v_213_A v_212.length v_214_c) v_212.length (v_212.flatMap Korder_chainL.cells), .dat (Each Korder_chainL.ok v_212)] ++ se E [2, 3, 4]) (iter stp_216 n_ ((v_212.map Korder_chainL.p), v_215) = some e_216) a w) F ?_ ?_
   ·exact fun a w S hK hE => ⟨v_74, v_75_A, v_76_c, 0, S, hK.wk, hE.sel [0, 1, 2, 3, 4], hL⟩
   ·clear hL; rintro n_216 a w ⟨v_212, v_213_A, v_214_c, v_215, hJ⟩; refine hJ.go fun hL => ?_
    clear hJ; obtain ⟨m_216, o_216, rfl, hG, hO1_216, hO2_216⟩ := iter_step hL; clear hL; rw [hs_216] at hG
    try (simp only [un2, un3, un4, un5, un6, un7, un8, Sum.elim_inl, Sum.elim_inr, List.length_map, KProofL.n_Hops] at hG; replace hG : _ = _ := hG)
    refine sq ?_; refine rg ?_; refine ra [] f0 [(47, B (decide (v_215 < 4)))] ?_; refine tN ?_; refine sq ?_; rcases ifB_cases hG with ⟨h_217, hG⟩ | ⟨h_217, hG⟩
    ·refine sb 47 (bt h_217) ?_; refine ct ?_; refine kS ?_; refine tN ?_; refine sq ?_; refine bk ?_; refine sq ?_; refine rg ?_; refine ra [] f0 [(15, .slice none 0 0)] ?_; refine tN ?_; obtain ⟨o_277, hG, hG_277⟩ := bind_some hG; refine jn (fun K E a w => ∃ (v_278 : List Korder_chainL), ∃ (v_279_A : Option Addr), ∃ (v_280_c : Nat), Js S0 w0 82 ([(15, .slice v_279_A v_278.length v_280_c)] ++ K) ([.own 96 2 (.slice v_279_A v_278.length v_280_c) v_278.length (v_278.flatMap Korder_chainL.cells), .dat (Each Korder_chainL.ok v_278)] ++ se E [2, 3, 4]) (.inl (v_278.map Korder_chainL.p) = o_277) a w) ?_ ?_
     ·refine sq ?_; refine rg ?_; refine ra [] f0 [(48, .slice v_213_A v_212.length v_214_c), (49, I ((v_212.length : Nat) : Int)), (50, I 0)] ?_; refine tN ?_; refine bk ?_; obtain ⟨e_258, hL, hG_258⟩ := bind_some hG; clear hG; obtain ⟨stp_258, hs_258, hL⟩ := iter_gen hL; refine lp (fun K E n_ a w => ∃ (v_252 : List Korder_chainL), ∃ (v_253_A : Option Addr), ∃ (v_254_c : Nat), ∃ (v_255_A : Option Addr), ∃ (v_256_c : Nat), ∃ (v_257 : Int), Js S0 w0 82 ([(15, .slice v_253_A v_252.length v_254_c), (48, .slice v_255_A v_212.length v_256_c), (50, I v_257)] ++ K) ([.own 96 2 (.slice v_253_A v_252.length v_254_c) v_252.length (v_252.flatMap Korder_chainL.cells), .dat (Each Korder_chainL.ok v_252), .dat (RowC v_255_A v_256_c Korder_chainL.cells Korder_chainL.ok v_212)] ++ se E [2, 3, 4]) (iter stp_258 n_ ((v_252.map Korder_chainL.p), v_257) = some e_258) a w) F ?_ ?_
      ·refine on 96 2 ?_; refine fm (Each Korder_chainL.ok ([] : List Korder_chainL)) e0 ?_; refine so (A := v_213_A) (c := v_214_c) 2 Korder_chainL.cells Korder_chainL.ok v_212 Korder_chainL.mv (gd' (Each Korder_chainL.ok v_212) 3) ?_; exact fun a w S hK hE => ⟨([] : List Korder_chainL), none, 0, v_213_A, v_214_c, 0, S, hK.wk, hE.sel [1, 0, 2, 4, 5, 6], hL⟩
      ·clear hL; rintro n_258 a w ⟨v_252, v_253_A, v_254_c, v_255_A, v_256_c, v_257, hJ⟩; refine hJ.go fun hL => ?_
       clear hJ; obtain ⟨m_258, o_258, rfl, hG, hO1_258, hO2_258⟩ := iter_step hL; clear hL; rw [hs_258] at hG
       try (simp only [un2, un3, un4, un5, un6, un7, un8, Sum.elim_inl, Sum.elim_inr, List.length_map, KProofL.n_Hops] at hG; replace hG : _ = _ := hG)
       refine sq ?_; refine rg ?_; refine ra [] f0 [(51, B (decide (v_257 < ((v_212.length : Nat) : Int))))] ?_; refine tN ?_; refine sq ?_; rcases ifB_cases hG with ⟨h_259, hG⟩ | ⟨h_259, hG⟩
       ·try simp only [List.length_map, KProofL.n_Hops] at h_259
        refine sb 51 (bt h_259) ?_; refine ct ?_; refine kS ?_; refine tN ?_; refine sq ?_; refine bk ?_; refine sq ?_; replace hG := bind_some hG; obtain ⟨v_260o, hy_260, hG⟩ := hG; refine rg ?_; refine fxn (p := Korder_chainL.p) inf157 (gd' (RowC v_255_A v_256_c Korder_chainL.cells Korder_chainL.ok v_212) 2) hy_260 fun v_260 b_261 o_262 he_260 hi_260 => ?_
        subst he_260
        try (simp only [un2, un3, un4, un5, un6, un7, un8, Sum.elim_inl, Sum.elim_inr, List.length_map, KProofL.n_Hops] at hG; replace hG : _ = _ := hG)
        refine rn 2 [(0, 0, 0, 0), (0, 2, 0, 0)] (fc (hi_260 .i64) f0) [(53, .agg #[.slice v_260.heads_A v_260.heads.length v_260.heads_c, I v_260.at_])] ?_; refine l1 ?_; refine nw 17 vp [.slice none 0 0, I 0] 96 fun g_263 => ?_
        refine l1 ?_; refine sr 0 g_263 [(0, .slice v_260.heads_A v_260.heads.length v_260.heads_c), (1, I v_260.at_)] ?_; refine nl ?_; refine tN ?_; refine sq ?_; refine sq ?_; replace hG := bind_some hG; obtain ⟨v_264, hy_264, hG⟩ := hG; refine rg ?_; refine rn 1 [(0, 2, 0, 0)] f0 [(54, .agg #[.slice v_260.heads_A v_260.heads.length v_260.heads_c, I v_260.at_])] ?_; refine l1 ?_; refine cl 55 (z_order_chain_last F v_260 _ hy_264) hT ⟨(gi 2).a, trivial⟩ ?_; refine l1 ?_; refine nw 18 vp [I 0, I 0, U 0, I 0, I 0] 27 fun g_265 => ?_
        refine l1 ?_; refine sr 0 g_265 [(0, I v_264.Office), (1, I v_264.Size), (2, U v_264.Root), (3, I v_264.Sig.C), (4, I v_264.Sig.S)] ?_; refine nl ?_; refine tN ?_; obtain ⟨o_268, hG, hG_268⟩ := bind_some hG; refine jn (fun K E a w => ∃ (v_269 : Bool), Js S0 w0 82 ([(71, B v_269)] ++ K) ([.dat (RowC v_260.heads_A v_260.heads_c KHead.cells tr v_260.heads)] ++ se E [1, 4, 5, 6, 7, 8, 9]) (v_269 = o_268) a w) ?_ ?_
        ·replace hG := ifB_cases hG; rcases hG with ⟨h_266, hG⟩ | ⟨h_266, hG⟩
         ·replace hG := ifB_cases hG; rcases hG with ⟨h_267, hG⟩ | ⟨h_267, hG⟩
          ·refine rg ?_; refine rn 5 [(1, 1, 0, 0)] f0 [(60, B (v_264.Office == v_77))] ?_; refine sb 60 (bt h_266) ?_; refine rn 6 [(1, 1, 0, 1)] f0 [(66, B (decide (v_264.Size > v_78)))] ?_; refine sb 66 (bt h_267) ?_; refine ra [(2, 1, 1, 1)] f0 [(71, B (decide (v_78 > v_260.at_)))] ?_; refine tN ?_; refine fm (RowC v_260.heads_A v_260.heads_c KHead.cells tr v_260.heads) (gm (Korder_chainL.ok v_260) 3 fun _ _ h => h.f_heads) ?_; exact fun a w S hK hE => ⟨decide (v_78 > v_260.at_), S, hK.wk, hE.sel [0, 2, 5, 6, 7, 8, 9, 10], Option.some.inj hG⟩
          ·refine rg ?_; refine rn 5 [(1, 1, 0, 0)] f0 [(60, B (v_264.Office == v_77))] ?_; refine sb 60 (bt h_266) ?_; refine rn 6 [(1, 1, 0, 1)] f0 [(66, B (decide (v_264.Size > v_78)))] ?_; refine sb 66 (bf h_267) ?_; refine ra [] f0 [(71, B false)] ?_; refine tN ?_; refine fm (RowC v_260.heads_A v_260.heads_c KHead.cells tr v_260.heads) (gm (Korder_chainL.ok v_260) 3 fun _ _ h => h.f_heads) ?_; exact fun a w S hK hE => ⟨false, S, hK.wk, hE.sel [0, 2, 5, 6, 7, 8, 9, 10], Option.some.inj hG⟩
         ·refine rg ?_; refine rn 5 [(1, 1, 0, 0)] f0 [(60, B (v_264.Office == v_77))] ?_; refine sb 60 (bf h_266) ?_; refine ra [] f0 [(71, B false)] ?_; refine tN ?_; refine fm (RowC v_260.heads_A v_260.heads_c KHead.cells tr v_260.heads) (gm (Korder_chainL.ok v_260) 3 fun _ _ h => h.f_heads) ?_; exact fun a w S hK hE => ⟨false, S, hK.wk, hE.sel [0, 2, 5, 6, 7, 8, 9, 10], Option.some.inj hG⟩
        ·rintro a w ⟨v_269, hJ⟩; refine hJ.go fun ho_ => ?_
         clear hJ; subst ho_; replace hG := hG_268
         try (simp only [un2, un3, un4, un5, un6, un7, un8, Sum.elim_inl, Sum.elim_inr, List.length_map, KProofL.n_Hops] at hG; replace hG : _ = _ := hG)
         rcases ifB_cases hG with ⟨h_270, hG⟩ | ⟨h_270, hG⟩
         ·refine sb 71 (bt h_270) ?_; refine ct ?_; refine sq ?_; refine rg ?_; refine rn 1 [(0, 2, 1, 0)] f0 [(72, .agg #[.slice v_260.heads_A v_260.heads.length v_260.heads_c, I v_260.at_])] ?_; refine l1 ?_; refine sr 5 g_1 [(0, .slice v_260.heads_A v_260.heads.length v_260.heads_c), (1, I v_260.at_)] ?_; refine ra [] f0 [(11, B true)] ?_; refine tN ?_; refine kR ?_; refine tR ?_; refine hR ?_; refine tR ?_; refine tR ?_; have he_ := hO2_258 _ (Option.some.inj hG).symm; subst he_; replace hG := hG_258
          try (simp only [un2, un3, un4, un5, un6, un7, un8, Sum.elim_inl, Sum.elim_inr, List.length_map, KProofL.n_Hops] at hG; replace hG : _ = _ := hG)
          refine hR ?_; refine tR ?_; obtain rfl := Option.some.inj hG; replace hG := hG_277
          try (simp only [un2, un3, un4, un5, un6, un7, un8, Sum.elim_inl, Sum.elim_inr, List.length_map, KProofL.n_Hops] at hG; replace hG : _ = _ := hG)
          refine hR ?_; refine tR ?_; refine tR ?_; have he_ := hO2_216 _ (Option.some.inj hG).symm; subst he_; replace hG := hG_216
          try (simp only [un2, un3, un4, un5, un6, un7, un8, Sum.elim_inl, Sum.elim_inr, List.length_map, KProofL.n_Hops] at hG; replace hG : _ = _ := hG)
          refine hR ?_; refine tR ?_; obtain rfl := Option.some.inj hG; replace hG := hG_283
          try (simp only [un2, un3, un4, un5, un6, un7, un8, Sum.elim_inl, Sum.elim_inr, List.length_map, KProofL.n_Hops] at hG; replace hG : _ = _ := hG)
          obtain rfl := Option.some.inj hG; exact rtn [(5, 0, 2)] v_260 rfl ⟨(((gd' (RowC v_260.heads_A v_260.heads_c KHead.cells tr v_260.heads) 0)).m fun _ _ h => ⟨h⟩), trivial⟩
         ·refine sb 71 (bf h_270) ?_; refine cf ?_; refine kS ?_; refine tN ?_; replace hG := bind_some hG; obtain ⟨v_271o, hy_271, hG⟩ := hG; replace hG := bind_some hG; obtain ⟨v_272o, hy_272, hG⟩ := hG; refine rg ?_; refine rn 3 [(2, 2, 1, 0)] f0 [(73, .slice v_253_A v_252.length v_254_c), (74, Pt p_0_A 0), (75, .agg #[.slice v_260.heads_A v_260.heads.length v_260.heads_c, I v_260.at_])] ?_; refine l1 ?_; refine cn 76 (z_order_archive_longer F p_0_A p_0 v_260 _ hy_271) hT (fun _ => (mr Korder_chainL.mv m0)) ⟨(gr 6), (gi 7), (((gd' (RowC v_260.heads_A v_260.heads_c KHead.cells tr v_260.heads) 0)).m fun _ _ h => ⟨h⟩), trivial⟩ ?_; rintro ⟨v_271_A, v_271_c, v_271⟩ hq_271; obtain rfl : (v_271.map Korder_chainL.p) = v_271o := hq_271.symm
          try (simp only [un2, un3, un4, un5, un6, un7, un8, Sum.elim_inl, Sum.elim_inr, List.length_map, KProofL.n_Hops] at hG; replace hG : _ = _ := hG)
          refine l1 ?_; refine apn (p := Korder_chainL.p) (ok := Korder_chainL.ok) 3 77 v_253_A v_254_c v_252 v_271 inf157 (Fa.tr ((gd' (RowC v_271_A v_271_c Korder_chainL.cells Korder_chainL.ok v_271) 0).a)) (gd' (Each Korder_chainL.ok v_252) 4) (gm (RowC v_271_A v_271_c Korder_chainL.cells Korder_chainL.ok v_271) 0 fun _ _ h => h.e) hy_272 Korder_chainL.one fun v_272 v_272_A v_272_c he_272 _ => ?_
          subst he_272
          try (simp only [un2, un3, un4, un5, un6, un7, un8, Sum.elim_inl, Sum.elim_inr, List.length_map, KProofL.n_Hops] at hG; replace hG : _ = _ := hG)
          refine ra [] f0 [(15, .slice v_272_A v_272.length v_272_c)] ?_; refine hN ?_; refine tN ?_; refine rg ?_; refine ra [] f0 [(50, I (IntKind.i64.wrap (v_257 + 1)))] ?_; refine tN ?_; exact fun a w S hK hE => ⟨m_258, ⟨v_272, v_272_A, v_272_c, v_255_A, v_256_c, IntKind.i64.wrap (v_257 + 1), S, hK.wk, hE.sel [4, 0, 6, 7, 8, 9], hO1_258 _ (Option.some.inj hG).symm⟩, Nat.lt_succ_self _⟩
       ·try simp only [List.length_map, KProofL.n_Hops] at h_259
        refine sb 51 (bf h_259) ?_; refine cf ?_; refine kX ?_; refine tX ?_; refine tX ?_; have he_ := hO2_258 _ (Option.some.inj hG).symm; subst he_; replace hG := hG_258
        try (simp only [un2, un3, un4, un5, un6, un7, un8, Sum.elim_inl, Sum.elim_inr, List.length_map, KProofL.n_Hops] at hG; replace hG : _ = _ := hG)
        refine hH ?_; refine tN ?_; exact fun a w S hK hE => ⟨v_252, v_253_A, v_254_c, S, hK.wk, hE.sel [0, 1, 3, 4, 5], Option.some.inj hG⟩
     ·rintro a w ⟨v_278, v_279_A, v_280_c, hJ⟩; refine hJ.go fun ho_ => ?_
      clear hJ; subst ho_; replace hG := hG_277
      try (simp only [un2, un3, un4, un5, un6, un7, un8, Sum.elim_inl, Sum.elim_inr, List.length_map, KProofL.n_Hops] at hG; replace hG : _ = _ := hG)
      refine rg ?_; refine ra [] f0 [(12, .slice v_279_A v_278.length v_280_c)] ?_; refine hN ?_; refine tN ?_; refine rg ?_; refine ra [] f0 [(46, I (IntKind.i64.wrap (v_215 + 1)))] ?_; refine tN ?_; exact fun a w S hK hE => ⟨m_216, ⟨v_278, v_279_A, v_280_c, IntKind.i64.wrap (v_215 + 1), S, hK.wk, hE.sel [0, 1, 2, 3, 4], hO1_216 _ (Option.some.inj hG).symm⟩, Nat.lt_succ_self _⟩
    ·refine sb 47 (bf h_217) ?_; refine cf ?_; refine kX ?_; refine tX ?_; refine tX ?_; have he_ := hO2_216 _ (Option.some.inj hG).symm; subst he_; replace hG := hG_216
     try (simp only [un2, un3, un4, un5, un6, un7, un8, Sum.elim_inl, Sum.elim_inr, List.length_map, KProofL.n_Hops] at hG; replace hG : _ = _ := hG)
     refine hH ?_; refine tN ?_; exact fun a w S hK hE => ⟨S, hK.wk, hE.sel [2], Option.some.inj hG⟩
  ·rintro a w hJ; refine hJ.go fun ho_ => ?_
   clear hJ; subst ho_; replace hG := hG_283
   try (simp only [un2, un3, un4, un5, un6, un7, un8, Sum.elim_inl, Sum.elim_inr, List.length_map, KProofL.n_Hops] at hG; replace hG : _ = _ := hG)
   refine sq ?_; refine rg ?_; refine rn 1 [] f0 [(81, .agg #[.slice none 0 0, I 0])] ?_; refine l1 ?_; refine sr 0 g_1 [(0, .slice none 0 0), (1, I 0)] ?_; refine ra [] f0 [(11, B false)] ?_; refine tN ?_; refine kR ?_; obtain rfl := Option.some.inj hG; exact rtn [(0, 0, 2)] (⟨none, 0, ([] : List KHead), 0⟩ : Korder_chainL) rfl ⟨(((gn : Fd _ (RowC none 0 KHead.cells tr ([] : List KHead)))).m fun _ _ h => ⟨h⟩), trivial⟩
def G_office_Valid (F : Nat) (p_0 : KOffice) : Option (Bool) :=
  Option.bind (Option.bind (iter (σ := Int) (ρ := Unit ⊕ Unit) (fun (v_27 : Int) => 
        (ifB (decide (v_27 < ((p_0.Entries.length : Nat) : Int)))
          (Option.bind (ixI p_0.Entries v_27) (fun v_30 =>
          Option.bind (Option.bind (G_office_logged_formed F (⟨v_30⟩ : Koffice_logged)) (fun v_34 =>
            ifB (v_34)
              (ifB (decide (v_27 > 0))
                (Option.bind (ixI p_0.Entries (IntKind.i64.wrap (v_27 - 1))) (fun v_37 =>
                some (decide (v_30.Stamp.Lo < v_37.Stamp.Lo))))
                (some false))
              (some true)) : Option (Bool)) (fun (v_41 : Bool) => 
            ifB (v_41)
              (some (.inr (.inr ())))
              (some (.inl (IntKind.i64.wrap (v_27 + 1)))))))
          (some (.inr (.inl ()))) : Option (Int ⊕ (Unit ⊕ Unit)))) F 0) (Sum.elim (fun (_ : Unit) => 
      some (.inl ())) (fun (_ : Unit) => 
      some (.inr ()))) : Option (Unit ⊕ Unit)) (Sum.elim (fun (_ : Unit) => 
    Option.bind (Option.bind (G_office_between F p_0.ID 1 16) (fun v_44 =>
      ifB (v_44)
        (some (decide (((p_0.Entries.length : Nat) : Int) ≤ 4096)))
        (some false)) : Option (Bool)) (fun (v_47 : Bool) => 
      some v_47)) (fun (_ : Unit) => 
    some false))
set_option maxRecDepth 100000 in
set_option maxHeartbeats 16000000 in
theorem z_office_Valid (F : Nat) (p_0 : KOfficeL) (r : Bool) (hG : G_office_Valid F p_0.p = some r) :
  Cf Tryz.prog 58 [.agg #[I p_0.ID, .slice p_0.Entries_A p_0.Entries.length p_0.Entries_c]] [KOfficeL.ok p_0] (B r) := by
 unfold G_office_Valid at hG
 try (simp only [un2, un3, un4, un5, un6, un7, un8, Sum.elim_inl, Sum.elim_inr, List.length_map, KProofL.n_Hops] at hG; replace hG : _ = _ := hG)
 refine fi Tryz.func58 rfl rfl (mc KOfficeL.mv m0) fun S0 w0 hT => ?_
 refine sq ?_; refine rg ?_; refine l1 ?_; refine nw 1 vp [I p_0.ID, .slice p_0.Entries_A p_0.Entries.length p_0.Entries_c] 53 fun g_1 => ?_
 refine ra [] f0 [] ?_; refine tN ?_; obtain ⟨o_43, hG, hG_43⟩ := bind_some hG; refine jn (fun K E a w => Js S0 w0 45 (K) ([.dat (RowC p_0.Entries_A p_0.Entries_c KEntry.cells tr p_0.Entries)] ++ se E [0]) (.inl () = o_43) a w) ?_ ?_
 ·refine sq ?_; refine rg ?_; refine ra [(1, 1, 0, 1)] f0 [(6, .slice p_0.Entries_A p_0.Entries.length p_0.Entries_c), (7, I ((p_0.Entries.length : Nat) : Int)), (8, I 0)] ?_; refine tN ?_; refine bk ?_; obtain ⟨e_28, hL, hG_28⟩ := bind_some hG; clear hG; obtain ⟨stp_28, hs_28, hL⟩ := iter_gen hL; refine lp (fun K E n_ a w => ∃ (v_27 : Int), Js S0 w0 45 ([(8, I v_27)] ++ K) ([.dat (RowC p_0.Entries_A p_0.Entries_c KEntry.cells tr p_0.Entries)] ++ se E [0]) (iter stp_28 n_ v_27 = some e_28) a w) F ?_ ?_
  ·refine fm (RowC p_0.Entries_A p_0.Entries_c KEntry.cells tr p_0.Entries) (gm (KOfficeL.ok p_0) 1 fun _ _ h => h.f_Entries) ?_; exact fun a w S hK hE => ⟨0, S, hK.wk, hE.sel [0, 1], hL⟩
  ·clear hL; rintro n_28 a w ⟨v_27, hJ⟩; refine hJ.go fun hL => ?_
   clear hJ; obtain ⟨m_28, o_28, rfl, hG, hO1_28, hO2_28⟩ := iter_step hL; clear hL; rw [hs_28] at hG
   try (simp only [un2, un3, un4, un5, un6, un7, un8, Sum.elim_inl, Sum.elim_inr, List.length_map, KProofL.n_Hops] at hG; replace hG : _ = _ := hG)
   refine sq ?_; refine rg ?_; refine ra [] f0 [(9, B (decide (v_27 < ((p_0.Entries.length : Nat) : Int))))] ?_; refine tN ?_; refine sq ?_; rcases ifB_cases hG with ⟨h_29, hG⟩ | ⟨h_29, hG⟩
   ·try simp only [List.length_map, KProofL.n_Hops] at h_29
    refine sb 9 (bt h_29) ?_; refine ct ?_; refine kS ?_; refine tN ?_; refine sq ?_; refine bk ?_; refine sq ?_; replace hG := bind_some hG; obtain ⟨v_30, hy_30, hG⟩ := hG; refine rg ?_; refine fx inf51 (gd' (RowC p_0.Entries_A p_0.Entries_c KEntry.cells tr p_0.Entries) 0) hy_30 fun b_31 o_32 hi_30 => ?_
    refine rn 3 [(1, 0, 0, 0), (0, 3, 0, 0)] (fc (hi_30 .i64) f0) [(10, I v_27), (12, .agg #[U v_30.Doc, I v_30.Stamp.Lo, I v_30.Stamp.Hi])] ?_; refine l1 ?_; refine nw 4 vp [U 0, I 0, I 0] 31 fun g_33 => ?_
    refine rn 1 [] f0 [(3, I v_27)] ?_; refine l1 ?_; refine sr 0 g_33 [(0, U v_30.Doc), (1, I v_30.Stamp.Lo), (2, I v_30.Stamp.Hi)] ?_; refine nl ?_; refine tN ?_; obtain ⟨o_40, hG, hG_40⟩ := bind_some hG; refine jn (fun K E a w => ∃ (v_41 : Bool), Js S0 w0 45 ([(34, B v_41)] ++ K) (se E [2, 3]) (v_41 = o_40) a w) ?_ ?_
    ·replace hG := bind_some hG; obtain ⟨v_34, hy_34, hG⟩ := hG; replace hG := ifB_cases hG; rcases hG with ⟨h_35, hG⟩ | ⟨h_35, hG⟩
     ·replace hG := ifB_cases hG; rcases hG with ⟨h_36, hG⟩ | ⟨h_36, hG⟩
      ·replace hG := bind_some hG; obtain ⟨v_37, hy_37, hG⟩ := hG; refine qb ?_; refine qn 2 [(0, 3, 0, 0)] f0 [(14, .agg #[U v_30.Doc, I v_30.Stamp.Lo, I v_30.Stamp.Hi])] ?_; refine qc 15 (z_office_logged_formed F (⟨v_30⟩ : Koffice_logged) _ hy_34) hT trivial ?_; refine qn 2 [] f0 [(17, B (!v_34))] ?_; refine sb 17 (nt h_35) ?_; refine qn 3 [] f0 [(20, B (decide (v_27 > 0)))] ?_; refine sb 20 (bt h_36) ?_; refine fx inf51 (gd' (RowC p_0.Entries_A p_0.Entries_c KEntry.cells tr p_0.Entries) 2) hy_37 fun b_38 o_39 hi_37 => ?_
       refine qa [(2, 1, 1, 1), (1, 1, 4, 1), (2, 0, 0, 0), (2, 1, 0, 1)] (fc (hi_37 .i64) f0) [(34, B (decide (v_30.Stamp.Lo < v_37.Stamp.Lo)))] ?_; refine tN ?_; exact fun a w S hK hE => ⟨decide (v_30.Stamp.Lo < v_37.Stamp.Lo), S, hK.wk, hE.sel [3, 4], Option.some.inj hG⟩
      ·refine qb ?_; refine qn 2 [(0, 3, 0, 0)] f0 [(14, .agg #[U v_30.Doc, I v_30.Stamp.Lo, I v_30.Stamp.Hi])] ?_; refine qc 15 (z_office_logged_formed F (⟨v_30⟩ : Koffice_logged) _ hy_34) hT trivial ?_; refine qn 2 [] f0 [(17, B (!v_34))] ?_; refine sb 17 (nt h_35) ?_; refine qn 3 [] f0 [(20, B (decide (v_27 > 0)))] ?_; refine sb 20 (bf h_36) ?_; refine qa [] f0 [(34, B false)] ?_; refine tN ?_; exact fun a w S hK hE => ⟨false, S, hK.wk, hE.sel [2, 3], Option.some.inj hG⟩
     ·refine qb ?_; refine qn 2 [(0, 3, 0, 0)] f0 [(14, .agg #[U v_30.Doc, I v_30.Stamp.Lo, I v_30.Stamp.Hi])] ?_; refine qc 15 (z_office_logged_formed F (⟨v_30⟩ : Koffice_logged) _ hy_34) hT trivial ?_; refine qn 2 [] f0 [(17, B (!v_34))] ?_; refine sb 17 (nf h_35) ?_; refine qa [] f0 [(34, B true)] ?_; refine tN ?_; exact fun a w S hK hE => ⟨true, S, hK.wk, hE.sel [2, 3], Option.some.inj hG⟩
    ·rintro a w ⟨v_41, hJ⟩; refine hJ.go fun ho_ => ?_
     clear hJ; subst ho_; replace hG := hG_40
     try (simp only [un2, un3, un4, un5, un6, un7, un8, Sum.elim_inl, Sum.elim_inr, List.length_map, KProofL.n_Hops] at hG; replace hG : _ = _ := hG)
     rcases ifB_cases hG with ⟨h_42, hG⟩ | ⟨h_42, hG⟩
     ·refine sb 34 (bt h_42) ?_; refine ct ?_; refine sq ?_; refine rg ?_; refine ra [] f0 [(2, B false)] ?_; refine tN ?_; refine kR ?_; refine hR ?_; refine tR ?_; refine tR ?_; have he_ := hO2_28 _ (Option.some.inj hG).symm; subst he_; replace hG := hG_28
      try (simp only [un2, un3, un4, un5, un6, un7, un8, Sum.elim_inl, Sum.elim_inr, List.length_map, KProofL.n_Hops] at hG; replace hG : _ = _ := hG)
      refine hR ?_; refine tR ?_; obtain rfl := Option.some.inj hG; replace hG := hG_43
      try (simp only [un2, un3, un4, un5, un6, un7, un8, Sum.elim_inl, Sum.elim_inr, List.length_map, KProofL.n_Hops] at hG; replace hG : _ = _ := hG)
      obtain rfl := Option.some.inj hG; exact rt []
     ·refine sb 34 (bf h_42) ?_; refine cf ?_; refine kS ?_; refine hN ?_; refine tN ?_; refine rg ?_; refine ra [] f0 [(8, I (IntKind.i64.wrap (v_27 + 1)))] ?_; refine tN ?_; exact fun a w S hK hE => ⟨m_28, ⟨IntKind.i64.wrap (v_27 + 1), S, hK.wk, hE.sel [0, 1], hO1_28 _ (Option.some.inj hG).symm⟩, Nat.lt_succ_self _⟩
   ·try simp only [List.length_map, KProofL.n_Hops] at h_29
    refine sb 9 (bf h_29) ?_; refine cf ?_; refine kX ?_; refine tX ?_; refine tX ?_; have he_ := hO2_28 _ (Option.some.inj hG).symm; subst he_; replace hG := hG_28
    try (simp only [un2, un3, un4, un5, un6, un7, un8, Sum.elim_inl, Sum.elim_inr, List.length_map, KProofL.n_Hops] at hG; replace hG : _ = _ := hG)
    refine hH ?_; refine tN ?_; exact fun a w S hK hE => ⟨S, hK.wk, hE.sel [0, 1], Option.some.inj hG⟩
 ·rintro a w hJ; refine hJ.go fun ho_ => ?_
  clear hJ; subst ho_; replace hG := hG_43
  try (simp only [un2, un3, un4, un5, un6, un7, un8, Sum.elim_inl, Sum.elim_inr, List.length_map, KProofL.n_Hops] at hG; replace hG : _ = _ := hG)
  obtain ⟨o_46, hG, hG_46⟩ := bind_some hG; refine jn (fun K E a w => ∃ (v_47 : Bool), Js S0 w0 45 ([(2, B v_47)] ++ K) (se E []) (v_47 = o_46) a w) ?_ ?_
  ·replace hG := bind_some hG; obtain ⟨v_44, hy_44, hG⟩ := hG; replace hG := ifB_cases hG; rcases hG with ⟨h_45, hG⟩ | ⟨h_45, hG⟩
   ·refine rg ?_; refine rn 2 [(1, 1, 1, 0)] f0 [(37, I p_0.ID)] ?_; refine l1 ?_; refine cl 38 (z_office_between F p_0.ID 1 16 _ hy_44) hT trivial ?_; refine rn 1 [] f0 [(39, B v_44)] ?_; refine sb 39 (bt h_45) ?_; refine ra [(1, 1, 1, 1)] f0 [(2, B (decide (((p_0.Entries.length : Nat) : Int) ≤ 4096)))] ?_; refine tN ?_; exact fun a w S hK hE => ⟨decide (((p_0.Entries.length : Nat) : Int) ≤ 4096), S, hK.wk, hE.sel [], Option.some.inj hG⟩
   ·refine rg ?_; refine rn 2 [(1, 1, 1, 0)] f0 [(37, I p_0.ID)] ?_; refine l1 ?_; refine cl 38 (z_office_between F p_0.ID 1 16 _ hy_44) hT trivial ?_; refine rn 1 [] f0 [(39, B v_44)] ?_; refine sb 39 (bf h_45) ?_; refine ra [] f0 [(2, B false)] ?_; refine tN ?_; exact fun a w S hK hE => ⟨false, S, hK.wk, hE.sel [], Option.some.inj hG⟩
  ·rintro a w ⟨v_47, hJ⟩; refine hJ.go fun ho_ => ?_
   clear hJ; subst ho_; replace hG := hG_46
   try (simp only [un2, un3, un4, un5, un6, un7, un8, Sum.elim_inl, Sum.elim_inr, List.length_map, KProofL.n_Hops] at hG; replace hG : _ = _ := hG)
   refine kR ?_; obtain rfl := Option.some.inj hG; exact rt []
def G_office_root (F : Nat) (p_0 : KOffice) (p_1 : Int) : Option (Int × Int) :=
  Option.bind (slI p_0.Entries 0 p_1) (fun v_2 =>
  Option.bind (Option.bind (Option.bind (iter (σ := Int × (List Int)) (ρ := (List Int)) (un2 fun (v_23 : Int) (v_24 : (List Int)) => 
          (ifB (decide (v_23 < ((v_2.length : Nat) : Int)))
            (Option.bind (ixI v_2 v_23) (fun v_29 =>
            Option.bind (G_office_Leaf F v_29) (fun v_33 =>
            Option.bind (apG 8 v_24 ([v_33] : List Int)) (fun v_35 =>
            some (.inl (IntKind.i64.wrap (v_23 + 1), v_35))))))
            (some (.inr v_24)) : Option ((Int × (List Int)) ⊕ (List Int)))) F (0, ([] : List Int))) (fun (v_36 : (List Int)) => 
        some v_36) : Option ((List Int))) (fun (v_40 : (List Int)) => 
      some v_40) : Option ((List Int))) (fun (v_43 : (List Int)) => 
    Option.bind (G_tree_Root F v_43) (un2 fun v_47 v_48 =>
    some (v_47, v_48))))
set_option maxRecDepth 100000 in
set_option maxHeartbeats 16000000 in
theorem z_office_root (F : Nat) (p_0 : KOfficeL) (p_1 : Int) (r : Int × Int) (hG : G_office_root F p_0.p p_1 = some r) :
  Cf Tryz.prog 60 [.agg #[I p_0.ID, .slice p_0.Entries_A p_0.Entries.length p_0.Entries_c], I p_1] [KOfficeL.ok p_0] (.tuple #[U r.1, I r.2]) := by
 unfold G_office_root at hG
 try (simp only [un2, un3, un4, un5, un6, un7, un8, Sum.elim_inl, Sum.elim_inr, List.length_map, KProofL.n_Hops] at hG; replace hG : _ = _ := hG)
 refine fi Tryz.func60 rfl rfl (mc KOfficeL.mv m0) fun S0 w0 hT => ?_
 refine sq ?_; refine rg ?_; refine l1 ?_; refine nw 2 vp [I p_0.ID, .slice p_0.Entries_A p_0.Entries.length p_0.Entries_c] 53 fun g_1 => ?_
 refine ra [] f0 [] ?_; refine tN ?_; refine sq ?_; replace hG := bind_some hG; obtain ⟨v_2, hy_2, hG⟩ := hG; replace hG := bind_some hG; obtain ⟨v_43o, hy_46, hG⟩ := hG; replace hG := bind_some hG; obtain ⟨⟨v_47, v_48⟩, hy_47, hG⟩ := hG; refine rg ?_; refine fp false true inf51 (gm (KOfficeL.ok p_0) 1 fun _ _ h => h.f_Entries) hy_2 fun v_2_A v_2_c hp_2 => ?_
 refine rn 4 [(1, 1, 1, 1), (1, 0, 0, 0)] (fc (hp_2 .i64 .i64) f0) [(9, .slice v_2_A v_2.length v_2_c)] ?_; refine l1 ?_; refine ci 10 (args := [.slice v_2_A v_2.length v_2_c, .func (.func 66) #[] #[]]) (fun E e w => ∃ (v_43 : List Int), ∃ (v_44_A : Option Addr), ∃ (v_45_c : Nat), Rs S0 w0 (.slice v_44_A v_43.length v_45_c) ([.dat (RowC p_0.Entries_A p_0.Entries_c KEntry.cells tr p_0.Entries), .own 23 1 (.slice v_44_A v_43.length v_45_c) v_43.length (v_43.flatMap c_u64)] ++ se E [0, 1]) (v_43 = v_43o) e w) Tryz.func65 rfl rfl ?_ ?_
 ·replace hG := hy_46
  try (simp only [un2, un3, un4, un5, un6, un7, un8, Sum.elim_inl, Sum.elim_inr, List.length_map, KProofL.n_Hops] at hG; replace hG : _ = _ := hG)
  refine sq ?_; refine rg ?_; refine ra [] f0 [] ?_; refine tN ?_; refine sq ?_; refine rg ?_; refine ra [] f0 [(5, .slice none 0 0)] ?_; refine tN ?_; obtain ⟨o_85, hG, hG_85⟩ := bind_some hG; refine jn (fun K E a w => ∃ (v_86 : List Int), ∃ (v_87_A : Option Addr), ∃ (v_88_c : Nat), Js S0 w0 22 ([(5, .slice v_87_A v_86.length v_88_c)] ++ K) ([.dat (RowC p_0.Entries_A p_0.Entries_c KEntry.cells tr p_0.Entries), .own 23 1 (.slice v_87_A v_86.length v_88_c) v_86.length (v_86.flatMap c_u64)] ++ se E [0, 1]) (v_86 = o_85) a w) ?_ ?_
  ·refine sq ?_; refine rg ?_; refine ra [] f0 [(8, .slice v_2_A v_2.length v_2_c), (9, I ((v_2.length : Nat) : Int)), (10, I 0)] ?_; refine tN ?_; refine bk ?_; obtain ⟨e_73, hL, hG_73⟩ := bind_some hG; clear hG; obtain ⟨stp_73, hs_73, hL⟩ := iter_gen hL; refine lp (fun K E n_ a w => ∃ (v_69 : Int), ∃ (v_70 : List Int), ∃ (v_71_A : Option Addr), ∃ (v_72_c : Nat), Js S0 w0 22 ([(5, .slice v_71_A v_70.length v_72_c), (10, I v_69)] ++ K) ([.dat (RowC p_0.Entries_A p_0.Entries_c KEntry.cells tr p_0.Entries), .own 23 1 (.slice v_71_A v_70.length v_72_c) v_70.length (v_70.flatMap c_u64)] ++ se E [0, 1]) (iter stp_73 n_ (v_69, v_70) = some e_73) a w) F ?_ ?_
   ·refine fm (RowC p_0.Entries_A p_0.Entries_c KEntry.cells tr p_0.Entries) (gm (KOfficeL.ok p_0) 2 fun _ _ h => h.f_Entries) ?_; refine on 23 1 ?_; exact fun a w S hK hE => ⟨0, ([] : List Int), none, 0, S, hK.wk, hE.sel [1, 0, 2, 3], hL⟩
   ·clear hL; rintro n_73 a w ⟨v_69, v_70, v_71_A, v_72_c, hJ⟩; refine hJ.go fun hL => ?_
    clear hJ; obtain ⟨m_73, o_73, rfl, hG, hO1_73, hO2_73⟩ := iter_step hL; clear hL; rw [hs_73] at hG
    try (simp only [un2, un3, un4, un5, un6, un7, un8, Sum.elim_inl, Sum.elim_inr, List.length_map, KProofL.n_Hops] at hG; replace hG : _ = _ := hG)
    refine sq ?_; refine rg ?_; refine ra [] f0 [(11, B (decide (v_69 < ((v_2.length : Nat) : Int))))] ?_; refine tN ?_; refine sq ?_; rcases ifB_cases hG with ⟨h_74, hG⟩ | ⟨h_74, hG⟩
    ·try simp only [List.length_map, KProofL.n_Hops] at h_74
     refine sb 11 (bt h_74) ?_; refine ct ?_; refine kS ?_; refine tN ?_; refine sq ?_; refine bk ?_; refine sq ?_; replace hG := bind_some hG; obtain ⟨v_75, hy_75, hG⟩ := hG; refine rg ?_; refine fx inf51 (gd' (RowC v_2_A v_2_c KEntry.cells tr v_2) 2) hy_75 fun b_76 o_77 hi_75 => ?_
     refine rn 2 [(0, 0, 0, 0), (0, 3, 0, 0)] (fc (hi_75 .i64) f0) [(13, .agg #[U v_75.Doc, I v_75.Stamp.Lo, I v_75.Stamp.Hi])] ?_; refine l1 ?_; refine nw 7 vp [U 0, I 0, I 0] 31 fun g_78 => ?_
     refine l1 ?_; refine sr 0 g_78 [(0, U v_75.Doc), (1, I v_75.Stamp.Lo), (2, I v_75.Stamp.Hi)] ?_; refine nl ?_; refine tN ?_; replace hG := bind_some hG; obtain ⟨v_79, hy_79, hG⟩ := hG; replace hG := bind_some hG; obtain ⟨v_81, hy_81, hG⟩ := hG; refine rg ?_; refine rn 3 [(2, 3, 0, 0)] f0 [(14, .slice v_71_A v_70.length v_72_c), (15, .func (.func 66) #[] #[]), (16, .agg #[U v_75.Doc, I v_75.Stamp.Lo, I v_75.Stamp.Hi])] ?_; refine l1 ?_; refine cl 17 (z_office_Leaf F v_75 _ hy_79) hT trivial ?_; refine l1 ?_; refine nw 18 (vs 1) [U v_79] 23 fun g_80 => ?_
     refine l1 ?_; refine ap 4 19 v_71_A v_72_c v_70 ([v_79] : List Int) inf32 (bA (f := c_u64) (ok := tr) (l := ([v_79] : List Int)) g_80 0 et.a) hy_81 one_u64 fun v_81_A v_81_c _ => ?_
     refine ra [] f0 [(5, .slice v_81_A v_81.length v_81_c)] ?_; refine hN ?_; refine tN ?_; refine rg ?_; refine ra [] f0 [(10, I (IntKind.i64.wrap (v_69 + 1)))] ?_; refine tN ?_; exact fun a w S hK hE => ⟨m_73, ⟨IntKind.i64.wrap (v_69 + 1), v_81, v_81_A, v_81_c, S, hK.wk, hE.sel [3, 4, 5, 6], hO1_73 _ (Option.some.inj hG).symm⟩, Nat.lt_succ_self _⟩
    ·try simp only [List.length_map, KProofL.n_Hops] at h_74
     refine sb 11 (bf h_74) ?_; refine cf ?_; refine kX ?_; refine tX ?_; refine tX ?_; have he_ := hO2_73 _ (Option.some.inj hG).symm; subst he_; replace hG := hG_73
     try (simp only [un2, un3, un4, un5, un6, un7, un8, Sum.elim_inl, Sum.elim_inr, List.length_map, KProofL.n_Hops] at hG; replace hG : _ = _ := hG)
     refine hH ?_; refine tN ?_; exact fun a w S hK hE => ⟨v_70, v_71_A, v_72_c, S, hK.wk, hE.sel [0, 1, 2, 3], Option.some.inj hG⟩
  ·rintro a w ⟨v_86, v_87_A, v_88_c, hJ⟩; refine hJ.go fun ho_ => ?_
   clear hJ; subst ho_; replace hG := hG_85
   try (simp only [un2, un3, un4, un5, un6, un7, un8, Sum.elim_inl, Sum.elim_inr, List.length_map, KProofL.n_Hops] at hG; replace hG : _ = _ := hG)
   refine sq ?_; refine rg ?_; refine ra [] f0 [(4, .slice v_87_A v_86.length v_88_c)] ?_; refine tN ?_; refine kR ?_; refine ri [] (.slice v_87_A v_86.length v_88_c) ?_; exact fun a w S hK hE => ⟨v_86, v_87_A, v_88_c, rfl, ⟨S, hE.sel [0, 1, 2, 3]⟩, Option.some.inj hG⟩
 ·rintro e w ⟨v_43, v_44_A, v_45_c, hJ⟩; refine hJ.go fun ho_ => ?_
  clear hJ; subst ho_
  try (simp only [un2, un3, un4, un5, un6, un7, un8, Sum.elim_inl, Sum.elim_inr, List.length_map, KProofL.n_Hops] at hG; replace hG : _ = _ := hG)
  refine l1 ?_; refine cl 11 (z_tree_Root F v_44_A v_45_c v_43 _ hy_47) hT ⟨oa 1 et.a, trivial⟩ ?_; refine ra [] f0 [(4, U v_47), (5, I v_48)] ?_; refine tN ?_; refine kR ?_; obtain rfl := Option.some.inj hG; exact rt []
def G_cross_values (F : Nat) (p_0 : KOffice) (p_1 : Int) : Option ((List Int)) :=
  Option.bind (Option.bind (slI p_0.Entries 0 p_1) (fun v_2 =>
    Option.bind (iter (σ := Int × (List Int)) (ρ := (List Int)) (un2 fun (v_23 : Int) (v_24 : (List Int)) => 
        (ifB (decide (v_23 < ((v_2.length : Nat) : Int)))
          (Option.bind (ixI v_2 v_23) (fun v_29 =>
          Option.bind (G_office_Leaf F v_29) (fun v_33 =>
          Option.bind (apG 8 v_24 ([v_33] : List Int)) (fun v_35 =>
          some (.inl (IntKind.i64.wrap (v_23 + 1), v_35))))))
          (some (.inr v_24)) : Option ((Int × (List Int)) ⊕ (List Int)))) F (0, ([] : List Int))) (fun (v_36 : (List Int)) => 
      some v_36)) : Option ((List Int))) (fun (v_40 : (List Int)) => 
    some v_40)
set_option maxRecDepth 100000 in
set_option maxHeartbeats 16000000 in
theorem z_cross_values (F : Nat) (p_0 : KOfficeL) (p_1 : Int) (r : (List Int)) (hG : G_cross_values F p_0.p p_1 = some r) :
  Cn Tryz.prog 106 [.agg #[I p_0.ID, .slice p_0.Entries_A p_0.Entries.length p_0.Entries_c], I p_1] [KOfficeL.ok p_0] (fun q : KSuint64L => r = q.l) (fun q => .slice q.A q.l.length q.c) (fun q => [RowC q.A q.c c_u64 tr q.l]) := by
 unfold G_cross_values at hG
 try (simp only [un2, un3, un4, un5, un6, un7, un8, Sum.elim_inl, Sum.elim_inr, List.length_map, KProofL.n_Hops] at hG; replace hG : _ = _ := hG)
 refine fin Tryz.func106 rfl rfl (mc KOfficeL.mv m0) fun S0 w0 hT => ?_
 refine sq ?_; refine rg ?_; refine l1 ?_; refine nw 2 vp [I p_0.ID, .slice p_0.Entries_A p_0.Entries.length p_0.Entries_c] 53 fun g_1 => ?_
 refine ra [] f0 [] ?_; refine tN ?_; refine sq ?_; refine rg ?_; refine ra [] f0 [(5, .slice none 0 0)] ?_; refine tN ?_; obtain ⟨o_39, hG, hG_39⟩ := bind_some hG; refine jn (fun K E a w => ∃ (v_40 : List Int), ∃ (v_41_A : Option Addr), ∃ (v_42_c : Nat), Js S0 w0 24 ([(5, .slice v_41_A v_40.length v_42_c)] ++ K) ([.own 23 1 (.slice v_41_A v_40.length v_42_c) v_40.length (v_40.flatMap c_u64)]) (v_40 = o_39) a w) ?_ ?_
 ·refine sq ?_; replace hG := bind_some hG; obtain ⟨v_2, hy_2, hG⟩ := hG; refine rg ?_; refine fp false true inf51 (gm (KOfficeL.ok p_0) 1 fun _ _ h => h.f_Entries) hy_2 fun v_2_A v_2_c hp_2 => ?_
  refine ra [(1, 1, 1, 1), (1, 0, 0, 0)] (fc (hp_2 .i64 .i64) f0) [(11, .slice v_2_A v_2.length v_2_c), (12, I ((v_2.length : Nat) : Int)), (13, I 0)] ?_; refine tN ?_; refine bk ?_; obtain ⟨e_27, hL, hG_27⟩ := bind_some hG; clear hG; obtain ⟨stp_27, hs_27, hL⟩ := iter_gen hL; refine lp (fun K E n_ a w => ∃ (v_23 : Int), ∃ (v_24 : List Int), ∃ (v_25_A : Option Addr), ∃ (v_26_c : Nat), Js S0 w0 24 ([(5, .slice v_25_A v_24.length v_26_c), (13, I v_23)] ++ K) ([.own 23 1 (.slice v_25_A v_24.length v_26_c) v_24.length (v_24.flatMap c_u64)] ++ se E [0]) (iter stp_27 n_ (v_23, v_24) = some e_27) a w) F ?_ ?_
  ·refine on 23 1 ?_; exact fun a w S hK hE => ⟨0, ([] : List Int), none, 0, S, hK.wk, hE.sel [0, 1], hL⟩
  ·clear hL; rintro n_27 a w ⟨v_23, v_24, v_25_A, v_26_c, hJ⟩; refine hJ.go fun hL => ?_
   clear hJ; obtain ⟨m_27, o_27, rfl, hG, hO1_27, hO2_27⟩ := iter_step hL; clear hL; rw [hs_27] at hG
   try (simp only [un2, un3, un4, un5, un6, un7, un8, Sum.elim_inl, Sum.elim_inr, List.length_map, KProofL.n_Hops] at hG; replace hG : _ = _ := hG)
   refine sq ?_; refine rg ?_; refine ra [] f0 [(14, B (decide (v_23 < ((v_2.length : Nat) : Int))))] ?_; refine tN ?_; refine sq ?_; rcases ifB_cases hG with ⟨h_28, hG⟩ | ⟨h_28, hG⟩
   ·try simp only [List.length_map, KProofL.n_Hops] at h_28
    refine sb 14 (bt h_28) ?_; refine ct ?_; refine kS ?_; refine tN ?_; refine sq ?_; refine bk ?_; refine sq ?_; replace hG := bind_some hG; obtain ⟨v_29, hy_29, hG⟩ := hG; refine rg ?_; refine fx inf51 (gd' (RowC v_2_A v_2_c KEntry.cells tr v_2) 1) hy_29 fun b_30 o_31 hi_29 => ?_
    refine rn 2 [(0, 0, 0, 0), (0, 3, 0, 0)] (fc (hi_29 .i64) f0) [(16, .agg #[U v_29.Doc, I v_29.Stamp.Lo, I v_29.Stamp.Hi])] ?_; refine l1 ?_; refine nw 7 vp [U 0, I 0, I 0] 31 fun g_32 => ?_
    refine l1 ?_; refine sr 0 g_32 [(0, U v_29.Doc), (1, I v_29.Stamp.Lo), (2, I v_29.Stamp.Hi)] ?_; refine nl ?_; refine tN ?_; replace hG := bind_some hG; obtain ⟨v_33, hy_33, hG⟩ := hG; replace hG := bind_some hG; obtain ⟨v_35, hy_35, hG⟩ := hG; refine rg ?_; refine rn 2 [(1, 3, 0, 0)] f0 [(17, .slice v_25_A v_24.length v_26_c), (18, .agg #[U v_29.Doc, I v_29.Stamp.Lo, I v_29.Stamp.Hi])] ?_; refine l1 ?_; refine cl 19 (z_office_Leaf F v_29 _ hy_33) hT trivial ?_; refine l1 ?_; refine nw 20 (vs 1) [U v_33] 23 fun g_34 => ?_
    refine l1 ?_; refine ap 3 21 v_25_A v_26_c v_24 ([v_33] : List Int) inf32 (bA (f := c_u64) (ok := tr) (l := ([v_33] : List Int)) g_34 0 et.a) hy_35 one_u64 fun v_35_A v_35_c _ => ?_
    refine ra [] f0 [(5, .slice v_35_A v_35.length v_35_c)] ?_; refine hN ?_; refine tN ?_; refine rg ?_; refine ra [] f0 [(13, I (IntKind.i64.wrap (v_23 + 1)))] ?_; refine tN ?_; exact fun a w S hK hE => ⟨m_27, ⟨IntKind.i64.wrap (v_23 + 1), v_35, v_35_A, v_35_c, S, hK.wk, hE.sel [3, 4], hO1_27 _ (Option.some.inj hG).symm⟩, Nat.lt_succ_self _⟩
   ·try simp only [List.length_map, KProofL.n_Hops] at h_28
    refine sb 14 (bf h_28) ?_; refine cf ?_; refine kX ?_; refine tX ?_; refine tX ?_; have he_ := hO2_27 _ (Option.some.inj hG).symm; subst he_; replace hG := hG_27
    try (simp only [un2, un3, un4, un5, un6, un7, un8, Sum.elim_inl, Sum.elim_inr, List.length_map, KProofL.n_Hops] at hG; replace hG : _ = _ := hG)
    refine hH ?_; refine tN ?_; exact fun a w S hK hE => ⟨v_24, v_25_A, v_26_c, S, hK.wk, hE.sel [0], Option.some.inj hG⟩
 ·rintro a w ⟨v_40, v_41_A, v_42_c, hJ⟩; refine hJ.go fun ho_ => ?_
  clear hJ; subst ho_; replace hG := hG_39
  try (simp only [un2, un3, un4, un5, un6, un7, un8, Sum.elim_inl, Sum.elim_inr, List.length_map, KProofL.n_Hops] at hG; replace hG : _ = _ := hG)
  refine sq ?_; refine rg ?_; refine ra [] f0 [(4, .slice v_41_A v_40.length v_42_c)] ?_; refine tN ?_; refine kR ?_; obtain rfl := Option.some.inj hG; refine so (A := v_41_A) (c := v_42_c) 0 c_u64 tr v_40 tr_mv et ?_; exact rtn [] ⟨v_41_A, v_42_c, v_40⟩ rfl ⟨gi 0, trivial⟩
end Go.Proofs.YtggaodokkcoagaaGreatDoor
namespace Go.Proofs.YtggaodokkcoagaaGreatDoor
open Go.RowKit Go.Maps
end Go.Proofs.YtggaodokkcoagaaGreatDoor
namespace Go.Proofs.YtggaodokkcoagaaGreatDoor
open Go.RowKit Go.Maps
def G_office_Right (F : Nat) (p_0 : Int) (p_1 : KHead) : Option (Bool × Int) :=
 Option.bind (Option.bind (G_office_isPublic F p_0) (fun v_2 =>
  ifB (v_2)
   (Option.bind (G_office_formed F p_1) (fun v_4 =>
   some (!v_4)))
   (some true)) : Option (Bool)) (fun (v_6 : Bool) =>
  ifB (v_6)
   (some (false, 1))
   (Option.bind (G_office_message F p_1) (fun v_8 =>
   Option.bind (G_group_Verify F p_0 p_1.Sig v_8) (un2 fun v_9 v_10 =>
   some (v_9, v_10)))))
set_option maxRecDepth 100000 in
set_option maxHeartbeats 16000000 in
theorem z_office_Right (F : Nat) (p_0 : Int) (p_1 : KHead) (r : Bool × Int) (hG : G_office_Right F p_0 p_1 = some r) :
  Cf Tryz.prog 78 [I p_0, .agg #[I p_1.Office, I p_1.Size, U p_1.Root, I p_1.Sig.C, I p_1.Sig.S]] [] (.tuple #[B r.1, I r.2]) := by
 unfold G_office_Right at hG
 try (simp only [un2, un3, un4, un5, un6, un7, un8, Sum.elim_inl, Sum.elim_inr, List.length_map, KProofL.n_Hops] at hG; replace hG : _ = _ := hG)
 refine fi Tryz.func78 rfl rfl m0 fun S0 w0 hT => ?_
 refine sq ?_; refine rg ?_; refine l1 ?_; refine nw 3 vp [I p_1.Office, I p_1.Size, U p_1.Root, I p_1.Sig.C, I p_1.Sig.S] 27 fun g_1 => ?_
 refine ra [] f0 [] ?_; refine tN ?_; refine sq ?_; obtain ⟨o_5, hG, hG_5⟩ := bind_some hG; refine jn (fun K E a w => ∃ (v_6 : Bool), Js S0 w0 22 ([(13, B v_6)] ++ K) (se E [0]) (v_6 = o_5) a w) ?_ ?_
 ·replace hG := bind_some hG; obtain ⟨v_2, hy_2, hG⟩ := hG; replace hG := ifB_cases hG; rcases hG with ⟨h_3, hG⟩ | ⟨h_3, hG⟩
  ·replace hG := bind_some hG; obtain ⟨v_4, hy_4, hG⟩ := hG; refine rg ?_; refine rn 1 [] f0 [(6, I p_0)] ?_; refine l1 ?_; refine cl 7 (z_office_isPublic F p_0 _ hy_2) hT trivial ?_; refine rn 2 [] f0 [(9, B (!v_2))] ?_; refine sb 9 (nt h_3) ?_; refine rn 1 [(0, 5, 0, 0)] f0 [(10, .agg #[I p_1.Office, I p_1.Size, U p_1.Root, I p_1.Sig.C, I p_1.Sig.S])] ?_; refine l1 ?_; refine cl 11 (z_office_formed F p_1 _ hy_4) hT trivial ?_; refine ra [] f0 [(13, B (!v_4))] ?_; refine tN ?_; exact fun a w S hK hE => ⟨!v_4, S, hK.wk, hE.sel [0], Option.some.inj hG⟩
  ·refine rg ?_; refine rn 1 [] f0 [(6, I p_0)] ?_; refine l1 ?_; refine cl 7 (z_office_isPublic F p_0 _ hy_2) hT trivial ?_; refine rn 2 [] f0 [(9, B (!v_2))] ?_; refine sb 9 (nf h_3) ?_; refine ra [] f0 [(13, B true)] ?_; refine tN ?_; exact fun a w S hK hE => ⟨true, S, hK.wk, hE.sel [0], Option.some.inj hG⟩
 ·rintro a w ⟨v_6, hJ⟩; refine hJ.go fun ho_ => ?_
  clear hJ; subst ho_; replace hG := hG_5
  try (simp only [un2, un3, un4, un5, un6, un7, un8, Sum.elim_inl, Sum.elim_inr, List.length_map, KProofL.n_Hops] at hG; replace hG : _ = _ := hG)
  rcases ifB_cases hG with ⟨h_7, hG⟩ | ⟨h_7, hG⟩
  ·refine sb 13 (bt h_7) ?_; refine ct ?_; refine sq ?_; refine rg ?_; refine ra [] f0 [(4, B false), (5, I 1)] ?_; refine tN ?_; refine kR ?_; refine tR ?_; obtain rfl := Option.some.inj hG; exact rt []
  ·refine sb 13 (bf h_7) ?_; refine cf ?_; refine kS ?_; refine tN ?_; refine sq ?_; replace hG := bind_some hG; obtain ⟨v_8o, hy_8, hG⟩ := hG; replace hG := bind_some hG; obtain ⟨⟨v_9, v_10⟩, hy_9, hG⟩ := hG; refine hb [0] ?_; refine ht [0] [0, 1, 2, 3] [(2, 2, 0, 3), (0, 5, 0, 0)] f0 [(14, I p_0), (16, .agg #[I p_1.Sig.C, I p_1.Sig.S]), (17, .agg #[I p_1.Office, I p_1.Size, U p_1.Root, I p_1.Sig.C, I p_1.Sig.S])] ?_; refine ho [4] ⟨?_, trivial⟩; refine h1 ?_; refine cn 18 (z_office_message F p_1 _ hy_8) hT (fun _ => (mr tr_mv m0)) trivial ?_; rintro ⟨v_8_A, v_8_c, v_8⟩ hq_8; obtain rfl : v_8 = v_8o := hq_8.symm
   try (simp only [un2, un3, un4, un5, un6, un7, un8, Sum.elim_inl, Sum.elim_inr, List.length_map, KProofL.n_Hops] at hG; replace hG : _ = _ := hG)
   refine hk [1] ?_; refine ho [5] ⟨?_, trivial⟩; refine h1 ?_; refine cl 19 (z_group_Verify F p_0 p_1.Sig v_8_A v_8_c v_8 _ hy_9) hT ⟨ga 0, trivial⟩ ?_; refine hk [1] ?_; refine ht [1] [6, 7, 8, 9] [] f0 [(4, B v_9), (5, I v_10)] ?_; refine he ?_; refine tN ?_; refine kR ?_; obtain rfl := Option.some.inj hG; exact rt []
def G_office_Prove (F : Nat) (p_0 : KOffice) (p_1 : KHead) (p_2 : Int) : Option (KReceipt × Int) :=
  Option.bind (Option.bind (G_office_Valid F p_0) (fun v_4 =>
    ifB (v_4)
      (Option.bind (G_office_formed F p_1) (fun v_6 =>
      ifB (v_6)
        (ifB (decide (p_1.Size > ((p_0.Entries.length : Nat) : Int)))
          (some true)
          (Option.bind (G_office_between F p_2 0 (IntKind.i64.wrap (p_1.Size - 1))) (fun v_9 =>
          some (!v_9))))
        (some true)))
      (some true)) : Option (Bool)) (fun (v_11 : Bool) => 
    ifB (v_11)
      (some ((⟨(⟨0, 0, 0, (⟨0, 0⟩ : KSig)⟩ : KHead), 0, (⟨0, (⟨0, 0⟩ : KInterval)⟩ : KEntry), ([] : List Int)⟩ : KReceipt), 1))
      (Option.bind (G_office_root F p_0 p_1.Size) (un2 fun v_13 v_14 =>
      Option.bind (ifB ((v_14 == 0))
          (ifB ((p_1.Office == p_0.ID))
            (some (!(v_13 == p_1.Root)))
            (some true))
          (some true) : Option (Bool)) (fun (v_18 : Bool) => 
        ifB (v_18)
          (some ((⟨(⟨0, 0, 0, (⟨0, 0⟩ : KSig)⟩ : KHead), 0, (⟨0, (⟨0, 0⟩ : KInterval)⟩ : KEntry), ([] : List Int)⟩ : KReceipt), 33))
          (Option.bind (slI p_0.Entries 0 p_1.Size) (fun v_20 =>
          Option.bind (Option.bind (Option.bind (iter (σ := Int × (List Int)) (ρ := (List Int)) (un2 fun (v_41 : Int) (v_42 : (List Int)) => 
                  (ifB (decide (v_41 < ((v_20.length : Nat) : Int)))
                    (Option.bind (ixI v_20 v_41) (fun v_47 =>
                    Option.bind (G_office_Leaf F v_47) (fun v_51 =>
                    Option.bind (apG 8 v_42 ([v_51] : List Int)) (fun v_53 =>
                    some (.inl (IntKind.i64.wrap (v_41 + 1), v_53))))))
                    (some (.inr v_42)) : Option ((Int × (List Int)) ⊕ (List Int)))) F (0, ([] : List Int))) (fun (v_54 : (List Int)) => 
                some v_54) : Option ((List Int))) (fun (v_58 : (List Int)) => 
              some v_58) : Option ((List Int))) (fun (v_61 : (List Int)) => 
            Option.bind (G_tree_Include F v_61 p_2) (un2 fun v_65 v_66 =>
            ifB ((v_66 == 0))
              (Option.bind (ixI p_0.Entries p_2) (fun v_108 =>
              some ((⟨p_1, p_2, v_108, v_65⟩ : KReceipt), 0)))
              (some ((⟨(⟨0, 0, 0, (⟨0, 0⟩ : KSig)⟩ : KHead), 0, (⟨0, (⟨0, 0⟩ : KInterval)⟩ : KEntry), ([] : List Int)⟩ : KReceipt), v_66))))))))))
set_option maxRecDepth 100000 in
set_option maxHeartbeats 16000000 in
theorem z_office_Prove (F : Nat) (p_0 : KOfficeL) (p_1 : KHead) (p_2 : Int) (r : KReceipt × Int) (hG : G_office_Prove F p_0.p p_1 p_2 = some r) :
  Cn Tryz.prog 24 [.agg #[I p_0.ID, .slice p_0.Entries_A p_0.Entries.length p_0.Entries_c], .agg #[I p_1.Office, I p_1.Size, U p_1.Root, I p_1.Sig.C, I p_1.Sig.S], I p_2] [KOfficeL.ok p_0] (fun q : KReceiptL => r.1 = q.p) (fun q => .tuple #[.agg #[I q.Head.Office, I q.Head.Size, U q.Head.Root, I q.Head.Sig.C, I q.Head.Sig.S, I q.Index, U q.Entry.Doc, I q.Entry.Stamp.Lo, I q.Entry.Stamp.Hi, .slice q.Path_A q.Path.length q.Path_c], I r.2]) (fun q => [KReceiptL.ok q]) := by
 unfold G_office_Prove at hG
 try (simp only [un2, un3, un4, un5, un6, un7, un8, Sum.elim_inl, Sum.elim_inr, List.length_map, KProofL.n_Hops] at hG; replace hG : _ = _ := hG)
 refine fin Tryz.func24 rfl rfl (mc KOfficeL.mv m0) fun S0 w0 hT => ?_
 refine sq ?_; refine rg ?_; refine l1 ?_; refine nw 3 vp [I p_0.ID, .slice p_0.Entries_A p_0.Entries.length p_0.Entries_c] 53 fun g_1 => ?_
 refine l1 ?_; refine nw 4 vp [I p_1.Office, I p_1.Size, U p_1.Root, I p_1.Sig.C, I p_1.Sig.S] 27 fun g_2 => ?_
 refine l1 ?_; refine nw 6 vp [I 0, I 0, U 0, I 0, I 0, I 0, U 0, I 0, I 0, .slice none 0 0] 34 fun g_3 => ?_
 refine ra [] f0 [] ?_; refine tN ?_; refine sq ?_; obtain ⟨o_10, hG, hG_10⟩ := bind_some hG; refine jn (fun K E a w => ∃ (v_11 : Bool), Js S0 w0 84 ([(35, B v_11)] ++ K) ([.dat (RowC p_0.Entries_A p_0.Entries_c KEntry.cells tr p_0.Entries)] ++ se E [0, 1, 2]) (v_11 = o_10) a w) ?_ ?_
 ·replace hG := bind_some hG; obtain ⟨v_4, hy_4, hG⟩ := hG; replace hG := ifB_cases hG; rcases hG with ⟨h_5, hG⟩ | ⟨h_5, hG⟩
  ·replace hG := bind_some hG; obtain ⟨v_6, hy_6, hG⟩ := hG; replace hG := ifB_cases hG; rcases hG with ⟨h_7, hG⟩ | ⟨h_7, hG⟩
   ·replace hG := ifB_cases hG; rcases hG with ⟨h_8, hG⟩ | ⟨h_8, hG⟩
    ·refine rg ?_; refine rn 1 [(0, 2, 2, 0)] f0 [(12, .agg #[I p_0.ID, .slice p_0.Entries_A p_0.Entries.length p_0.Entries_c])] ?_; refine l1 ?_; refine cl 13 (z_office_Valid F p_0 _ hy_4) hT ⟨(gi 3).a, trivial⟩ ?_; refine rn 2 [] f0 [(15, B (!v_4))] ?_; refine sb 15 (nt h_5) ?_; refine rn 1 [(0, 5, 1, 0)] f0 [(16, .agg #[I p_1.Office, I p_1.Size, U p_1.Root, I p_1.Sig.C, I p_1.Sig.S])] ?_; refine l1 ?_; refine cl 17 (z_office_formed F p_1 _ hy_6) hT trivial ?_; refine rn 3 [] f0 [(20, B (!v_6))] ?_; refine sb 20 (nt h_7) ?_; refine rn 8 [(1, 1, 1, 1), (1, 1, 2, 1)] f0 [(28, B (decide (p_1.Size > ((p_0.Entries.length : Nat) : Int))))] ?_
     try simp only [List.length_map, KProofL.n_Hops] at h_8
     refine sb 28 (bt h_8) ?_; refine ra [] f0 [(35, B true)] ?_; refine tN ?_; refine fm (RowC p_0.Entries_A p_0.Entries_c KEntry.cells tr p_0.Entries) (gm (KOfficeL.ok p_0) 3 fun _ _ h => h.f_Entries) ?_; exact fun a w S hK hE => ⟨true, S, hK.wk, hE.sel [0, 1, 2, 3], Option.some.inj hG⟩
    ·replace hG := bind_some hG; obtain ⟨v_9, hy_9, hG⟩ := hG; refine rg ?_; refine rn 1 [(0, 2, 2, 0)] f0 [(12, .agg #[I p_0.ID, .slice p_0.Entries_A p_0.Entries.length p_0.Entries_c])] ?_; refine l1 ?_; refine cl 13 (z_office_Valid F p_0 _ hy_4) hT ⟨(gi 3).a, trivial⟩ ?_; refine rn 2 [] f0 [(15, B (!v_4))] ?_; refine sb 15 (nt h_5) ?_; refine rn 1 [(0, 5, 1, 0)] f0 [(16, .agg #[I p_1.Office, I p_1.Size, U p_1.Root, I p_1.Sig.C, I p_1.Sig.S])] ?_; refine l1 ?_; refine cl 17 (z_office_formed F p_1 _ hy_6) hT trivial ?_; refine rn 3 [] f0 [(20, B (!v_6))] ?_; refine sb 20 (nt h_7) ?_; refine rn 8 [(1, 1, 1, 1), (1, 1, 2, 1)] f0 [(28, B (decide (p_1.Size > ((p_0.Entries.length : Nat) : Int))))] ?_
     try simp only [List.length_map, KProofL.n_Hops] at h_8
     refine sb 28 (bf h_8) ?_; refine rn 4 [(2, 1, 1, 1)] f0 [(29, I p_2), (32, I (IntKind.i64.wrap (p_1.Size - 1)))] ?_; refine l1 ?_; refine cl 33 (z_office_between F p_2 0 (IntKind.i64.wrap (p_1.Size - 1)) _ hy_9) hT trivial ?_; refine ra [] f0 [(35, B (!v_9))] ?_; refine tN ?_; refine fm (RowC p_0.Entries_A p_0.Entries_c KEntry.cells tr p_0.Entries) (gm (KOfficeL.ok p_0) 3 fun _ _ h => h.f_Entries) ?_; exact fun a w S hK hE => ⟨!v_9, S, hK.wk, hE.sel [0, 1, 2, 3], Option.some.inj hG⟩
   ·refine rg ?_; refine rn 1 [(0, 2, 2, 0)] f0 [(12, .agg #[I p_0.ID, .slice p_0.Entries_A p_0.Entries.length p_0.Entries_c])] ?_; refine l1 ?_; refine cl 13 (z_office_Valid F p_0 _ hy_4) hT ⟨(gi 3).a, trivial⟩ ?_; refine rn 2 [] f0 [(15, B (!v_4))] ?_; refine sb 15 (nt h_5) ?_; refine rn 1 [(0, 5, 1, 0)] f0 [(16, .agg #[I p_1.Office, I p_1.Size, U p_1.Root, I p_1.Sig.C, I p_1.Sig.S])] ?_; refine l1 ?_; refine cl 17 (z_office_formed F p_1 _ hy_6) hT trivial ?_; refine rn 3 [] f0 [(20, B (!v_6))] ?_; refine sb 20 (nf h_7) ?_; refine ra [] f0 [(35, B true)] ?_; refine tN ?_; refine fm (RowC p_0.Entries_A p_0.Entries_c KEntry.cells tr p_0.Entries) (gm (KOfficeL.ok p_0) 3 fun _ _ h => h.f_Entries) ?_; exact fun a w S hK hE => ⟨true, S, hK.wk, hE.sel [0, 1, 2, 3], Option.some.inj hG⟩
  ·refine rg ?_; refine rn 1 [(0, 2, 2, 0)] f0 [(12, .agg #[I p_0.ID, .slice p_0.Entries_A p_0.Entries.length p_0.Entries_c])] ?_; refine l1 ?_; refine cl 13 (z_office_Valid F p_0 _ hy_4) hT ⟨(gi 3).a, trivial⟩ ?_; refine rn 2 [] f0 [(15, B (!v_4))] ?_; refine sb 15 (nf h_5) ?_; refine ra [] f0 [(35, B true)] ?_; refine tN ?_; refine fm (RowC p_0.Entries_A p_0.Entries_c KEntry.cells tr p_0.Entries) (gm (KOfficeL.ok p_0) 3 fun _ _ h => h.f_Entries) ?_; exact fun a w S hK hE => ⟨true, S, hK.wk, hE.sel [0, 1, 2, 3], Option.some.inj hG⟩
 ·rintro a w ⟨v_11, hJ⟩; refine hJ.go fun ho_ => ?_
  clear hJ; subst ho_; replace hG := hG_10
  try (simp only [un2, un3, un4, un5, un6, un7, un8, Sum.elim_inl, Sum.elim_inr, List.length_map, KProofL.n_Hops] at hG; replace hG : _ = _ := hG)
  rcases ifB_cases hG with ⟨h_12, hG⟩ | ⟨h_12, hG⟩
  ·refine sb 35 (bt h_12) ?_; refine ct ?_; refine sq ?_; refine rg ?_; refine rn 1 [] f0 [(36, .agg #[I 0, I 0, U 0, I 0, I 0, I 0, U 0, I 0, I 0, .slice none 0 0])] ?_; refine l1 ?_; refine sr 1 g_3 [(0, I 0), (1, I 0), (2, U 0), (3, I 0), (4, I 0), (5, I 0), (6, U 0), (7, I 0), (8, I 0), (9, .slice none 0 0)] ?_; refine ra [] f0 [(7, I 1)] ?_; refine tN ?_; refine kR ?_; refine tR ?_; obtain rfl := Option.some.inj hG; exact rtn [(1, 0, 10)] (⟨(⟨0, 0, 0, (⟨0, 0⟩ : KSig)⟩ : KHead), 0, (⟨0, (⟨0, 0⟩ : KInterval)⟩ : KEntry), none, 0, ([] : List Int)⟩ : KReceiptL) rfl ⟨(((gn : Fd _ (RowC none 0 c_u64 tr ([] : List Int)))).m fun _ _ h => ⟨h⟩), trivial⟩
  ·refine sb 35 (bf h_12) ?_; refine cf ?_; refine kS ?_; refine tN ?_; refine sq ?_; refine sq ?_; replace hG := bind_some hG; obtain ⟨⟨v_13, v_14⟩, hy_13, hG⟩ := hG; refine rg ?_; refine rn 3 [(0, 2, 3, 0), (1, 1, 2, 1)] f0 [(38, .agg #[I p_0.ID, .slice p_0.Entries_A p_0.Entries.length p_0.Entries_c]), (40, I p_1.Size)] ?_; refine l1 ?_; refine cl 41 (z_office_root F p_0 p_1.Size _ hy_13) hT ⟨(((gd' (RowC p_0.Entries_A p_0.Entries_c KEntry.cells tr p_0.Entries) 0)).m fun _ _ h => ⟨h⟩).a, trivial⟩ ?_; refine ra [] f0 [(8, U v_13), (9, I v_14)] ?_; refine tN ?_; obtain ⟨o_17, hG, hG_17⟩ := bind_some hG; refine jn (fun K E a w => ∃ (v_18 : Bool), Js S0 w0 84 ([(58, B v_18)] ++ K) (se E [0, 1, 2, 3]) (v_18 = o_17) a w) ?_ ?_
   ·replace hG := ifB_cases hG; rcases hG with ⟨h_15, hG⟩ | ⟨h_15, hG⟩
    ·replace hG := ifB_cases hG; rcases hG with ⟨h_16, hG⟩ | ⟨h_16, hG⟩
     ·refine rg ?_; refine rn 3 [] f0 [(46, B (!(v_14 == 0)))] ?_; refine sb 46 (nt h_15) ?_; refine rn 7 [(1, 1, 2, 0), (1, 1, 3, 0)] f0 [(53, B (!(p_1.Office == p_0.ID)))] ?_; refine sb 53 (nt h_16) ?_; refine ra [(2, 1, 2, 2)] f0 [(58, B (!(v_13 == p_1.Root)))] ?_; refine tN ?_; exact fun a w S hK hE => ⟨!(v_13 == p_1.Root), S, hK.wk, hE.sel [0, 1, 2, 3], Option.some.inj hG⟩
     ·refine rg ?_; refine rn 3 [] f0 [(46, B (!(v_14 == 0)))] ?_; refine sb 46 (nt h_15) ?_; refine rn 7 [(1, 1, 2, 0), (1, 1, 3, 0)] f0 [(53, B (!(p_1.Office == p_0.ID)))] ?_; refine sb 53 (nf h_16) ?_; refine ra [] f0 [(58, B true)] ?_; refine tN ?_; exact fun a w S hK hE => ⟨true, S, hK.wk, hE.sel [0, 1, 2, 3], Option.some.inj hG⟩
    ·refine rg ?_; refine rn 3 [] f0 [(46, B (!(v_14 == 0)))] ?_; refine sb 46 (nf h_15) ?_; refine ra [] f0 [(58, B true)] ?_; refine tN ?_; exact fun a w S hK hE => ⟨true, S, hK.wk, hE.sel [0, 1, 2, 3], Option.some.inj hG⟩
   ·rintro a w ⟨v_18, hJ⟩; refine hJ.go fun ho_ => ?_
    clear hJ; subst ho_; replace hG := hG_17
    try (simp only [un2, un3, un4, un5, un6, un7, un8, Sum.elim_inl, Sum.elim_inr, List.length_map, KProofL.n_Hops] at hG; replace hG : _ = _ := hG)
    rcases ifB_cases hG with ⟨h_19, hG⟩ | ⟨h_19, hG⟩
    ·refine sb 58 (bt h_19) ?_; refine ct ?_; refine sq ?_; refine rg ?_; refine rn 1 [] f0 [(59, .agg #[I 0, I 0, U 0, I 0, I 0, I 0, U 0, I 0, I 0, .slice none 0 0])] ?_; refine l1 ?_; refine sr 1 g_3 [(0, I 0), (1, I 0), (2, U 0), (3, I 0), (4, I 0), (5, I 0), (6, U 0), (7, I 0), (8, I 0), (9, .slice none 0 0)] ?_; refine ra [] f0 [(7, I 33)] ?_; refine tN ?_; refine kR ?_; refine tR ?_; obtain rfl := Option.some.inj hG; exact rtn [(1, 0, 10)] (⟨(⟨0, 0, 0, (⟨0, 0⟩ : KSig)⟩ : KHead), 0, (⟨0, (⟨0, 0⟩ : KInterval)⟩ : KEntry), none, 0, ([] : List Int)⟩ : KReceiptL) rfl ⟨(((gn : Fd _ (RowC none 0 c_u64 tr ([] : List Int)))).m fun _ _ h => ⟨h⟩), trivial⟩
    ·refine sb 58 (bf h_19) ?_; refine cf ?_; refine kS ?_; refine tN ?_; refine sq ?_; replace hG := bind_some hG; obtain ⟨v_20, hy_20, hG⟩ := hG; replace hG := bind_some hG; obtain ⟨v_61o, hy_64, hG⟩ := hG; replace hG := bind_some hG; obtain ⟨⟨v_65o, v_66⟩, hy_65, hG⟩ := hG; refine rg ?_; refine fp false true inf51 (gd' (RowC p_0.Entries_A p_0.Entries_c KEntry.cells tr p_0.Entries) 0) hy_20 fun v_20_A v_20_c hp_20 => ?_
     refine rn 5 [(1, 1, 4, 1), (1, 1, 3, 1), (0, 0, 0, 0)] (fc (hp_20 .i64 .i64) f0) [(65, .slice v_20_A v_20.length v_20_c)] ?_; refine l1 ?_; refine ci 66 (args := [.slice v_20_A v_20.length v_20_c, .func (.func 66) #[] #[]]) (fun E e w => ∃ (v_61 : List Int), ∃ (v_62_A : Option Addr), ∃ (v_63_c : Nat), Rs S0 w0 (.slice v_62_A v_61.length v_63_c) ([.own 23 1 (.slice v_62_A v_61.length v_63_c) v_61.length (v_61.flatMap c_u64)] ++ se E [0, 1, 2, 3, 4]) (v_61 = v_61o) e w) Tryz.func65 rfl rfl ?_ ?_
     ·replace hG := hy_64
      try (simp only [un2, un3, un4, un5, un6, un7, un8, Sum.elim_inl, Sum.elim_inr, List.length_map, KProofL.n_Hops] at hG; replace hG : _ = _ := hG)
      refine sq ?_; refine rg ?_; refine ra [] f0 [] ?_; refine tN ?_; refine sq ?_; refine rg ?_; refine ra [] f0 [(5, .slice none 0 0)] ?_; refine tN ?_; obtain ⟨o_103, hG, hG_103⟩ := bind_some hG; refine jn (fun K E a w => ∃ (v_104 : List Int), ∃ (v_105_A : Option Addr), ∃ (v_106_c : Nat), Js S0 w0 22 ([(5, .slice v_105_A v_104.length v_106_c)] ++ K) ([.own 23 1 (.slice v_105_A v_104.length v_106_c) v_104.length (v_104.flatMap c_u64)] ++ se E [0, 1, 2, 3, 4]) (v_104 = o_103) a w) ?_ ?_
      ·refine sq ?_; refine rg ?_; refine ra [] f0 [(8, .slice v_20_A v_20.length v_20_c), (9, I ((v_20.length : Nat) : Int)), (10, I 0)] ?_; refine tN ?_; refine bk ?_; obtain ⟨e_91, hL, hG_91⟩ := bind_some hG; clear hG; obtain ⟨stp_91, hs_91, hL⟩ := iter_gen hL; refine lp (fun K E n_ a w => ∃ (v_87 : Int), ∃ (v_88 : List Int), ∃ (v_89_A : Option Addr), ∃ (v_90_c : Nat), Js S0 w0 22 ([(5, .slice v_89_A v_88.length v_90_c), (10, I v_87)] ++ K) ([.own 23 1 (.slice v_89_A v_88.length v_90_c) v_88.length (v_88.flatMap c_u64)] ++ se E [0, 1, 2, 3, 4]) (iter stp_91 n_ (v_87, v_88) = some e_91) a w) F ?_ ?_
       ·refine on 23 1 ?_; exact fun a w S hK hE => ⟨0, ([] : List Int), none, 0, S, hK.wk, hE.sel [0, 1, 2, 3, 4, 5], hL⟩
       ·clear hL; rintro n_91 a w ⟨v_87, v_88, v_89_A, v_90_c, hJ⟩; refine hJ.go fun hL => ?_
        clear hJ; obtain ⟨m_91, o_91, rfl, hG, hO1_91, hO2_91⟩ := iter_step hL; clear hL; rw [hs_91] at hG
        try (simp only [un2, un3, un4, un5, un6, un7, un8, Sum.elim_inl, Sum.elim_inr, List.length_map, KProofL.n_Hops] at hG; replace hG : _ = _ := hG)
        refine sq ?_; refine rg ?_; refine ra [] f0 [(11, B (decide (v_87 < ((v_20.length : Nat) : Int))))] ?_; refine tN ?_; refine sq ?_; rcases ifB_cases hG with ⟨h_92, hG⟩ | ⟨h_92, hG⟩
        ·try simp only [List.length_map, KProofL.n_Hops] at h_92
         refine sb 11 (bt h_92) ?_; refine ct ?_; refine kS ?_; refine tN ?_; refine sq ?_; refine bk ?_; refine sq ?_; replace hG := bind_some hG; obtain ⟨v_93, hy_93, hG⟩ := hG; refine rg ?_; refine fx inf51 (gd' (RowC v_20_A v_20_c KEntry.cells tr v_20) 1) hy_93 fun b_94 o_95 hi_93 => ?_
         refine rn 2 [(0, 0, 0, 0), (0, 3, 0, 0)] (fc (hi_93 .i64) f0) [(13, .agg #[U v_93.Doc, I v_93.Stamp.Lo, I v_93.Stamp.Hi])] ?_; refine l1 ?_; refine nw 7 vp [U 0, I 0, I 0] 31 fun g_96 => ?_
         refine l1 ?_; refine sr 0 g_96 [(0, U v_93.Doc), (1, I v_93.Stamp.Lo), (2, I v_93.Stamp.Hi)] ?_; refine nl ?_; refine tN ?_; replace hG := bind_some hG; obtain ⟨v_97, hy_97, hG⟩ := hG; replace hG := bind_some hG; obtain ⟨v_99, hy_99, hG⟩ := hG; refine rg ?_; refine rn 3 [(2, 3, 0, 0)] f0 [(14, .slice v_89_A v_88.length v_90_c), (15, .func (.func 66) #[] #[]), (16, .agg #[U v_93.Doc, I v_93.Stamp.Lo, I v_93.Stamp.Hi])] ?_; refine l1 ?_; refine cl 17 (z_office_Leaf F v_93 _ hy_97) hT trivial ?_; refine l1 ?_; refine nw 18 (vs 1) [U v_97] 23 fun g_98 => ?_
         refine l1 ?_; refine ap 3 19 v_89_A v_90_c v_88 ([v_97] : List Int) inf32 (bA (f := c_u64) (ok := tr) (l := ([v_97] : List Int)) g_98 0 et.a) hy_99 one_u64 fun v_99_A v_99_c _ => ?_
         refine ra [] f0 [(5, .slice v_99_A v_99.length v_99_c)] ?_; refine hN ?_; refine tN ?_; refine rg ?_; refine ra [] f0 [(10, I (IntKind.i64.wrap (v_87 + 1)))] ?_; refine tN ?_; exact fun a w S hK hE => ⟨m_91, ⟨IntKind.i64.wrap (v_87 + 1), v_99, v_99_A, v_99_c, S, hK.wk, hE.sel [3, 4, 5, 6, 7, 8], hO1_91 _ (Option.some.inj hG).symm⟩, Nat.lt_succ_self _⟩
        ·try simp only [List.length_map, KProofL.n_Hops] at h_92
         refine sb 11 (bf h_92) ?_; refine cf ?_; refine kX ?_; refine tX ?_; refine tX ?_; have he_ := hO2_91 _ (Option.some.inj hG).symm; subst he_; replace hG := hG_91
         try (simp only [un2, un3, un4, un5, un6, un7, un8, Sum.elim_inl, Sum.elim_inr, List.length_map, KProofL.n_Hops] at hG; replace hG : _ = _ := hG)
         refine hH ?_; refine tN ?_; exact fun a w S hK hE => ⟨v_88, v_89_A, v_90_c, S, hK.wk, hE.sel [0, 1, 2, 3, 4, 5], Option.some.inj hG⟩
      ·rintro a w ⟨v_104, v_105_A, v_106_c, hJ⟩; refine hJ.go fun ho_ => ?_
       clear hJ; subst ho_; replace hG := hG_103
       try (simp only [un2, un3, un4, un5, un6, un7, un8, Sum.elim_inl, Sum.elim_inr, List.length_map, KProofL.n_Hops] at hG; replace hG : _ = _ := hG)
       refine sq ?_; refine rg ?_; refine ra [] f0 [(4, .slice v_105_A v_104.length v_106_c)] ?_; refine tN ?_; refine kR ?_; refine ri [] (.slice v_105_A v_104.length v_106_c) ?_; exact fun a w S hK hE => ⟨v_104, v_105_A, v_106_c, rfl, ⟨S, hE.sel [0, 1, 2, 3, 4, 5]⟩, Option.some.inj hG⟩
     ·rintro e w ⟨v_61, v_62_A, v_63_c, hJ⟩; refine hJ.go fun ho_ => ?_
      clear hJ; subst ho_
      try (simp only [un2, un3, un4, un5, un6, un7, un8, Sum.elim_inl, Sum.elim_inr, List.length_map, KProofL.n_Hops] at hG; replace hG : _ = _ := hG)
      refine rn 1 [] f0 [(67, I p_2)] ?_; refine so (A := v_62_A) (c := v_63_c) 0 c_u64 tr v_61 tr_mv et ?_; refine l1 ?_; refine cn 68 (z_tree_Include F v_62_A v_63_c v_61 p_2 _ hy_65) hT (fun _ => (mr tr_mv m0)) ⟨gi 0, trivial⟩ ?_; rintro ⟨v_65_A, v_65_c, v_65⟩ hq_65; obtain rfl : v_65 = v_65o := hq_65.symm
      try (simp only [un2, un3, un4, un5, un6, un7, un8, Sum.elim_inl, Sum.elim_inr, List.length_map, KProofL.n_Hops] at hG; replace hG : _ = _ := hG)
      refine ra [] f0 [(10, .slice v_65_A v_65.length v_65_c), (11, I v_66)] ?_; refine tN ?_; refine sq ?_; refine sq ?_; refine rg ?_; refine ra [] f0 [(72, B (!(v_66 == 0)))] ?_; refine tN ?_; rcases ifB_cases hG with ⟨h_107, hG⟩ | ⟨h_107, hG⟩
      ·refine sb 72 (nt h_107) ?_; refine cf ?_; refine kS ?_; refine tN ?_; refine sq ?_; replace hG := bind_some hG; obtain ⟨v_108, hy_108, hG⟩ := hG; refine fx inf51 (gd' (RowC p_0.Entries_A p_0.Entries_c KEntry.cells tr p_0.Entries) 3) hy_108 fun b_109 o_110 hi_108 => ?_
       refine hb [0, 1, 2, 3, 4, 6, 7] ?_; refine ht [0, 1, 2, 3, 4, 6, 7] [0, 1, 2, 3, 4, 5, 6, 7, 8] [(0, 5, 5, 0), (2, 1, 6, 1), (1, 0, 0, 0), (0, 3, 0, 0)] (fc (hi_108 .i64) f0) [(83, .agg #[I p_1.Office, I p_1.Size, U p_1.Root, I p_1.Sig.C, I p_1.Sig.S, I p_2, U v_108.Doc, I v_108.Stamp.Lo, I v_108.Stamp.Hi, .slice v_65_A v_65.length v_65_c])] ?_; refine ho [9] ⟨?_, trivial⟩; refine h1 ?_; refine sr 5 g_3 [(0, I p_1.Office), (1, I p_1.Size), (2, U p_1.Root), (3, I p_1.Sig.C), (4, I p_1.Sig.S), (5, I p_2), (6, U v_108.Doc), (7, I v_108.Stamp.Lo), (8, I v_108.Stamp.Hi), (9, .slice v_65_A v_65.length v_65_c)] ?_; refine hk [0, 1, 2, 3, 4, 6, 7] ?_; refine ht [0, 1, 2, 3, 4, 6, 7] [10] [] f0 [(7, I 0)] ?_; refine he ?_; refine tN ?_; refine kR ?_; obtain rfl := Option.some.inj hG; exact rtn [(5, 0, 10)] (⟨p_1, p_2, v_108, v_65_A, v_65_c, v_65⟩ : KReceiptL) rfl ⟨(((gd' (RowC v_65_A v_65_c c_u64 tr v_65) 1)).m fun _ _ h => ⟨h⟩), trivial⟩
      ·refine sb 72 (nf h_107) ?_; refine ct ?_; refine sq ?_; refine rg ?_; refine rn 2 [] f0 [(73, .agg #[I 0, I 0, U 0, I 0, I 0, I 0, U 0, I 0, I 0, .slice none 0 0]), (74, I v_66)] ?_; refine l1 ?_; refine sr 4 g_3 [(0, I 0), (1, I 0), (2, U 0), (3, I 0), (4, I 0), (5, I 0), (6, U 0), (7, I 0), (8, I 0), (9, .slice none 0 0)] ?_; refine ra [] f0 [(7, I v_66)] ?_; refine tN ?_; refine kR ?_; refine tR ?_; obtain rfl := Option.some.inj hG; exact rtn [(4, 0, 10)] (⟨(⟨0, 0, 0, (⟨0, 0⟩ : KSig)⟩ : KHead), 0, (⟨0, (⟨0, 0⟩ : KInterval)⟩ : KEntry), none, 0, ([] : List Int)⟩ : KReceiptL) rfl ⟨(((gn : Fd _ (RowC none 0 c_u64 tr ([] : List Int)))).m fun _ _ h => ⟨h⟩), trivial⟩
def G_cross_has (F : Nat) (p_0 : KOffice) (p_1 : KHead) : Option (Bool) :=
  Option.bind (ifB ((p_1.Office == p_0.ID))
      (some (decide (p_1.Size > ((p_0.Entries.length : Nat) : Int))))
      (some true) : Option (Bool)) (fun (v_5 : Bool) => 
    ifB (v_5)
      (some false)
      (Option.bind (G_cross_values F p_0 p_1.Size) (fun v_7 =>
      Option.bind (G_tree_Root F v_7) (un2 fun v_8 v_9 =>
      Option.bind (ifB ((v_9 == 0))
          (some (v_8 == p_1.Root))
          (some false) : Option (Bool)) (fun (v_12 : Bool) => 
        some v_12)))))
set_option maxRecDepth 100000 in
set_option maxHeartbeats 16000000 in
theorem z_cross_has (F : Nat) (p_0 : KOfficeL) (p_1 : KHead) (r : Bool) (hG : G_cross_has F p_0.p p_1 = some r) :
  Cf Tryz.prog 103 [.agg #[I p_0.ID, .slice p_0.Entries_A p_0.Entries.length p_0.Entries_c], .agg #[I p_1.Office, I p_1.Size, U p_1.Root, I p_1.Sig.C, I p_1.Sig.S]] [KOfficeL.ok p_0] (B r) := by
 unfold G_cross_has at hG
 try (simp only [un2, un3, un4, un5, un6, un7, un8, Sum.elim_inl, Sum.elim_inr, List.length_map, KProofL.n_Hops] at hG; replace hG : _ = _ := hG)
 refine fi Tryz.func103 rfl rfl (mc KOfficeL.mv m0) fun S0 w0 hT => ?_
 refine sq ?_; refine rg ?_; refine l1 ?_; refine nw 2 vp [I p_0.ID, .slice p_0.Entries_A p_0.Entries.length p_0.Entries_c] 53 fun g_1 => ?_
 refine l1 ?_; refine nw 3 vp [I p_1.Office, I p_1.Size, U p_1.Root, I p_1.Sig.C, I p_1.Sig.S] 27 fun g_2 => ?_
 refine ra [] f0 [] ?_; refine tN ?_; refine sq ?_; obtain ⟨o_4, hG, hG_4⟩ := bind_some hG; refine jn (fun K E a w => ∃ (v_5 : Bool), Js S0 w0 36 ([(19, B v_5)] ++ K) ([.dat (RowC p_0.Entries_A p_0.Entries_c KEntry.cells tr p_0.Entries)] ++ se E [0, 1]) (v_5 = o_4) a w) ?_ ?_
 ·replace hG := ifB_cases hG; rcases hG with ⟨h_3, hG⟩ | ⟨h_3, hG⟩
  ·refine rg ?_; refine rn 6 [(1, 1, 0, 0), (1, 1, 1, 0)] f0 [(12, B (!(p_1.Office == p_0.ID)))] ?_; refine sb 12 (nt h_3) ?_; refine ra [(1, 1, 0, 1), (1, 1, 1, 1)] f0 [(19, B (decide (p_1.Size > ((p_0.Entries.length : Nat) : Int))))] ?_; refine tN ?_; refine fm (RowC p_0.Entries_A p_0.Entries_c KEntry.cells tr p_0.Entries) (gm (KOfficeL.ok p_0) 2 fun _ _ h => h.f_Entries) ?_; exact fun a w S hK hE => ⟨decide (p_1.Size > ((p_0.Entries.length : Nat) : Int)), S, hK.wk, hE.sel [0, 1, 2], Option.some.inj hG⟩
  ·refine rg ?_; refine rn 6 [(1, 1, 0, 0), (1, 1, 1, 0)] f0 [(12, B (!(p_1.Office == p_0.ID)))] ?_; refine sb 12 (nf h_3) ?_; refine ra [] f0 [(19, B true)] ?_; refine tN ?_; refine fm (RowC p_0.Entries_A p_0.Entries_c KEntry.cells tr p_0.Entries) (gm (KOfficeL.ok p_0) 2 fun _ _ h => h.f_Entries) ?_; exact fun a w S hK hE => ⟨true, S, hK.wk, hE.sel [0, 1, 2], Option.some.inj hG⟩
 ·rintro a w ⟨v_5, hJ⟩; refine hJ.go fun ho_ => ?_
  clear hJ; subst ho_; replace hG := hG_4
  try (simp only [un2, un3, un4, un5, un6, un7, un8, Sum.elim_inl, Sum.elim_inr, List.length_map, KProofL.n_Hops] at hG; replace hG : _ = _ := hG)
  rcases ifB_cases hG with ⟨h_6, hG⟩ | ⟨h_6, hG⟩
  ·refine sb 19 (bt h_6) ?_; refine ct ?_; refine sq ?_; refine rg ?_; refine ra [] f0 [(4, B false)] ?_; refine tN ?_; refine kR ?_; refine tR ?_; obtain rfl := Option.some.inj hG; exact rt []
  ·refine sb 19 (bf h_6) ?_; refine cf ?_; refine kS ?_; refine tN ?_; refine sq ?_; replace hG := bind_some hG; obtain ⟨v_7o, hy_7, hG⟩ := hG; replace hG := bind_some hG; obtain ⟨⟨v_8, v_9⟩, hy_8, hG⟩ := hG; refine rg ?_; refine rn 3 [(0, 2, 2, 0), (1, 1, 1, 1)] f0 [(21, .agg #[I p_0.ID, .slice p_0.Entries_A p_0.Entries.length p_0.Entries_c]), (23, I p_1.Size)] ?_; refine l1 ?_; refine cn 24 (z_cross_values F p_0 p_1.Size _ hy_7) hT (fun _ => (mr tr_mv m0)) ⟨(((gd' (RowC p_0.Entries_A p_0.Entries_c KEntry.cells tr p_0.Entries) 0)).m fun _ _ h => ⟨h⟩), trivial⟩ ?_; rintro ⟨v_7_A, v_7_c, v_7⟩ hq_7; obtain rfl : v_7 = v_7o := hq_7.symm
   try (simp only [un2, un3, un4, un5, un6, un7, un8, Sum.elim_inl, Sum.elim_inr, List.length_map, KProofL.n_Hops] at hG; replace hG : _ = _ := hG)
   refine l1 ?_; refine cl 25 (z_tree_Root F v_7_A v_7_c v_7 _ hy_8) hT ⟨ga 0, trivial⟩ ?_; refine ra [] f0 [(5, U v_8), (6, I v_9)] ?_; refine tN ?_; obtain ⟨o_11, hG, hG_11⟩ := bind_some hG; refine jn (fun K E a w => ∃ (v_12 : Bool), Js S0 w0 36 ([(4, B v_12)] ++ K) (se E []) (v_12 = o_11) a w) ?_ ?_
   ·replace hG := ifB_cases hG; rcases hG with ⟨h_10, hG⟩ | ⟨h_10, hG⟩
    ·refine rg ?_; refine rn 3 [] f0 [(30, B (v_9 == 0))] ?_; refine sb 30 (bt h_10) ?_; refine ra [(2, 1, 2, 2)] f0 [(4, B (v_8 == p_1.Root))] ?_; refine tN ?_; exact fun a w S hK hE => ⟨(v_8 == p_1.Root), S, hK.wk, hE.sel [], Option.some.inj hG⟩
    ·refine rg ?_; refine rn 3 [] f0 [(30, B (v_9 == 0))] ?_; refine sb 30 (bf h_10) ?_; refine ra [] f0 [(4, B false)] ?_; refine tN ?_; exact fun a w S hK hE => ⟨false, S, hK.wk, hE.sel [], Option.some.inj hG⟩
   ·rintro a w ⟨v_12, hJ⟩; refine hJ.go fun ho_ => ?_
    clear hJ; subst ho_; replace hG := hG_11
    try (simp only [un2, un3, un4, un5, un6, un7, un8, Sum.elim_inl, Sum.elim_inr, List.length_map, KProofL.n_Hops] at hG; replace hG : _ = _ := hG)
    refine kR ?_; obtain rfl := Option.some.inj hG; exact rt []
def G_office_Sign (F : Nat) (p_0 : KOffice) (p_1 : Int) (p_2 : Int) (p_3 : Int) : Option (KHead × Int) :=
 Option.bind (Option.bind (G_office_Valid F p_0) (fun v_3 =>
  ifB (v_3)
   (Option.bind (G_office_between F p_1 1 ((p_0.Entries.length : Nat) : Int)) (fun v_5 =>
   some (!v_5, p_3)))
   (some (true, p_3))) : Option ((Bool × Int))) (un2 fun (v_7 : Bool) (v_8 : Int) =>
  ifB (v_7)
   (some ((⟨0, 0, 0, (⟨0, 0⟩ : KSig)⟩ : KHead), 1))
   (Option.bind (G_office_root F p_0 p_1) (un2 fun v_10 v_11 =>
   ifB ((v_11 == 0))
    (Option.bind (G_office_message F (⟨p_0.ID, p_1, v_10, (⟨0, 0⟩ : KSig)⟩ : KHead)) (fun v_14 =>
    Option.bind (G_group_Sign F p_2 v_8 v_14) (un2 fun v_15 v_16 =>
    ifB ((v_16 == 0))
     (some ((⟨p_0.ID, p_1, v_10, v_15⟩ : KHead), 0))
     (some ((⟨0, 0, 0, (⟨0, 0⟩ : KSig)⟩ : KHead), v_16)))))
    (some ((⟨0, 0, 0, (⟨0, 0⟩ : KSig)⟩ : KHead), v_11)))))
set_option maxRecDepth 100000 in
set_option maxHeartbeats 16000000 in
theorem z_office_Sign (F : Nat) (p_0 : KOfficeL) (p_1 : Int) (p_2 : Int) (p_3 : Int) (r : KHead × Int) (hG : G_office_Sign F p_0.p p_1 p_2 p_3 = some r) :
  Cf Tryz.prog 22 [.agg #[I p_0.ID, .slice p_0.Entries_A p_0.Entries.length p_0.Entries_c], I p_1, I p_2, I p_3] [KOfficeL.ok p_0] (.tuple #[.agg #[I r.1.Office, I r.1.Size, U r.1.Root, I r.1.Sig.C, I r.1.Sig.S], I r.2]) := by
 unfold G_office_Sign at hG
 try (simp only [un2, un3, un4, un5, un6, un7, un8, Sum.elim_inl, Sum.elim_inr, List.length_map, KProofL.n_Hops] at hG; replace hG : _ = _ := hG)
 refine fi Tryz.func22 rfl rfl (mc KOfficeL.mv m0) fun S0 w0 hT => ?_
 refine sq ?_; refine rg ?_; refine l1 ?_; refine nw 4 vp [I p_0.ID, .slice p_0.Entries_A p_0.Entries.length p_0.Entries_c] 53 fun g_1 => ?_
 refine l1 ?_; refine nw 8 vp [I 0, I 0, U 0, I 0, I 0] 27 fun g_2 => ?_
 refine ra [] f0 [] ?_; refine tN ?_; refine sq ?_; obtain ⟨o_6, hG, hG_6⟩ := bind_some hG; refine jn (fun K E a w => ∃ (v_7 : Bool), ∃ (v_8 : Int), Js S0 w0 56 ([(3, I v_8), (24, B v_7)] ++ K) ([.dat (RowC p_0.Entries_A p_0.Entries_c KEntry.cells tr p_0.Entries)] ++ se E [0, 1]) ((v_7, v_8) = o_6) a w) ?_ ?_
 ·replace hG := bind_some hG; obtain ⟨v_3, hy_3, hG⟩ := hG; replace hG := ifB_cases hG; rcases hG with ⟨h_4, hG⟩ | ⟨h_4, hG⟩
  ·replace hG := bind_some hG; obtain ⟨v_5, hy_5, hG⟩ := hG; refine rg ?_; refine rn 1 [(0, 2, 1, 0)] f0 [(14, .agg #[I p_0.ID, .slice p_0.Entries_A p_0.Entries.length p_0.Entries_c])] ?_; refine l1 ?_; refine cl 15 (z_office_Valid F p_0 _ hy_3) hT ⟨(gi 2).a, trivial⟩ ?_; refine rn 2 [] f0 [(17, B (!v_3))] ?_; refine sb 17 (nt h_4) ?_; refine rn 4 [(2, 1, 1, 1)] f0 [(18, I p_1), (21, I ((p_0.Entries.length : Nat) : Int))] ?_; refine l1 ?_; refine cl 22 (z_office_between F p_1 1 ((p_0.Entries.length : Nat) : Int) _ hy_5) hT trivial ?_; refine ra [] f0 [(24, B (!v_5))] ?_; refine tN ?_; refine fm (RowC p_0.Entries_A p_0.Entries_c KEntry.cells tr p_0.Entries) (gm (KOfficeL.ok p_0) 2 fun _ _ h => h.f_Entries) ?_; exact fun a w S hK hE => ⟨!v_5, p_3, S, hK.wk, hE.sel [0, 1, 2], Option.some.inj hG⟩
  ·refine rg ?_; refine rn 1 [(0, 2, 1, 0)] f0 [(14, .agg #[I p_0.ID, .slice p_0.Entries_A p_0.Entries.length p_0.Entries_c])] ?_; refine l1 ?_; refine cl 15 (z_office_Valid F p_0 _ hy_3) hT ⟨(gi 2).a, trivial⟩ ?_; refine rn 2 [] f0 [(17, B (!v_3))] ?_; refine sb 17 (nf h_4) ?_; refine ra [] f0 [(24, B true)] ?_; refine tN ?_; refine fm (RowC p_0.Entries_A p_0.Entries_c KEntry.cells tr p_0.Entries) (gm (KOfficeL.ok p_0) 2 fun _ _ h => h.f_Entries) ?_; exact fun a w S hK hE => ⟨true, p_3, S, hK.wk, hE.sel [0, 1, 2], Option.some.inj hG⟩
 ·rintro a w ⟨v_7, v_8, hJ⟩; refine hJ.go fun ho_ => ?_
  clear hJ; subst ho_; replace hG := hG_6
  try (simp only [un2, un3, un4, un5, un6, un7, un8, Sum.elim_inl, Sum.elim_inr, List.length_map, KProofL.n_Hops] at hG; replace hG : _ = _ := hG)
  rcases ifB_cases hG with ⟨h_9, hG⟩ | ⟨h_9, hG⟩
  ·refine sb 24 (bt h_9) ?_; refine ct ?_; refine sq ?_; refine rg ?_; refine rn 1 [] f0 [(25, .agg #[I 0, I 0, U 0, I 0, I 0])] ?_; refine l1 ?_; refine sr 1 g_2 [(0, I 0), (1, I 0), (2, U 0), (3, I 0), (4, I 0)] ?_; refine ra [] f0 [(9, I 1)] ?_; refine tN ?_; refine kR ?_; refine tR ?_; obtain rfl := Option.some.inj hG; exact rt [(1, 0, 5)]
  ·refine sb 24 (bf h_9) ?_; refine cf ?_; refine kS ?_; refine tN ?_; refine sq ?_; replace hG := bind_some hG; obtain ⟨⟨v_10, v_11⟩, hy_10, hG⟩ := hG; refine rg ?_; refine rn 2 [(0, 2, 2, 0)] f0 [(27, .agg #[I p_0.ID, .slice p_0.Entries_A p_0.Entries.length p_0.Entries_c]), (28, I p_1)] ?_; refine l1 ?_; refine cl 29 (z_office_root F p_0 p_1 _ hy_10) hT ⟨(((gd' (RowC p_0.Entries_A p_0.Entries_c KEntry.cells tr p_0.Entries) 0)).m fun _ _ h => ⟨h⟩).a, trivial⟩ ?_; refine ra [] f0 [(10, U v_10), (11, I v_11)] ?_; refine tN ?_; refine sq ?_; refine sq ?_; refine rg ?_; refine ra [] f0 [(33, B (!(v_11 == 0)))] ?_; refine tN ?_; rcases ifB_cases hG with ⟨h_12, hG⟩ | ⟨h_12, hG⟩
   ·refine sb 33 (nt h_12) ?_; refine cf ?_; refine kS ?_; refine tN ?_; refine sq ?_; refine rg ?_; refine rn 5 [(1, 1, 2, 0)] f0 [(40, .agg #[I p_0.ID, I p_1, U v_10, I 0, I 0])] ?_; refine l1 ?_; refine nw 12 vp [I 0, I 0, U 0, I 0, I 0] 27 fun g_13 => ?_
    refine l1 ?_; refine sr 0 g_13 [(0, I p_0.ID), (1, I p_1), (2, U v_10), (3, I 0), (4, I 0)] ?_; refine nl ?_; refine tN ?_; refine sq ?_; replace hG := bind_some hG; obtain ⟨v_14o, hy_14, hG⟩ := hG; replace hG := bind_some hG; obtain ⟨⟨v_15, v_16⟩, hy_15, hG⟩ := hG; refine rg ?_; refine rn 3 [(2, 5, 0, 0)] f0 [(42, I p_2), (43, I v_8), (44, .agg #[I p_0.ID, I p_1, U v_10, I 0, I 0])] ?_; refine l1 ?_; refine cn 45 (z_office_message F (⟨p_0.ID, p_1, v_10, (⟨0, 0⟩ : KSig)⟩ : KHead) _ hy_14) hT (fun _ => (mr tr_mv m0)) trivial ?_; rintro ⟨v_14_A, v_14_c, v_14⟩ hq_14; obtain rfl : v_14 = v_14o := hq_14.symm
    try (simp only [un2, un3, un4, un5, un6, un7, un8, Sum.elim_inl, Sum.elim_inr, List.length_map, KProofL.n_Hops] at hG; replace hG : _ = _ := hG)
    refine l1 ?_; refine cl 46 (z_group_Sign F p_2 v_8 v_14_A v_14_c v_14 _ hy_15) hT ⟨ga 0, trivial⟩ ?_; refine rn 3 [] f0 [(47, .agg #[I v_15.C, I v_15.S]), (48, I v_16)] ?_; refine l1 ?_; refine nw 13 vp [I 0, I 0] 25 fun g_17 => ?_
    refine l1 ?_; refine sr 0 g_17 [(0, I v_15.C), (1, I v_15.S)] ?_; refine ra [] f0 [(11, I v_16)] ?_; refine tN ?_; refine sq ?_; refine sq ?_; refine rg ?_; refine ra [] f0 [(50, B (!(v_16 == 0)))] ?_; refine tN ?_; rcases ifB_cases hG with ⟨h_18, hG⟩ | ⟨h_18, hG⟩
    ·refine sb 50 (nt h_18) ?_; refine cf ?_; refine kS ?_; refine tN ?_; refine sq ?_; refine rg ?_; refine rn 2 [(0, 2, 0, 0)] f0 [(53, .agg #[I v_15.C, I v_15.S]), (54, Pt g_13 3)] ?_; refine l1 ?_; refine sr 2 g_13 [(3, I v_15.C), (4, I v_15.S)] ?_; refine nl ?_; refine tN ?_; refine sq ?_; refine rg ?_; refine rn 1 [(0, 5, 2, 0)] f0 [(55, .agg #[I p_0.ID, I p_1, U v_10, I v_15.C, I v_15.S])] ?_; refine l1 ?_; refine sr 4 g_2 [(0, I p_0.ID), (1, I p_1), (2, U v_10), (3, I v_15.C), (4, I v_15.S)] ?_; refine ra [] f0 [(9, I 0)] ?_; refine tN ?_; refine kR ?_; obtain rfl := Option.some.inj hG; exact rt [(4, 0, 5)]
    ·refine sb 50 (nf h_18) ?_; refine ct ?_; refine sq ?_; refine rg ?_; refine rn 2 [] f0 [(51, .agg #[I 0, I 0, U 0, I 0, I 0]), (52, I v_16)] ?_; refine l1 ?_; refine sr 4 g_2 [(0, I 0), (1, I 0), (2, U 0), (3, I 0), (4, I 0)] ?_; refine ra [] f0 [(9, I v_16)] ?_; refine tN ?_; refine kR ?_; refine tR ?_; obtain rfl := Option.some.inj hG; exact rt [(4, 0, 5)]
   ·refine sb 33 (nf h_12) ?_; refine ct ?_; refine sq ?_; refine rg ?_; refine rn 2 [] f0 [(34, .agg #[I 0, I 0, U 0, I 0, I 0]), (35, I v_11)] ?_; refine l1 ?_; refine sr 1 g_2 [(0, I 0), (1, I 0), (2, U 0), (3, I 0), (4, I 0)] ?_; refine ra [] f0 [(9, I v_11)] ?_; refine tN ?_; refine kR ?_; refine tR ?_; obtain rfl := Option.some.inj hG; exact rt [(1, 0, 5)]
end Go.Proofs.YtggaodokkcoagaaGreatDoor
namespace Go.Proofs.YtggaodokkcoagaaGreatDoor
open Go.RowKit Go.Maps
end Go.Proofs.YtggaodokkcoagaaGreatDoor
namespace Go.Proofs.YtggaodokkcoagaaGreatDoor
open Go.RowKit Go.Maps
end Go.Proofs.YtggaodokkcoagaaGreatDoor
