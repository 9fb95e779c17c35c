/-
  Texts joined: Z5, Z6, Z7, Z8, Z9.
-/
import Derived.Test.YtggaodokkcoagaaGreatDoorProg
import Derived.Test.YtggaodokkcoagaaGreatDoorL11
import Derived.Test.YtggaodokkcoagaaGreatDoorL12
import Derived.Test.YtggaodokkcoagaaGreatDoorL13
set_option linter.unusedSimpArgs false
set_option linter.unusedVariables false
set_option maxRecDepth 100000
set_option maxHeartbeats 16000000
namespace Go.Proofs.YtggaodokkcoagaaGreatDoor
open Go.RowKit Go.Maps
def Gp (F : Nat) (p_0 : Kg) (p_1 : Kc) (p_2 : Int) : Option (Kk × Int) :=
  Option.bind (Gv F p_0) (fun v_4 =>
  Option.bind (Ga F p_1) (fun v_5 =>
  Option.bind (ifB (v_4)
      (ifB (v_5)
        (ifB (decide (p_1.Size > (p_0.Entries.length : Int)))
          (some true)
          (ifB (decide (p_2 < 0))
            (some true)
            (some (decide (p_2 ≥ p_1.Size)))))
        (some true))
      (some true) : Option (Bool)) (fun (v_11 : Bool) => 
    ifB (v_11)
      (some ((⟨(⟨0, 0, 0, (⟨0, 0⟩ : KSig)⟩ : Kc), 0, (⟨0, ⟨0, 0⟩⟩ : Kb), ([] : List Int)⟩ : Kk), 1))
      (Option.bind (G5 F p_0 p_1.Size) (fun v_13 =>
      Option.bind (Gbe F v_13) (un2 fun v_14 v_15 =>
      Option.bind (ifB ((p_1.Office == p_0.ID))
          (some (!(p_1.Root == v_14)))
          (some true) : Option (Bool)) (fun (v_18 : Bool) => 
        ifB (v_18)
          (some ((⟨(⟨0, 0, 0, (⟨0, 0⟩ : KSig)⟩ : Kc), 0, (⟨0, ⟨0, 0⟩⟩ : Kb), ([] : List Int)⟩ : Kk), 33))
          (Option.bind (Gb1 F v_13 p_2) (un2 fun v_20 v_21 =>
          Option.bind (ixI p_0.Entries p_2) (fun v_22 =>
          some ((⟨p_1, p_2, v_22, v_20⟩ : Kk), 0)))))))))))
theorem zw (F : Nat) (p_0 : Kd) (p_1 : Kc) (p_2 : Int) (r : Kk × Int) (hG : Gp F p_0.p p_1 p_2 = some r) :
  Cn Tryz.prog 51 [.agg #[I p_0.ID, .slice p_0.Entries_A p_0.Entries.length p_0.Entries_c], .agg #[I p_1.Office, I p_1.Size, U p_1.Root, I p_1.Sig.C, I p_1.Sig.S], I p_2] [Kd.ok p_0] (fun q : Kh => r.1 = q.p) (fun q => .tuple #[.agg #[I q.Head.Office, I q.Head.Size, U q.Head.Root, I q.Head.Sig.C, I q.Head.Sig.S, I q.Index, U q.Entry.Doc, I q.Entry.Stamp.Lo, I q.Entry.Stamp.Hi, .slice q.Path_A q.Path.length q.Path_c], I r.2]) (fun q => [Kh.ok q]) := by
 unfold Gp at hG
 try simp only [lm_, Ka.n_Hops] at hG
 refine fin Tryz.func51 rfl rfl (mc Kd.mv m0) fun S0 w0 hT => sq (rg (l1 (nw 3 vp [I p_0.ID, .slice p_0.Entries_A p_0.Entries.length p_0.Entries_c] 53 fun g_1 => l1 (nw 4 vp [I p_1.Office, I p_1.Size, U p_1.Root, I p_1.Sig.C, I p_1.Sig.S] 27 fun g_2 => l1 (nw 6 vp (Kh.cells Kh.z) 34 fun g_3 => ra [] f0 [] (tN (sq ?_)))))))
 obtain ⟨v_4, hy_4, hG⟩ := bs hG; refine rg (rn 1 [(0, 2, 2, 0)] f0 [(15, .agg #[I p_0.ID, .slice p_0.Entries_A p_0.Entries.length p_0.Entries_c])] (l1 (cl 16 (zr F p_0 _ hy_4) hT ⟨(gi 3).a, trivial⟩ (ra [] f0 [(8, B v_4)] (tN (sq ?_)))))); obtain ⟨v_5, hy_5, hG⟩ := bs hG; refine rg (rn 1 [(0, 5, 1, 0)] f0 [(17, .agg #[I p_1.Office, I p_1.Size, U p_1.Root, I p_1.Sig.C, I p_1.Sig.S])] (l1 (cl 18 (zf F p_1 _ hy_5) hT trivial (ra [] f0 [(9, B v_5)] (tN (sq ?_)))))); obtain ⟨o_10, hG, hG_10⟩ := bs hG; refine jn (fun K E a w => ∃ v_11 : Bool, Js S0 w0 80 ([(42, B v_11)] ++ K) ([.dat (RowC p_0.Entries_A p_0.Entries_c Kb.cells tr p_0.Entries)] ++ se E [0, 1, 2]) (v_11 = o_10) a w) ?_ ?_
 ·rcases ic hG with ⟨h_6, hG⟩ | ⟨h_6, hG⟩
  ·rcases ic hG with ⟨h_7, hG⟩ | ⟨h_7, hG⟩
   ·rcases ic hG with ⟨h_8, hG⟩ | ⟨h_8, hG⟩
    ·refine rg (rn 3 [] f0 [(21, B (!v_4))] (sb 21 (nt h_6) (rn 4 [] f0 [(25, B (!v_5))] (sb 25 (nt h_7) (rn 8 [(1, 1, 1, 1), (1, 1, 2, 1)] f0 [(33, B (decide (p_1.Size > (p_0.Entries.length : Int))))] ?_)))))
     try simp only [lm_, Ka.n_Hops] at h_8
     exact sb 33 (bt h_8) (ra [] f0 [(42, B true)] (tN (fg (Kd.ok p_0) 3 (fun _ _ h => h.f_Entries) (fun _ _ S k e => ⟨true, S, k.wk, e.sel [0, 1, 2, 3], oi hG⟩))))
    ·rcases ic hG with ⟨h_9, hG⟩ | ⟨h_9, hG⟩
     ·refine rg (rn 3 [] f0 [(21, B (!v_4))] (sb 21 (nt h_6) (rn 4 [] f0 [(25, B (!v_5))] (sb 25 (nt h_7) (rn 8 [(1, 1, 1, 1), (1, 1, 2, 1)] f0 [(33, B (decide (p_1.Size > (p_0.Entries.length : Int))))] ?_)))))
      try simp only [lm_, Ka.n_Hops] at h_8
      exact sb 33 (bf h_8) (rn 4 [] f0 [(37, B (decide (p_2 < 0)))] (sb 37 (bt h_9) (ra [] f0 [(42, B true)] (tN (fg (Kd.ok p_0) 3 (fun _ _ h => h.f_Entries) (fun _ _ S k e => ⟨true, S, k.wk, e.sel [0, 1, 2, 3], oi hG⟩))))))
     ·refine rg (rn 3 [] f0 [(21, B (!v_4))] (sb 21 (nt h_6) (rn 4 [] f0 [(25, B (!v_5))] (sb 25 (nt h_7) (rn 8 [(1, 1, 1, 1), (1, 1, 2, 1)] f0 [(33, B (decide (p_1.Size > (p_0.Entries.length : Int))))] ?_)))))
      try simp only [lm_, Ka.n_Hops] at h_8
      exact sb 33 (bf h_8) (rn 4 [] f0 [(37, B (decide (p_2 < 0)))] (sb 37 (bf h_9) (ra [(2, 1, 1, 1)] f0 [(42, B (decide (p_2 ≥ p_1.Size)))] (tN (fg (Kd.ok p_0) 3 (fun _ _ h => h.f_Entries) (fun _ _ S k e => ⟨decide (p_2 ≥ p_1.Size), S, k.wk, e.sel [0, 1, 2, 3], oi hG⟩))))))
   ·exact rg (rn 3 [] f0 [(21, B (!v_4))] (sb 21 (nt h_6) (rn 4 [] f0 [(25, B (!v_5))] (sb 25 (nf h_7) (ra [] f0 [(42, B true)] (tN (fg (Kd.ok p_0) 3 (fun _ _ h => h.f_Entries) (fun _ _ S k e => ⟨true, S, k.wk, e.sel [0, 1, 2, 3], oi hG⟩))))))))
  ·exact rg (rn 3 [] f0 [(21, B (!v_4))] (sb 21 (nf h_6) (ra [] f0 [(42, B true)] (tN (fg (Kd.ok p_0) 3 (fun _ _ h => h.f_Entries) (fun _ _ S k e => ⟨true, S, k.wk, e.sel [0, 1, 2, 3], oi hG⟩))))))
 ·rintro a w ⟨v_11, hJ⟩; refine hJ.go ?_; clear hJ; rintro rfl; replace hG := hG_10; rcases ic hG with ⟨h_12, hG⟩ | ⟨h_12, hG⟩
  ·refine sb 42 (bt h_12) (ct (sq (rg (rn 1 [] f0 [(43, Aw (Kh.cells Kh.z))] (l1 (sr 1 g_3 (ns 0 (Kh.cells Kh.z)) (ra [] f0 [(7, I 1)] (tN (kR (tR ?_)))))))))); obtain rfl := oi hG; exact rtn [(1, 0, 10)] (⟨(⟨0, 0, 0, (⟨0, 0⟩ : KSig)⟩ : Kc), 0, (⟨0, ⟨0, 0⟩⟩ : Kb), none, 0, ([] : List Int)⟩ : Kh) rfl ⟨(((gn : Fd _ (RowC none 0 c_u64 tr ([] : List Int)))).m fun _ _ h => ⟨h⟩), trivial⟩
  ·refine sb 42 (bf h_12) (cf (kS (tN (sq ?_)))); obtain ⟨v_13o, hy_13, hG⟩ := bs hG; refine rg (rn 3 [(0, 2, 3, 0), (1, 1, 2, 1)] f0 [(44, .agg #[I p_0.ID, .slice p_0.Entries_A p_0.Entries.length p_0.Entries_c]), (46, I p_1.Size)] (l1 (cn 47 (zal F p_0 p_1.Size _ hy_13) hT (fun _ => (mr tr_mv m0)) ⟨(((gd' (RowC p_0.Entries_A p_0.Entries_c Kb.cells tr p_0.Entries) 0)).m fun _ _ h => ⟨h⟩), trivial⟩ ?_))); rintro ⟨v_13_A, v_13_c, v_13⟩ hq_13; obtain rfl : v_13 = v_13o := hq_13.symm
   try simp only [lm_, Ka.n_Hops] at hG
   refine ra [] f0 [(10, .slice v_13_A v_13.length v_13_c)] (tN (sq ?_)); obtain ⟨v_14, v_15, hy_14, hG⟩ := b2 hG; refine rg (rn 1 [] f0 [(49, .slice v_13_A v_13.length v_13_c)] (l1 (cl 50 (za2 F v_13_A v_13_c v_13 _ hy_14) hT ⟨ga 0, trivial⟩ (ra [] f0 [(11, U v_14)] (tN (sq ?_)))))); obtain ⟨o_17, hG, hG_17⟩ := bs hG; refine jn (fun K E a w => ∃ v_18 : Bool, Js S0 w0 80 ([(63, B v_18)] ++ K) (se E [0, 1, 2, 3, 4]) (v_18 = o_17) a w) ?_ ?_
   ·rcases ic hG with ⟨h_16, hG⟩ | ⟨h_16, hG⟩
    ·exact rg (rn 6 [(1, 1, 3, 0), (1, 1, 4, 0)] f0 [(58, B (!(p_1.Office == p_0.ID)))] (sb 58 (nt h_16) (ra [(1, 1, 3, 2)] f0 [(63, B (!(p_1.Root == v_14)))] (tN (fun _ _ S k e => ⟨!(p_1.Root == v_14), S, k.wk, e.sel [0, 1, 2, 3, 4], oi hG⟩)))))
    ·exact rg (rn 6 [(1, 1, 3, 0), (1, 1, 4, 0)] f0 [(58, B (!(p_1.Office == p_0.ID)))] (sb 58 (nf h_16) (ra [] f0 [(63, B true)] (tN (fun _ _ S k e => ⟨true, S, k.wk, e.sel [0, 1, 2, 3, 4], oi hG⟩)))))
   ·rintro a w ⟨v_18, hJ⟩; refine hJ.go ?_; clear hJ; rintro rfl; replace hG := hG_17; rcases ic hG with ⟨h_19, hG⟩ | ⟨h_19, hG⟩
    ·refine sb 63 (bt h_19) (ct (sq (rg (rn 1 [] f0 [(64, Aw (Kh.cells Kh.z))] (l1 (sr 2 g_3 (ns 0 (Kh.cells Kh.z)) (ra [] f0 [(7, I 33)] (tN (kR (tR ?_)))))))))); obtain rfl := oi hG; exact rtn [(2, 0, 10)] (⟨(⟨0, 0, 0, (⟨0, 0⟩ : KSig)⟩ : Kc), 0, (⟨0, ⟨0, 0⟩⟩ : Kb), none, 0, ([] : List Int)⟩ : Kh) rfl ⟨(((gn : Fd _ (RowC none 0 c_u64 tr ([] : List Int)))).m fun _ _ h => ⟨h⟩), trivial⟩
    ·refine sb 63 (bf h_19) (cf (kS (tN (sq ?_)))); obtain ⟨v_20o, v_21, hy_20, hG⟩ := b2 hG; refine rg (rn 2 [] f0 [(66, .slice v_13_A v_13.length v_13_c), (67, I p_2)] (l1 (cn 68 (zbw F v_13_A v_13_c v_13 p_2 _ hy_20) hT (fun _ => (mr tr_mv m0)) ⟨gi 0, trivial⟩ ?_))); rintro ⟨v_20_A, v_20_c, v_20⟩ hq_20; obtain rfl : v_20 = v_20o := hq_20.symm
     try simp only [lm_, Ka.n_Hops] at hG
     refine ra [] f0 [(13, .slice v_20_A v_20.length v_20_c)] (tN (sq ?_)); obtain ⟨v_22, hy_22, hG⟩ := bs hG; refine fx inf51 (gd' (RowC p_0.Entries_A p_0.Entries_c Kb.cells tr p_0.Entries) 2) hy_22 fun b_23 o_24 hi_22 => hb [0, 1, 2, 3, 5, 6] (ht [0, 1, 2, 3, 5, 6] [0, 1, 2, 3, 4, 5, 6, 7, 8] [(0, 5, 4, 0), (2, 1, 5, 1), (1, 0, 0, 0), (0, 3, 0, 0)] (fc (hi_22 .i64) f0) [(79, .agg #[I p_1.Office, I p_1.Size, U p_1.Root, I p_1.Sig.C, I p_1.Sig.S, I p_2, U v_22.Doc, I v_22.Stamp.Lo, I v_22.Stamp.Hi, .slice v_20_A v_20.length v_20_c])] (ho [9] ⟨h1 (sr 4 g_3 (ns 0 [I p_1.Office, I p_1.Size, U p_1.Root, I p_1.Sig.C, I p_1.Sig.S, I p_2, U v_22.Doc, I v_22.Stamp.Lo, I v_22.Stamp.Hi, .slice v_20_A v_20.length v_20_c]) (hk [0, 1, 2, 3, 5, 6] (ht [0, 1, 2, 3, 5, 6] [10] [] f0 [(7, I 0)] (he (tN (kR ?_)))))), trivial⟩))
     obtain rfl := oi hG; exact rtn [(4, 0, 10)] (⟨p_1, p_2, v_22, v_20_A, v_20_c, v_20⟩ : Kh) rfl ⟨(((gd' (RowC v_20_A v_20_c c_u64 tr v_20) 1)).m fun _ _ h => ⟨h⟩), trivial⟩
def G8 (F : Nat) (p_0 : Kg) (p_1 : Kc) : Option (Bool) :=
  Option.bind (ifB ((p_1.Office == p_0.ID))
      (some (decide (p_1.Size > (p_0.Entries.length : Int))))
      (some true) : Option (Bool)) (fun (v_5 : Bool) => 
    ifB (v_5)
      (some false)
      (Option.bind (G5 F p_0 p_1.Size) (fun v_7 =>
      Option.bind (Gbe F v_7) (un2 fun v_8 v_9 =>
      some (v_8 == p_1.Root)))))
theorem zap (F : Nat) (p_0 : Kd) (p_1 : Kc) (r : Bool) (hG : G8 F p_0.p p_1 = some r) :
  Cf Tryz.prog 110 [.agg #[I p_0.ID, .slice p_0.Entries_A p_0.Entries.length p_0.Entries_c], .agg #[I p_1.Office, I p_1.Size, U p_1.Root, I p_1.Sig.C, I p_1.Sig.S]] [Kd.ok p_0] (B r) := by
 unfold G8 at hG
 try simp only [lm_, Ka.n_Hops] at hG
 refine fi Tryz.func110 rfl rfl (mc Kd.mv m0) fun S0 w0 hT => sq (rg (l1 (nw 2 vp [I p_0.ID, .slice p_0.Entries_A p_0.Entries.length p_0.Entries_c] 53 fun g_1 => l1 (nw 3 vp [I p_1.Office, I p_1.Size, U p_1.Root, I p_1.Sig.C, I p_1.Sig.S] 27 fun g_2 => ra [] f0 [] (tN (sq ?_))))))
 obtain ⟨o_4, hG, hG_4⟩ := bs hG; refine jn (fun K E a w => ∃ v_5 : Bool, Js S0 w0 32 ([(19, B v_5)] ++ K) ([.dat (RowC p_0.Entries_A p_0.Entries_c Kb.cells tr p_0.Entries)] ++ se E [0, 1]) (v_5 = o_4) a w) ?_ ?_
 ·rcases ic hG with ⟨h_3, hG⟩ | ⟨h_3, hG⟩
  ·exact rg (rn 6 [(1, 1, 0, 0), (1, 1, 1, 0)] f0 [(12, B (!(p_1.Office == p_0.ID)))] (sb 12 (nt h_3) (ra [(1, 1, 0, 1), (1, 1, 1, 1)] f0 [(19, B (decide (p_1.Size > (p_0.Entries.length : Int))))] (tN (fg (Kd.ok p_0) 2 (fun _ _ h => h.f_Entries) (fun _ _ S k e => ⟨decide (p_1.Size > (p_0.Entries.length : Int)), S, k.wk, e.sel [0, 1, 2], oi hG⟩))))))
  ·exact rg (rn 6 [(1, 1, 0, 0), (1, 1, 1, 0)] f0 [(12, B (!(p_1.Office == p_0.ID)))] (sb 12 (nf h_3) (ra [] f0 [(19, B true)] (tN (fg (Kd.ok p_0) 2 (fun _ _ h => h.f_Entries) (fun _ _ S k e => ⟨true, S, k.wk, e.sel [0, 1, 2], oi hG⟩))))))
 ·rintro a w ⟨v_5, hJ⟩; refine hJ.go ?_; clear hJ; rintro rfl; replace hG := hG_4; rcases ic hG with ⟨h_6, hG⟩ | ⟨h_6, hG⟩
  ·refine sb 19 (bt h_6) (ct (sq (rg (ra [] f0 [(4, B false)] (tN (kR (tR ?_))))))); obtain rfl := oi hG; exact rt []
  ·refine sb 19 (bf h_6) (cf (kS (tN (sq ?_)))); obtain ⟨v_7o, hy_7, hG⟩ := bs hG; replace hG := b2 hG; obtain ⟨v_8, v_9, hy_8, hG⟩ := hG; refine rg (rn 3 [(0, 2, 2, 0), (1, 1, 1, 1)] f0 [(21, .agg #[I p_0.ID, .slice p_0.Entries_A p_0.Entries.length p_0.Entries_c]), (23, I p_1.Size)] (l1 (cn 24 (zal F p_0 p_1.Size _ hy_7) hT (fun _ => (mr tr_mv m0)) ⟨(((gd' (RowC p_0.Entries_A p_0.Entries_c Kb.cells tr p_0.Entries) 0)).m fun _ _ h => ⟨h⟩), trivial⟩ ?_))); rintro ⟨v_7_A, v_7_c, v_7⟩ hq_7; obtain rfl : v_7 = v_7o := hq_7.symm
   try simp only [lm_, Ka.n_Hops] at hG
   refine l1 (cl 25 (za2 F v_7_A v_7_c v_7 _ hy_8) hT ⟨ga 0, trivial⟩ (ra [] f0 [(5, U v_8)] (tN (sq (rg (ra [(2, 1, 2, 2)] f0 [(4, B (v_8 == p_1.Root))] (tN (kR ?_)))))))); obtain rfl := oi hG; exact rt []
def Gaa : Nat → (List Kg) → (List Kc) → (List Int) → Int → Int → Int → Int → Option ((List Int) × Bool)
  | 0, _, _, _, _, _, _, _ => none
  | F + 1, p_0, p_1, p_2, p_3, p_4, p_5, p_6 =>
  Option.bind (ixI p_2 (IntKind.i64.wrap ((p_2.length : Int) - 1))) (fun v_1 =>
  Option.bind (ixI p_1 v_1) (fun v_4 =>
  ifB ((p_4 == 0))
    (Option.bind (ifB ((v_4.Office == p_5))
        (ifB (decide (v_4.Size > p_6))
          (some (decide (p_6 > p_3)))
          (some false))
        (some false) : Option (Bool)) (fun (v_12 : Bool) => 
      some (p_2, v_12)))
    (Option.bind (Option.bind (iter (σ := Int) (ρ := Unit ⊕ (List Int)) (fun (v_38 : Int) => 
          (ifB (decide (v_38 < (p_1.length : Int)))
            (Option.bind (Option.bind (Gbr F p_0 p_1 p_2 v_38) (un2 fun v_41 v_42 =>
              ifB (v_42)
                (Option.bind (apG 8 ([] : List Int) p_2) (fun v_44 =>
                Option.bind (apG 8 v_44 ([v_38] : List Int)) (fun v_46 =>
                Option.bind (Gaa F p_0 p_1 v_46 v_41 (IntKind.i64.wrap (p_4 - 1)) p_5 p_6) (un2 fun v_47 v_48 =>
                ifB (v_48)
                  (some (.inr v_47))
                  (some (.inl ()))))))
                (some (.inl ()))) : Option (Unit ⊕ (List Int))) (Sum.elim (fun (_ : Unit) => 
              some (.inl (IntKind.i64.wrap (v_38 + 1)))) (fun (v_51 : (List Int)) => 
              some (.inr (.inr v_51)))))
            (some (.inr (.inl ()))) : Option (Int ⊕ (Unit ⊕ (List Int))))) F 0) (Sum.elim (fun (_ : Unit) => 
        some (.inl ())) (fun (v_52 : (List Int)) => 
        some (.inr v_52))) : Option (Unit ⊕ (List Int))) (Sum.elim (fun (_ : Unit) => 
      some (([] : List Int), false)) (fun (v_54 : (List Int)) => 
      some (v_54, true))))))
theorem zb9 : ∀ (F : Nat) (p_0_A : Option Addr) (p_0_c : Nat) (p_0 : List Kd) (p_1_A : Option Addr) (p_1_c : Nat) (p_1 : List Kc) (p_2_A : Option Addr) (p_2_c : Nat) (p_2 : List Int) (p_3 : Int) (p_4 : Int) (p_5 : Int) (p_6 : Int) (r : (List Int) × Bool) (hG : Gaa F (p_0.map Kd.p) p_1 p_2 p_3 p_4 p_5 p_6 = some r),
  Cn Tryz.prog 107 [.slice p_0_A p_0.length p_0_c, .slice p_1_A p_1.length p_1_c, .slice p_2_A p_2.length p_2_c, I p_3, I p_4, I p_5, I p_6] [RowC p_0_A p_0_c Kd.cells Kd.ok p_0, RowC p_1_A p_1_c Kc.cells tr p_1, RowC p_2_A p_2_c c_i64 tr p_2] (fun q : Kr => r.1 = q.l) (fun q => .tuple #[.slice q.A q.l.length q.c, B r.2]) (fun q => [RowC q.A q.c c_i64 tr q.l]) := by
 intro F
 induction F with
 | zero => intros; rename_i hG; cases hG
 | succ F ih =>
 intro p_0_A p_0_c p_0 p_1_A p_1_c p_1 p_2_A p_2_c p_2 p_3 p_4 p_5 p_6 r hG; unfold Gaa at hG
 try simp only [lm_, Ka.n_Hops] at hG
 refine fin Tryz.func107 rfl rfl (mr Kd.mv (mr tr_mv (mr tr_mv m0))) fun S0 w0 hT => sq (rg (ra [] f0 [] (tN (sq ?_))))
 obtain ⟨v_1, hy_1, hG⟩ := bs hG; obtain ⟨v_4, hy_4, hG⟩ := bs hG; refine rg (fx inf22 (gd' (RowC p_2_A p_2_c c_i64 tr p_2) 2) hy_1 fun b_2 o_3 hi_1 => fx inf39 (gd' (RowC p_1_A p_1_c Kc.cells tr p_1) 2) hy_4 fun b_5 o_6 hi_4 => rn 9 [(5, 0, 0, 0), (0, 1, 1, 0), (0, 0, 0, 0), (0, 5, 0, 0)] (fc (hi_1 .i64) (fc (hi_4 .i64) f0)) [(31, .agg #[I v_4.Office, I v_4.Size, U v_4.Root, I v_4.Sig.C, I v_4.Sig.S])] (l1 (nw 16 vp [I 0, I 0, U 0, I 0, I 0] 27 fun g_7 => l1 (sr 0 g_7 (ns 0 [I v_4.Office, I v_4.Size, U v_4.Root, I v_4.Sig.C, I v_4.Sig.S]) (nl (tN (sq (sq (rg (ra [] f0 [(33, B (p_4 == 0))] (tN ?_))))))))))); rcases ic hG with ⟨h_8, hG⟩ | ⟨h_8, hG⟩
 ·refine sb 33 (bt h_8) (ct ?_); obtain ⟨o_11, hG, hG_11⟩ := bs hG; refine jn (fun K E a w => ∃ v_12 : Bool, Js S0 w0 86 ([(14, .slice p_2_A p_2.length p_2_c), (15, B v_12)] ++ K) (se E [5]) (v_12 = o_11) a w) ?_ ?_
  ·rcases ic hG with ⟨h_9, hG⟩ | ⟨h_9, hG⟩
   ·rcases ic hG with ⟨h_10, hG⟩ | ⟨h_10, hG⟩
    ·exact rg (rn 6 [(2, 1, 0, 0)] f0 [(34, .slice p_2_A p_2.length p_2_c), (39, B (v_4.Office == p_5))] (sb 39 (bt h_9) (rn 6 [(1, 1, 0, 1)] f0 [(45, B (decide (v_4.Size > p_6)))] (sb 45 (bt h_10) (ra [] f0 [(14, .slice p_2_A p_2.length p_2_c), (15, B (decide (p_6 > p_3)))] (tN (fun _ _ S k e => ⟨decide (p_6 > p_3), S, k.wk, e.sel [5], oi hG⟩)))))))
    ·exact rg (rn 6 [(2, 1, 0, 0)] f0 [(34, .slice p_2_A p_2.length p_2_c), (39, B (v_4.Office == p_5))] (sb 39 (bt h_9) (rn 6 [(1, 1, 0, 1)] f0 [(45, B (decide (v_4.Size > p_6)))] (sb 45 (bf h_10) (ra [] f0 [(14, .slice p_2_A p_2.length p_2_c), (15, B false)] (tN (fun _ _ S k e => ⟨false, S, k.wk, e.sel [5], oi hG⟩)))))))
   ·exact rg (rn 6 [(2, 1, 0, 0)] f0 [(34, .slice p_2_A p_2.length p_2_c), (39, B (v_4.Office == p_5))] (sb 39 (bf h_9) (ra [] f0 [(14, .slice p_2_A p_2.length p_2_c), (15, B false)] (tN (fun _ _ S k e => ⟨false, S, k.wk, e.sel [5], oi hG⟩)))))
  ·rintro a w ⟨v_12, hJ⟩; refine hJ.go ?_; clear hJ; rintro rfl; replace hG := hG_11; refine kR (tR ?_); obtain rfl := oi hG; exact rtn [] ⟨p_2_A, p_2_c, p_2⟩ rfl ⟨gi 0, trivial⟩
 ·refine sb 33 (bf h_8) (cf (kS (tN ?_))); obtain ⟨o_53, hG, hG_53⟩ := bs hG; refine jn (fun K E a w => Js S0 w0 86 (K) (se E []) (.inl () = o_53) a w) ?_ ?_
  ·refine sq (rg (ra [] f0 [(17, I 0)] (tN (bk ?_)))); obtain ⟨e_39, hL, hG_39⟩ := bs hG; clear hG; obtain ⟨stp_39, hs_39, hL⟩ := iter_gen hL; refine lp (fun K E n_ a w => ∃ v_38 : Int, Js S0 w0 86 ([(17, I v_38)] ++ K) (se E [3, 4, 5]) (iter stp_39 n_ v_38 = some e_39) a w) F ?_ ?_
   ·exact fun _ _ S k e => ⟨0, S, k.wk, e.sel [3, 4, 5], hL⟩
   ·clear hL; rintro n_39 a w ⟨v_38, hJ⟩; refine hJ.go fun hL => ?_
    clear hJ; obtain ⟨m_39, o_39, rfl, hG, hO1_39, hO2_39⟩ := iter_step hL; clear hL; rw [hs_39] at hG; refine sq (sq (rg (ra [] f0 [(53, B (decide (v_38 < (p_1.length : Int))))] (tN ?_)))); rcases ic hG with ⟨h_40, hG⟩ | ⟨h_40, hG⟩
    ·try simp only [lm_, Ka.n_Hops] at h_40
     refine sb 53 (bt h_40) (ct (kS (tN ?_))); obtain ⟨o_50, hG, hG_50⟩ := bs hG; refine jn (fun K E a w => Js S0 w0 86 (K) (se E [0, 1, 2]) (.inl () = o_50) a w) ?_ ?_
     ·refine bk (sq ?_); obtain ⟨v_41, v_42, hy_41, hG⟩ := b2 hG; refine rg (rn 4 [] f0 (ns 57 [.slice p_0_A p_0.length p_0_c, .slice p_1_A p_1.length p_1_c, .slice p_2_A p_2.length p_2_c, I v_38]) (l1 (cl 61 (zb7 F p_0_A p_0_c p_0 p_1_A p_1_c p_1 p_2_A p_2_c p_2 v_38 _ hy_41) hT ⟨ga 0, ga 1, ga 2, trivial⟩ (ra [] f0 [(18, I v_41), (19, B v_42)] (tN (sq (rg (ra [] f0 [(64, B v_42)] (tN ?_))))))))); rcases ic hG with ⟨h_43, hG⟩ | ⟨h_43, hG⟩
      ·refine sb 64 (bt h_43) (ct (sq (rg (ra [] f0 [(20, .slice none 0 0)] (tN (sq ?_)))))); obtain ⟨v_44, hy_44, hG⟩ := bs hG; refine rg (rn 2 [] f0 [(65, .slice none 0 0), (66, .slice p_2_A p_2.length p_2_c)] (on 3 1 (l1 (ap 0 67 none 0 ([] : List Int) p_2 inf22 ((gd' (RowC p_2_A p_2_c c_i64 tr p_2) 3).a) hy_44 one_i64 fun v_44_A v_44_c _ => ra [] f0 [(20, .slice v_44_A v_44.length v_44_c)] (tN (sq ?_)))))); obtain ⟨v_46, hy_46, hG⟩ := bs hG; refine rg (rn 2 [] f0 [(68, .slice v_44_A v_44.length v_44_c), (69, I v_38)] (l1 (nw 70 (vs 1) [I v_38] 3 fun g_45 => l1 (ap 1 71 v_44_A v_44_c v_44 ([v_38] : List Int) inf22 (bA (f := c_i64) (ok := tr) (l := ([v_38] : List Int)) g_45 0 et.a) hy_46 one_i64 fun v_46_A v_46_c _ => ra [] f0 [(20, .slice v_46_A v_46.length v_46_c)] (tN (sq ?_)))))); obtain ⟨v_47o, v_48, hy_47, hG⟩ := b2 hG; refine rg (rn 8 [] f0 [(73, .slice p_0_A p_0.length p_0_c), (74, .slice p_1_A p_1.length p_1_c), (75, .slice v_46_A v_46.length v_46_c), (76, I v_41), (78, I (IntKind.i64.wrap (p_4 - 1))), (79, I p_5), (80, I p_6)] (so (A := v_46_A) (c := v_46_c) 1 c_i64 tr v_46 tr_mv et (l1 (cn 81 (ih p_0_A p_0_c p_0 p_1_A p_1_c p_1 v_46_A v_46_c v_46 v_41 (IntKind.i64.wrap (p_4 - 1)) p_5 p_6 _ hy_47) hT (fun _ => (mr tr_mv m0)) ⟨gi 2, gi 3, gi 1, trivial⟩ ?_)))); rintro ⟨v_47_A, v_47_c, v_47⟩ hq_47; obtain rfl : v_47 = v_47o := hq_47.symm
       try simp only [lm_, Ka.n_Hops] at hG
       refine ra [] f0 [(21, .slice v_47_A v_47.length v_47_c), (22, B v_48)] (tN (sq (rg (ra [] f0 [(84, B v_48)] (tN ?_))))); rcases ic hG with ⟨h_49, hG⟩ | ⟨h_49, hG⟩
       ·refine sb 84 (bt h_49) (ct (sq (rg (ra [] f0 [(14, .slice v_47_A v_47.length v_47_c), (15, B true)] (tN (kR (hR (tR ?_)))))))); obtain rfl := oi hG; replace hG := hG_50; refine tR ?_; have he_ := hO2_39 _ (oi hG).symm; subst he_; replace hG := hG_39; refine hR (tR ?_); obtain rfl := oi hG; replace hG := hG_53; obtain rfl := oi hG; exact rtn [] ⟨v_47_A, v_47_c, v_47⟩ rfl ⟨gi 0, trivial⟩
       ·exact sb 84 (bf h_49) (cf (kS (hN (tN (fun _ _ S k e => ⟨S, k.wk, e.sel [3, 4, 5], oi hG⟩)))))
      ·exact sb 64 (bf h_43) (cf (kS (hN (tN (fun _ _ S k e => ⟨S, k.wk, e.sel [0, 1, 2], oi hG⟩)))))
     ·rintro a w hJ; refine hJ.go ?_; clear hJ; rintro rfl; replace hG := el hG_50; exact rg (ra [] f0 [(17, I (IntKind.i64.wrap (v_38 + 1)))] (tN (fun a w S hK hE => ⟨m_39, ⟨IntKind.i64.wrap (v_38 + 1), S, hK.wk, hE.sel [0, 1, 2], hO1_39 _ (oi hG).symm⟩, Nat.lt_succ_self _⟩)))
    ·try simp only [lm_, Ka.n_Hops] at h_40
     refine sb 53 (bf h_40) (cf (kX (tX (tX ?_)))); have he_ := hO2_39 _ (oi hG).symm; subst he_; replace hG := hG_39; exact hH (tN (fun _ _ S k e => ⟨S, k.wk, e.sel [], oi hG⟩))
  ·rintro a w hJ; refine hJ.go ?_; clear hJ; rintro rfl; replace hG := el hG_53; refine sq (rg (ra [] f0 [(14, .slice none 0 0), (15, B false)] (tN (kR ?_)))); obtain rfl := oi hG; exact rtn [] ⟨none, 0, ([] : List Int)⟩ rfl ⟨gn, trivial⟩
def Gbp (F : Nat) (p_0 : Km) (p_1 : Km) : Option (Bool) :=
  Option.bind (Option.bind (G4 F p_0.First p_1.First) (fun v_3 =>
    ifB (v_3)
      (Option.bind (G4 F p_0.Last p_1.Last) (fun v_5 =>
      ifB (v_5)
        (Option.bind (Gbt F p_0.Grow p_1.Grow) (fun v_7 =>
        ifB (v_7)
          (some (!((p_0.Hops.length : Int) == (p_1.Hops.length : Int))))
          (some true)))
        (some true)))
      (some true)) : Option (Bool)) (fun (v_10 : Bool) => 
    ifB (v_10)
      (some false)
      (Option.bind (Option.bind (iter (σ := Int) (ρ := Unit ⊕ Unit) (fun (v_31 : Int) => 
            (ifB (decide (v_31 < (p_0.Hops.length : Int)))
              (Option.bind (ixI p_0.Hops v_31) (fun v_34 =>
              Option.bind (ixI p_1.Hops v_31) (fun v_37 =>
              Option.bind (Gbh F v_34 v_37) (fun v_40 =>
              ifB (v_40)
                (some (.inl (IntKind.i64.wrap (v_31 + 1))))
                (some (.inr (.inr ())))))))
              (some (.inr (.inl ()))) : Option (Int ⊕ (Unit ⊕ Unit)))) F 0) (Sum.elim (fun (_ : Unit) => 
          some (.inl ())) (fun (_ : Unit) => 
          some (.inr ()))) : Option (Unit ⊕ Unit)) (Sum.elim (fun (_ : Unit) => 
        some true) (fun (_ : Unit) => 
        some false))))
theorem zae (F : Nat) (p_0 : Ka) (p_1 : Ka) (r : Bool) (hG : Gbp F p_0.p p_1.p = some r) :
  Cf Tryz.prog 16 [.agg #[I p_0.First.Head.Office, I p_0.First.Head.Size, U p_0.First.Head.Root, I p_0.First.Head.Sig.C, I p_0.First.Head.Sig.S, I p_0.First.Index, U p_0.First.Entry.Doc, I p_0.First.Entry.Stamp.Lo, I p_0.First.Entry.Stamp.Hi, .slice p_0.First.Path_A p_0.First.Path.length p_0.First.Path_c, .slice p_0.Hops_A p_0.Hops.length p_0.Hops_c, .slice p_0.Grow_A p_0.Grow.length p_0.Grow_c, I p_0.Last.Head.Office, I p_0.Last.Head.Size, U p_0.Last.Head.Root, I p_0.Last.Head.Sig.C, I p_0.Last.Head.Sig.S, I p_0.Last.Index, U p_0.Last.Entry.Doc, I p_0.Last.Entry.Stamp.Lo, I p_0.Last.Entry.Stamp.Hi, .slice p_0.Last.Path_A p_0.Last.Path.length p_0.Last.Path_c], .agg #[I p_1.First.Head.Office, I p_1.First.Head.Size, U p_1.First.Head.Root, I p_1.First.Head.Sig.C, I p_1.First.Head.Sig.S, I p_1.First.Index, U p_1.First.Entry.Doc, I p_1.First.Entry.Stamp.Lo, I p_1.First.Entry.Stamp.Hi, .slice p_1.First.Path_A p_1.First.Path.length p_1.First.Path_c, .slice p_1.Hops_A p_1.Hops.length p_1.Hops_c, .slice p_1.Grow_A p_1.Grow.length p_1.Grow_c, I p_1.Last.Head.Office, I p_1.Last.Head.Size, U p_1.Last.Head.Root, I p_1.Last.Head.Sig.C, I p_1.Last.Head.Sig.S, I p_1.Last.Index, U p_1.Last.Entry.Doc, I p_1.Last.Entry.Stamp.Lo, I p_1.Last.Entry.Stamp.Hi, .slice p_1.Last.Path_A p_1.Last.Path.length p_1.Last.Path_c]] [Ka.ok p_0, Ka.ok p_1] (B r) := by
 unfold Gbp at hG
 try simp only [lm_, Ka.n_Hops] at hG
 refine fi Tryz.func16 rfl rfl (mc Ka.mv (mc Ka.mv m0)) fun S0 w0 hT => sq (rg (l1 (nw 2 vp [I p_0.First.Head.Office, I p_0.First.Head.Size, U p_0.First.Head.Root, I p_0.First.Head.Sig.C, I p_0.First.Head.Sig.S, I p_0.First.Index, U p_0.First.Entry.Doc, I p_0.First.Entry.Stamp.Lo, I p_0.First.Entry.Stamp.Hi, .slice p_0.First.Path_A p_0.First.Path.length p_0.First.Path_c, .slice p_0.Hops_A p_0.Hops.length p_0.Hops_c, .slice p_0.Grow_A p_0.Grow.length p_0.Grow_c, I p_0.Last.Head.Office, I p_0.Last.Head.Size, U p_0.Last.Head.Root, I p_0.Last.Head.Sig.C, I p_0.Last.Head.Sig.S, I p_0.Last.Index, U p_0.Last.Entry.Doc, I p_0.Last.Entry.Stamp.Lo, I p_0.Last.Entry.Stamp.Hi, .slice p_0.Last.Path_A p_0.Last.Path.length p_0.Last.Path_c] 37 fun g_1 => l1 (nw 3 vp [I p_1.First.Head.Office, I p_1.First.Head.Size, U p_1.First.Head.Root, I p_1.First.Head.Sig.C, I p_1.First.Head.Sig.S, I p_1.First.Index, U p_1.First.Entry.Doc, I p_1.First.Entry.Stamp.Lo, I p_1.First.Entry.Stamp.Hi, .slice p_1.First.Path_A p_1.First.Path.length p_1.First.Path_c, .slice p_1.Hops_A p_1.Hops.length p_1.Hops_c, .slice p_1.Grow_A p_1.Grow.length p_1.Grow_c, I p_1.Last.Head.Office, I p_1.Last.Head.Size, U p_1.Last.Head.Root, I p_1.Last.Head.Sig.C, I p_1.Last.Head.Sig.S, I p_1.Last.Index, U p_1.Last.Entry.Doc, I p_1.Last.Entry.Stamp.Lo, I p_1.Last.Entry.Stamp.Hi, .slice p_1.Last.Path_A p_1.Last.Path.length p_1.Last.Path_c] 37 fun g_2 => ra [] f0 [] (tN (sq ?_))))))
 obtain ⟨o_9, hG, hG_9⟩ := bs hG; refine jn (fun K E a w => ∃ v_10 : Bool, Js S0 w0 56 ([(36, B v_10)] ++ K) ([.dat (RowC p_0.First.Path_A p_0.First.Path_c c_u64 tr p_0.First.Path), .dat (RowC p_0.Hops_A p_0.Hops_c Ke.cells Ke.ok p_0.Hops), .dat (RowC p_0.Grow_A p_0.Grow_c c_u64 tr p_0.Grow), .dat (RowC p_0.Last.Path_A p_0.Last.Path_c c_u64 tr p_0.Last.Path), .dat (RowC p_1.First.Path_A p_1.First.Path_c c_u64 tr p_1.First.Path), .dat (RowC p_1.Hops_A p_1.Hops_c Ke.cells Ke.ok p_1.Hops), .dat (RowC p_1.Grow_A p_1.Grow_c c_u64 tr p_1.Grow), .dat (RowC p_1.Last.Path_A p_1.Last.Path_c c_u64 tr p_1.Last.Path)] ++ se E [0, 1]) (v_10 = o_9) a w) ?_ ?_
 ·obtain ⟨v_3, hy_3, hG⟩ := bs hG; rcases ic hG with ⟨h_4, hG⟩ | ⟨h_4, hG⟩
  ·obtain ⟨v_5, hy_5, hG⟩ := bs hG; rcases ic hG with ⟨h_6, hG⟩ | ⟨h_6, hG⟩
   ·obtain ⟨v_7, hy_7, hG⟩ := bs hG; rcases ic hG with ⟨h_8, hG⟩ | ⟨h_8, hG⟩
    ·exact rg (rn 4 [(1, 10, 1, 0), (1, 10, 0, 0)] f0 [(7, .agg #[I p_0.First.Head.Office, I p_0.First.Head.Size, U p_0.First.Head.Root, I p_0.First.Head.Sig.C, I p_0.First.Head.Sig.S, I p_0.First.Index, U p_0.First.Entry.Doc, I p_0.First.Entry.Stamp.Lo, I p_0.First.Entry.Stamp.Hi, .slice p_0.First.Path_A p_0.First.Path.length p_0.First.Path_c]), (9, .agg #[I p_1.First.Head.Office, I p_1.First.Head.Size, U p_1.First.Head.Root, I p_1.First.Head.Sig.C, I p_1.First.Head.Sig.S, I p_1.First.Index, U p_1.First.Entry.Doc, I p_1.First.Entry.Stamp.Lo, I p_1.First.Entry.Stamp.Hi, .slice p_1.First.Path_A p_1.First.Path.length p_1.First.Path_c])] (l1 (cl 10 (zj F p_0.First p_1.First _ hy_3) hT ⟨(gm (Ka.ok p_0) 2 fun _ _ h => h.b_First).a, (gm (Ka.ok p_1) 3 fun _ _ h => h.b_First).a, trivial⟩ (rn 2 [] f0 [(12, B (!v_3))] (sb 12 (nt h_4) (rn 4 [(1, 10, 1, 12), (1, 10, 0, 12)] f0 [(14, .agg #[I p_0.Last.Head.Office, I p_0.Last.Head.Size, U p_0.Last.Head.Root, I p_0.Last.Head.Sig.C, I p_0.Last.Head.Sig.S, I p_0.Last.Index, U p_0.Last.Entry.Doc, I p_0.Last.Entry.Stamp.Lo, I p_0.Last.Entry.Stamp.Hi, .slice p_0.Last.Path_A p_0.Last.Path.length p_0.Last.Path_c]), (16, .agg #[I p_1.Last.Head.Office, I p_1.Last.Head.Size, U p_1.Last.Head.Root, I p_1.Last.Head.Sig.C, I p_1.Last.Head.Sig.S, I p_1.Last.Index, U p_1.Last.Entry.Doc, I p_1.Last.Entry.Stamp.Lo, I p_1.Last.Entry.Stamp.Hi, .slice p_1.Last.Path_A p_1.Last.Path.length p_1.Last.Path_c])] (l1 (cl 17 (zj F p_0.Last p_1.Last _ hy_5) hT ⟨(gm (Ka.ok p_0) 2 fun _ _ h => h.b_Last).a, (gm (Ka.ok p_1) 3 fun _ _ h => h.b_Last).a, trivial⟩ (rn 3 [] f0 [(20, B (!v_5))] (sb 20 (nt h_6) (rn 4 [(1, 1, 1, 11), (1, 1, 0, 11)] f0 [(22, .slice p_0.Grow_A p_0.Grow.length p_0.Grow_c), (24, .slice p_1.Grow_A p_1.Grow.length p_1.Grow_c)] (l1 (cl 25 (za7 F p_0.Grow_A p_0.Grow_c p_0.Grow p_1.Grow_A p_1.Grow_c p_1.Grow _ hy_7) hT ⟨(gm (Ka.ok p_0) 2 fun _ _ h => h.f_Grow).a, (gm (Ka.ok p_1) 3 fun _ _ h => h.f_Grow).a, trivial⟩ (rn 3 [] f0 [(28, B (!v_7))] (sb 28 (nt h_8) (ra [(1, 1, 1, 10), (2, 1, 0, 10)] f0 [(36, B (!((p_0.Hops.length : Int) == (p_1.Hops.length : Int))))] (tN (fg (Ka.ok p_0) 2 (fun _ _ h => h.b_First.f_Path) (fg (Ka.ok p_0) 3 (fun _ _ h => h.f_Hops) (fg (Ka.ok p_0) 4 (fun _ _ h => h.f_Grow) (fg (Ka.ok p_0) 5 (fun _ _ h => h.b_Last.f_Path) (fg (Ka.ok p_1) 7 (fun _ _ h => h.b_First.f_Path) (fg (Ka.ok p_1) 8 (fun _ _ h => h.f_Hops) (fg (Ka.ok p_1) 9 (fun _ _ h => h.f_Grow) (fg (Ka.ok p_1) 10 (fun _ _ h => h.b_Last.f_Path) (fun _ _ S k e => ⟨!((p_0.Hops.length : Int) == (p_1.Hops.length : Int)), S, k.wk, e.sel [7, 6, 5, 4, 3, 2, 1, 0, 8, 9], oi hG⟩))))))))))))))))))))))))))
    ·exact rg (rn 4 [(1, 10, 1, 0), (1, 10, 0, 0)] f0 [(7, .agg #[I p_0.First.Head.Office, I p_0.First.Head.Size, U p_0.First.Head.Root, I p_0.First.Head.Sig.C, I p_0.First.Head.Sig.S, I p_0.First.Index, U p_0.First.Entry.Doc, I p_0.First.Entry.Stamp.Lo, I p_0.First.Entry.Stamp.Hi, .slice p_0.First.Path_A p_0.First.Path.length p_0.First.Path_c]), (9, .agg #[I p_1.First.Head.Office, I p_1.First.Head.Size, U p_1.First.Head.Root, I p_1.First.Head.Sig.C, I p_1.First.Head.Sig.S, I p_1.First.Index, U p_1.First.Entry.Doc, I p_1.First.Entry.Stamp.Lo, I p_1.First.Entry.Stamp.Hi, .slice p_1.First.Path_A p_1.First.Path.length p_1.First.Path_c])] (l1 (cl 10 (zj F p_0.First p_1.First _ hy_3) hT ⟨(gm (Ka.ok p_0) 2 fun _ _ h => h.b_First).a, (gm (Ka.ok p_1) 3 fun _ _ h => h.b_First).a, trivial⟩ (rn 2 [] f0 [(12, B (!v_3))] (sb 12 (nt h_4) (rn 4 [(1, 10, 1, 12), (1, 10, 0, 12)] f0 [(14, .agg #[I p_0.Last.Head.Office, I p_0.Last.Head.Size, U p_0.Last.Head.Root, I p_0.Last.Head.Sig.C, I p_0.Last.Head.Sig.S, I p_0.Last.Index, U p_0.Last.Entry.Doc, I p_0.Last.Entry.Stamp.Lo, I p_0.Last.Entry.Stamp.Hi, .slice p_0.Last.Path_A p_0.Last.Path.length p_0.Last.Path_c]), (16, .agg #[I p_1.Last.Head.Office, I p_1.Last.Head.Size, U p_1.Last.Head.Root, I p_1.Last.Head.Sig.C, I p_1.Last.Head.Sig.S, I p_1.Last.Index, U p_1.Last.Entry.Doc, I p_1.Last.Entry.Stamp.Lo, I p_1.Last.Entry.Stamp.Hi, .slice p_1.Last.Path_A p_1.Last.Path.length p_1.Last.Path_c])] (l1 (cl 17 (zj F p_0.Last p_1.Last _ hy_5) hT ⟨(gm (Ka.ok p_0) 2 fun _ _ h => h.b_Last).a, (gm (Ka.ok p_1) 3 fun _ _ h => h.b_Last).a, trivial⟩ (rn 3 [] f0 [(20, B (!v_5))] (sb 20 (nt h_6) (rn 4 [(1, 1, 1, 11), (1, 1, 0, 11)] f0 [(22, .slice p_0.Grow_A p_0.Grow.length p_0.Grow_c), (24, .slice p_1.Grow_A p_1.Grow.length p_1.Grow_c)] (l1 (cl 25 (za7 F p_0.Grow_A p_0.Grow_c p_0.Grow p_1.Grow_A p_1.Grow_c p_1.Grow _ hy_7) hT ⟨(gm (Ka.ok p_0) 2 fun _ _ h => h.f_Grow).a, (gm (Ka.ok p_1) 3 fun _ _ h => h.f_Grow).a, trivial⟩ (rn 3 [] f0 [(28, B (!v_7))] (sb 28 (nf h_8) (ra [] f0 [(36, B true)] (tN (fg (Ka.ok p_0) 2 (fun _ _ h => h.b_First.f_Path) (fg (Ka.ok p_0) 3 (fun _ _ h => h.f_Hops) (fg (Ka.ok p_0) 4 (fun _ _ h => h.f_Grow) (fg (Ka.ok p_0) 5 (fun _ _ h => h.b_Last.f_Path) (fg (Ka.ok p_1) 7 (fun _ _ h => h.b_First.f_Path) (fg (Ka.ok p_1) 8 (fun _ _ h => h.f_Hops) (fg (Ka.ok p_1) 9 (fun _ _ h => h.f_Grow) (fg (Ka.ok p_1) 10 (fun _ _ h => h.b_Last.f_Path) (fun _ _ S k e => ⟨true, S, k.wk, e.sel [7, 6, 5, 4, 3, 2, 1, 0, 8, 9], oi hG⟩))))))))))))))))))))))))))
   ·exact rg (rn 4 [(1, 10, 1, 0), (1, 10, 0, 0)] f0 [(7, .agg #[I p_0.First.Head.Office, I p_0.First.Head.Size, U p_0.First.Head.Root, I p_0.First.Head.Sig.C, I p_0.First.Head.Sig.S, I p_0.First.Index, U p_0.First.Entry.Doc, I p_0.First.Entry.Stamp.Lo, I p_0.First.Entry.Stamp.Hi, .slice p_0.First.Path_A p_0.First.Path.length p_0.First.Path_c]), (9, .agg #[I p_1.First.Head.Office, I p_1.First.Head.Size, U p_1.First.Head.Root, I p_1.First.Head.Sig.C, I p_1.First.Head.Sig.S, I p_1.First.Index, U p_1.First.Entry.Doc, I p_1.First.Entry.Stamp.Lo, I p_1.First.Entry.Stamp.Hi, .slice p_1.First.Path_A p_1.First.Path.length p_1.First.Path_c])] (l1 (cl 10 (zj F p_0.First p_1.First _ hy_3) hT ⟨(gm (Ka.ok p_0) 2 fun _ _ h => h.b_First).a, (gm (Ka.ok p_1) 3 fun _ _ h => h.b_First).a, trivial⟩ (rn 2 [] f0 [(12, B (!v_3))] (sb 12 (nt h_4) (rn 4 [(1, 10, 1, 12), (1, 10, 0, 12)] f0 [(14, .agg #[I p_0.Last.Head.Office, I p_0.Last.Head.Size, U p_0.Last.Head.Root, I p_0.Last.Head.Sig.C, I p_0.Last.Head.Sig.S, I p_0.Last.Index, U p_0.Last.Entry.Doc, I p_0.Last.Entry.Stamp.Lo, I p_0.Last.Entry.Stamp.Hi, .slice p_0.Last.Path_A p_0.Last.Path.length p_0.Last.Path_c]), (16, .agg #[I p_1.Last.Head.Office, I p_1.Last.Head.Size, U p_1.Last.Head.Root, I p_1.Last.Head.Sig.C, I p_1.Last.Head.Sig.S, I p_1.Last.Index, U p_1.Last.Entry.Doc, I p_1.Last.Entry.Stamp.Lo, I p_1.Last.Entry.Stamp.Hi, .slice p_1.Last.Path_A p_1.Last.Path.length p_1.Last.Path_c])] (l1 (cl 17 (zj F p_0.Last p_1.Last _ hy_5) hT ⟨(gm (Ka.ok p_0) 2 fun _ _ h => h.b_Last).a, (gm (Ka.ok p_1) 3 fun _ _ h => h.b_Last).a, trivial⟩ (rn 3 [] f0 [(20, B (!v_5))] (sb 20 (nf h_6) (ra [] f0 [(36, B true)] (tN (fg (Ka.ok p_0) 2 (fun _ _ h => h.b_First.f_Path) (fg (Ka.ok p_0) 3 (fun _ _ h => h.f_Hops) (fg (Ka.ok p_0) 4 (fun _ _ h => h.f_Grow) (fg (Ka.ok p_0) 5 (fun _ _ h => h.b_Last.f_Path) (fg (Ka.ok p_1) 7 (fun _ _ h => h.b_First.f_Path) (fg (Ka.ok p_1) 8 (fun _ _ h => h.f_Hops) (fg (Ka.ok p_1) 9 (fun _ _ h => h.f_Grow) (fg (Ka.ok p_1) 10 (fun _ _ h => h.b_Last.f_Path) (fun _ _ S k e => ⟨true, S, k.wk, e.sel [7, 6, 5, 4, 3, 2, 1, 0, 8, 9], oi hG⟩)))))))))))))))))))))
  ·exact rg (rn 4 [(1, 10, 1, 0), (1, 10, 0, 0)] f0 [(7, .agg #[I p_0.First.Head.Office, I p_0.First.Head.Size, U p_0.First.Head.Root, I p_0.First.Head.Sig.C, I p_0.First.Head.Sig.S, I p_0.First.Index, U p_0.First.Entry.Doc, I p_0.First.Entry.Stamp.Lo, I p_0.First.Entry.Stamp.Hi, .slice p_0.First.Path_A p_0.First.Path.length p_0.First.Path_c]), (9, .agg #[I p_1.First.Head.Office, I p_1.First.Head.Size, U p_1.First.Head.Root, I p_1.First.Head.Sig.C, I p_1.First.Head.Sig.S, I p_1.First.Index, U p_1.First.Entry.Doc, I p_1.First.Entry.Stamp.Lo, I p_1.First.Entry.Stamp.Hi, .slice p_1.First.Path_A p_1.First.Path.length p_1.First.Path_c])] (l1 (cl 10 (zj F p_0.First p_1.First _ hy_3) hT ⟨(gm (Ka.ok p_0) 2 fun _ _ h => h.b_First).a, (gm (Ka.ok p_1) 3 fun _ _ h => h.b_First).a, trivial⟩ (rn 2 [] f0 [(12, B (!v_3))] (sb 12 (nf h_4) (ra [] f0 [(36, B true)] (tN (fg (Ka.ok p_0) 2 (fun _ _ h => h.b_First.f_Path) (fg (Ka.ok p_0) 3 (fun _ _ h => h.f_Hops) (fg (Ka.ok p_0) 4 (fun _ _ h => h.f_Grow) (fg (Ka.ok p_0) 5 (fun _ _ h => h.b_Last.f_Path) (fg (Ka.ok p_1) 7 (fun _ _ h => h.b_First.f_Path) (fg (Ka.ok p_1) 8 (fun _ _ h => h.f_Hops) (fg (Ka.ok p_1) 9 (fun _ _ h => h.f_Grow) (fg (Ka.ok p_1) 10 (fun _ _ h => h.b_Last.f_Path) (fun _ _ S k e => ⟨true, S, k.wk, e.sel [7, 6, 5, 4, 3, 2, 1, 0, 8, 9], oi hG⟩))))))))))))))))
 ·rintro a w ⟨v_10, hJ⟩; refine hJ.go ?_; clear hJ; rintro rfl; replace hG := hG_9; rcases ic hG with ⟨h_11, hG⟩ | ⟨h_11, hG⟩
  ·refine sb 36 (bt h_11) (ct (sq (rg (ra [] f0 [(4, B false)] (tN (kR (tR ?_))))))); obtain rfl := oi hG; exact rt []
  ·refine sb 36 (bf h_11) (cf (kS (tN ?_))); obtain ⟨o_42, hG, hG_42⟩ := bs hG; refine jn (fun K E a w => Js S0 w0 56 (K) (se E []) (.inl () = o_42) a w) ?_ ?_
   ·refine sq (rg (ra [] f0 [(5, I 0)] (tN (bk ?_)))); obtain ⟨e_32, hL, hG_32⟩ := bs hG; clear hG; obtain ⟨stp_32, hs_32, hL⟩ := iter_gen hL; refine lp (fun K E n_ a w => ∃ v_31 : Int, Js S0 w0 56 ([(5, I v_31)] ++ K) (se E [0, 1, 2, 3, 4, 5, 6, 7, 8, 9]) (iter stp_32 n_ v_31 = some e_32) a w) F ?_ ?_
    ·exact fun _ _ S k e => ⟨0, S, k.wk, e.sel [0, 1, 2, 3, 4, 5, 6, 7, 8, 9], hL⟩
    ·clear hL; rintro n_32 a w ⟨v_31, hJ⟩; refine hJ.go fun hL => ?_
     clear hJ; obtain ⟨m_32, o_32, rfl, hG, hO1_32, hO2_32⟩ := iter_step hL; clear hL; rw [hs_32] at hG; refine sq (sq (rg (ra [(2, 1, 9, 10)] f0 [(41, B (decide (v_31 < (p_0.Hops.length : Int))))] (tN ?_)))); rcases ic hG with ⟨h_33, hG⟩ | ⟨h_33, hG⟩
     ·try simp only [lm_, Ka.n_Hops] at h_33
      refine sb 41 (bt h_33) (ct (kS (tN (sq (bk (sq ?_)))))); obtain ⟨v_34o, hy_34, hG⟩ := bs hG; replace hG := bs hG; obtain ⟨v_37o, hy_37, hG⟩ := hG; replace hG := bs hG; obtain ⟨v_40, hy_40, hG⟩ := hG; refine qb (fxn (p := Ke.p) inf35 (gd' (RowC p_0.Hops_A p_0.Hops_c Ke.cells Ke.ok p_0.Hops) 1) hy_34 fun v_34 b_35 o_36 he_34 hi_34 => ?_); subst he_34
      try simp only [lm_, Ka.n_Hops] at hG
      refine fxn (p := Ke.p) inf35 (gd' (RowC p_1.Hops_A p_1.Hops_c Ke.cells Ke.ok p_1.Hops) 7) hy_37 fun v_37 b_38 o_39 he_37 hi_37 => ?_
      subst he_37
      try simp only [lm_, Ka.n_Hops] at hG
      refine qn 10 [(1, 1, 13, 10), (1, 0, 0, 0), (0, 16, 2, 0), (1, 1, 12, 10), (1, 0, 0, 0), (0, 16, 0, 0)] (fc (hi_34 .i64) (fc (hi_37 .i64) f0)) [(48, .agg #[I v_34.Of.Office, I v_34.Of.Size, U v_34.Of.Root, I v_34.Of.Sig.C, I v_34.Of.Sig.S, .slice v_34.Grow_A v_34.Grow.length v_34.Grow_c, I v_34.By.Head.Office, I v_34.By.Head.Size, U v_34.By.Head.Root, I v_34.By.Head.Sig.C, I v_34.By.Head.Sig.S, I v_34.By.Index, U v_34.By.Entry.Doc, I v_34.By.Entry.Stamp.Lo, I v_34.By.Entry.Stamp.Hi, .slice v_34.By.Path_A v_34.By.Path.length v_34.By.Path_c]), (53, .agg #[I v_37.Of.Office, I v_37.Of.Size, U v_37.Of.Root, I v_37.Of.Sig.C, I v_37.Of.Sig.S, .slice v_37.Grow_A v_37.Grow.length v_37.Grow_c, I v_37.By.Head.Office, I v_37.By.Head.Size, U v_37.By.Head.Root, I v_37.By.Head.Sig.C, I v_37.By.Head.Sig.S, I v_37.By.Index, U v_37.By.Entry.Doc, I v_37.By.Entry.Stamp.Lo, I v_37.By.Entry.Stamp.Hi, .slice v_37.By.Path_A v_37.By.Path.length v_37.By.Path_c])] (qc 54 (zb0 F v_34 v_37 _ hy_40) hT ⟨(gi 3).a, (gi 1).a, trivial⟩ (qa [] f0 [(55, B (!v_40))] (tN ?_))); rcases ic hG with ⟨h_41, hG⟩ | ⟨h_41, hG⟩
      ·exact sb 55 (nt h_41) (cf (kS (hN (tN (rg (ra [] f0 [(5, I (IntKind.i64.wrap (v_31 + 1)))] (tN (fun a w S hK hE => ⟨m_32, ⟨IntKind.i64.wrap (v_31 + 1), S, hK.wk, hE.sel [4, 5, 6, 7, 8, 9, 10, 11, 12, 13], hO1_32 _ (oi hG).symm⟩, Nat.lt_succ_self _⟩))))))))
      ·refine sb 55 (nf h_41) (ct (sq (rg (ra [] f0 [(4, B false)] (tN (kR (hR (tR (tR ?_))))))))); have he_ := hO2_32 _ (oi hG).symm; subst he_; replace hG := hG_32; refine hR (tR ?_); obtain rfl := oi hG; replace hG := hG_42; obtain rfl := oi hG; exact rt []
     ·try simp only [lm_, Ka.n_Hops] at h_33
      refine sb 41 (bf h_33) (cf (kX (tX (tX ?_)))); have he_ := hO2_32 _ (oi hG).symm; subst he_; replace hG := hG_32; exact hH (tN (fun _ _ S k e => ⟨S, k.wk, e.sel [], oi hG⟩))
   ·rintro a w hJ; refine hJ.go ?_; clear hJ; rintro rfl; replace hG := el hG_42; refine sq (rg (ra [] f0 [(4, B true)] (tN (kR ?_)))); obtain rfl := oi hG; exact rt []
def Gf (F : Nat) (p_0 : Int) (p_1 : Kc) : Option (Bool × Int) :=
 Option.bind (Option.bind (Gae F p_0) (fun v_2 =>
  ifB (v_2)
   (Option.bind (Gz F p_1) (fun v_4 =>
   some (!v_4)))
   (some true)) : Option (Bool)) (fun (v_6 : Bool) =>
  ifB (v_6)
   (some (false, 1))
   (Option.bind (Gaz F p_1) (fun v_8 =>
   Option.bind (Gax F p_0 p_1.Sig v_8) (un2 fun v_9 v_10 =>
   some (v_9, v_10)))))
theorem zp (F : Nat) (p_0 : Int) (p_1 : Kc) (r : Bool × Int) (hG : Gf F p_0 p_1 = some r) :
  Cf Tryz.prog 78 [I p_0, .agg #[I p_1.Office, I p_1.Size, U p_1.Root, I p_1.Sig.C, I p_1.Sig.S]] [] (.tuple #[B r.1, I r.2]) := by
 unfold Gf at hG; refine fi Tryz.func78 rfl rfl m0 fun S0 w0 hT => sq (rg (l1 (nw 3 vp [I p_1.Office, I p_1.Size, U p_1.Root, I p_1.Sig.C, I p_1.Sig.S] 27 fun g_1 => ra [] f0 [] (tN (sq ?_)))))
 obtain ⟨o_5, hG, hG_5⟩ := bs hG; refine jn (fun K E a w => ∃ v_6 : Bool, Js S0 w0 22 ([(13, B v_6)] ++ K) (se E [0]) (v_6 = o_5) a w) ?_ ?_
 ·obtain ⟨v_2, hy_2, hG⟩ := bs hG; rcases ic hG with ⟨h_3, hG⟩ | ⟨h_3, hG⟩
  ·obtain ⟨v_4, hy_4, hG⟩ := bs hG; exact rg (rn 1 [] f0 [(6, I p_0)] (l1 (cl 7 (zl F p_0 _ hy_2) hT trivial (rn 2 [] f0 [(9, B (!v_2))] (sb 9 (nt h_3) (rn 1 [(0, 5, 0, 0)] f0 [(10, .agg #[I p_1.Office, I p_1.Size, U p_1.Root, I p_1.Sig.C, I p_1.Sig.S])] (l1 (cl 11 (zi F p_1 _ hy_4) hT trivial (ra [] f0 [(13, B (!v_4))] (tN (fun _ _ S k e => ⟨!v_4, S, k.wk, e.sel [0], oi hG⟩)))))))))))
  ·exact rg (rn 1 [] f0 [(6, I p_0)] (l1 (cl 7 (zl F p_0 _ hy_2) hT trivial (rn 2 [] f0 [(9, B (!v_2))] (sb 9 (nf h_3) (ra [] f0 [(13, B true)] (tN (fun _ _ S k e => ⟨true, S, k.wk, e.sel [0], oi hG⟩))))))))
 ·rintro a w ⟨v_6, hJ⟩; refine hJ.go ?_; clear hJ; rintro rfl; replace hG := hG_5; rcases ic hG with ⟨h_7, hG⟩ | ⟨h_7, hG⟩
  ·refine sb 13 (bt h_7) (ct (sq (rg (ra [] f0 [(4, B false), (5, I 1)] (tN (kR (tR ?_))))))); obtain rfl := oi hG; exact rt []
  ·refine sb 13 (bf h_7) (cf (kS (tN (sq ?_)))); obtain ⟨v_8o, hy_8, hG⟩ := bs hG; replace hG := b2 hG; obtain ⟨v_9, v_10, hy_9, hG⟩ := hG; refine hb [0] (ht [0] [0, 1, 2, 3] [(2, 2, 0, 3), (0, 5, 0, 0)] f0 [(14, I p_0), (16, .agg #[I p_1.Sig.C, I p_1.Sig.S]), (17, .agg #[I p_1.Office, I p_1.Size, U p_1.Root, I p_1.Sig.C, I p_1.Sig.S])] (ho [4] ⟨h1 (cn 18 (zax F p_1 _ hy_8) hT (fun _ => (mr tr_mv m0)) trivial ?_), trivial⟩)); rintro ⟨v_8_A, v_8_c, v_8⟩ hq_8; obtain rfl : v_8 = v_8o := hq_8.symm
   try simp only [lm_, Ka.n_Hops] at hG
   refine hk [1] (ho [5] ⟨h1 (cl 19 (zbe F p_0 p_1.Sig v_8_A v_8_c v_8 _ hy_9) hT ⟨ga 0, trivial⟩ (hk [1] (ht [1] [6, 7, 8, 9] [] f0 [(4, B v_9), (5, I v_10)] (he (tN (kR ?_)))))), trivial⟩); obtain rfl := oi hG; exact rt []
def Gk (F : Nat) (p_0 : Kg) (p_1 : Kc) (p_2 : Int) : Option (Kk × Int) :=
  Option.bind (Option.bind (Gm F p_0) (fun v_4 =>
    ifB (v_4)
      (Option.bind (Gz F p_1) (fun v_6 =>
      ifB (v_6)
        (ifB (decide (p_1.Size > (p_0.Entries.length : Int)))
          (some true)
          (Option.bind (Gc F p_2 0 (IntKind.i64.wrap (p_1.Size - 1))) (fun v_9 =>
          some (!v_9))))
        (some true)))
      (some true)) : Option (Bool)) (fun (v_11 : Bool) => 
    ifB (v_11)
      (some ((⟨(⟨0, 0, 0, (⟨0, 0⟩ : KSig)⟩ : Kc), 0, (⟨0, ⟨0, 0⟩⟩ : Kb), ([] : List Int)⟩ : Kk), 1))
      (Option.bind (Gag F p_0 p_1.Size) (un2 fun v_13 v_14 =>
      Option.bind (ifB ((v_14 == 0))
          (ifB ((p_1.Office == p_0.ID))
            (some (!(v_13 == p_1.Root)))
            (some true))
          (some true) : Option (Bool)) (fun (v_18 : Bool) => 
        ifB (v_18)
          (some ((⟨(⟨0, 0, 0, (⟨0, 0⟩ : KSig)⟩ : Kc), 0, (⟨0, ⟨0, 0⟩⟩ : Kb), ([] : List Int)⟩ : Kk), 33))
          (Option.bind (slI p_0.Entries 0 p_1.Size) (fun v_20 =>
          Option.bind (Option.bind (Option.bind (iter (σ := Int × (List Int)) (ρ := (List Int)) (un2 fun (v_41 : Int) (v_42 : (List Int)) => 
                  (ifB (decide (v_41 < (v_20.length : Int)))
                    (Option.bind (ixI v_20 v_41) (fun v_47 =>
                    Option.bind (Gj F v_47) (fun v_51 =>
                    Option.bind (apG 8 v_42 ([v_51] : List Int)) (fun v_53 =>
                    some (.inl (IntKind.i64.wrap (v_41 + 1), v_53))))))
                    (some (.inr v_42)) : Option ((Int × (List Int)) ⊕ (List Int)))) F (0, ([] : List Int))) (fun (v_54 : (List Int)) => 
                some v_54) : Option ((List Int))) (fun (v_58 : (List Int)) => 
              some v_58) : Option ((List Int))) (fun (v_61 : (List Int)) => 
            Option.bind (Gb4 F v_61 p_2) (un2 fun v_65 v_66 =>
            ifB ((v_66 == 0))
              (Option.bind (ixI p_0.Entries p_2) (fun v_108 =>
              some ((⟨p_1, p_2, v_108, v_65⟩ : Kk), 0)))
              (some ((⟨(⟨0, 0, 0, (⟨0, 0⟩ : KSig)⟩ : Kc), 0, (⟨0, ⟨0, 0⟩⟩ : Kb), ([] : List Int)⟩ : Kk), v_66))))))))))
theorem zk (F : Nat) (p_0 : Kd) (p_1 : Kc) (p_2 : Int) (r : Kk × Int) (hG : Gk F p_0.p p_1 p_2 = some r) :
  Cn Tryz.prog 24 [.agg #[I p_0.ID, .slice p_0.Entries_A p_0.Entries.length p_0.Entries_c], .agg #[I p_1.Office, I p_1.Size, U p_1.Root, I p_1.Sig.C, I p_1.Sig.S], I p_2] [Kd.ok p_0] (fun q : Kh => r.1 = q.p) (fun q => .tuple #[.agg #[I q.Head.Office, I q.Head.Size, U q.Head.Root, I q.Head.Sig.C, I q.Head.Sig.S, I q.Index, U q.Entry.Doc, I q.Entry.Stamp.Lo, I q.Entry.Stamp.Hi, .slice q.Path_A q.Path.length q.Path_c], I r.2]) (fun q => [Kh.ok q]) := by
 unfold Gk at hG
 try simp only [lm_, Ka.n_Hops] at hG
 refine fin Tryz.func24 rfl rfl (mc Kd.mv m0) fun S0 w0 hT => sq (rg (l1 (nw 3 vp [I p_0.ID, .slice p_0.Entries_A p_0.Entries.length p_0.Entries_c] 53 fun g_1 => l1 (nw 4 vp [I p_1.Office, I p_1.Size, U p_1.Root, I p_1.Sig.C, I p_1.Sig.S] 27 fun g_2 => l1 (nw 6 vp (Kh.cells Kh.z) 34 fun g_3 => ra [] f0 [] (tN (sq ?_)))))))
 obtain ⟨o_10, hG, hG_10⟩ := bs hG; refine jn (fun K E a w => ∃ v_11 : Bool, Js S0 w0 84 ([(35, B v_11)] ++ K) ([.dat (RowC p_0.Entries_A p_0.Entries_c Kb.cells tr p_0.Entries)] ++ se E [0, 1, 2]) (v_11 = o_10) a w) ?_ ?_
 ·obtain ⟨v_4, hy_4, hG⟩ := bs hG; rcases ic hG with ⟨h_5, hG⟩ | ⟨h_5, hG⟩
  ·obtain ⟨v_6, hy_6, hG⟩ := bs hG; rcases ic hG with ⟨h_7, hG⟩ | ⟨h_7, hG⟩
   ·rcases ic hG with ⟨h_8, hG⟩ | ⟨h_8, hG⟩
    ·refine rg (rn 1 [(0, 2, 2, 0)] f0 [(12, .agg #[I p_0.ID, .slice p_0.Entries_A p_0.Entries.length p_0.Entries_c])] (l1 (cl 13 (za F p_0 _ hy_4) hT ⟨(gi 3).a, trivial⟩ (rn 2 [] f0 [(15, B (!v_4))] (sb 15 (nt h_5) (rn 1 [(0, 5, 1, 0)] f0 [(16, .agg #[I p_1.Office, I p_1.Size, U p_1.Root, I p_1.Sig.C, I p_1.Sig.S])] (l1 (cl 17 (zi F p_1 _ hy_6) hT trivial (rn 3 [] f0 [(20, B (!v_6))] (sb 20 (nt h_7) (rn 8 [(1, 1, 1, 1), (1, 1, 2, 1)] f0 [(28, B (decide (p_1.Size > (p_0.Entries.length : Int))))] ?_)))))))))))
     try simp only [lm_, Ka.n_Hops] at h_8
     exact sb 28 (bt h_8) (ra [] f0 [(35, B true)] (tN (fg (Kd.ok p_0) 3 (fun _ _ h => h.f_Entries) (fun _ _ S k e => ⟨true, S, k.wk, e.sel [0, 1, 2, 3], oi hG⟩))))
    ·obtain ⟨v_9, hy_9, hG⟩ := bs hG; refine rg (rn 1 [(0, 2, 2, 0)] f0 [(12, .agg #[I p_0.ID, .slice p_0.Entries_A p_0.Entries.length p_0.Entries_c])] (l1 (cl 13 (za F p_0 _ hy_4) hT ⟨(gi 3).a, trivial⟩ (rn 2 [] f0 [(15, B (!v_4))] (sb 15 (nt h_5) (rn 1 [(0, 5, 1, 0)] f0 [(16, .agg #[I p_1.Office, I p_1.Size, U p_1.Root, I p_1.Sig.C, I p_1.Sig.S])] (l1 (cl 17 (zi F p_1 _ hy_6) hT trivial (rn 3 [] f0 [(20, B (!v_6))] (sb 20 (nt h_7) (rn 8 [(1, 1, 1, 1), (1, 1, 2, 1)] f0 [(28, B (decide (p_1.Size > (p_0.Entries.length : Int))))] ?_)))))))))))
     try simp only [lm_, Ka.n_Hops] at h_8
     exact sb 28 (bf h_8) (rn 4 [(2, 1, 1, 1)] f0 [(29, I p_2), (32, I (IntKind.i64.wrap (p_1.Size - 1)))] (l1 (cl 33 (zc F p_2 0 (IntKind.i64.wrap (p_1.Size - 1)) _ hy_9) hT trivial (ra [] f0 [(35, B (!v_9))] (tN (fg (Kd.ok p_0) 3 (fun _ _ h => h.f_Entries) (fun _ _ S k e => ⟨!v_9, S, k.wk, e.sel [0, 1, 2, 3], oi hG⟩)))))))
   ·exact rg (rn 1 [(0, 2, 2, 0)] f0 [(12, .agg #[I p_0.ID, .slice p_0.Entries_A p_0.Entries.length p_0.Entries_c])] (l1 (cl 13 (za F p_0 _ hy_4) hT ⟨(gi 3).a, trivial⟩ (rn 2 [] f0 [(15, B (!v_4))] (sb 15 (nt h_5) (rn 1 [(0, 5, 1, 0)] f0 [(16, .agg #[I p_1.Office, I p_1.Size, U p_1.Root, I p_1.Sig.C, I p_1.Sig.S])] (l1 (cl 17 (zi F p_1 _ hy_6) hT trivial (rn 3 [] f0 [(20, B (!v_6))] (sb 20 (nf h_7) (ra [] f0 [(35, B true)] (tN (fg (Kd.ok p_0) 3 (fun _ _ h => h.f_Entries) (fun _ _ S k e => ⟨true, S, k.wk, e.sel [0, 1, 2, 3], oi hG⟩))))))))))))))
  ·exact rg (rn 1 [(0, 2, 2, 0)] f0 [(12, .agg #[I p_0.ID, .slice p_0.Entries_A p_0.Entries.length p_0.Entries_c])] (l1 (cl 13 (za F p_0 _ hy_4) hT ⟨(gi 3).a, trivial⟩ (rn 2 [] f0 [(15, B (!v_4))] (sb 15 (nf h_5) (ra [] f0 [(35, B true)] (tN (fg (Kd.ok p_0) 3 (fun _ _ h => h.f_Entries) (fun _ _ S k e => ⟨true, S, k.wk, e.sel [0, 1, 2, 3], oi hG⟩)))))))))
 ·rintro a w ⟨v_11, hJ⟩; refine hJ.go ?_; clear hJ; rintro rfl; replace hG := hG_10; rcases ic hG with ⟨h_12, hG⟩ | ⟨h_12, hG⟩
  ·refine sb 35 (bt h_12) (ct (sq (rg (rn 1 [] f0 [(36, Aw (Kh.cells Kh.z))] (l1 (sr 1 g_3 (ns 0 (Kh.cells Kh.z)) (ra [] f0 [(7, I 1)] (tN (kR (tR ?_)))))))))); obtain rfl := oi hG; exact rtn [(1, 0, 10)] (⟨(⟨0, 0, 0, (⟨0, 0⟩ : KSig)⟩ : Kc), 0, (⟨0, ⟨0, 0⟩⟩ : Kb), none, 0, ([] : List Int)⟩ : Kh) rfl ⟨(((gn : Fd _ (RowC none 0 c_u64 tr ([] : List Int)))).m fun _ _ h => ⟨h⟩), trivial⟩
  ·refine sb 35 (bf h_12) (cf (kS (tN (sq (sq ?_))))); obtain ⟨v_13, v_14, hy_13, hG⟩ := b2 hG; refine rg (rn 3 [(0, 2, 3, 0), (1, 1, 2, 1)] f0 [(38, .agg #[I p_0.ID, .slice p_0.Entries_A p_0.Entries.length p_0.Entries_c]), (40, I p_1.Size)] (l1 (cl 41 (zay F p_0 p_1.Size _ hy_13) hT ⟨(((gd' (RowC p_0.Entries_A p_0.Entries_c Kb.cells tr p_0.Entries) 0)).m fun _ _ h => ⟨h⟩).a, trivial⟩ (ra [] f0 [(8, U v_13), (9, I v_14)] (tN ?_))))); obtain ⟨o_17, hG, hG_17⟩ := bs hG; refine jn (fun K E a w => ∃ v_18 : Bool, Js S0 w0 84 ([(58, B v_18)] ++ K) (se E [0, 1, 2, 3]) (v_18 = o_17) a w) ?_ ?_
   ·rcases ic hG with ⟨h_15, hG⟩ | ⟨h_15, hG⟩
    ·rcases ic hG with ⟨h_16, hG⟩ | ⟨h_16, hG⟩
     ·exact rg (rn 3 [] f0 [(46, B (!(v_14 == 0)))] (sb 46 (nt h_15) (rn 7 [(1, 1, 2, 0), (1, 1, 3, 0)] f0 [(53, B (!(p_1.Office == p_0.ID)))] (sb 53 (nt h_16) (ra [(2, 1, 2, 2)] f0 [(58, B (!(v_13 == p_1.Root)))] (tN (fun _ _ S k e => ⟨!(v_13 == p_1.Root), S, k.wk, e.sel [0, 1, 2, 3], oi hG⟩)))))))
     ·exact rg (rn 3 [] f0 [(46, B (!(v_14 == 0)))] (sb 46 (nt h_15) (rn 7 [(1, 1, 2, 0), (1, 1, 3, 0)] f0 [(53, B (!(p_1.Office == p_0.ID)))] (sb 53 (nf h_16) (ra [] f0 [(58, B true)] (tN (fun _ _ S k e => ⟨true, S, k.wk, e.sel [0, 1, 2, 3], oi hG⟩)))))))
    ·exact rg (rn 3 [] f0 [(46, B (!(v_14 == 0)))] (sb 46 (nf h_15) (ra [] f0 [(58, B true)] (tN (fun _ _ S k e => ⟨true, S, k.wk, e.sel [0, 1, 2, 3], oi hG⟩)))))
   ·rintro a w ⟨v_18, hJ⟩; refine hJ.go ?_; clear hJ; rintro rfl; replace hG := hG_17; rcases ic hG with ⟨h_19, hG⟩ | ⟨h_19, hG⟩
    ·refine sb 58 (bt h_19) (ct (sq (rg (rn 1 [] f0 [(59, Aw (Kh.cells Kh.z))] (l1 (sr 1 g_3 (ns 0 (Kh.cells Kh.z)) (ra [] f0 [(7, I 33)] (tN (kR (tR ?_)))))))))); obtain rfl := oi hG; exact rtn [(1, 0, 10)] (⟨(⟨0, 0, 0, (⟨0, 0⟩ : KSig)⟩ : Kc), 0, (⟨0, ⟨0, 0⟩⟩ : Kb), none, 0, ([] : List Int)⟩ : Kh) rfl ⟨(((gn : Fd _ (RowC none 0 c_u64 tr ([] : List Int)))).m fun _ _ h => ⟨h⟩), trivial⟩
    ·refine sb 58 (bf h_19) (cf (kS (tN (sq ?_)))); obtain ⟨v_20, hy_20, hG⟩ := bs hG; obtain ⟨v_61o, hy_64, hG⟩ := bs hG; replace hG := b2 hG; obtain ⟨v_65o, v_66, hy_65, hG⟩ := hG; refine rg (fp false true inf51 (gd' (RowC p_0.Entries_A p_0.Entries_c Kb.cells tr p_0.Entries) 0) hy_20 fun v_20_A v_20_c hp_20 => rn 5 [(1, 1, 4, 1), (1, 1, 3, 1), (0, 0, 0, 0)] (fc (hp_20 .i64 .i64) f0) [(65, .slice v_20_A v_20.length v_20_c)] (l1 (ci 66 (args := [.slice v_20_A v_20.length v_20_c, .func (.func 66) #[] #[]]) (fun E e w => ∃ (v_61 : List Int) (v_62_A : Option Addr) (v_63_c : Nat), Rs S0 w0 (.slice v_62_A v_61.length v_63_c) ([.own 23 1 (.slice v_62_A v_61.length v_63_c) v_61.length (v_61.flatMap c_u64)] ++ se E [0, 1, 2, 3, 4]) (v_61 = v_61o) e w) Tryz.func65 rfl rfl ?_ ?_)))
     ·replace hG := hy_64
      try simp only [lm_, Ka.n_Hops] at hG
      refine sq (rg (ra [] f0 [] (tN (sq (rg (ra [] f0 [(5, .slice none 0 0)] (tN ?_))))))); replace hG := bs hG; obtain ⟨o_103, hG, hG_103⟩ := hG; refine jn (fun K E a w => ∃ (v_104 : List Int) (v_105_A : Option Addr) (v_106_c : Nat), Js S0 w0 22 ([(5, .slice v_105_A v_104.length v_106_c)] ++ K) ([.own 23 1 (.slice v_105_A v_104.length v_106_c) v_104.length (v_104.flatMap c_u64)] ++ se E [0, 1, 2, 3, 4]) (v_104 = o_103) a w) ?_ ?_
      ·refine sq (rg (ra [] f0 (ns 8 [.slice v_20_A v_20.length v_20_c, I (v_20.length : Int), I 0]) (tN (bk ?_)))); obtain ⟨e_91, hL, hG_91⟩ := bs hG; clear hG; obtain ⟨stp_91, hs_91, hL⟩ := iter_gen hL; refine lp (fun K E n_ a w => ∃ (v_87 : Int) (v_88 : List Int) (v_89_A : Option Addr) (v_90_c : Nat), Js S0 w0 22 ([(5, .slice v_89_A v_88.length v_90_c), (10, I v_87)] ++ K) ([.own 23 1 (.slice v_89_A v_88.length v_90_c) v_88.length (v_88.flatMap c_u64)] ++ se E [0, 1, 2, 3, 4]) (iter stp_91 n_ (v_87, v_88) = some e_91) a w) F ?_ ?_
       ·exact on 23 1 (fun _ _ S k e => ⟨0, ([] : List Int), none, 0, S, k.wk, e.sel [0, 1, 2, 3, 4, 5], hL⟩)
       ·clear hL; rintro n_91 a w ⟨v_87, v_88, v_89_A, v_90_c, hJ⟩; refine hJ.go fun hL => ?_
        clear hJ; obtain ⟨m_91, o_91, rfl, hG, hO1_91, hO2_91⟩ := iter_step hL; clear hL; rw [hs_91] at hG; refine sq (rg (ra [] f0 [(11, B (decide (v_87 < (v_20.length : Int))))] (tN (sq ?_)))); replace hG := ic hG; rcases hG with ⟨h_92, hG⟩ | ⟨h_92, hG⟩
        ·try simp only [lm_, Ka.n_Hops] at h_92
         refine sb 11 (bt h_92) (ct (kS (tN (sq (bk (sq ?_)))))); replace hG := bs hG; obtain ⟨v_93, hy_93, hG⟩ := hG; refine rg (fx inf51 (gd' (RowC v_20_A v_20_c Kb.cells tr v_20) 1) hy_93 fun b_94 o_95 hi_93 => rn 2 [(0, 0, 0, 0), (0, 3, 0, 0)] (fc (hi_93 .i64) f0) [(13, .agg #[U v_93.Doc, I v_93.Stamp.Lo, I v_93.Stamp.Hi])] (l1 (nw 7 vp [U 0, I 0, I 0] 31 fun g_96 => l1 (sr 0 g_96 (ns 0 [U v_93.Doc, I v_93.Stamp.Lo, I v_93.Stamp.Hi]) (nl (tN ?_)))))); replace hG := bs hG; obtain ⟨v_97, hy_97, hG⟩ := hG; replace hG := bs hG; obtain ⟨v_99, hy_99, hG⟩ := hG; exact rg (rn 3 [(2, 3, 0, 0)] f0 (ns 14 [.slice v_89_A v_88.length v_90_c, .func (.func 66) #[] #[], .agg #[U v_93.Doc, I v_93.Stamp.Lo, I v_93.Stamp.Hi]]) (l1 (cl 17 (z8 F v_93 _ hy_97) hT trivial (l1 (nw 18 (vs 1) [U v_97] 23 fun g_98 => l1 (ap 3 19 v_89_A v_90_c v_88 ([v_97] : List Int) inf32 (bA (f := c_u64) (ok := tr) (l := ([v_97] : List Int)) g_98 0 et.a) hy_99 one_u64 fun v_99_A v_99_c _ => ra [] f0 [(5, .slice v_99_A v_99.length v_99_c)] (hN (tN (rg (ra [] f0 [(10, I (IntKind.i64.wrap (v_87 + 1)))] (tN (fun a w S hK hE => ⟨m_91, ⟨IntKind.i64.wrap (v_87 + 1), v_99, v_99_A, v_99_c, S, hK.wk, hE.sel [3, 4, 5, 6, 7, 8], hO1_91 _ (oi hG).symm⟩, Nat.lt_succ_self _⟩))))))))))))
        ·try simp only [lm_, Ka.n_Hops] at h_92
         refine sb 11 (bf h_92) (cf (kX (tX (tX ?_)))); have he_ := hO2_91 _ (oi hG).symm; subst he_; replace hG := hG_91; exact hH (tN (fun _ _ S k e => ⟨v_88, v_89_A, v_90_c, S, k.wk, e.sel [0, 1, 2, 3, 4, 5], oi hG⟩))
      ·rintro a w ⟨v_104, v_105_A, v_106_c, hJ⟩; refine hJ.go ?_; clear hJ; rintro rfl; replace hG := hG_103; exact sq (rg (ra [] f0 [(4, .slice v_105_A v_104.length v_106_c)] (tN (kR (ri [] (.slice v_105_A v_104.length v_106_c) (fun a w S hK hE => ⟨v_104, v_105_A, v_106_c, rfl, ⟨S, hE.sel [0, 1, 2, 3, 4, 5]⟩, oi hG⟩))))))
     ·rintro e w ⟨v_61, v_62_A, v_63_c, hJ⟩; refine hJ.go ?_; clear hJ; rintro rfl; refine rn 1 [] f0 [(67, I p_2)] (so (A := v_62_A) (c := v_63_c) 0 c_u64 tr v_61 tr_mv et (l1 (cn 68 (zcc F v_62_A v_63_c v_61 p_2 _ hy_65) hT (fun _ => (mr tr_mv m0)) ⟨gi 0, trivial⟩ ?_))); rintro ⟨v_65_A, v_65_c, v_65⟩ hq_65; obtain rfl : v_65 = v_65o := hq_65.symm
      try simp only [lm_, Ka.n_Hops] at hG
      refine ra [] f0 [(10, .slice v_65_A v_65.length v_65_c), (11, I v_66)] (tN (sq (sq (rg (ra [] f0 [(72, B (!(v_66 == 0)))] (tN ?_)))))); replace hG := ic hG; rcases hG with ⟨h_107, hG⟩ | ⟨h_107, hG⟩
      ·refine sb 72 (nt h_107) (cf (kS (tN (sq ?_)))); replace hG := bs hG; obtain ⟨v_108, hy_108, hG⟩ := hG; refine fx inf51 (gd' (RowC p_0.Entries_A p_0.Entries_c Kb.cells tr p_0.Entries) 3) hy_108 fun b_109 o_110 hi_108 => hb [0, 1, 2, 3, 4, 6, 7] (ht [0, 1, 2, 3, 4, 6, 7] [0, 1, 2, 3, 4, 5, 6, 7, 8] [(0, 5, 5, 0), (2, 1, 6, 1), (1, 0, 0, 0), (0, 3, 0, 0)] (fc (hi_108 .i64) f0) [(83, .agg #[I p_1.Office, I p_1.Size, U p_1.Root, I p_1.Sig.C, I p_1.Sig.S, I p_2, U v_108.Doc, I v_108.Stamp.Lo, I v_108.Stamp.Hi, .slice v_65_A v_65.length v_65_c])] (ho [9] ⟨h1 (sr 5 g_3 (ns 0 [I p_1.Office, I p_1.Size, U p_1.Root, I p_1.Sig.C, I p_1.Sig.S, I p_2, U v_108.Doc, I v_108.Stamp.Lo, I v_108.Stamp.Hi, .slice v_65_A v_65.length v_65_c]) (hk [0, 1, 2, 3, 4, 6, 7] (ht [0, 1, 2, 3, 4, 6, 7] [10] [] f0 [(7, I 0)] (he (tN (kR ?_)))))), trivial⟩))
       obtain rfl := oi hG; exact rtn [(5, 0, 10)] (⟨p_1, p_2, v_108, v_65_A, v_65_c, v_65⟩ : Kh) rfl ⟨(((gd' (RowC v_65_A v_65_c c_u64 tr v_65) 1)).m fun _ _ h => ⟨h⟩), trivial⟩
      ·refine sb 72 (nf h_107) (ct (sq (rg (rn 2 [] f0 [(73, Aw (Kh.cells Kh.z)), (74, I v_66)] (l1 (sr 4 g_3 (ns 0 (Kh.cells Kh.z)) (ra [] f0 [(7, I v_66)] (tN (kR (tR ?_)))))))))); obtain rfl := oi hG; exact rtn [(4, 0, 10)] (⟨(⟨0, 0, 0, (⟨0, 0⟩ : KSig)⟩ : Kc), 0, (⟨0, ⟨0, 0⟩⟩ : Kb), none, 0, ([] : List Int)⟩ : Kh) rfl ⟨(((gn : Fd _ (RowC none 0 c_u64 tr ([] : List Int)))).m fun _ _ h => ⟨h⟩), trivial⟩
def Gx (F : Nat) (p_0 : Kg) (p_1 : Kc) : Option (Bool) :=
  Option.bind (ifB ((p_1.Office == p_0.ID))
      (some (decide (p_1.Size > (p_0.Entries.length : Int))))
      (some true) : Option (Bool)) (fun (v_5 : Bool) => 
    ifB (v_5)
      (some false)
      (Option.bind (Gab F p_0 p_1.Size) (fun v_7 =>
      Option.bind (Gbv F v_7) (un2 fun v_8 v_9 =>
      Option.bind (ifB ((v_9 == 0))
          (some (v_8 == p_1.Root))
          (some false) : Option (Bool)) (fun (v_12 : Bool) => 
        some v_12)))))
theorem zm (F : Nat) (p_0 : Kd) (p_1 : Kc) (r : Bool) (hG : Gx F p_0.p p_1 = some r) :
  Cf Tryz.prog 103 [.agg #[I p_0.ID, .slice p_0.Entries_A p_0.Entries.length p_0.Entries_c], .agg #[I p_1.Office, I p_1.Size, U p_1.Root, I p_1.Sig.C, I p_1.Sig.S]] [Kd.ok p_0] (B r) := by
 unfold Gx at hG
 try simp only [lm_, Ka.n_Hops] at hG
 refine fi Tryz.func103 rfl rfl (mc Kd.mv m0) fun S0 w0 hT => sq (rg (l1 (nw 2 vp [I p_0.ID, .slice p_0.Entries_A p_0.Entries.length p_0.Entries_c] 53 fun g_1 => l1 (nw 3 vp [I p_1.Office, I p_1.Size, U p_1.Root, I p_1.Sig.C, I p_1.Sig.S] 27 fun g_2 => ra [] f0 [] (tN (sq ?_))))))
 obtain ⟨o_4, hG, hG_4⟩ := bs hG; refine jn (fun K E a w => ∃ v_5 : Bool, Js S0 w0 36 ([(19, B v_5)] ++ K) ([.dat (RowC p_0.Entries_A p_0.Entries_c Kb.cells tr p_0.Entries)] ++ se E [0, 1]) (v_5 = o_4) a w) ?_ ?_
 ·rcases ic hG with ⟨h_3, hG⟩ | ⟨h_3, hG⟩
  ·exact rg (rn 6 [(1, 1, 0, 0), (1, 1, 1, 0)] f0 [(12, B (!(p_1.Office == p_0.ID)))] (sb 12 (nt h_3) (ra [(1, 1, 0, 1), (1, 1, 1, 1)] f0 [(19, B (decide (p_1.Size > (p_0.Entries.length : Int))))] (tN (fg (Kd.ok p_0) 2 (fun _ _ h => h.f_Entries) (fun _ _ S k e => ⟨decide (p_1.Size > (p_0.Entries.length : Int)), S, k.wk, e.sel [0, 1, 2], oi hG⟩))))))
  ·exact rg (rn 6 [(1, 1, 0, 0), (1, 1, 1, 0)] f0 [(12, B (!(p_1.Office == p_0.ID)))] (sb 12 (nf h_3) (ra [] f0 [(19, B true)] (tN (fg (Kd.ok p_0) 2 (fun _ _ h => h.f_Entries) (fun _ _ S k e => ⟨true, S, k.wk, e.sel [0, 1, 2], oi hG⟩))))))
 ·rintro a w ⟨v_5, hJ⟩; refine hJ.go ?_; clear hJ; rintro rfl; replace hG := hG_4; rcases ic hG with ⟨h_6, hG⟩ | ⟨h_6, hG⟩
  ·refine sb 19 (bt h_6) (ct (sq (rg (ra [] f0 [(4, B false)] (tN (kR (tR ?_))))))); obtain rfl := oi hG; exact rt []
  ·refine sb 19 (bf h_6) (cf (kS (tN (sq ?_)))); obtain ⟨v_7o, hy_7, hG⟩ := bs hG; replace hG := b2 hG; obtain ⟨v_8, v_9, hy_8, hG⟩ := hG; refine rg (rn 3 [(0, 2, 2, 0), (1, 1, 1, 1)] f0 [(21, .agg #[I p_0.ID, .slice p_0.Entries_A p_0.Entries.length p_0.Entries_c]), (23, I p_1.Size)] (l1 (cn 24 (zat F p_0 p_1.Size _ hy_7) hT (fun _ => (mr tr_mv m0)) ⟨(((gd' (RowC p_0.Entries_A p_0.Entries_c Kb.cells tr p_0.Entries) 0)).m fun _ _ h => ⟨h⟩), trivial⟩ ?_))); rintro ⟨v_7_A, v_7_c, v_7⟩ hq_7; obtain rfl : v_7 = v_7o := hq_7.symm
   try simp only [lm_, Ka.n_Hops] at hG
   refine l1 (cl 25 (za9 F v_7_A v_7_c v_7 _ hy_8) hT ⟨ga 0, trivial⟩ (ra [] f0 [(5, U v_8), (6, I v_9)] (tN ?_))); obtain ⟨o_11, hG, hG_11⟩ := bs hG; refine jn (fun K E a w => ∃ v_12 : Bool, Js S0 w0 36 ([(4, B v_12)] ++ K) (se E []) (v_12 = o_11) a w) ?_ ?_
   ·rcases ic hG with ⟨h_10, hG⟩ | ⟨h_10, hG⟩
    ·exact rg (rn 3 [] f0 [(30, B (v_9 == 0))] (sb 30 (bt h_10) (ra [(2, 1, 2, 2)] f0 [(4, B (v_8 == p_1.Root))] (tN (fun _ _ S k e => ⟨(v_8 == p_1.Root), S, k.wk, e.sel [], oi hG⟩)))))
    ·exact rg (rn 3 [] f0 [(30, B (v_9 == 0))] (sb 30 (bf h_10) (ra [] f0 [(4, B false)] (tN (fun _ _ S k e => ⟨false, S, k.wk, e.sel [], oi hG⟩)))))
   ·rintro a w ⟨v_12, hJ⟩; refine hJ.go ?_; clear hJ; rintro rfl; replace hG := hG_11; refine kR ?_; obtain rfl := oi hG; exact rt []
def Gl (F : Nat) (p_0 : Kg) (p_1 : Int) (p_2 : Int) (p_3 : Int) : Option (Kc × Int) :=
 Option.bind (Option.bind (Gm F p_0) (fun v_3 =>
  ifB (v_3)
   (Option.bind (Gc F p_1 1 (p_0.Entries.length : Int)) (fun v_5 =>
   some (!v_5, p_3)))
   (some (true, p_3))) : Option ((Bool × Int))) (un2 fun (v_7 : Bool) (v_8 : Int) =>
  ifB (v_7)
   (some ((⟨0, 0, 0, (⟨0, 0⟩ : KSig)⟩ : Kc), 1))
   (Option.bind (Gag F p_0 p_1) (un2 fun v_10 v_11 =>
   ifB ((v_11 == 0))
    (Option.bind (Gaz F (⟨p_0.ID, p_1, v_10, (⟨0, 0⟩ : KSig)⟩ : Kc)) (fun v_14 =>
    Option.bind (Gaw F p_2 v_8 v_14) (un2 fun v_15 v_16 =>
    ifB ((v_16 == 0))
     (some ((⟨p_0.ID, p_1, v_10, v_15⟩ : Kc), 0))
     (some ((⟨0, 0, 0, (⟨0, 0⟩ : KSig)⟩ : Kc), v_16)))))
    (some ((⟨0, 0, 0, (⟨0, 0⟩ : KSig)⟩ : Kc), v_11)))))
theorem zaw (F : Nat) (p_0 : Kd) (p_1 : Int) (p_2 : Int) (p_3 : Int) (r : Kc × Int) (hG : Gl F p_0.p p_1 p_2 p_3 = some r) :
  Cf Tryz.prog 22 [.agg #[I p_0.ID, .slice p_0.Entries_A p_0.Entries.length p_0.Entries_c], I p_1, I p_2, I p_3] [Kd.ok p_0] (.tuple #[.agg #[I r.1.Office, I r.1.Size, U r.1.Root, I r.1.Sig.C, I r.1.Sig.S], I r.2]) := by
 unfold Gl at hG
 try simp only [lm_, Ka.n_Hops] at hG
 refine fi Tryz.func22 rfl rfl (mc Kd.mv m0) fun S0 w0 hT => sq (rg (l1 (nw 4 vp [I p_0.ID, .slice p_0.Entries_A p_0.Entries.length p_0.Entries_c] 53 fun g_1 => l1 (nw 8 vp [I 0, I 0, U 0, I 0, I 0] 27 fun g_2 => ra [] f0 [] (tN (sq ?_))))))
 obtain ⟨o_6, hG, hG_6⟩ := bs hG; refine jn (fun K E a w => ∃ (v_7 : Bool) (v_8 : Int), Js S0 w0 56 ([(3, I v_8), (24, B v_7)] ++ K) ([.dat (RowC p_0.Entries_A p_0.Entries_c Kb.cells tr p_0.Entries)] ++ se E [0, 1]) ((v_7, v_8) = o_6) a w) ?_ ?_
 ·obtain ⟨v_3, hy_3, hG⟩ := bs hG; rcases ic hG with ⟨h_4, hG⟩ | ⟨h_4, hG⟩
  ·obtain ⟨v_5, hy_5, hG⟩ := bs hG; exact rg (rn 1 [(0, 2, 1, 0)] f0 [(14, .agg #[I p_0.ID, .slice p_0.Entries_A p_0.Entries.length p_0.Entries_c])] (l1 (cl 15 (za F p_0 _ hy_3) hT ⟨(gi 2).a, trivial⟩ (rn 2 [] f0 [(17, B (!v_3))] (sb 17 (nt h_4) (rn 4 [(2, 1, 1, 1)] f0 [(18, I p_1), (21, I (p_0.Entries.length : Int))] (l1 (cl 22 (zc F p_1 1 (p_0.Entries.length : Int) _ hy_5) hT trivial (ra [] f0 [(24, B (!v_5))] (tN (fg (Kd.ok p_0) 2 (fun _ _ h => h.f_Entries) (fun _ _ S k e => ⟨!v_5, p_3, S, k.wk, e.sel [0, 1, 2], oi hG⟩))))))))))))
  ·exact rg (rn 1 [(0, 2, 1, 0)] f0 [(14, .agg #[I p_0.ID, .slice p_0.Entries_A p_0.Entries.length p_0.Entries_c])] (l1 (cl 15 (za F p_0 _ hy_3) hT ⟨(gi 2).a, trivial⟩ (rn 2 [] f0 [(17, B (!v_3))] (sb 17 (nf h_4) (ra [] f0 [(24, B true)] (tN (fg (Kd.ok p_0) 2 (fun _ _ h => h.f_Entries) (fun _ _ S k e => ⟨true, p_3, S, k.wk, e.sel [0, 1, 2], oi hG⟩)))))))))
 ·rintro a w ⟨v_7, v_8, hJ⟩; refine hJ.go ?_; clear hJ; rintro rfl; replace hG := hG_6; rcases ic hG with ⟨h_9, hG⟩ | ⟨h_9, hG⟩
  ·refine sb 24 (bt h_9) (ct (sq (rg (rn 1 [] f0 [(25, .agg #[I 0, I 0, U 0, I 0, I 0])] (l1 (sr 1 g_2 (ns 0 [I 0, I 0, U 0, I 0, I 0]) (ra [] f0 [(9, I 1)] (tN (kR (tR ?_)))))))))); obtain rfl := oi hG; exact rt [(1, 0, 5)]
  ·refine sb 24 (bf h_9) (cf (kS (tN (sq ?_)))); obtain ⟨v_10, v_11, hy_10, hG⟩ := b2 hG; refine rg (rn 2 [(0, 2, 2, 0)] f0 [(27, .agg #[I p_0.ID, .slice p_0.Entries_A p_0.Entries.length p_0.Entries_c]), (28, I p_1)] (l1 (cl 29 (zay F p_0 p_1 _ hy_10) hT ⟨(((gd' (RowC p_0.Entries_A p_0.Entries_c Kb.cells tr p_0.Entries) 0)).m fun _ _ h => ⟨h⟩).a, trivial⟩ (ra [] f0 [(10, U v_10), (11, I v_11)] (tN (sq (sq (rg (ra [] f0 [(33, B (!(v_11 == 0)))] (tN ?_)))))))))); rcases ic hG with ⟨h_12, hG⟩ | ⟨h_12, hG⟩
   ·refine sb 33 (nt h_12) (cf (kS (tN (sq (rg (rn 5 [(1, 1, 2, 0)] f0 [(40, .agg #[I p_0.ID, I p_1, U v_10, I 0, I 0])] (l1 (nw 12 vp [I 0, I 0, U 0, I 0, I 0] 27 fun g_13 => l1 (sr 0 g_13 (ns 0 [I p_0.ID, I p_1, U v_10, I 0, I 0]) (nl (tN (sq ?_)))))))))))); obtain ⟨v_14o, hy_14, hG⟩ := bs hG; replace hG := b2 hG; obtain ⟨v_15, v_16, hy_15, hG⟩ := hG; refine rg (rn 3 [(2, 5, 0, 0)] f0 (ns 42 [I p_2, I v_8, .agg #[I p_0.ID, I p_1, U v_10, I 0, I 0]]) (l1 (cn 45 (zax F (⟨p_0.ID, p_1, v_10, (⟨0, 0⟩ : KSig)⟩ : Kc) _ hy_14) hT (fun _ => (mr tr_mv m0)) trivial ?_))); rintro ⟨v_14_A, v_14_c, v_14⟩ hq_14; obtain rfl : v_14 = v_14o := hq_14.symm
    try simp only [lm_, Ka.n_Hops] at hG
    refine l1 (cl 46 (zbd F p_2 v_8 v_14_A v_14_c v_14 _ hy_15) hT ⟨ga 0, trivial⟩ (rn 3 [] f0 [(47, .agg #[I v_15.C, I v_15.S]), (48, I v_16)] (l1 (nw 13 vp [I 0, I 0] 25 fun g_17 => l1 (sr 0 g_17 [(0, I v_15.C), (1, I v_15.S)] (ra [] f0 [(11, I v_16)] (tN (sq (sq (rg (ra [] f0 [(50, B (!(v_16 == 0)))] (tN ?_)))))))))))); rcases ic hG with ⟨h_18, hG⟩ | ⟨h_18, hG⟩
    ·refine sb 50 (nt h_18) (cf (kS (tN (sq (rg (rn 2 [(0, 2, 0, 0)] f0 [(53, .agg #[I v_15.C, I v_15.S]), (54, Pt g_13 3)] (l1 (sr 2 g_13 [(3, I v_15.C), (4, I v_15.S)] (nl (tN (sq (rg (rn 1 [(0, 5, 2, 0)] f0 [(55, .agg #[I p_0.ID, I p_1, U v_10, I v_15.C, I v_15.S])] (l1 (sr 4 g_2 (ns 0 [I p_0.ID, I p_1, U v_10, I v_15.C, I v_15.S]) (ra [] f0 [(9, I 0)] (tN (kR ?_)))))))))))))))))); obtain rfl := oi hG; exact rt [(4, 0, 5)]
    ·refine sb 50 (nf h_18) (ct (sq (rg (rn 2 [] f0 [(51, .agg #[I 0, I 0, U 0, I 0, I 0]), (52, I v_16)] (l1 (sr 4 g_2 (ns 0 [I 0, I 0, U 0, I 0, I 0]) (ra [] f0 [(9, I v_16)] (tN (kR (tR ?_)))))))))); obtain rfl := oi hG; exact rt [(4, 0, 5)]
   ·refine sb 33 (nf h_12) (ct (sq (rg (rn 2 [] f0 [(34, .agg #[I 0, I 0, U 0, I 0, I 0]), (35, I v_11)] (l1 (sr 1 g_2 (ns 0 [I 0, I 0, U 0, I 0, I 0]) (ra [] f0 [(9, I v_11)] (tN (kR (tR ?_)))))))))); obtain rfl := oi hG; exact rt [(1, 0, 5)]
def Gao (F : Nat) (p_0 : Int) (p_1 : Kc) : Option (Bool × Int) :=
  Option.bind (G3 F p_0) (fun v_2 =>
  Option.bind (Ga F p_1) (fun v_3 =>
  Option.bind (ifB (v_2)
      (some (!v_3))
      (some true) : Option (Bool)) (fun (v_6 : Bool) => 
    ifB (v_6)
      (some (false, 1))
      (Option.bind (Gbf F p_1) (fun v_8 =>
      Option.bind (Gbd F p_0 p_1.Sig v_8) (un2 fun v_9 v_10 =>
      some (v_9, 0)))))))
theorem za5 (F : Nat) (p_0 : Int) (p_1 : Kc) (r : Bool × Int) (hG : Gao F p_0 p_1 = some r) :
  Cf Tryz.prog 136 [I p_0, .agg #[I p_1.Office, I p_1.Size, U p_1.Root, I p_1.Sig.C, I p_1.Sig.S]] [] (.tuple #[B r.1, I r.2]) := by
 unfold Gao at hG; refine fi Tryz.func136 rfl rfl m0 fun S0 w0 hT => sq (rg (l1 (nw 3 vp [I p_1.Office, I p_1.Size, U p_1.Root, I p_1.Sig.C, I p_1.Sig.S] 27 fun g_1 => ra [] f0 [] (tN (sq ?_)))))
 obtain ⟨v_2, hy_2, hG⟩ := bs hG; refine rg (rn 1 [] f0 [(10, I p_0)] (l1 (cl 11 (zak F p_0 _ hy_2) hT trivial (ra [] f0 [(6, B v_2)] (tN (sq ?_)))))); obtain ⟨v_3, hy_3, hG⟩ := bs hG; refine rg (rn 1 [(0, 5, 0, 0)] f0 [(12, .agg #[I p_1.Office, I p_1.Size, U p_1.Root, I p_1.Sig.C, I p_1.Sig.S])] (l1 (cl 13 (zf F p_1 _ hy_3) hT trivial (ra [] f0 [(7, B v_3)] (tN (sq ?_)))))); obtain ⟨o_5, hG, hG_5⟩ := bs hG; refine jn (fun K E a w => ∃ v_6 : Bool, Js S0 w0 30 ([(19, B v_6)] ++ K) (se E [0]) (v_6 = o_5) a w) ?_ ?_
 ·rcases ic hG with ⟨h_4, hG⟩ | ⟨h_4, hG⟩
  ·exact rg (rn 3 [] f0 [(16, B (!v_2))] (sb 16 (nt h_4) (ra [] f0 [(19, B (!v_3))] (tN (fun _ _ S k e => ⟨!v_3, S, k.wk, e.sel [0], oi hG⟩)))))
  ·exact rg (rn 3 [] f0 [(16, B (!v_2))] (sb 16 (nf h_4) (ra [] f0 [(19, B true)] (tN (fun _ _ S k e => ⟨true, S, k.wk, e.sel [0], oi hG⟩)))))
 ·rintro a w ⟨v_6, hJ⟩; refine hJ.go ?_; clear hJ; rintro rfl; replace hG := hG_5; rcases ic hG with ⟨h_7, hG⟩ | ⟨h_7, hG⟩
  ·refine sb 19 (bt h_7) (ct (sq (rg (ra [] f0 [(4, B false), (5, I 1)] (tN (kR (tR ?_))))))); obtain rfl := oi hG; exact rt []
  ·refine sb 19 (bf h_7) (cf (kS (tN (sq ?_)))); obtain ⟨v_8o, hy_8, hG⟩ := bs hG; replace hG := b2 hG; obtain ⟨v_9, v_10, hy_9, hG⟩ := hG; refine hb [0] (ht [0] [0, 1, 2, 3] [(2, 2, 0, 3), (0, 5, 0, 0)] f0 [(21, I p_0), (23, .agg #[I p_1.Sig.C, I p_1.Sig.S]), (24, .agg #[I p_1.Office, I p_1.Size, U p_1.Root, I p_1.Sig.C, I p_1.Sig.S])] (ho [4] ⟨h1 (cn 25 (zby F p_1 _ hy_8) hT (fun _ => (mr tr_mv m0)) trivial ?_), trivial⟩)); rintro ⟨v_8_A, v_8_c, v_8⟩ hq_8; obtain rfl : v_8 = v_8o := hq_8.symm
   try simp only [lm_, Ka.n_Hops] at hG
   refine hk [1] (ho [5] ⟨h1 (cl 26 (zbu F p_0 p_1.Sig v_8_A v_8_c v_8 _ hy_9) hT ⟨ga 0, trivial⟩ (hk [1] (ht [1] [6, 7, 8, 9, 10] [] f0 [(8, B v_9)] (he (tN (sq (rg (ra [] f0 [(4, B v_9), (5, I 0)] (tN (kR ?_)))))))))), trivial⟩); obtain rfl := oi hG; exact rt []
def Gw (F : Nat) (p_0 : KHop) : Option (Bool) :=
  Option.bind (Ga F p_0.Of) (fun v_2 =>
  Option.bind (Gu F p_0.By) (fun v_3 =>
  Option.bind (ifB (v_2)
      (ifB (v_3)
        (some (decide ((p_0.Grow.length : Int) ≤ 20)))
        (some false))
      (some false) : Option (Bool)) (fun (v_7 : Bool) => 
    some v_7)))
theorem za6 (F : Nat) (p_0 : Ke) (r : Bool) (hG : Gw F p_0.p = some r) :
  Cf Tryz.prog 95 [.agg #[I p_0.Of.Office, I p_0.Of.Size, U p_0.Of.Root, I p_0.Of.Sig.C, I p_0.Of.Sig.S, .slice p_0.Grow_A p_0.Grow.length p_0.Grow_c, I p_0.By.Head.Office, I p_0.By.Head.Size, U p_0.By.Head.Root, I p_0.By.Head.Sig.C, I p_0.By.Head.Sig.S, I p_0.By.Index, U p_0.By.Entry.Doc, I p_0.By.Entry.Stamp.Lo, I p_0.By.Entry.Stamp.Hi, .slice p_0.By.Path_A p_0.By.Path.length p_0.By.Path_c]] [Ke.ok p_0] (B r) := by
 unfold Gw at hG
 try simp only [lm_, Ka.n_Hops] at hG
 refine fi Tryz.func95 rfl rfl (mc Ke.mv m0) fun S0 w0 hT => sq (rg (l1 (nw 1 vp [I p_0.Of.Office, I p_0.Of.Size, U p_0.Of.Root, I p_0.Of.Sig.C, I p_0.Of.Sig.S, .slice p_0.Grow_A p_0.Grow.length p_0.Grow_c, I p_0.By.Head.Office, I p_0.By.Head.Size, U p_0.By.Head.Root, I p_0.By.Head.Sig.C, I p_0.By.Head.Sig.S, I p_0.By.Index, U p_0.By.Entry.Doc, I p_0.By.Entry.Stamp.Lo, I p_0.By.Entry.Stamp.Hi, .slice p_0.By.Path_A p_0.By.Path.length p_0.By.Path_c] 79 fun g_1 => ra [] f0 [] (tN (sq ?_)))))
 obtain ⟨v_2, hy_2, hG⟩ := bs hG; refine rg (rn 2 [(1, 5, 0, 0)] f0 [(6, .agg #[I p_0.Of.Office, I p_0.Of.Size, U p_0.Of.Root, I p_0.Of.Sig.C, I p_0.Of.Sig.S])] (l1 (cl 7 (zf F p_0.Of _ hy_2) hT trivial (ra [] f0 [(3, B v_2)] (tN (sq ?_)))))); obtain ⟨v_3, hy_3, hG⟩ := bs hG; refine rg (rn 2 [(1, 10, 0, 6)] f0 [(9, .agg #[I p_0.By.Head.Office, I p_0.By.Head.Size, U p_0.By.Head.Root, I p_0.By.Head.Sig.C, I p_0.By.Head.Sig.S, I p_0.By.Index, U p_0.By.Entry.Doc, I p_0.By.Entry.Stamp.Lo, I p_0.By.Entry.Stamp.Hi, .slice p_0.By.Path_A p_0.By.Path.length p_0.By.Path_c])] (l1 (cl 10 (zg F p_0.By _ hy_3) hT ⟨(gm (Ke.ok p_0) 1 fun _ _ h => h.b_By).a, trivial⟩ (ra [] f0 [(4, B v_3)] (tN ?_))))); obtain ⟨o_6, hG, hG_6⟩ := bs hG; refine jn (fun K E a w => ∃ v_7 : Bool, Js S0 w0 21 ([(2, B v_7)] ++ K) (se E []) (v_7 = o_6) a w) ?_ ?_
 ·rcases ic hG with ⟨h_4, hG⟩ | ⟨h_4, hG⟩
  ·rcases ic hG with ⟨h_5, hG⟩ | ⟨h_5, hG⟩
   ·exact rg (rn 2 [] f0 [(12, B v_2)] (sb 12 (bt h_4) (rn 3 [] f0 [(15, B v_3)] (sb 15 (bt h_5) (ra [(1, 1, 0, 5)] f0 [(2, B (decide ((p_0.Grow.length : Int) ≤ 20)))] (tN (fun _ _ S k e => ⟨decide ((p_0.Grow.length : Int) ≤ 20), S, k.wk, e.sel [], oi hG⟩)))))))
   ·exact rg (rn 2 [] f0 [(12, B v_2)] (sb 12 (bt h_4) (rn 3 [] f0 [(15, B v_3)] (sb 15 (bf h_5) (ra [] f0 [(2, B false)] (tN (fun _ _ S k e => ⟨false, S, k.wk, e.sel [], oi hG⟩)))))))
  ·exact rg (rn 2 [] f0 [(12, B v_2)] (sb 12 (bf h_4) (ra [] f0 [(2, B false)] (tN (fun _ _ S k e => ⟨false, S, k.wk, e.sel [], oi hG⟩)))))
 ·rintro a w ⟨v_7, hJ⟩; refine hJ.go ?_; clear hJ; rintro rfl; replace hG := hG_6; refine kR ?_; obtain rfl := oi hG; exact rt []
def Gap (F : Nat) (p_0 : List Int) : Option (Bool) :=
  Option.bind (Option.bind (iter (σ := Int) (ρ := Unit ⊕ Unit) (fun (v_24 : Int) => 
        (ifB (decide (v_24 < (p_0.length : Int)))
          (Option.bind (Option.bind (ixI p_0 v_24) (fun v_27 =>
            ifB ((v_27 == 0))
              (some (.inl ()))
              (Option.bind (ixI p_0 v_24) (fun v_31 =>
              Option.bind (G3 F v_31) (fun v_34 =>
              ifB (v_34)
                (some (.inl ()))
                (some (.inr ())))))) : Option (Unit ⊕ Unit)) (Sum.elim (fun (_ : Unit) => 
            some (.inl (IntKind.i64.wrap (v_24 + 1)))) (fun (_ : Unit) => 
            some (.inr (.inr ())))))
          (some (.inr (.inl ()))) : Option (Int ⊕ (Unit ⊕ Unit)))) F 0) (Sum.elim (fun (_ : Unit) => 
      some (.inl ())) (fun (_ : Unit) => 
      some (.inr ()))) : Option (Unit ⊕ Unit)) (Sum.elim (fun (_ : Unit) => 
    some (decide ((p_0.length : Int) ≤ 16))) (fun (_ : Unit) => 
    some false))
theorem zan (F : Nat) (p_0_A : Option Addr) (p_0_c : Nat) (p_0 : List Int) (r : Bool) (hG : Gap F p_0 = some r) :
  Cf Tryz.prog 38 [.slice p_0_A p_0.length p_0_c] [RowC p_0_A p_0_c c_i64 tr p_0] (B r) := by
 unfold Gap at hG
 try simp only [lm_, Ka.n_Hops] at hG
 refine fi Tryz.func38 rfl rfl (mr tr_mv m0) fun S0 w0 hT => sq (rg (ra [] f0 [] (tN ?_)))
 obtain ⟨o_37, hG, hG_37⟩ := bs hG; refine jn (fun K E a w => Js S0 w0 26 (K) (se E [0]) (.inl () = o_37) a w) ?_ ?_
 ·refine sq (rg (ra [] f0 [(3, I 0)] (tN (bk ?_)))); obtain ⟨e_25, hL, hG_25⟩ := bs hG; clear hG; obtain ⟨stp_25, hs_25, hL⟩ := iter_gen hL; refine lp (fun K E n_ a w => ∃ v_24 : Int, Js S0 w0 26 ([(3, I v_24)] ++ K) (se E [0]) (iter stp_25 n_ v_24 = some e_25) a w) F ?_ ?_
  ·exact fun _ _ S k e => ⟨0, S, k.wk, e.sel [0], hL⟩
  ·clear hL; rintro n_25 a w ⟨v_24, hJ⟩; refine hJ.go fun hL => ?_
   clear hJ; obtain ⟨m_25, o_25, rfl, hG, hO1_25, hO2_25⟩ := iter_step hL; clear hL; rw [hs_25] at hG; refine sq (sq (rg (ra [] f0 [(8, B (decide (v_24 < (p_0.length : Int))))] (tN ?_)))); rcases ic hG with ⟨h_26, hG⟩ | ⟨h_26, hG⟩
   ·try simp only [lm_, Ka.n_Hops] at h_26
    refine sb 8 (bt h_26) (ct (kS (tN ?_))); obtain ⟨o_36, hG, hG_36⟩ := bs hG; refine jn (fun K E a w => Js S0 w0 26 (K) (se E [0]) (.inl () = o_36) a w) ?_ ?_
    ·refine bk (sq ?_); obtain ⟨v_27, hy_27, hG⟩ := bs hG; refine rg (fx inf22 (gd' (RowC p_0_A p_0_c c_i64 tr p_0) 0) hy_27 fun b_28 o_29 hi_27 => ra [(2, 0, 0, 0), (0, 1, 0, 0)] (fc (hi_27 .i64) f0) [(15, B (!(v_27 == 0)))] (tN ?_)); rcases ic hG with ⟨h_30, hG⟩ | ⟨h_30, hG⟩
     ·exact sb 15 (nt h_30) (cf (kS (hN (tN (fun _ _ S k e => ⟨S, k.wk, e.sel [1], oi hG⟩)))))
     ·refine sb 15 (nf h_30) (ct (sq ?_)); obtain ⟨v_31, hy_31, hG⟩ := bs hG; obtain ⟨v_34, hy_34, hG⟩ := bs hG; refine rg (fx inf22 (gd' (RowC p_0_A p_0_c c_i64 tr p_0) 1) hy_31 fun b_32 o_33 hi_31 => rn 4 [(2, 0, 0, 0), (0, 1, 0, 0)] (fc (hi_31 .i64) f0) [(19, I v_31)] (l1 (cl 20 (zak F v_31 _ hy_34) hT trivial (ra [] f0 [(4, B v_34)] (tN (sq (rg (ra [] f0 [(22, B (!v_34))] (tN ?_))))))))); rcases ic hG with ⟨h_35, hG⟩ | ⟨h_35, hG⟩
      ·exact sb 22 (nt h_35) (cf (kS (hN (tN (fun _ _ S k e => ⟨S, k.wk, e.sel [2], oi hG⟩)))))
      ·refine sb 22 (nf h_35) (ct (sq (rg (ra [] f0 [(2, B false)] (tN (kR (hR (tR ?_)))))))); obtain rfl := oi hG; replace hG := hG_36; refine tR ?_; have he_ := hO2_25 _ (oi hG).symm; subst he_; replace hG := hG_25; refine hR (tR ?_); obtain rfl := oi hG; replace hG := hG_37; obtain rfl := oi hG; exact rt []
    ·rintro a w hJ; refine hJ.go ?_; clear hJ; rintro rfl; replace hG := el hG_36; exact rg (ra [] f0 [(3, I (IntKind.i64.wrap (v_24 + 1)))] (tN (fun a w S hK hE => ⟨m_25, ⟨IntKind.i64.wrap (v_24 + 1), S, hK.wk, hE.sel [0], hO1_25 _ (oi hG).symm⟩, Nat.lt_succ_self _⟩)))
   ·try simp only [lm_, Ka.n_Hops] at h_26
    refine sb 8 (bf h_26) (cf (kX (tX (tX ?_)))); have he_ := hO2_25 _ (oi hG).symm; subst he_; replace hG := hG_25; exact hH (tN (fun _ _ S k e => ⟨S, k.wk, e.sel [0], oi hG⟩))
 ·rintro a w hJ; refine hJ.go ?_; clear hJ; rintro rfl; replace hG := el hG_37; refine sq (rg (ra [] f0 [(2, B (decide ((p_0.length : Int) ≤ 16)))] (tN (kR ?_)))); obtain rfl := oi hG; exact rt []
def Gbi (F : Nat) (p_0 : Kg) (p_1 : Kc) (p_2 : Kc) (p_3 : Kg) (p_4 : Kc) : Option (KHop × Int) :=
  Option.bind (Gv F p_0) (fun v_7 =>
  Option.bind (Gv F p_3) (fun v_8 =>
  Option.bind (Ga F p_1) (fun v_9 =>
  Option.bind (Ga F p_2) (fun v_10 =>
  Option.bind (Ga F p_4) (fun v_11 =>
  Option.bind (ifB (v_7)
      (ifB (v_8)
        (ifB (v_9)
          (ifB (v_10)
            (ifB (v_11)
              (ifB ((p_0.ID == p_3.ID))
                (some true)
                (some (decide (p_1.Size > p_2.Size))))
              (some true))
            (some true))
          (some true))
        (some true))
      (some true) : Option (Bool)) (fun (v_19 : Bool) => 
    ifB (v_19)
      (some ((⟨(⟨0, 0, 0, (⟨0, 0⟩ : KSig)⟩ : Kc), ([] : List Int), (⟨(⟨0, 0, 0, (⟨0, 0⟩ : KSig)⟩ : Kc), 0, (⟨0, ⟨0, 0⟩⟩ : Kb), ([] : List Int)⟩ : Kk)⟩ : KHop), 1))
      (Option.bind (G8 F p_0 p_1) (fun v_21 =>
      Option.bind (G8 F p_0 p_2) (fun v_22 =>
      Option.bind (G8 F p_3 p_4) (fun v_23 =>
      Option.bind (ifB (v_21)
          (ifB (v_22)
            (some (!v_23))
            (some true))
          (some true) : Option (Bool)) (fun (v_27 : Bool) => 
        ifB (v_27)
          (some ((⟨(⟨0, 0, 0, (⟨0, 0⟩ : KSig)⟩ : Kc), ([] : List Int), (⟨(⟨0, 0, 0, (⟨0, 0⟩ : KSig)⟩ : Kc), 0, (⟨0, ⟨0, 0⟩⟩ : Kb), ([] : List Int)⟩ : Kk)⟩ : KHop), 33))
          (Option.bind (G6 F p_2) (fun v_29 =>
          Option.bind (Option.bind (iter (σ := Int) (ρ := Unit ⊕ KHop) (fun (v_53 : Int) => 
                (ifB (decide (v_53 < p_4.Size))
                  (Option.bind (ixI p_3.Entries v_53) (fun v_56 =>
                  ifB ((v_56.Doc == v_29))
                    (Option.bind (G5 F p_0 p_2.Size) (fun v_60 =>
                    Option.bind (Gb0 F v_60 p_1.Size) (un2 fun v_61 v_62 =>
                    Option.bind (Gp F p_3 p_4 v_53) (un2 fun v_63 v_64 =>
                    some (.inr (.inr (⟨p_2, v_61, v_63⟩ : KHop)))))))
                    (some (.inl (IntKind.i64.wrap (v_53 + 1))))))
                  (some (.inr (.inl ()))) : Option (Int ⊕ (Unit ⊕ KHop)))) F 0) (Sum.elim (fun (_ : Unit) => 
              some (.inl ())) (fun (v_66 : KHop) => 
              some (.inr v_66))) : Option (Unit ⊕ KHop)) (Sum.elim (fun (_ : Unit) => 
            some ((⟨(⟨0, 0, 0, (⟨0, 0⟩ : KSig)⟩ : Kc), ([] : List Int), (⟨(⟨0, 0, 0, (⟨0, 0⟩ : KSig)⟩ : Kc), 0, (⟨0, ⟨0, 0⟩⟩ : Kb), ([] : List Int)⟩ : Kk)⟩ : KHop), 4)) (fun (v_68 : KHop) => 
            some (v_68, 0))))))))))))))))
theorem zad (F : Nat) (p_0 : Kd) (p_1 : Kc) (p_2 : Kc) (p_3 : Kd) (p_4 : Kc) (r : KHop × Int) (hG : Gbi F p_0.p p_1 p_2 p_3.p p_4 = some r) :
  Cn Tryz.prog 53 [.agg #[I p_0.ID, .slice p_0.Entries_A p_0.Entries.length p_0.Entries_c], .agg #[I p_1.Office, I p_1.Size, U p_1.Root, I p_1.Sig.C, I p_1.Sig.S], .agg #[I p_2.Office, I p_2.Size, U p_2.Root, I p_2.Sig.C, I p_2.Sig.S], .agg #[I p_3.ID, .slice p_3.Entries_A p_3.Entries.length p_3.Entries_c], .agg #[I p_4.Office, I p_4.Size, U p_4.Root, I p_4.Sig.C, I p_4.Sig.S]] [Kd.ok p_0, Kd.ok p_3] (fun q : Ke => r.1 = q.p) (fun q => .tuple #[.agg #[I q.Of.Office, I q.Of.Size, U q.Of.Root, I q.Of.Sig.C, I q.Of.Sig.S, .slice q.Grow_A q.Grow.length q.Grow_c, I q.By.Head.Office, I q.By.Head.Size, U q.By.Head.Root, I q.By.Head.Sig.C, I q.By.Head.Sig.S, I q.By.Index, U q.By.Entry.Doc, I q.By.Entry.Stamp.Lo, I q.By.Entry.Stamp.Hi, .slice q.By.Path_A q.By.Path.length q.By.Path_c], I r.2]) (fun q => [Ke.ok q]) := by
 unfold Gbi at hG
 try simp only [lm_, Ka.n_Hops] at hG
 refine fin Tryz.func53 rfl rfl (mc Kd.mv (mc Kd.mv m0)) fun S0 w0 hT => sq (rg (l1 (nw 5 vp [I p_0.ID, .slice p_0.Entries_A p_0.Entries.length p_0.Entries_c] 53 fun g_1 => l1 (nw 6 vp [I p_1.Office, I p_1.Size, U p_1.Root, I p_1.Sig.C, I p_1.Sig.S] 27 fun g_2 => l1 (nw 7 vp [I p_2.Office, I p_2.Size, U p_2.Root, I p_2.Sig.C, I p_2.Sig.S] 27 fun g_3 => l1 (nw 8 vp [I p_3.ID, .slice p_3.Entries_A p_3.Entries.length p_3.Entries_c] 53 fun g_4 => l1 (nw 9 vp [I p_4.Office, I p_4.Size, U p_4.Root, I p_4.Sig.C, I p_4.Sig.S] 27 fun g_5 => l1 (nw 10 vp (Ke.cells Ke.z) 79 fun g_6 => ra [] f0 [] (tN (sq ?_))))))))))
 obtain ⟨v_7, hy_7, hG⟩ := bs hG; refine rg (rn 1 [(0, 2, 5, 0)] f0 [(26, .agg #[I p_0.ID, .slice p_0.Entries_A p_0.Entries.length p_0.Entries_c])] (l1 (cl 27 (zr F p_0 _ hy_7) hT ⟨(gi 6).a, trivial⟩ (ra [] f0 [(12, B v_7)] (tN (sq ?_)))))); obtain ⟨v_8, hy_8, hG⟩ := bs hG; refine rg (rn 1 [(0, 2, 2, 0)] f0 [(28, .agg #[I p_3.ID, .slice p_3.Entries_A p_3.Entries.length p_3.Entries_c])] (l1 (cl 29 (zr F p_3 _ hy_8) hT ⟨(gi 7).a, trivial⟩ (ra [] f0 [(13, B v_8)] (tN (sq ?_)))))); obtain ⟨v_9, hy_9, hG⟩ := bs hG; refine rg (rn 1 [(0, 5, 4, 0)] f0 [(30, .agg #[I p_1.Office, I p_1.Size, U p_1.Root, I p_1.Sig.C, I p_1.Sig.S])] (l1 (cl 31 (zf F p_1 _ hy_9) hT trivial (ra [] f0 [(14, B v_9)] (tN (sq ?_)))))); obtain ⟨v_10, hy_10, hG⟩ := bs hG; refine rg (rn 1 [(0, 5, 3, 0)] f0 [(32, .agg #[I p_2.Office, I p_2.Size, U p_2.Root, I p_2.Sig.C, I p_2.Sig.S])] (l1 (cl 33 (zf F p_2 _ hy_10) hT trivial (ra [] f0 [(15, B v_10)] (tN (sq ?_)))))); obtain ⟨v_11, hy_11, hG⟩ := bs hG; refine rg (rn 1 [(0, 5, 1, 0)] f0 [(34, .agg #[I p_4.Office, I p_4.Size, U p_4.Root, I p_4.Sig.C, I p_4.Sig.S])] (l1 (cl 35 (zf F p_4 _ hy_11) hT trivial (ra [] f0 [(16, B v_11)] (tN (sq ?_)))))); obtain ⟨o_18, hG, hG_18⟩ := bs hG; refine jn (fun K E a w => ∃ v_19 : Bool, Js S0 w0 127 ([(67, B v_19)] ++ K) ([.dat (RowC p_0.Entries_A p_0.Entries_c Kb.cells tr p_0.Entries), .dat (RowC p_3.Entries_A p_3.Entries_c Kb.cells tr p_3.Entries)] ++ se E [0, 1, 2, 3, 4, 5]) (v_19 = o_18) a w) ?_ ?_
 ·rcases ic hG with ⟨h_12, hG⟩ | ⟨h_12, hG⟩
  ·rcases ic hG with ⟨h_13, hG⟩ | ⟨h_13, hG⟩
   ·rcases ic hG with ⟨h_14, hG⟩ | ⟨h_14, hG⟩
    ·rcases ic hG with ⟨h_15, hG⟩ | ⟨h_15, hG⟩
     ·rcases ic hG with ⟨h_16, hG⟩ | ⟨h_16, hG⟩
      ·rcases ic hG with ⟨h_17, hG⟩ | ⟨h_17, hG⟩
       ·exact rg (rn 3 [] f0 [(38, B (!v_7))] (sb 38 (nt h_12) (rn 4 [] f0 [(42, B (!v_8))] (sb 42 (nt h_13) (rn 4 [] f0 [(46, B (!v_9))] (sb 46 (nt h_14) (rn 4 [] f0 [(50, B (!v_10))] (sb 50 (nt h_15) (rn 4 [] f0 [(54, B (!v_11))] (sb 54 (nt h_16) (rn 7 [(1, 1, 5, 0), (1, 1, 2, 0)] f0 [(61, B (p_0.ID == p_3.ID))] (sb 61 (bt h_17) (ra [] f0 [(67, B true)] (tN (fg (Kd.ok p_0) 6 (fun _ _ h => h.f_Entries) (fg (Kd.ok p_3) 8 (fun _ _ h => h.f_Entries) (fun _ _ S k e => ⟨true, S, k.wk, e.sel [1, 0, 2, 3, 4, 5, 6, 7], oi hG⟩)))))))))))))))))
       ·exact rg (rn 3 [] f0 [(38, B (!v_7))] (sb 38 (nt h_12) (rn 4 [] f0 [(42, B (!v_8))] (sb 42 (nt h_13) (rn 4 [] f0 [(46, B (!v_9))] (sb 46 (nt h_14) (rn 4 [] f0 [(50, B (!v_10))] (sb 50 (nt h_15) (rn 4 [] f0 [(54, B (!v_11))] (sb 54 (nt h_16) (rn 7 [(1, 1, 5, 0), (1, 1, 2, 0)] f0 [(61, B (p_0.ID == p_3.ID))] (sb 61 (bf h_17) (ra [(1, 1, 4, 1), (1, 1, 3, 1)] f0 [(67, B (decide (p_1.Size > p_2.Size)))] (tN (fg (Kd.ok p_0) 6 (fun _ _ h => h.f_Entries) (fg (Kd.ok p_3) 8 (fun _ _ h => h.f_Entries) (fun _ _ S k e => ⟨decide (p_1.Size > p_2.Size), S, k.wk, e.sel [1, 0, 2, 3, 4, 5, 6, 7], oi hG⟩)))))))))))))))))
      ·exact rg (rn 3 [] f0 [(38, B (!v_7))] (sb 38 (nt h_12) (rn 4 [] f0 [(42, B (!v_8))] (sb 42 (nt h_13) (rn 4 [] f0 [(46, B (!v_9))] (sb 46 (nt h_14) (rn 4 [] f0 [(50, B (!v_10))] (sb 50 (nt h_15) (rn 4 [] f0 [(54, B (!v_11))] (sb 54 (nf h_16) (ra [] f0 [(67, B true)] (tN (fg (Kd.ok p_0) 6 (fun _ _ h => h.f_Entries) (fg (Kd.ok p_3) 8 (fun _ _ h => h.f_Entries) (fun _ _ S k e => ⟨true, S, k.wk, e.sel [1, 0, 2, 3, 4, 5, 6, 7], oi hG⟩)))))))))))))))
     ·exact rg (rn 3 [] f0 [(38, B (!v_7))] (sb 38 (nt h_12) (rn 4 [] f0 [(42, B (!v_8))] (sb 42 (nt h_13) (rn 4 [] f0 [(46, B (!v_9))] (sb 46 (nt h_14) (rn 4 [] f0 [(50, B (!v_10))] (sb 50 (nf h_15) (ra [] f0 [(67, B true)] (tN (fg (Kd.ok p_0) 6 (fun _ _ h => h.f_Entries) (fg (Kd.ok p_3) 8 (fun _ _ h => h.f_Entries) (fun _ _ S k e => ⟨true, S, k.wk, e.sel [1, 0, 2, 3, 4, 5, 6, 7], oi hG⟩)))))))))))))
    ·exact rg (rn 3 [] f0 [(38, B (!v_7))] (sb 38 (nt h_12) (rn 4 [] f0 [(42, B (!v_8))] (sb 42 (nt h_13) (rn 4 [] f0 [(46, B (!v_9))] (sb 46 (nf h_14) (ra [] f0 [(67, B true)] (tN (fg (Kd.ok p_0) 6 (fun _ _ h => h.f_Entries) (fg (Kd.ok p_3) 8 (fun _ _ h => h.f_Entries) (fun _ _ S k e => ⟨true, S, k.wk, e.sel [1, 0, 2, 3, 4, 5, 6, 7], oi hG⟩)))))))))))
   ·exact rg (rn 3 [] f0 [(38, B (!v_7))] (sb 38 (nt h_12) (rn 4 [] f0 [(42, B (!v_8))] (sb 42 (nf h_13) (ra [] f0 [(67, B true)] (tN (fg (Kd.ok p_0) 6 (fun _ _ h => h.f_Entries) (fg (Kd.ok p_3) 8 (fun _ _ h => h.f_Entries) (fun _ _ S k e => ⟨true, S, k.wk, e.sel [1, 0, 2, 3, 4, 5, 6, 7], oi hG⟩)))))))))
  ·exact rg (rn 3 [] f0 [(38, B (!v_7))] (sb 38 (nf h_12) (ra [] f0 [(67, B true)] (tN (fg (Kd.ok p_0) 6 (fun _ _ h => h.f_Entries) (fg (Kd.ok p_3) 8 (fun _ _ h => h.f_Entries) (fun _ _ S k e => ⟨true, S, k.wk, e.sel [1, 0, 2, 3, 4, 5, 6, 7], oi hG⟩)))))))
 ·rintro a w ⟨v_19, hJ⟩; refine hJ.go ?_; clear hJ; rintro rfl; replace hG := hG_18; rcases ic hG with ⟨h_20, hG⟩ | ⟨h_20, hG⟩
  ·refine sb 67 (bt h_20) (ct (sq (rg (rn 1 [] f0 [(68, Aw (Ke.cells Ke.z))] (l1 (sr 2 g_6 (ns 0 (Ke.cells Ke.z)) (ra [] f0 [(11, I 1)] (tN (kR (tR ?_)))))))))); obtain rfl := oi hG; exact rtn [(2, 0, 16)] (⟨(⟨0, 0, 0, (⟨0, 0⟩ : KSig)⟩ : Kc), none, 0, ([] : List Int), (⟨(⟨0, 0, 0, (⟨0, 0⟩ : KSig)⟩ : Kc), 0, (⟨0, ⟨0, 0⟩⟩ : Kb), none, 0, ([] : List Int)⟩ : Kh)⟩ : Ke) rfl ⟨((Fd.two ((gn : Fd _ (RowC none 0 c_u64 tr ([] : List Int)))) ((gn : Fd _ (RowC none 0 c_u64 tr ([] : List Int))))).m fun _ _ h => ⟨h.1, ⟨h.2⟩⟩), trivial⟩
  ·refine sb 67 (bf h_20) (cf (kS (tN (sq ?_)))); obtain ⟨v_21, hy_21, hG⟩ := bs hG; refine rg (rn 2 [(0, 2, 7, 0), (0, 5, 6, 0)] f0 [(69, .agg #[I p_0.ID, .slice p_0.Entries_A p_0.Entries.length p_0.Entries_c]), (70, .agg #[I p_1.Office, I p_1.Size, U p_1.Root, I p_1.Sig.C, I p_1.Sig.S])] (l1 (cl 71 (zap F p_0 p_1 _ hy_21) hT ⟨(((gd' (RowC p_0.Entries_A p_0.Entries_c Kb.cells tr p_0.Entries) 0)).m fun _ _ h => ⟨h⟩).a, trivial⟩ (ra [] f0 [(17, B v_21)] (tN (sq ?_)))))); obtain ⟨v_22, hy_22, hG⟩ := bs hG; refine rg (rn 2 [(0, 2, 7, 0), (0, 5, 5, 0)] f0 [(72, .agg #[I p_0.ID, .slice p_0.Entries_A p_0.Entries.length p_0.Entries_c]), (73, .agg #[I p_2.Office, I p_2.Size, U p_2.Root, I p_2.Sig.C, I p_2.Sig.S])] (l1 (cl 74 (zap F p_0 p_2 _ hy_22) hT ⟨(((gd' (RowC p_0.Entries_A p_0.Entries_c Kb.cells tr p_0.Entries) 0)).m fun _ _ h => ⟨h⟩).a, trivial⟩ (ra [] f0 [(18, B v_22)] (tN (sq ?_)))))); obtain ⟨v_23, hy_23, hG⟩ := bs hG; refine rg (rn 2 [(0, 2, 4, 0), (0, 5, 3, 0)] f0 [(75, .agg #[I p_3.ID, .slice p_3.Entries_A p_3.Entries.length p_3.Entries_c]), (76, .agg #[I p_4.Office, I p_4.Size, U p_4.Root, I p_4.Sig.C, I p_4.Sig.S])] (l1 (cl 77 (zap F p_3 p_4 _ hy_23) hT ⟨(((gd' (RowC p_3.Entries_A p_3.Entries_c Kb.cells tr p_3.Entries) 1)).m fun _ _ h => ⟨h⟩).a, trivial⟩ (ra [] f0 [(19, B v_23)] (tN (sq ?_)))))); obtain ⟨o_26, hG, hG_26⟩ := bs hG; refine jn (fun K E a w => ∃ v_27 : Bool, Js S0 w0 127 ([(87, B v_27)] ++ K) (se E [0, 1, 2, 3, 4, 5, 6, 7]) (v_27 = o_26) a w) ?_ ?_
   ·rcases ic hG with ⟨h_24, hG⟩ | ⟨h_24, hG⟩
    ·rcases ic hG with ⟨h_25, hG⟩ | ⟨h_25, hG⟩
     ·exact rg (rn 3 [] f0 [(80, B (!v_21))] (sb 80 (nt h_24) (rn 4 [] f0 [(84, B (!v_22))] (sb 84 (nt h_25) (ra [] f0 [(87, B (!v_23))] (tN (fun _ _ S k e => ⟨!v_23, S, k.wk, e.sel [0, 1, 2, 3, 4, 5, 6, 7], oi hG⟩)))))))
     ·exact rg (rn 3 [] f0 [(80, B (!v_21))] (sb 80 (nt h_24) (rn 4 [] f0 [(84, B (!v_22))] (sb 84 (nf h_25) (ra [] f0 [(87, B true)] (tN (fun _ _ S k e => ⟨true, S, k.wk, e.sel [0, 1, 2, 3, 4, 5, 6, 7], oi hG⟩)))))))
    ·exact rg (rn 3 [] f0 [(80, B (!v_21))] (sb 80 (nf h_24) (ra [] f0 [(87, B true)] (tN (fun _ _ S k e => ⟨true, S, k.wk, e.sel [0, 1, 2, 3, 4, 5, 6, 7], oi hG⟩)))))
   ·rintro a w ⟨v_27, hJ⟩; refine hJ.go ?_; clear hJ; rintro rfl; replace hG := hG_26; rcases ic hG with ⟨h_28, hG⟩ | ⟨h_28, hG⟩
    ·refine sb 87 (bt h_28) (ct (sq (rg (rn 1 [] f0 [(88, Aw (Ke.cells Ke.z))] (l1 (sr 2 g_6 (ns 0 (Ke.cells Ke.z)) (ra [] f0 [(11, I 33)] (tN (kR (tR ?_)))))))))); obtain rfl := oi hG; exact rtn [(2, 0, 16)] (⟨(⟨0, 0, 0, (⟨0, 0⟩ : KSig)⟩ : Kc), none, 0, ([] : List Int), (⟨(⟨0, 0, 0, (⟨0, 0⟩ : KSig)⟩ : Kc), 0, (⟨0, ⟨0, 0⟩⟩ : Kb), none, 0, ([] : List Int)⟩ : Kh)⟩ : Ke) rfl ⟨((Fd.two ((gn : Fd _ (RowC none 0 c_u64 tr ([] : List Int)))) ((gn : Fd _ (RowC none 0 c_u64 tr ([] : List Int))))).m fun _ _ h => ⟨h.1, ⟨h.2⟩⟩), trivial⟩
    ·refine sb 87 (bf h_28) (cf (kS (tN (sq ?_)))); obtain ⟨v_29, hy_29, hG⟩ := bs hG; refine rg (rn 1 [(0, 5, 5, 0)] f0 [(89, .agg #[I p_2.Office, I p_2.Size, U p_2.Root, I p_2.Sig.C, I p_2.Sig.S])] (l1 (cl 90 (zam F p_2 _ hy_29) hT trivial (ra [] f0 [(20, U v_29)] (tN ?_))))); obtain ⟨o_67, hG, hG_67⟩ := bs hG; refine jn (fun K E a w => Js S0 w0 127 (K) (se E [2]) (.inl () = o_67) a w) ?_ ?_
     ·refine sq (rg (ra [] f0 [(21, I 0)] (tN (bk ?_)))); obtain ⟨e_54, hL, hG_54⟩ := bs hG; clear hG; obtain ⟨stp_54, hs_54, hL⟩ := iter_gen hL; refine lp (fun K E n_ a w => ∃ v_53 : Int, Js S0 w0 127 ([(21, I v_53)] ++ K) (se E [0, 1, 2, 3, 4, 5, 6, 7]) (iter stp_54 n_ v_53 = some e_54) a w) F ?_ ?_
      ·exact fun _ _ S k e => ⟨0, S, k.wk, e.sel [0, 1, 2, 3, 4, 5, 6, 7], hL⟩
      ·clear hL; rintro n_54 a w ⟨v_53, hJ⟩; refine hJ.go fun hL => ?_
       clear hJ; obtain ⟨m_54, o_54, rfl, hG, hO1_54, hO2_54⟩ := iter_step hL; clear hL; rw [hs_54] at hG; refine sq (sq (rg (ra [(2, 1, 3, 1)] f0 [(94, B (decide (v_53 < p_4.Size)))] (tN ?_)))); rcases ic hG with ⟨h_55, hG⟩ | ⟨h_55, hG⟩
       ·refine sb 94 (bt h_55) (ct (kS (tN (sq (bk (sq ?_)))))); obtain ⟨v_56, hy_56, hG⟩ := bs hG; refine rg (fx inf51 (gd' (RowC p_3.Entries_A p_3.Entries_c Kb.cells tr p_3.Entries) 1) hy_56 fun b_57 o_58 hi_56 => ra [(1, 1, 5, 1), (1, 0, 0, 0), (1, 1, 0, 0)] (fc (hi_56 .i64) f0) [(104, B (v_56.Doc == v_29))] (tN ?_)); rcases ic hG with ⟨h_59, hG⟩ | ⟨h_59, hG⟩
        ·refine sb 104 (bt h_59) (ct (sq ?_)); obtain ⟨v_60o, hy_60, hG⟩ := bs hG; replace hG := b2 hG; obtain ⟨v_61o, v_62, hy_61, hG⟩ := hG; refine hb [0, 1, 2, 3, 4, 5, 6, 7, 8] (ht [0, 1, 2, 3, 4, 5, 6, 7, 8] [0, 1, 2, 4, 5] [(0, 2, 8, 0), (1, 1, 6, 1), (1, 1, 7, 1)] f0 [(106, .agg #[I p_0.ID, .slice p_0.Entries_A p_0.Entries.length p_0.Entries_c]), (108, I p_2.Size), (111, I p_1.Size)] (ho [3] ⟨h1 (cn 109 (zal F p_0 p_2.Size _ hy_60) hT (fun _ => (mr tr_mv m0)) ⟨(((gd' (RowC p_0.Entries_A p_0.Entries_c Kb.cells tr p_0.Entries) 1)).m fun _ _ h => ⟨h⟩), trivial⟩ ?_), trivial⟩)); rintro ⟨v_60_A, v_60_c, v_60⟩ hq_60; obtain rfl : v_60 = v_60o := hq_60.symm
         try simp only [lm_, Ka.n_Hops] at hG
         refine hk [1, 2, 3, 4, 5, 6, 7, 8, 9] (ho [6] ⟨h1 (cn 112 (zbv F v_60_A v_60_c v_60 p_1.Size _ hy_61) hT (fun _ => (mr tr_mv m0)) ⟨gi 0, trivial⟩ ?_), trivial⟩); rintro ⟨v_61_A, v_61_c, v_61⟩ hq_61; obtain rfl : v_61 = v_61o := hq_61.symm
         try simp only [lm_, Ka.n_Hops] at hG
         refine hk [2, 3, 4, 5, 6, 7, 8, 9, 10] (ht [2, 3, 4, 5, 6, 7, 8, 9, 10] [7, 8, 9, 10, 11] [] f0 [(22, .slice v_61_A v_61.length v_61_c)] (he (tN (sq ?_)))); obtain ⟨v_63o, v_64, hy_63, hG⟩ := b2 hG; refine rg (rn 3 [(0, 2, 7, 0), (0, 5, 6, 0)] f0 (ns 116 [.agg #[I p_3.ID, .slice p_3.Entries_A p_3.Entries.length p_3.Entries_c], .agg #[I p_4.Office, I p_4.Size, U p_4.Root, I p_4.Sig.C, I p_4.Sig.S], I v_53]) (l1 (cn 119 (zw F p_3 p_4 v_53 _ hy_63) hT (fun _ => (mc Kh.mv m0)) ⟨(((gd' (RowC p_3.Entries_A p_3.Entries_c Kb.cells tr p_3.Entries) 4)).m fun _ _ h => ⟨h⟩), trivial⟩ ?_))); rintro v_63 hq_63; obtain rfl : v_63.p = v_63o := hq_63.symm
         try simp only [lm_, Ka.n_Hops] at hG
         refine rn 3 [] f0 [(120, .agg #[I v_63.Head.Office, I v_63.Head.Size, U v_63.Head.Root, I v_63.Head.Sig.C, I v_63.Head.Sig.S, I v_63.Index, U v_63.Entry.Doc, I v_63.Entry.Stamp.Lo, I v_63.Entry.Stamp.Hi, .slice v_63.Path_A v_63.Path.length v_63.Path_c]), (121, I v_64)] (l1 (nw 24 vp (Kh.cells Kh.z) 34 fun g_65 => l1 (sr 0 g_65 (ns 0 [I v_63.Head.Office, I v_63.Head.Size, U v_63.Head.Root, I v_63.Head.Sig.C, I v_63.Head.Sig.S, I v_63.Index, U v_63.Entry.Doc, I v_63.Entry.Stamp.Lo, I v_63.Entry.Stamp.Hi, .slice v_63.Path_A v_63.Path.length v_63.Path_c]) (ra [] f0 [] (tN (sq (rg (rn 4 [(0, 5, 10, 0), (1, 10, 0, 0)] f0 [(125, .agg #[I p_2.Office, I p_2.Size, U p_2.Root, I p_2.Sig.C, I p_2.Sig.S, .slice v_61_A v_61.length v_61_c, I v_63.Head.Office, I v_63.Head.Size, U v_63.Head.Root, I v_63.Head.Sig.C, I v_63.Head.Sig.S, I v_63.Index, U v_63.Entry.Doc, I v_63.Entry.Stamp.Lo, I v_63.Entry.Stamp.Hi, .slice v_63.Path_A v_63.Path.length v_63.Path_c])] (l1 (sr 7 g_6 (ns 0 [I p_2.Office, I p_2.Size, U p_2.Root, I p_2.Sig.C, I p_2.Sig.S, .slice v_61_A v_61.length v_61_c, I v_63.Head.Office, I v_63.Head.Size, U v_63.Head.Root, I v_63.Head.Sig.C, I v_63.Head.Sig.S, I v_63.Index, U v_63.Entry.Doc, I v_63.Entry.Stamp.Lo, I v_63.Entry.Stamp.Hi, .slice v_63.Path_A v_63.Path.length v_63.Path_c]) (ra [] f0 [(11, I 0)] (tN (kR (hR (tR (tR ?_)))))))))))))))); have he_ := hO2_54 _ (oi hG).symm; subst he_; replace hG := hG_54; refine hR (tR ?_); obtain rfl := oi hG; replace hG := hG_67; obtain rfl := oi hG; exact rtn [(7, 0, 16)] (⟨p_2, v_61_A, v_61_c, v_61, v_63⟩ : Ke) rfl ⟨((Fd.two ((gd' (RowC v_61_A v_61_c c_u64 tr v_61) 2)) ((gm (Kh.ok v_63) 1 fun _ _ h => h))).m fun _ _ h => ⟨h.1, h.2⟩), trivial⟩
        ·exact sb 104 (bf h_59) (cf (kS (hN (tN (rg (ra [] f0 [(21, I (IntKind.i64.wrap (v_53 + 1)))] (tN (fun a w S hK hE => ⟨m_54, ⟨IntKind.i64.wrap (v_53 + 1), S, hK.wk, hE.sel [1, 2, 3, 4, 5, 6, 7, 8], hO1_54 _ (oi hG).symm⟩, Nat.lt_succ_self _⟩))))))))
       ·refine sb 94 (bf h_55) (cf (kX (tX (tX ?_)))); have he_ := hO2_54 _ (oi hG).symm; subst he_; replace hG := hG_54; exact hH (tN (fun _ _ S k e => ⟨S, k.wk, e.sel [2], oi hG⟩))
     ·rintro a w hJ; refine hJ.go ?_; clear hJ; rintro rfl; replace hG := el hG_67; refine sq (rg (rn 1 [] f0 [(126, Aw (Ke.cells Ke.z))] (l1 (sr 0 g_6 (ns 0 (Ke.cells Ke.z)) (ra [] f0 [(11, I 4)] (tN (kR ?_))))))); obtain rfl := oi hG; exact rtn [(0, 0, 16)] (⟨(⟨0, 0, 0, (⟨0, 0⟩ : KSig)⟩ : Kc), none, 0, ([] : List Int), (⟨(⟨0, 0, 0, (⟨0, 0⟩ : KSig)⟩ : Kc), 0, (⟨0, ⟨0, 0⟩⟩ : Kb), none, 0, ([] : List Int)⟩ : Kh)⟩ : Ke) rfl ⟨((Fd.two ((gn : Fd _ (RowC none 0 c_u64 tr ([] : List Int)))) ((gn : Fd _ (RowC none 0 c_u64 tr ([] : List Int))))).m fun _ _ h => ⟨h.1, ⟨h.2⟩⟩), trivial⟩
def Gbj (F : Nat) (p_0 : List Kg) (p_1 : List Kc) (p_2 : Int) (p_3 : Int) (p_4 : Int) (p_5 : Int) : Option ((List Int) × Bool) :=
  Option.bind (Option.bind (iter (σ := (List Kc) × Int × Int × Int × Int × Int) (ρ := Unit ⊕ (List Int)) (un6 fun (v_132 : (List Kc)) (v_135 : Int) (v_136 : Int) (v_137 : Int) (v_138 : Int) (v_139 : Int) => 
        (ifB (decide (v_135 < (p_0.length : Int)))
          (Option.bind (Option.bind (iter (σ := Int) (ρ := Unit ⊕ (List Int)) (fun (v_177 : Int) => 
                (ifB (decide (v_177 < (v_132.length : Int)))
                  (Option.bind (Option.bind (Option.bind (ixI v_132 v_177) (fun v_180 =>
                      ifB ((v_180.Office == v_136))
                        (Option.bind (ixI v_132 v_177) (fun v_184 =>
                        some (decide (v_184.Size > v_137))))
                        (some false)) : Option (Bool)) (fun (v_188 : Bool) => 
                      ifB (v_188)
                        (Option.bind (Gaa F p_0 v_132 ([v_177] : List Int) v_137 v_135 v_138 v_139) (un2 fun v_191 v_192 =>
                        ifB (v_192)
                          (some (.inr v_191))
                          (some (.inl ()))))
                        (some (.inl ()))) : Option (Unit ⊕ (List Int))) (Sum.elim (fun (_ : Unit) => 
                    some (.inl (IntKind.i64.wrap (v_177 + 1)))) (fun (v_195 : (List Int)) => 
                    some (.inr (.inr v_195)))))
                  (some (.inr (.inl ()))) : Option (Int ⊕ (Unit ⊕ (List Int))))) F 0) (Sum.elim (fun (_ : Unit) => 
              some (.inl ())) (fun (v_196 : (List Int)) => 
              some (.inr v_196))) : Option (Unit ⊕ (List Int))) (Sum.elim (fun (_ : Unit) => 
            some (.inl (v_132, IntKind.i64.wrap (v_135 + 1), v_136, v_137, v_138, v_139))) (fun (v_198 : (List Int)) => 
            some (.inr (.inr v_198)))))
          (some (.inr (.inl ()))) : Option (((List Kc) × Int × Int × Int × Int × Int) ⊕ (Unit ⊕ (List Int))))) F (p_1, 0, p_2, p_3, p_4, p_5)) (Sum.elim (fun (_ : Unit) => 
      some (.inl ())) (fun (v_199 : (List Int)) => 
      some (.inr v_199))) : Option (Unit ⊕ (List Int))) (Sum.elim (fun (_ : Unit) => 
    some (([] : List Int), false)) (fun (v_201 : (List Int)) => 
    some (v_201, true)))
theorem zb1 (F : Nat) (p_0_A : Option Addr) (p_0_c : Nat) (p_0 : List Kd) (p_1_A : Option Addr) (p_1_c : Nat) (p_1 : List Kc) (p_2 : Int) (p_3 : Int) (p_4 : Int) (p_5 : Int) (r : (List Int) × Bool) (hG : Gbj F (p_0.map Kd.p) p_1 p_2 p_3 p_4 p_5 = some r) :
  Cn Tryz.prog 50 [.slice p_0_A p_0.length p_0_c, .slice p_1_A p_1.length p_1_c, I p_2, I p_3, I p_4, I p_5] [RowC p_0_A p_0_c Kd.cells Kd.ok p_0, RowC p_1_A p_1_c Kc.cells tr p_1] (fun q : Kr => r.1 = q.l) (fun q => .tuple #[.slice q.A q.l.length q.c, B r.2]) (fun q => [RowC q.A q.c c_i64 tr q.l]) := by
 unfold Gbj at hG
 try simp only [lm_, Ka.n_Hops] at hG
 refine fin Tryz.func50 rfl rfl (mr Kd.mv (mr tr_mv m0)) fun S0 w0 hT => sq (rg (ra [] f0 [] (tN ?_)))
 obtain ⟨o_200, hG, hG_200⟩ := bs hG; refine jn (fun K E a w => Js S0 w0 60 (dk [1, 2, 3, 4, 5] K) (se E []) (.inl () = o_200) a w) ?_ ?_
 ·refine sq (rg (ra [] f0 [(14, I 0)] (tN (bk ?_)))); obtain ⟨e_140, hL, hG_140⟩ := bs hG; clear hG; obtain ⟨stp_140, hs_140, hL⟩ := iter_gen hL; refine lp (fun K E n_ a w => ∃ (v_132 : List Kc) (v_133_A : Option Addr) (v_134_c : Nat) (v_135 v_136 v_137 v_138 v_139 : Int), Js S0 w0 60 ([(1, .slice v_133_A v_132.length v_134_c), (2, I v_136), (3, I v_137), (4, I v_138), (5, I v_139), (14, I v_135)] ++ K) ([.dat (RowC v_133_A v_134_c Kc.cells tr v_132)] ++ se E [0]) (iter stp_140 n_ (v_132, v_135, v_136, v_137, v_138, v_139) = some e_140) a w) F ?_ ?_
  ·exact fun _ _ S k e => ⟨p_1, p_1_A, p_1_c, 0, p_2, p_3, p_4, p_5, S, k.wk, e.sel [1, 0], hL⟩
  ·clear hL; rintro n_140 a w ⟨v_132, v_133_A, v_134_c, v_135, v_136, v_137, v_138, v_139, hJ⟩; refine hJ.go fun hL => ?_
   clear hJ; obtain ⟨m_140, o_140, rfl, hG, hO1_140, hO2_140⟩ := iter_step hL; clear hL; rw [hs_140] at hG; refine sq (sq (rg (ra [] f0 [(21, B (decide (v_135 < (p_0.length : Int))))] (tN ?_)))); rcases ic hG with ⟨h_141, hG⟩ | ⟨h_141, hG⟩
   ·try simp only [lm_, Ka.n_Hops] at h_141
    refine sb 21 (bt h_141) (ct (kS (tN ?_))); obtain ⟨o_197, hG, hG_197⟩ := bs hG; refine jn (fun K E a w => Js S0 w0 60 (K) (se E [0, 1]) (.inl () = o_197) a w) ?_ ?_
    ·refine bk (sq (rg (ra [] f0 [(15, I 0)] (tN (bk ?_))))); obtain ⟨e_178, hL, hG_178⟩ := bs hG; clear hG; obtain ⟨stp_178, hs_178, hL⟩ := iter_gen hL; refine lp (fun K E n_ a w => ∃ v_177 : Int, Js S0 w0 60 ([(15, I v_177)] ++ K) (se E [0, 1]) (iter stp_178 n_ v_177 = some e_178) a w) F ?_ ?_
     ·exact fun _ _ S k e => ⟨0, S, k.wk, e.sel [0, 1], hL⟩
     ·clear hL; rintro n_178 a w ⟨v_177, hJ⟩; refine hJ.go fun hL => ?_
      clear hJ; obtain ⟨m_178, o_178, rfl, hG, hO1_178, hO2_178⟩ := iter_step hL; clear hL; rw [hs_178] at hG; refine sq (sq (rg (ra [] f0 [(27, B (decide (v_177 < (v_132.length : Int))))] (tN ?_)))); rcases ic hG with ⟨h_179, hG⟩ | ⟨h_179, hG⟩
      ·try simp only [lm_, Ka.n_Hops] at h_179
       refine sb 27 (bt h_179) (ct (kS (tN ?_))); obtain ⟨o_194, hG, hG_194⟩ := bs hG; refine jn (fun K E a w => Js S0 w0 60 (K) (se E [0, 1]) (.inl () = o_194) a w) ?_ ?_
       ·refine bk ?_; obtain ⟨o_187, hG, hG_187⟩ := bs hG; refine jn (fun K E a w => ∃ v_188 : Bool, Js S0 w0 60 ([(45, B v_188)] ++ K) (se E [0, 1]) (v_188 = o_187) a w) ?_ ?_
        ·obtain ⟨v_180, hy_180, hG⟩ := bs hG; rcases ic hG with ⟨h_183, hG⟩ | ⟨h_183, hG⟩
         ·obtain ⟨v_184, hy_184, hG⟩ := bs hG; exact rg (fx inf39 (gd' (RowC v_133_A v_134_c Kc.cells tr v_132) 0) hy_180 fun b_181 o_182 hi_180 => rn 8 [(2, 0, 0, 0), (1, 1, 0, 0)] (fc (hi_180 .i64) f0) [(37, B (v_180.Office == v_136))] (sb 37 (bt h_183) (fx inf39 (gd' (RowC v_133_A v_134_c Kc.cells tr v_132) 1) hy_184 fun b_185 o_186 hi_184 => ra [(2, 0, 0, 0), (1, 1, 0, 1)] (fc (hi_184 .i64) f0) [(45, B (decide (v_184.Size > v_137)))] (tN (fun _ _ S k e => ⟨decide (v_184.Size > v_137), S, k.wk, e.sel [2, 3], oi hG⟩)))))
         ·exact rg (fx inf39 (gd' (RowC v_133_A v_134_c Kc.cells tr v_132) 0) hy_180 fun b_181 o_182 hi_180 => rn 8 [(2, 0, 0, 0), (1, 1, 0, 0)] (fc (hi_180 .i64) f0) [(37, B (v_180.Office == v_136))] (sb 37 (bf h_183) (ra [] f0 [(45, B false)] (tN (fun _ _ S k e => ⟨false, S, k.wk, e.sel [1, 2], oi hG⟩)))))
        ·rintro a w ⟨v_188, hJ⟩; refine hJ.go ?_; clear hJ; rintro rfl; replace hG := hG_187; rcases ic hG with ⟨h_189, hG⟩ | ⟨h_189, hG⟩
         ·refine sb 45 (bt h_189) (ct (sq ?_)); obtain ⟨v_191o, v_192, hy_191, hG⟩ := b2 hG; refine rg (rn 3 [] f0 (ns 47 [.slice p_0_A p_0.length p_0_c, .slice v_133_A v_132.length v_134_c, I v_177]) (l1 (nw 50 (vs 1) [I v_177] 3 fun g_190 => rn 4 [] f0 (ns 51 [I v_137, I v_135, I v_138, I v_139]) (sB 0 g_190 c_i64 tr ([v_177] : List Int) tr_mv et (l1 (cn 55 (zb9 F p_0_A p_0_c p_0 v_133_A v_134_c v_132 (some ⟨g_190, 0, none⟩) 1 ([v_177] : List Int) v_137 v_135 v_138 v_139 _ hy_191) hT (fun _ => (mr tr_mv m0)) ⟨gi 2, gi 1, gi 0, trivial⟩ ?_)))))); rintro ⟨v_191_A, v_191_c, v_191⟩ hq_191; obtain rfl : v_191 = v_191o := hq_191.symm
          try simp only [lm_, Ka.n_Hops] at hG
          refine ra [] f0 [(16, .slice v_191_A v_191.length v_191_c), (17, B v_192)] (tN (sq (rg (ra [] f0 [(58, B v_192)] (tN ?_))))); rcases ic hG with ⟨h_193, hG⟩ | ⟨h_193, hG⟩
          ·refine sb 58 (bt h_193) (ct (sq (rg (ra [] f0 [(12, .slice v_191_A v_191.length v_191_c), (13, B true)] (tN (kR (hR (tR ?_)))))))); obtain rfl := oi hG; replace hG := hG_194; refine tR ?_; have he_ := hO2_178 _ (oi hG).symm; subst he_; replace hG := hG_178; refine hR (hR (tR ?_)); obtain rfl := oi hG; replace hG := hG_197; refine tR ?_; have he_ := hO2_140 _ (oi hG).symm; subst he_; replace hG := hG_140; refine hR (tR ?_); obtain rfl := oi hG; replace hG := hG_200; obtain rfl := oi hG; exact rtn [] ⟨v_191_A, v_191_c, v_191⟩ rfl ⟨gi 0, trivial⟩
          ·exact sb 58 (bf h_193) (cf (kS (hN (tN (fun _ _ S k e => ⟨S, k.wk, e.sel [2, 3], oi hG⟩)))))
         ·exact sb 45 (bf h_189) (cf (kS (hN (tN (fun _ _ S k e => ⟨S, k.wk, e.sel [0, 1], oi hG⟩)))))
       ·rintro a w hJ; refine hJ.go ?_; clear hJ; rintro rfl; replace hG := el hG_194; exact rg (ra [] f0 [(15, I (IntKind.i64.wrap (v_177 + 1)))] (tN (fun a w S hK hE => ⟨m_178, ⟨IntKind.i64.wrap (v_177 + 1), S, hK.wk, hE.sel [0, 1], hO1_178 _ (oi hG).symm⟩, Nat.lt_succ_self _⟩)))
      ·try simp only [lm_, Ka.n_Hops] at h_179
       refine sb 27 (bf h_179) (cf (kX (tX (tX ?_)))); have he_ := hO2_178 _ (oi hG).symm; subst he_; replace hG := hG_178; exact hH (hN (tN (fun _ _ S k e => ⟨S, k.wk, e.sel [0, 1], oi hG⟩)))
    ·rintro a w hJ; refine hJ.go ?_; clear hJ; rintro rfl; replace hG := el hG_197; exact rg (ra [] f0 [(14, I (IntKind.i64.wrap (v_135 + 1)))] (tN (fun a w S hK hE => ⟨m_140, ⟨v_132, v_133_A, v_134_c, IntKind.i64.wrap (v_135 + 1), v_136, v_137, v_138, v_139, S, hK.wk, hE.sel [0, 1], hO1_140 _ (oi hG).symm⟩, Nat.lt_succ_self _⟩)))
   ·try simp only [lm_, Ka.n_Hops] at h_141
    refine sb 21 (bf h_141) (cf (kX (tX (tX ?_)))); have he_ := hO2_140 _ (oi hG).symm; subst he_; replace hG := hG_140; exact hH (tN (fun _ _ S k e => ⟨S, k.wk, e.sel [], oi hG⟩))
 ·rintro a w hJ; refine hJ.go ?_; clear hJ; rintro rfl; replace hG := el hG_200; refine sq (rg (ra [] f0 [(12, .slice none 0 0), (13, B false)] (tN (kR ?_)))); obtain rfl := oi hG; exact rtn [] ⟨none, 0, ([] : List Int)⟩ rfl ⟨gn, trivial⟩
def Gbq (F : Nat) (p_0 : List Kg) (p_1 : List Kc) (p_2 : Int) (p_3 : Int) (p_4 : Int) (p_5 : Int) : Option (Int) :=
  Option.bind (ifB (decide ((p_0.length : Int) > 4))
      (some (p_1, p_2, true, p_3, p_4, p_5))
      (some (p_1, p_2, decide ((p_1.length : Int) > 12), p_3, p_4, p_5)) : Option (((List Kc) × Int × Bool × Int × Int × Int))) (un6 fun (v_3 : (List Kc)) (v_6 : Int) (v_7 : Bool) (v_8 : Int) (v_9 : Int) (v_10 : Int) => 
    ifB (v_7)
      (some 2)
      (Option.bind (Option.bind (iter (σ := Int) (ρ := Unit ⊕ Unit) (fun (v_38 : Int) => 
            (ifB (decide (v_38 < (p_0.length : Int)))
              (Option.bind (Option.bind (ixI p_0 v_38) (fun v_41 =>
                Option.bind (Gv F v_41) (fun v_44 =>
                ifB (v_44)
                  (ifB (decide (v_38 > 0))
                    (Option.bind (ixI p_0 v_38) (fun v_47 =>
                    Option.bind (ixI p_0 (IntKind.i64.wrap (v_38 - 1))) (fun v_50 =>
                    some (decide (v_47.ID ≤ v_50.ID)))))
                    (some false))
                  (some true))) : Option (Bool)) (fun (v_54 : Bool) => 
                ifB (v_54)
                  (some (.inr (.inr ())))
                  (some (.inl (IntKind.i64.wrap (v_38 + 1))))))
              (some (.inr (.inl ()))) : Option (Int ⊕ (Unit ⊕ Unit)))) F 0) (Sum.elim (fun (_ : Unit) => 
          some (.inl ())) (fun (_ : Unit) => 
          some (.inr ()))) : Option (Unit ⊕ Unit)) (Sum.elim (fun (_ : Unit) => 
        Option.bind (Option.bind (iter (σ := Int) (ρ := Unit ⊕ Unit) (fun (v_70 : Int) => 
              (ifB (decide (v_70 < (v_3.length : Int)))
                (Option.bind (ixI v_3 v_70) (fun v_73 =>
                Option.bind (Ga F v_73) (fun v_76 =>
                ifB (v_76)
                  (some (.inl (IntKind.i64.wrap (v_70 + 1))))
                  (some (.inr (.inr ()))))))
                (some (.inr (.inl ()))) : Option (Int ⊕ (Unit ⊕ Unit)))) F 0) (Sum.elim (fun (_ : Unit) => 
            some (.inl ())) (fun (_ : Unit) => 
            some (.inr ()))) : Option (Unit ⊕ Unit)) (Sum.elim (fun (_ : Unit) => 
          Option.bind (Gb F p_0 v_6) (fun v_79 =>
          Option.bind (Gb F p_0 v_9) (fun v_80 =>
          Option.bind (ifB (decide (v_79 < 0))
              (some true)
              (some (decide (v_80 < 0))) : Option (Bool)) (fun (v_83 : Bool) => 
            ifB (v_83)
              (some 1)
              (Option.bind (ifB (decide (v_8 < 0))
                  (some true)
                  (Option.bind (ixI p_0 v_79) (fun v_86 =>
                  ifB (decide (v_8 ≥ (v_86.Entries.length : Int)))
                    (some true)
                    (ifB (decide (v_10 < 0))
                      (some true)
                      (Option.bind (ixI p_0 v_80) (fun v_91 =>
                      some (decide (v_10 ≥ (v_91.Entries.length : Int)))))))) : Option (Bool)) (fun (v_95 : Bool) => 
                ifB (v_95)
                  (some 1)
                  (Option.bind (Option.bind (iter (σ := Int) (ρ := Unit ⊕ Unit) (fun (v_134 : Int) => 
                        (ifB (decide (v_134 < (v_3.length : Int)))
                          (Option.bind (ixI v_3 v_134) (fun v_137 =>
                          Option.bind (Gb F p_0 v_137.Office) (fun v_140 =>
                          ifB (decide (v_140 < 0))
                            (some (.inr (.inr ())))
                            (Option.bind (Option.bind (ixI p_0 v_140) (fun v_142 =>
                              Option.bind (ixI v_3 v_134) (fun v_145 =>
                              Option.bind (Gp F v_142 v_145 0) (un2 fun v_148 v_149 =>
                              some v_149))) : Option (Int)) (fun (v_152 : Int) => 
                              ifB ((v_152 == 0))
                                (some (.inl (IntKind.i64.wrap (v_134 + 1))))
                                (some (.inr (.inr ()))))))))
                          (some (.inr (.inl ()))) : Option (Int ⊕ (Unit ⊕ Unit)))) F 0) (Sum.elim (fun (_ : Unit) => 
                      some (.inl ())) (fun (_ : Unit) => 
                      some (.inr ()))) : Option (Unit ⊕ Unit)) (Sum.elim (fun (_ : Unit) => 
                    some 0) (fun (_ : Unit) => 
                    some 33))))))))) (fun (_ : Unit) => 
          some 1))) (fun (_ : Unit) => 
        some 1))))
theorem zb6 (F : Nat) (p_0_A : Option Addr) (p_0_c : Nat) (p_0 : List Kd) (p_1_A : Option Addr) (p_1_c : Nat) (p_1 : List Kc) (p_2 : Int) (p_3 : Int) (p_4 : Int) (p_5 : Int) (r : Int) (hG : Gbq F (p_0.map Kd.p) p_1 p_2 p_3 p_4 p_5 = some r) :
  Cf Tryz.prog 49 [.slice p_0_A p_0.length p_0_c, .slice p_1_A p_1.length p_1_c, I p_2, I p_3, I p_4, I p_5] [RowC p_0_A p_0_c Kd.cells Kd.ok p_0, RowC p_1_A p_1_c Kc.cells tr p_1] (I r) := by
 unfold Gbq at hG
 try simp only [lm_, Ka.n_Hops] at hG
 refine fi Tryz.func49 rfl rfl (mr Kd.mv (mr tr_mv m0)) fun S0 w0 hT => sq (rg (ra [] f0 [] (tN (sq ?_))))
 obtain ⟨o_2, hG, hG_2⟩ := bs hG; refine jn (fun K E a w => ∃ (v_3 : List Kc) (v_4_A : Option Addr) (v_5_c : Nat) (v_6 : Int) (v_7 : Bool) (v_8 v_9 v_10 : Int), Js S0 w0 138 ([(1, .slice v_4_A v_3.length v_5_c), (2, I v_6), (3, I v_8), (4, I v_9), (5, I v_10), (28, B v_7)] ++ K) ([.dat (RowC v_4_A v_5_c Kc.cells tr v_3)] ++ se E [0]) ((v_3, v_6, v_7, v_8, v_9, v_10) = o_2) a w) ?_ ?_
 ·rcases ic hG with ⟨h_1, hG⟩ | ⟨h_1, hG⟩
  ·refine rg (rn 4 [] f0 [(24, B (decide ((p_0.length : Int) > 4)))] ?_)
   try simp only [lm_, Ka.n_Hops] at h_1
   exact sb 24 (bt h_1) (ra [] f0 [(28, B true)] (tN (fun _ _ S k e => ⟨p_1, p_1_A, p_1_c, p_2, true, p_3, p_4, p_5, S, k.wk, e.sel [1, 0], oi hG⟩)))
  ·refine rg (rn 4 [] f0 [(24, B (decide ((p_0.length : Int) > 4)))] ?_)
   try simp only [lm_, Ka.n_Hops] at h_1
   exact sb 24 (bf h_1) (ra [] f0 [(28, B (decide ((p_1.length : Int) > 12)))] (tN (fun _ _ S k e => ⟨p_1, p_1_A, p_1_c, p_2, decide ((p_1.length : Int) > 12), p_3, p_4, p_5, S, k.wk, e.sel [1, 0], oi hG⟩)))
 ·rintro a w ⟨v_3, v_4_A, v_5_c, v_6, v_7, v_8, v_9, v_10, hJ⟩; refine hJ.go ?_; clear hJ; rintro rfl; replace hG := hG_2; rcases ic hG with ⟨h_11, hG⟩ | ⟨h_11, hG⟩
  ·refine sb 28 (bt h_11) (ct (sq (rg (ra [] f0 [(12, I 2)] (tN (kR (tR ?_))))))); obtain rfl := oi hG; exact rt []
  ·refine sb 28 (bf h_11) (cf (kS (tN ?_))); obtain ⟨o_56, hG, hG_56⟩ := bs hG; refine jn (fun K E a w => Js S0 w0 138 (K) (se E [0, 1]) (.inl () = o_56) a w) ?_ ?_
   ·refine sq (rg (ra [] f0 [(13, I 0)] (tN (bk ?_)))); obtain ⟨e_39, hL, hG_39⟩ := bs hG; clear hG; obtain ⟨stp_39, hs_39, hL⟩ := iter_gen hL; refine lp (fun K E n_ a w => ∃ v_38 : Int, Js S0 w0 138 ([(13, I v_38)] ++ K) (se E [0, 1]) (iter stp_39 n_ v_38 = some e_39) a w) F ?_ ?_
    ·exact fun _ _ S k e => ⟨0, S, k.wk, e.sel [0, 1], hL⟩
    ·clear hL; rintro n_39 a w ⟨v_38, hJ⟩; refine hJ.go fun hL => ?_
     clear hJ; obtain ⟨m_39, o_39, rfl, hG, hO1_39, hO2_39⟩ := iter_step hL; clear hL; rw [hs_39] at hG; refine sq (sq (rg (ra [] f0 [(32, B (decide (v_38 < (p_0.length : Int))))] (tN ?_)))); rcases ic hG with ⟨h_40, hG⟩ | ⟨h_40, hG⟩
     ·try simp only [lm_, Ka.n_Hops] at h_40
      refine sb 32 (bt h_40) (ct (kS (tN (sq (bk ?_))))); obtain ⟨o_53, hG, hG_53⟩ := bs hG; refine jn (fun K E a w => ∃ v_54 : Bool, Js S0 w0 138 ([(58, B v_54)] ++ K) (se E [0, 1]) (v_54 = o_53) a w) ?_ ?_
      ·obtain ⟨v_41o, hy_41, hG⟩ := bs hG; replace hG := bs hG; obtain ⟨v_44, hy_44, hG⟩ := hG; replace hG := ic hG; rcases hG with ⟨h_45, hG⟩ | ⟨h_45, hG⟩
       ·replace hG := ic hG; rcases hG with ⟨h_46, hG⟩ | ⟨h_46, hG⟩
        ·replace hG := bs hG; obtain ⟨v_47o, hy_47, hG⟩ := hG; replace hG := bs hG; obtain ⟨v_50o, hy_50, hG⟩ := hG; refine qb (fxn (p := Kd.p) inf38 (gd' (RowC p_0_A p_0_c Kd.cells Kd.ok p_0) 1) hy_41 fun v_41 b_42 o_43 he_41 hi_41 => ?_); subst he_41
         try simp only [lm_, Ka.n_Hops] at hG
         refine qn 4 [(2, 0, 0, 0), (0, 2, 0, 0)] (fc (hi_41 .i64) f0) [(38, .agg #[I v_41.ID, .slice v_41.Entries_A v_41.Entries.length v_41.Entries_c])] (qc 39 (zr F v_41 _ hy_44) hT ⟨(gi 1).a, trivial⟩ (qn 2 [] f0 [(41, B (!v_44))] (sb 41 (nt h_45) (qn 3 [] f0 [(44, B (decide (v_38 > 0)))] (sb 44 (bt h_46) (fxn (p := Kd.p) inf38 (gd' (RowC p_0_A p_0_c Kd.cells Kd.ok p_0) 3) hy_47 fun v_47 b_48 o_49 he_47 hi_47 => ?_)))))); subst he_47
         try simp only [lm_, Ka.n_Hops] at hG
         refine fxn (p := Kd.p) inf38 (gd' (RowC p_0_A p_0_c Kd.cells Kd.ok p_0) 5) hy_50 fun v_50 b_51 o_52 he_50 hi_50 => ?_
         subst he_50
         try simp only [lm_, Ka.n_Hops] at hG
         exact qa [(2, 0, 0, 0), (1, 1, 2, 0), (3, 0, 0, 0), (1, 1, 0, 0)] (fc (hi_47 .i64) (fc (hi_50 .i64) f0)) [(58, B (decide (v_47.ID ≤ v_50.ID)))] (tN (fun _ _ S k e => ⟨decide (v_47.ID ≤ v_50.ID), S, k.wk, e.sel [6, 7], oi hG⟩))
        ·refine qb (fxn (p := Kd.p) inf38 (gd' (RowC p_0_A p_0_c Kd.cells Kd.ok p_0) 1) hy_41 fun v_41 b_42 o_43 he_41 hi_41 => ?_); subst he_41
         try simp only [lm_, Ka.n_Hops] at hG
         exact qn 4 [(2, 0, 0, 0), (0, 2, 0, 0)] (fc (hi_41 .i64) f0) [(38, .agg #[I v_41.ID, .slice v_41.Entries_A v_41.Entries.length v_41.Entries_c])] (qc 39 (zr F v_41 _ hy_44) hT ⟨(gi 1).a, trivial⟩ (qn 2 [] f0 [(41, B (!v_44))] (sb 41 (nt h_45) (qn 3 [] f0 [(44, B (decide (v_38 > 0)))] (sb 44 (bf h_46) (qa [] f0 [(58, B false)] (tN (fun _ _ S k e => ⟨false, S, k.wk, e.sel [2, 3], oi hG⟩))))))))
       ·refine qb (fxn (p := Kd.p) inf38 (gd' (RowC p_0_A p_0_c Kd.cells Kd.ok p_0) 1) hy_41 fun v_41 b_42 o_43 he_41 hi_41 => ?_); subst he_41
        try simp only [lm_, Ka.n_Hops] at hG
        exact qn 4 [(2, 0, 0, 0), (0, 2, 0, 0)] (fc (hi_41 .i64) f0) [(38, .agg #[I v_41.ID, .slice v_41.Entries_A v_41.Entries.length v_41.Entries_c])] (qc 39 (zr F v_41 _ hy_44) hT ⟨(gi 1).a, trivial⟩ (qn 2 [] f0 [(41, B (!v_44))] (sb 41 (nf h_45) (qa [] f0 [(58, B true)] (tN (fun _ _ S k e => ⟨true, S, k.wk, e.sel [2, 3], oi hG⟩))))))
      ·rintro a w ⟨v_54, hJ⟩; refine hJ.go ?_; clear hJ; rintro rfl; replace hG := hG_53; rcases ic hG with ⟨h_55, hG⟩ | ⟨h_55, hG⟩
       ·refine sb 58 (bt h_55) (ct (sq (rg (ra [] f0 [(12, I 1)] (tN (kR (hR (tR (tR ?_))))))))); have he_ := hO2_39 _ (oi hG).symm; subst he_; replace hG := hG_39; refine hR (tR ?_); obtain rfl := oi hG; replace hG := hG_56; obtain rfl := oi hG; exact rt []
       ·exact sb 58 (bf h_55) (cf (kS (hN (tN (rg (ra [] f0 [(13, I (IntKind.i64.wrap (v_38 + 1)))] (tN (fun a w S hK hE => ⟨m_39, ⟨IntKind.i64.wrap (v_38 + 1), S, hK.wk, hE.sel [0, 1], hO1_39 _ (oi hG).symm⟩, Nat.lt_succ_self _⟩))))))))
     ·try simp only [lm_, Ka.n_Hops] at h_40
      refine sb 32 (bf h_40) (cf (kX (tX (tX ?_)))); have he_ := hO2_39 _ (oi hG).symm; subst he_; replace hG := hG_39; exact hH (tN (fun _ _ S k e => ⟨S, k.wk, e.sel [0, 1], oi hG⟩))
   ·rintro a w hJ; refine hJ.go ?_; clear hJ; rintro rfl; replace hG := el hG_56; obtain ⟨o_78, hG, hG_78⟩ := bs hG; refine jn (fun K E a w => Js S0 w0 138 (K) (se E [0, 1]) (.inl () = o_78) a w) ?_ ?_
    ·refine sq (rg (ra [] f0 [(14, I 0)] (tN (bk ?_)))); obtain ⟨e_71, hL, hG_71⟩ := bs hG; clear hG; obtain ⟨stp_71, hs_71, hL⟩ := iter_gen hL; refine lp (fun K E n_ a w => ∃ v_70 : Int, Js S0 w0 138 ([(14, I v_70)] ++ K) (se E [0, 1]) (iter stp_71 n_ v_70 = some e_71) a w) F ?_ ?_
     ·exact fun _ _ S k e => ⟨0, S, k.wk, e.sel [0, 1], hL⟩
     ·clear hL; rintro n_71 a w ⟨v_70, hJ⟩; refine hJ.go fun hL => ?_
      clear hJ; obtain ⟨m_71, o_71, rfl, hG, hO1_71, hO2_71⟩ := iter_step hL; clear hL; rw [hs_71] at hG; refine sq (sq (rg (ra [] f0 [(62, B (decide (v_70 < (v_3.length : Int))))] (tN ?_)))); rcases ic hG with ⟨h_72, hG⟩ | ⟨h_72, hG⟩
      ·try simp only [lm_, Ka.n_Hops] at h_72
       refine sb 62 (bt h_72) (ct (kS (tN (sq (bk (sq ?_)))))); obtain ⟨v_73, hy_73, hG⟩ := bs hG; obtain ⟨v_76, hy_76, hG⟩ := bs hG; refine rg (fx inf39 (gd' (RowC v_4_A v_5_c Kc.cells tr v_3) 0) hy_73 fun b_74 o_75 hi_73 => rn 4 [(2, 0, 0, 0), (0, 5, 0, 0)] (fc (hi_73 .i64) f0) [(68, .agg #[I v_73.Office, I v_73.Size, U v_73.Root, I v_73.Sig.C, I v_73.Sig.S])] (l1 (cl 69 (zf F v_73 _ hy_76) hT trivial (ra [] f0 [(70, B (!v_76))] (tN ?_))))); rcases ic hG with ⟨h_77, hG⟩ | ⟨h_77, hG⟩
       ·exact sb 70 (nt h_77) (cf (kS (hN (tN (rg (ra [] f0 [(14, I (IntKind.i64.wrap (v_70 + 1)))] (tN (fun a w S hK hE => ⟨m_71, ⟨IntKind.i64.wrap (v_70 + 1), S, hK.wk, hE.sel [1, 2], hO1_71 _ (oi hG).symm⟩, Nat.lt_succ_self _⟩))))))))
       ·refine sb 70 (nf h_77) (ct (sq (rg (ra [] f0 [(12, I 1)] (tN (kR (hR (tR (tR ?_))))))))); have he_ := hO2_71 _ (oi hG).symm; subst he_; replace hG := hG_71; refine hR (tR ?_); obtain rfl := oi hG; replace hG := hG_78; obtain rfl := oi hG; exact rt []
      ·try simp only [lm_, Ka.n_Hops] at h_72
       refine sb 62 (bf h_72) (cf (kX (tX (tX ?_)))); have he_ := hO2_71 _ (oi hG).symm; subst he_; replace hG := hG_71; exact hH (tN (fun _ _ S k e => ⟨S, k.wk, e.sel [0, 1], oi hG⟩))
    ·rintro a w hJ; refine hJ.go ?_; clear hJ; rintro rfl; replace hG := el hG_78; refine sq ?_; obtain ⟨v_79, hy_79, hG⟩ := bs hG; refine rg (rn 2 [] f0 [(71, .slice p_0_A p_0.length p_0_c), (72, I v_6)] (l1 (cl 73 (ze F p_0_A p_0_c p_0 v_6 _ hy_79) hT ⟨ga 1, trivial⟩ (ra [] f0 [(15, I v_79)] (tN (sq ?_)))))); obtain ⟨v_80, hy_80, hG⟩ := bs hG; refine rg (rn 2 [] f0 [(74, .slice p_0_A p_0.length p_0_c), (75, I v_9)] (l1 (cl 76 (ze F p_0_A p_0_c p_0 v_9 _ hy_80) hT ⟨ga 1, trivial⟩ (ra [] f0 [(16, I v_80)] (tN (sq ?_)))))); obtain ⟨o_82, hG, hG_82⟩ := bs hG; refine jn (fun K E a w => ∃ v_83 : Bool, Js S0 w0 138 ([(82, B v_83)] ++ K) (se E [0, 1]) (v_83 = o_82) a w) ?_ ?_
     ·rcases ic hG with ⟨h_81, hG⟩ | ⟨h_81, hG⟩
      ·exact rg (rn 3 [] f0 [(79, B (decide (v_79 < 0)))] (sb 79 (bt h_81) (ra [] f0 [(82, B true)] (tN (fun _ _ S k e => ⟨true, S, k.wk, e.sel [0, 1], oi hG⟩)))))
      ·exact rg (rn 3 [] f0 [(79, B (decide (v_79 < 0)))] (sb 79 (bf h_81) (ra [] f0 [(82, B (decide (v_80 < 0)))] (tN (fun _ _ S k e => ⟨decide (v_80 < 0), S, k.wk, e.sel [0, 1], oi hG⟩)))))
     ·rintro a w ⟨v_83, hJ⟩; refine hJ.go ?_; clear hJ; rintro rfl; replace hG := hG_82; rcases ic hG with ⟨h_84, hG⟩ | ⟨h_84, hG⟩
      ·refine sb 82 (bt h_84) (ct (sq (rg (ra [] f0 [(12, I 1)] (tN (kR (tR ?_))))))); obtain rfl := oi hG; exact rt []
      ·refine sb 82 (bf h_84) (cf (kS (tN (sq ?_)))); obtain ⟨o_94, hG, hG_94⟩ := bs hG; refine jn (fun K E a w => ∃ v_95 : Bool, Js S0 w0 138 ([(108, B v_95)] ++ K) (se E [0, 1]) (v_95 = o_94) a w) ?_ ?_
       ·rcases ic hG with ⟨h_85, hG⟩ | ⟨h_85, hG⟩
        ·exact rg (rn 3 [] f0 [(85, B (decide (v_8 < 0)))] (sb 85 (bt h_85) (ra [] f0 [(108, B true)] (tN (fun _ _ S k e => ⟨true, S, k.wk, e.sel [0, 1], oi hG⟩)))))
        ·obtain ⟨v_86o, hy_86, hG⟩ := bs hG; replace hG := ic hG; rcases hG with ⟨h_89, hG⟩ | ⟨h_89, hG⟩
         ·refine rg (rn 3 [] f0 [(85, B (decide (v_8 < 0)))] (sb 85 (bf h_85) (fxn (p := Kd.p) inf38 (gd' (RowC p_0_A p_0_c Kd.cells Kd.ok p_0) 1) hy_86 fun v_86 b_87 o_88 he_86 hi_86 => ?_))); subst he_86
          try simp only [lm_, Ka.n_Hops] at hG
          refine rn 10 [(3, 0, 0, 0), (1, 1, 0, 1)] (fc (hi_86 .i64) f0) [(95, B (decide (v_8 ≥ (v_86.Entries.length : Int))))] ?_
          try simp only [lm_, Ka.n_Hops] at h_89
          exact sb 95 (bt h_89) (ra [] f0 [(108, B true)] (tN (fun _ _ S k e => ⟨true, S, k.wk, e.sel [2, 3], oi hG⟩)))
         ·replace hG := ic hG; rcases hG with ⟨h_90, hG⟩ | ⟨h_90, hG⟩
          ·refine rg (rn 3 [] f0 [(85, B (decide (v_8 < 0)))] (sb 85 (bf h_85) (fxn (p := Kd.p) inf38 (gd' (RowC p_0_A p_0_c Kd.cells Kd.ok p_0) 1) hy_86 fun v_86 b_87 o_88 he_86 hi_86 => ?_))); subst he_86
           try simp only [lm_, Ka.n_Hops] at hG
           refine rn 10 [(3, 0, 0, 0), (1, 1, 0, 1)] (fc (hi_86 .i64) f0) [(95, B (decide (v_8 ≥ (v_86.Entries.length : Int))))] ?_
           try simp only [lm_, Ka.n_Hops] at h_89
           exact sb 95 (bf h_89) (rn 4 [] f0 [(99, B (decide (v_10 < 0)))] (sb 99 (bt h_90) (ra [] f0 [(108, B true)] (tN (fun _ _ S k e => ⟨true, S, k.wk, e.sel [2, 3], oi hG⟩)))))
          ·replace hG := bs hG; obtain ⟨v_91o, hy_91, hG⟩ := hG; refine rg (rn 3 [] f0 [(85, B (decide (v_8 < 0)))] (sb 85 (bf h_85) (fxn (p := Kd.p) inf38 (gd' (RowC p_0_A p_0_c Kd.cells Kd.ok p_0) 1) hy_86 fun v_86 b_87 o_88 he_86 hi_86 => ?_))); subst he_86
           try simp only [lm_, Ka.n_Hops] at hG
           refine rn 10 [(3, 0, 0, 0), (1, 1, 0, 1)] (fc (hi_86 .i64) f0) [(95, B (decide (v_8 ≥ (v_86.Entries.length : Int))))] ?_
           try simp only [lm_, Ka.n_Hops] at h_89
           refine sb 95 (bf h_89) (rn 4 [] f0 [(99, B (decide (v_10 < 0)))] (sb 99 (bf h_90) (fxn (p := Kd.p) inf38 (gd' (RowC p_0_A p_0_c Kd.cells Kd.ok p_0) 3) hy_91 fun v_91 b_92 o_93 he_91 hi_91 => ?_))); subst he_91
           try simp only [lm_, Ka.n_Hops] at hG
           exact ra [(3, 0, 0, 0), (1, 1, 0, 1)] (fc (hi_91 .i64) f0) [(108, B (decide (v_10 ≥ (v_91.Entries.length : Int))))] (tN (fun _ _ S k e => ⟨decide (v_10 ≥ (v_91.Entries.length : Int)), S, k.wk, e.sel [4, 5], oi hG⟩))
       ·rintro a w ⟨v_95, hJ⟩; refine hJ.go ?_; clear hJ; rintro rfl; replace hG := hG_94; rcases ic hG with ⟨h_96, hG⟩ | ⟨h_96, hG⟩
        ·refine sb 108 (bt h_96) (ct (sq (rg (ra [] f0 [(12, I 1)] (tN (kR (tR ?_))))))); obtain rfl := oi hG; exact rt []
        ·refine sb 108 (bf h_96) (cf (kS (tN ?_))); obtain ⟨o_154, hG, hG_154⟩ := bs hG; refine jn (fun K E a w => Js S0 w0 138 (K) (se E []) (.inl () = o_154) a w) ?_ ?_
         ·refine sq (rg (ra [] f0 [(17, I 0)] (tN (bk ?_)))); obtain ⟨e_135, hL, hG_135⟩ := bs hG; clear hG; obtain ⟨stp_135, hs_135, hL⟩ := iter_gen hL; refine lp (fun K E n_ a w => ∃ v_134 : Int, Js S0 w0 138 ([(17, I v_134)] ++ K) (se E [0, 1]) (iter stp_135 n_ v_134 = some e_135) a w) F ?_ ?_
          ·exact fun _ _ S k e => ⟨0, S, k.wk, e.sel [0, 1], hL⟩
          ·clear hL; rintro n_135 a w ⟨v_134, hJ⟩; refine hJ.go fun hL => ?_
           clear hJ; obtain ⟨m_135, o_135, rfl, hG, hO1_135, hO2_135⟩ := iter_step hL; clear hL; rw [hs_135] at hG; refine sq (sq (rg (ra [] f0 [(112, B (decide (v_134 < (v_3.length : Int))))] (tN ?_)))); rcases ic hG with ⟨h_136, hG⟩ | ⟨h_136, hG⟩
           ·try simp only [lm_, Ka.n_Hops] at h_136
            refine sb 112 (bt h_136) (ct (kS (tN (sq (bk (sq ?_)))))); obtain ⟨v_137, hy_137, hG⟩ := bs hG; obtain ⟨v_140, hy_140, hG⟩ := bs hG; refine rg (fx inf39 (gd' (RowC v_4_A v_5_c Kc.cells tr v_3) 0) hy_137 fun b_138 o_139 hi_137 => rn 6 [(3, 0, 0, 0), (1, 1, 0, 0)] (fc (hi_137 .i64) f0) [(115, .slice p_0_A p_0.length p_0_c), (120, I v_137.Office)] (l1 (cl 121 (ze F p_0_A p_0_c p_0 v_137.Office _ hy_140) hT ⟨ga 2, trivial⟩ (ra [] f0 [(18, I v_140)] (tN (sq (sq (rg (ra [] f0 [(123, B (decide (v_140 < 0)))] (tN ?_)))))))))); rcases ic hG with ⟨h_141, hG⟩ | ⟨h_141, hG⟩
            ·refine sb 123 (bt h_141) (ct (sq (rg (ra [] f0 [(12, I 33)] (tN (kR (tR (hR (tR (tR ?_)))))))))); have he_ := hO2_135 _ (oi hG).symm; subst he_; replace hG := hG_135; refine hR (tR ?_); obtain rfl := oi hG; replace hG := hG_154; obtain rfl := oi hG; exact rt []
            ·refine sb 123 (bf h_141) (cf (kS (tN ?_))); obtain ⟨o_151, hG, hG_151⟩ := bs hG; refine jn (fun K E a w => ∃ v_152 : Int, Js S0 w0 138 ([(20, I v_152)] ++ K) (se E [1, 2]) (v_152 = o_151) a w) ?_ ?_
             ·obtain ⟨v_142o, hy_142, hG⟩ := bs hG; replace hG := bs hG; obtain ⟨v_145, hy_145, hG⟩ := hG; replace hG := b2 hG; obtain ⟨v_148o, v_149, hy_148, hG⟩ := hG; refine fxn (p := Kd.p) inf38 (gd' (RowC p_0_A p_0_c Kd.cells Kd.ok p_0) 2) hy_142 fun v_142 b_143 o_144 he_142 hi_142 => ?_
              subst he_142
              try simp only [lm_, Ka.n_Hops] at hG
              refine fx inf39 (gd' (RowC v_4_A v_5_c Kc.cells tr v_3) 3) hy_145 fun b_146 o_147 hi_145 => hb [0, 1, 2, 3, 4, 5] (ht [0, 1, 2, 3, 4, 5] [0, 1, 2, 3, 4, 5, 6, 7] [(2, 0, 0, 0), (0, 2, 1, 0), (2, 0, 0, 0), (0, 5, 0, 0)] (fc (hi_142 .i64) (fc (hi_145 .i64) f0)) [(128, .agg #[I v_142.ID, .slice v_142.Entries_A v_142.Entries.length v_142.Entries_c]), (132, .agg #[I v_145.Office, I v_145.Size, U v_145.Root, I v_145.Sig.C, I v_145.Sig.S])] (ho [8, 12] ⟨?_, ?_, trivial⟩))
              ·refine h1 (cn 133 (zw F v_142 v_145 0 _ hy_148) hT (fun _ => (mc Kh.mv m0)) ⟨(gi 2), trivial⟩ ?_); rintro v_148 hq_148; obtain rfl : v_148.p = v_148o := hq_148.symm
               try simp only [lm_, Ka.n_Hops] at hG
               exact hk [1, 2, 3, 4, 5, 6] (ht [1, 2, 3, 4, 5, 6] [9, 10, 11] [] f0 [(134, .agg #[I v_148.Head.Office, I v_148.Head.Size, U v_148.Head.Root, I v_148.Head.Sig.C, I v_148.Head.Sig.S, I v_148.Index, U v_148.Entry.Doc, I v_148.Entry.Stamp.Lo, I v_148.Entry.Stamp.Hi, .slice v_148.Path_A v_148.Path.length v_148.Path_c]), (135, I v_149)] (ho [12] ⟨h1 (nw 19 vp (Kh.cells Kh.z) 34 fun g_150 => hk [2, 3, 4, 5, 6, 7] (ho [13] ⟨h1 (sr 0 g_150 (ns 0 [I v_148.Head.Office, I v_148.Head.Size, U v_148.Head.Root, I v_148.Head.Sig.C, I v_148.Head.Sig.S, I v_148.Index, U v_148.Entry.Doc, I v_148.Entry.Stamp.Lo, I v_148.Entry.Stamp.Hi, .slice v_148.Path_A v_148.Path.length v_148.Path_c]) (hk [2, 3, 4, 5, 6, 7] (ht [2, 3, 4, 5, 6, 7] [14] [] f0 [(20, I v_149)] (he (tN (fun _ _ S k e => ⟨v_149, S, k.wk, e.sel [6, 7], oi hG⟩)))))), trivial⟩)), trivial⟩))
              ·refine h1 (nw 19 vp (Kh.cells Kh.z) 34 fun g_150 => hk [1, 2, 3, 4, 5, 6] (ho [8] ⟨h1 (cn 133 (zw F v_142 v_145 0 _ hy_148) hT (fun _ => (mc Kh.mv m0)) ⟨(gi 3), trivial⟩ ?_), trivial⟩)); rintro v_148 hq_148; obtain rfl : v_148.p = v_148o := hq_148.symm
               try simp only [lm_, Ka.n_Hops] at hG
               exact hk [2, 3, 4, 5, 6, 7] (ht [2, 3, 4, 5, 6, 7] [9, 10, 11] [] f0 [(134, .agg #[I v_148.Head.Office, I v_148.Head.Size, U v_148.Head.Root, I v_148.Head.Sig.C, I v_148.Head.Sig.S, I v_148.Index, U v_148.Entry.Doc, I v_148.Entry.Stamp.Lo, I v_148.Entry.Stamp.Hi, .slice v_148.Path_A v_148.Path.length v_148.Path_c]), (135, I v_149)] (ho [13] ⟨h1 (sr 1 g_150 (ns 0 [I v_148.Head.Office, I v_148.Head.Size, U v_148.Head.Root, I v_148.Head.Sig.C, I v_148.Head.Sig.S, I v_148.Index, U v_148.Entry.Doc, I v_148.Entry.Stamp.Lo, I v_148.Entry.Stamp.Hi, .slice v_148.Path_A v_148.Path.length v_148.Path_c]) (hk [2, 3, 4, 5, 6, 7] (ht [2, 3, 4, 5, 6, 7] [14] [] f0 [(20, I v_149)] (he (tN (fun _ _ S k e => ⟨v_149, S, k.wk, e.sel [6, 7], oi hG⟩)))))), trivial⟩))
             ·rintro a w ⟨v_152, hJ⟩; refine hJ.go ?_; clear hJ; rintro rfl; replace hG := hG_151; refine sq (rg (ra [] f0 [(137, B (!(v_152 == 0)))] (tN ?_))); rcases ic hG with ⟨h_153, hG⟩ | ⟨h_153, hG⟩
              ·exact sb 137 (nt h_153) (cf (kS (hN (tN (rg (ra [] f0 [(17, I (IntKind.i64.wrap (v_134 + 1)))] (tN (fun a w S hK hE => ⟨m_135, ⟨IntKind.i64.wrap (v_134 + 1), S, hK.wk, hE.sel [0, 1], hO1_135 _ (oi hG).symm⟩, Nat.lt_succ_self _⟩))))))))
              ·refine sb 137 (nf h_153) (ct (sq (rg (ra [] f0 [(12, I 33)] (tN (kR (hR (tR (tR ?_))))))))); have he_ := hO2_135 _ (oi hG).symm; subst he_; replace hG := hG_135; refine hR (tR ?_); obtain rfl := oi hG; replace hG := hG_154; obtain rfl := oi hG; exact rt []
           ·try simp only [lm_, Ka.n_Hops] at h_136
            refine sb 112 (bf h_136) (cf (kX (tX (tX ?_)))); have he_ := hO2_135 _ (oi hG).symm; subst he_; replace hG := hG_135; exact hH (tN (fun _ _ S k e => ⟨S, k.wk, e.sel [], oi hG⟩))
         ·rintro a w hJ; refine hJ.go ?_; clear hJ; rintro rfl; replace hG := el hG_154; refine sq (rg (ra [] f0 [(12, I 0)] (tN (kR ?_)))); obtain rfl := oi hG; exact rt []
def Gau (F : Nat) (p_0 : Int) : Option (Bool) :=
  Option.bind (Gf F p_0 (⟨1, 1, 0, (⟨0, 0⟩ : KSig)⟩ : Kc)) (un2 fun v_1 v_2 =>
  Option.bind (ifB ((p_0 == 0))
      (some false)
      (some (!(v_2 == 0))) : Option (Bool)) (fun (v_5 : Bool) => 
    some v_5))
theorem zbb (F : Nat) (p_0 : Int) (r : Bool) (hG : Gau F p_0 = some r) :
  Cf Tryz.prog 129 [I p_0] [] (B r) := by
 unfold Gau at hG; refine fi Tryz.func129 rfl rfl m0 fun S0 w0 hT => sq (rg (ra [] f0 [] (tN (sq ?_))))
 obtain ⟨v_1, v_2, hy_1, hG⟩ := b2 hG; refine rg (rn 2 [] f0 [(6, I p_0), (7, .agg #[I 1, I 1, U 0, I 0, I 0])] (l1 (cl 8 (zp F p_0 (⟨1, 1, 0, (⟨0, 0⟩ : KSig)⟩ : Kc) _ hy_1) hT trivial (ra [] f0 [(4, I v_2)] (tN ?_))))); obtain ⟨o_4, hG, hG_4⟩ := bs hG; refine jn (fun K E a w => ∃ v_5 : Bool, Js S0 w0 17 ([(2, B v_5)] ++ K) (se E []) (v_5 = o_4) a w) ?_ ?_
 ·rcases ic hG with ⟨h_3, hG⟩ | ⟨h_3, hG⟩
  ·exact rg (rn 3 [] f0 [(13, B (!(p_0 == 0)))] (sb 13 (nt h_3) (ra [] f0 [(2, B false)] (tN (fun _ _ S k e => ⟨false, S, k.wk, e.sel [], oi hG⟩)))))
  ·exact rg (rn 3 [] f0 [(13, B (!(p_0 == 0)))] (sb 13 (nf h_3) (ra [] f0 [(2, B (!(v_2 == 0)))] (tN (fun _ _ S k e => ⟨!(v_2 == 0), S, k.wk, e.sel [], oi hG⟩)))))
 ·rintro a w ⟨v_5, hJ⟩; refine hJ.go ?_; clear hJ; rintro rfl; replace hG := hG_4; refine kR ?_; obtain rfl := oi hG; exact rt []
def Gy (F : Nat) (p_0 : List Int) (p_1 : Kc) : Option (Bool) :=
  Option.bind (ifB (decide (p_1.Office < 1))
      (some true)
      (ifB (decide (p_1.Office > (p_0.length : Int)))
        (some true)
        (Option.bind (ixI p_0 (IntKind.i64.wrap (p_1.Office - 1))) (fun v_4 =>
        some (v_4 == 0)))) : Option (Bool)) (fun (v_8 : Bool) => 
    ifB (v_8)
      (some false)
      (Option.bind (ixI p_0 (IntKind.i64.wrap (p_1.Office - 1))) (fun v_10 =>
      Option.bind (Gf F v_10 p_1) (un2 fun v_13 v_14 =>
      some v_13))))
theorem zn (F : Nat) (p_0_A : Option Addr) (p_0_c : Nat) (p_0 : List Int) (p_1 : Kc) (r : Bool) (hG : Gy F p_0 p_1 = some r) :
  Cf Tryz.prog 83 [.slice p_0_A p_0.length p_0_c, .agg #[I p_1.Office, I p_1.Size, U p_1.Root, I p_1.Sig.C, I p_1.Sig.S]] [RowC p_0_A p_0_c c_i64 tr p_0] (B r) := by
 unfold Gy at hG
 try simp only [lm_, Ka.n_Hops] at hG
 refine fi Tryz.func83 rfl rfl (mr tr_mv m0) fun S0 w0 hT => sq (rg (l1 (nw 3 vp [I p_1.Office, I p_1.Size, U p_1.Root, I p_1.Sig.C, I p_1.Sig.S] 27 fun g_1 => ra [] f0 [] (tN (sq ?_)))))
 obtain ⟨o_7, hG, hG_7⟩ := bs hG; refine jn (fun K E a w => ∃ v_8 : Bool, Js S0 w0 38 ([(25, B v_8)] ++ K) (se E [0, 1]) (v_8 = o_7) a w) ?_ ?_
 ·rcases ic hG with ⟨h_2, hG⟩ | ⟨h_2, hG⟩
  ·exact rg (rn 4 [(1, 1, 0, 0)] f0 [(10, B (decide (p_1.Office < 1)))] (sb 10 (bt h_2) (ra [] f0 [(25, B true)] (tN (fun _ _ S k e => ⟨true, S, k.wk, e.sel [0, 1], oi hG⟩)))))
  ·rcases ic hG with ⟨h_3, hG⟩ | ⟨h_3, hG⟩
   ·refine rg (rn 4 [(1, 1, 0, 0)] f0 [(10, B (decide (p_1.Office < 1)))] (sb 10 (bf h_2) (rn 7 [(1, 1, 0, 0)] f0 [(17, B (decide (p_1.Office > (p_0.length : Int))))] ?_)))
    try simp only [lm_, Ka.n_Hops] at h_3
    exact sb 17 (bt h_3) (ra [] f0 [(25, B true)] (tN (fun _ _ S k e => ⟨true, S, k.wk, e.sel [0, 1], oi hG⟩)))
   ·obtain ⟨v_4, hy_4, hG⟩ := bs hG; refine rg (rn 4 [(1, 1, 0, 0)] f0 [(10, B (decide (p_1.Office < 1)))] (sb 10 (bf h_2) (rn 7 [(1, 1, 0, 0)] f0 [(17, B (decide (p_1.Office > (p_0.length : Int))))] ?_)))
    try simp only [lm_, Ka.n_Hops] at h_3
    exact sb 17 (bf h_3) (fx inf139 (gd' (RowC p_0_A p_0_c c_i64 tr p_0) 1) hy_4 fun b_5 o_6 hi_4 => ra [(2, 1, 1, 0), (1, 0, 0, 0), (0, 1, 0, 0)] (fc (hi_4 .i64) f0) [(25, B (v_4 == 0))] (tN (fun _ _ S k e => ⟨(v_4 == 0), S, k.wk, e.sel [1, 2], oi hG⟩)))
 ·rintro a w ⟨v_8, hJ⟩; refine hJ.go ?_; clear hJ; rintro rfl; replace hG := hG_7; rcases ic hG with ⟨h_9, hG⟩ | ⟨h_9, hG⟩
  ·refine sb 25 (bt h_9) (ct (sq (rg (ra [] f0 [(4, B false)] (tN (kR (tR ?_))))))); obtain rfl := oi hG; exact rt []
  ·refine sb 25 (bf h_9) (cf (kS (tN (sq ?_)))); obtain ⟨v_10, hy_10, hG⟩ := bs hG; obtain ⟨v_13, v_14, hy_13, hG⟩ := b2 hG; refine qb (fx inf139 (gd' (RowC p_0_A p_0_c c_i64 tr p_0) 1) hy_10 fun b_11 o_12 hi_10 => qn 7 [(2, 1, 1, 0), (1, 0, 0, 0), (0, 1, 0, 0), (0, 5, 1, 0)] (fc (hi_10 .i64) f0) [(32, I v_10), (33, .agg #[I p_1.Office, I p_1.Size, U p_1.Root, I p_1.Sig.C, I p_1.Sig.S])] (qc 34 (zp F v_10 p_1 _ hy_13) hT trivial (qa [] f0 [(5, B v_13)] (tN (sq (rg (ra [] f0 [(4, B v_13)] (tN (kR ?_))))))))); obtain rfl := oi hG; exact rt []
def Gh (F : Nat) (p_0 : Kc) : Option (Bool) :=
 Option.bind (Gf F 4 p_0) (un2 fun v_2 v_3 =>
 some (v_3 == 0))
theorem zb (F : Nat) (p_0 : Kc) (r : Bool) (hG : Gh F p_0 = some r) :
  Cf Tryz.prog 80 [.agg #[I p_0.Office, I p_0.Size, U p_0.Root, I p_0.Sig.C, I p_0.Sig.S]] [] (B r) := by
 unfold Gh at hG; refine fi Tryz.func80 rfl rfl m0 fun S0 w0 hT => sq (rg (l1 (nw 1 vp [I p_0.Office, I p_0.Size, U p_0.Root, I p_0.Sig.C, I p_0.Sig.S] 27 fun g_1 => ra [] f0 [] (tN (sq ?_)))))
 obtain ⟨v_2, v_3, hy_2, hG⟩ := b2 hG; refine rg (rn 1 [(0, 5, 0, 0)] f0 [(6, .agg #[I p_0.Office, I p_0.Size, U p_0.Root, I p_0.Sig.C, I p_0.Sig.S])] (l1 (cl 7 (zp F 4 p_0 _ hy_2) hT trivial (ra [] f0 [(4, I v_3)] (tN (sq (rg (ra [] f0 [(2, B (v_3 == 0))] (tN (kR ?_)))))))))); obtain rfl := oi hG; exact rt []
def Gi (F : Nat) (p_0 : Int) (p_1 : Kk) : Option (Bool × Int) :=
  Option.bind (Option.bind (Gae F p_0) (fun v_2 =>
    ifB (v_2)
      (Option.bind (Gz F p_1.Head) (fun v_4 =>
      ifB (v_4)
        (Option.bind (Gaf F (⟨p_1.Entry⟩ : Kp)) (fun v_6 =>
        ifB (v_6)
          (Option.bind (Gc F p_1.Index 0 (IntKind.i64.wrap (p_1.Head.Size - 1))) (fun v_8 =>
          ifB (v_8)
            (some (decide ((p_1.Path.length : Int) > 20)))
            (some true)))
          (some true)))
        (some true)))
      (some true)) : Option (Bool)) (fun (v_11 : Bool) => 
    ifB (v_11)
      (some (false, 1))
      (Option.bind (Gf F p_0 p_1.Head) (un2 fun v_13 v_14 =>
      Option.bind (ifB (v_13)
          (Option.bind (Gj F p_1.Entry) (fun v_16 =>
          Option.bind (Gb5 F p_1.Head.Root v_16 p_1.Index p_1.Head.Size p_1.Path) (fun v_17 =>
          some v_17)))
          (some false) : Option (Bool)) (fun (v_19 : Bool) => 
        some (v_19, v_14)))))
theorem zaf (F : Nat) (p_0 : Int) (p_1 : Kh) (r : Bool × Int) (hG : Gi F p_0 p_1.p = some r) :
  Cf Tryz.prog 76 [I p_0, .agg #[I p_1.Head.Office, I p_1.Head.Size, U p_1.Head.Root, I p_1.Head.Sig.C, I p_1.Head.Sig.S, I p_1.Index, U p_1.Entry.Doc, I p_1.Entry.Stamp.Lo, I p_1.Entry.Stamp.Hi, .slice p_1.Path_A p_1.Path.length p_1.Path_c]] [Kh.ok p_1] (.tuple #[B r.1, I r.2]) := by
 unfold Gi at hG
 try simp only [lm_, Ka.n_Hops] at hG
 refine fi Tryz.func76 rfl rfl (mc Kh.mv m0) fun S0 w0 hT => sq (rg (l1 (nw 3 vp [I p_1.Head.Office, I p_1.Head.Size, U p_1.Head.Root, I p_1.Head.Sig.C, I p_1.Head.Sig.S, I p_1.Index, U p_1.Entry.Doc, I p_1.Entry.Stamp.Lo, I p_1.Entry.Stamp.Hi, .slice p_1.Path_A p_1.Path.length p_1.Path_c] 34 fun g_1 => ra [] f0 [] (tN (sq ?_)))))
 obtain ⟨o_10, hG, hG_10⟩ := bs hG; refine jn (fun K E a w => ∃ v_11 : Bool, Js S0 w0 65 ([(39, B v_11)] ++ K) ([.dat (RowC p_1.Path_A p_1.Path_c c_u64 tr p_1.Path)] ++ se E [0]) (v_11 = o_10) a w) ?_ ?_
 ·obtain ⟨v_2, hy_2, hG⟩ := bs hG; rcases ic hG with ⟨h_3, hG⟩ | ⟨h_3, hG⟩
  ·obtain ⟨v_4, hy_4, hG⟩ := bs hG; rcases ic hG with ⟨h_5, hG⟩ | ⟨h_5, hG⟩
   ·obtain ⟨v_6, hy_6, hG⟩ := bs hG; rcases ic hG with ⟨h_7, hG⟩ | ⟨h_7, hG⟩
    ·obtain ⟨v_8, hy_8, hG⟩ := bs hG; rcases ic hG with ⟨h_9, hG⟩ | ⟨h_9, hG⟩
     ·exact rg (rn 1 [] f0 [(8, I p_0)] (l1 (cl 9 (zl F p_0 _ hy_2) hT trivial (rn 2 [] f0 [(11, B (!v_2))] (sb 11 (nt h_3) (rn 2 [(1, 5, 0, 0)] f0 [(13, .agg #[I p_1.Head.Office, I p_1.Head.Size, U p_1.Head.Root, I p_1.Head.Sig.C, I p_1.Head.Sig.S])] (l1 (cl 14 (zi F p_1.Head _ hy_4) hT trivial (rn 3 [] f0 [(17, B (!v_4))] (sb 17 (nt h_5) (rn 3 [(1, 3, 0, 6)] f0 [(20, .agg #[U p_1.Entry.Doc, I p_1.Entry.Stamp.Lo, I p_1.Entry.Stamp.Hi])] (l1 (cl 21 (zq F (⟨p_1.Entry⟩ : Kp) _ hy_6) hT trivial (rn 3 [] f0 [(24, B (!v_6))] (sb 24 (nt h_7) (rn 6 [(1, 1, 0, 5), (2, 1, 0, 1)] f0 [(26, I p_1.Index), (30, I (IntKind.i64.wrap (p_1.Head.Size - 1)))] (l1 (cl 31 (zc F p_1.Index 0 (IntKind.i64.wrap (p_1.Head.Size - 1)) _ hy_8) hT trivial (rn 3 [] f0 [(34, B (!v_8))] (sb 34 (nt h_9) (ra [(1, 1, 0, 9)] f0 [(39, B (decide ((p_1.Path.length : Int) > 20)))] (tN (fg (Kh.ok p_1) 1 (fun _ _ h => h.f_Path) (fun _ _ S k e => ⟨decide ((p_1.Path.length : Int) > 20), S, k.wk, e.sel [0, 1], oi hG⟩))))))))))))))))))))))))
     ·exact rg (rn 1 [] f0 [(8, I p_0)] (l1 (cl 9 (zl F p_0 _ hy_2) hT trivial (rn 2 [] f0 [(11, B (!v_2))] (sb 11 (nt h_3) (rn 2 [(1, 5, 0, 0)] f0 [(13, .agg #[I p_1.Head.Office, I p_1.Head.Size, U p_1.Head.Root, I p_1.Head.Sig.C, I p_1.Head.Sig.S])] (l1 (cl 14 (zi F p_1.Head _ hy_4) hT trivial (rn 3 [] f0 [(17, B (!v_4))] (sb 17 (nt h_5) (rn 3 [(1, 3, 0, 6)] f0 [(20, .agg #[U p_1.Entry.Doc, I p_1.Entry.Stamp.Lo, I p_1.Entry.Stamp.Hi])] (l1 (cl 21 (zq F (⟨p_1.Entry⟩ : Kp) _ hy_6) hT trivial (rn 3 [] f0 [(24, B (!v_6))] (sb 24 (nt h_7) (rn 6 [(1, 1, 0, 5), (2, 1, 0, 1)] f0 [(26, I p_1.Index), (30, I (IntKind.i64.wrap (p_1.Head.Size - 1)))] (l1 (cl 31 (zc F p_1.Index 0 (IntKind.i64.wrap (p_1.Head.Size - 1)) _ hy_8) hT trivial (rn 3 [] f0 [(34, B (!v_8))] (sb 34 (nf h_9) (ra [] f0 [(39, B true)] (tN (fg (Kh.ok p_1) 1 (fun _ _ h => h.f_Path) (fun _ _ S k e => ⟨true, S, k.wk, e.sel [0, 1], oi hG⟩))))))))))))))))))))))))
    ·exact rg (rn 1 [] f0 [(8, I p_0)] (l1 (cl 9 (zl F p_0 _ hy_2) hT trivial (rn 2 [] f0 [(11, B (!v_2))] (sb 11 (nt h_3) (rn 2 [(1, 5, 0, 0)] f0 [(13, .agg #[I p_1.Head.Office, I p_1.Head.Size, U p_1.Head.Root, I p_1.Head.Sig.C, I p_1.Head.Sig.S])] (l1 (cl 14 (zi F p_1.Head _ hy_4) hT trivial (rn 3 [] f0 [(17, B (!v_4))] (sb 17 (nt h_5) (rn 3 [(1, 3, 0, 6)] f0 [(20, .agg #[U p_1.Entry.Doc, I p_1.Entry.Stamp.Lo, I p_1.Entry.Stamp.Hi])] (l1 (cl 21 (zq F (⟨p_1.Entry⟩ : Kp) _ hy_6) hT trivial (rn 3 [] f0 [(24, B (!v_6))] (sb 24 (nf h_7) (ra [] f0 [(39, B true)] (tN (fg (Kh.ok p_1) 1 (fun _ _ h => h.f_Path) (fun _ _ S k e => ⟨true, S, k.wk, e.sel [0, 1], oi hG⟩)))))))))))))))))))
   ·exact rg (rn 1 [] f0 [(8, I p_0)] (l1 (cl 9 (zl F p_0 _ hy_2) hT trivial (rn 2 [] f0 [(11, B (!v_2))] (sb 11 (nt h_3) (rn 2 [(1, 5, 0, 0)] f0 [(13, .agg #[I p_1.Head.Office, I p_1.Head.Size, U p_1.Head.Root, I p_1.Head.Sig.C, I p_1.Head.Sig.S])] (l1 (cl 14 (zi F p_1.Head _ hy_4) hT trivial (rn 3 [] f0 [(17, B (!v_4))] (sb 17 (nf h_5) (ra [] f0 [(39, B true)] (tN (fg (Kh.ok p_1) 1 (fun _ _ h => h.f_Path) (fun _ _ S k e => ⟨true, S, k.wk, e.sel [0, 1], oi hG⟩))))))))))))))
  ·exact rg (rn 1 [] f0 [(8, I p_0)] (l1 (cl 9 (zl F p_0 _ hy_2) hT trivial (rn 2 [] f0 [(11, B (!v_2))] (sb 11 (nf h_3) (ra [] f0 [(39, B true)] (tN (fg (Kh.ok p_1) 1 (fun _ _ h => h.f_Path) (fun _ _ S k e => ⟨true, S, k.wk, e.sel [0, 1], oi hG⟩)))))))))
 ·rintro a w ⟨v_11, hJ⟩; refine hJ.go ?_; clear hJ; rintro rfl; replace hG := hG_10; rcases ic hG with ⟨h_12, hG⟩ | ⟨h_12, hG⟩
  ·refine sb 39 (bt h_12) (ct (sq (rg (ra [] f0 [(4, B false), (5, I 1)] (tN (kR (tR ?_))))))); obtain rfl := oi hG; exact rt []
  ·refine sb 39 (bf h_12) (cf (kS (tN (sq ?_)))); obtain ⟨v_13, v_14, hy_13, hG⟩ := b2 hG; refine rg (rn 3 [(2, 5, 1, 0)] f0 [(41, I p_0), (43, .agg #[I p_1.Head.Office, I p_1.Head.Size, U p_1.Head.Root, I p_1.Head.Sig.C, I p_1.Head.Sig.S])] (l1 (cl 44 (zp F p_0 p_1.Head _ hy_13) hT trivial (ra [] f0 [(6, B v_13), (7, I v_14)] (tN ?_))))); obtain ⟨o_18, hG, hG_18⟩ := bs hG; refine jn (fun K E a w => ∃ v_19 : Bool, Js S0 w0 65 ([(4, B v_19), (5, I v_14)] ++ K) (se E []) (v_19 = o_18) a w) ?_ ?_
   ·rcases ic hG with ⟨h_15, hG⟩ | ⟨h_15, hG⟩
    ·obtain ⟨v_16, hy_16, hG⟩ := bs hG; obtain ⟨v_17, hy_17, hG⟩ := bs hG; exact qb (qn 2 [] f0 [(48, B v_13)] (sb 48 (bt h_15) (qn 5 [(2, 1, 1, 2), (1, 3, 1, 6)] f0 [(51, U p_1.Head.Root), (53, .agg #[U p_1.Entry.Doc, I p_1.Entry.Stamp.Lo, I p_1.Entry.Stamp.Hi])] (qc 54 (z8 F p_1.Entry _ hy_16) hT trivial (qn 7 [(1, 1, 1, 5), (2, 1, 1, 1), (1, 1, 1, 9)] f0 [(56, I p_1.Index), (59, I p_1.Head.Size), (61, .slice p_1.Path_A p_1.Path.length p_1.Path_c)] (qc 62 (zcd F p_1.Head.Root v_16 p_1.Index p_1.Head.Size p_1.Path_A p_1.Path_c p_1.Path _ hy_17) hT ⟨ga 0, trivial⟩ (qa [] f0 [(4, B v_17), (5, I v_14)] (tN (fun _ _ S k e => ⟨v_17, S, k.wk, e.sel [], oi hG⟩)))))))))
    ·exact qb (qn 2 [] f0 [(48, B v_13)] (sb 48 (bf h_15) (qa [] f0 [(4, B false), (5, I v_14)] (tN (fun _ _ S k e => ⟨false, S, k.wk, e.sel [], oi hG⟩)))))
   ·rintro a w ⟨v_19, hJ⟩; refine hJ.go ?_; clear hJ; rintro rfl; replace hG := hG_18; refine kR ?_; obtain rfl := oi hG; exact rt []
def Ga5 (F : Nat) (p_0 : Int) : Option (Bool) :=
 Option.bind (Gf F p_0 (⟨1, 1, 0, (⟨0, 0⟩ : KSig)⟩ : Kc)) (un2 fun v_1 v_2 =>
 some (v_2 == 0))
theorem zbl (F : Nat) (p_0 : Int) (r : Bool) (hG : Ga5 F p_0 = some r) :
  Cf Tryz.prog 35 [I p_0] [] (B r) := by
 unfold Ga5 at hG; refine fi Tryz.func35 rfl rfl m0 fun S0 w0 hT => sq (rg (ra [] f0 [] (tN (sq ?_))))
 obtain ⟨v_1, v_2, hy_1, hG⟩ := b2 hG; refine rg (rn 2 [] f0 [(6, I p_0), (7, .agg #[I 1, I 1, U 0, I 0, I 0])] (l1 (cl 8 (zp F p_0 (⟨1, 1, 0, (⟨0, 0⟩ : KSig)⟩ : Kc) _ hy_1) hT trivial (ra [] f0 [(4, I v_2)] (tN (sq (rg (ra [] f0 [(2, B (v_2 == 0))] (tN (kR ?_)))))))))); obtain rfl := oi hG; exact rt []
def Ga4 (F : Nat) (p_0 : Kq) : Option (Bool) :=
  Option.bind (Option.bind (Option.bind (Option.bind (iter (σ := Int) (ρ := Unit ⊕ Int) (fun (v_45 : Int) => 
            (ifB (decide (v_45 < (p_0.heads.length : Int)))
              (Option.bind (ixI p_0.heads v_45) (fun v_48 =>
              Option.bind (Option.bind (Option.bind (some (mpG p_0.offices v_48.Office Kg.z)) (fun v_52 =>
                  Option.bind (Gk F v_52 v_48 0) (un2 fun v_53 v_54 =>
                  some v_54)) : Option (Int)) (fun (v_57 : Int) => 
                  some (!(v_57 == 0))) : Option (Bool)) (fun (v_58 : Bool) => 
                ifB (v_58)
                  (some (.inr (.inr v_45)))
                  (some (.inl (IntKind.i64.wrap (v_45 + 1)))))))
              (some (.inr (.inl ()))) : Option (Int ⊕ (Unit ⊕ Int)))) F 0) (Sum.elim (fun (_ : Unit) => 
          some (.inl ())) (fun (v_68 : Int) => 
          some (.inr v_68))) : Option (Unit ⊕ Int)) (Sum.elim (fun (_ : Unit) => 
        some (-1)) (fun (v_70 : Int) => 
        some v_70)) : Option (Int)) (fun (v_71 : Int) => 
      some (decide (v_71 ≥ 0))) : Option (Bool)) (fun (v_142 : Bool) => 
    some (!v_142))
theorem zbk (F : Nat) (p_0_A : Nat) (p_0 : Kl) (r : Bool) (hG : Ga4 F p_0.p = some r) :
  Cf Tryz.prog 45 [Pt p_0_A 0] [fun S W => RecS S W p_0_A 0 p_0.cells, Kl.ok p_0] (B r) := by
 unfold Ga4 at hG
 try simp only [lm_, Ka.n_Hops] at hG
 refine fi Tryz.func45 rfl rfl (mrec (mc Kl.mv m0)) fun S0 w0 hT => rp p_0_A p_0.cells (gd' (fun S W => RecS S W p_0_A 0 p_0.cells) 0) (sq (rg (l1 (nw 1 vp [Pt p_0_A 0] 91 fun g_1 => ra [] f0 [] (tN (sq ?_))))))
 obtain ⟨v_142o, hy_143, hG⟩ := bs hG; refine rg (rn 5 [(0, 1, 0, 0), (2, 1, 1, 1)] f0 [(6, .slice p_0.heads_A p_0.heads.length p_0.heads_c), (7, .func (.func 101) #[] #[Pt g_1 0])] (l1 (ci 8 (args := [.slice p_0.heads_A p_0.heads.length p_0.heads_c, .func (.func 101) #[] #[Pt g_1 0]]) (fun E e w => ∃ v_142 : Bool, Rs S0 w0 (B v_142) (se E [0, 1, 3]) (v_142 = v_142o) e w) Tryz.func100 rfl rfl ?_ ?_)))
 ·replace hG := hy_143
  try simp only [lm_, Ka.n_Hops] at hG
  refine sq (rg (ra [] f0 [] (tN (sq ?_)))); replace hG := bs hG; obtain ⟨v_213o, hy_214, hG⟩ := hG; refine rg (rn 2 [] f0 [(5, .slice p_0.heads_A p_0.heads.length p_0.heads_c), (6, .func (.func 101) #[] #[Pt g_1 0])] (l1 (ci 7 (args := [.slice p_0.heads_A p_0.heads.length p_0.heads_c, .func (.func 101) #[] #[Pt g_1 0]]) (fun E e w => ∃ v_213 : Int, Rs S0 w0 (I v_213) (se E [0, 1, 3]) (v_213 = v_213o) e w) Tryz.func141 rfl rfl ?_ ?_)))
  ·replace hG := hy_214
   try simp only [lm_, Ka.n_Hops] at hG
   refine sq (rg (ra [] f0 [] (tN ?_))); replace hG := bs hG; obtain ⟨o_282, hG, hG_282⟩ := hG; refine jn (fun K E a w => Js S0 w0 19 (K) (se E [0, 1, 3]) (.inl () = o_282) a w) ?_ ?_
   ·refine sq (rg (ra [] f0 [(7, I (p_0.heads.length : Int)), (8, I 0)] (tN (bk ?_)))); obtain ⟨e_259, hL, hG_259⟩ := bs hG; clear hG; obtain ⟨stp_259, hs_259, hL⟩ := iter_gen hL; refine lp (fun K E n_ a w => ∃ v_258 : Int, Js S0 w0 19 ([(8, I v_258)] ++ K) (se E [0, 1, 3]) (iter stp_259 n_ v_258 = some e_259) a w) F ?_ ?_
    ·exact fun _ _ S k e => ⟨0, S, k.wk, e.sel [0, 1, 3], hL⟩
    ·clear hL; rintro n_259 a w ⟨v_258, hJ⟩; refine hJ.go fun hL => ?_
     clear hJ; obtain ⟨m_259, o_259, rfl, hG, hO1_259, hO2_259⟩ := iter_step hL; clear hL; rw [hs_259] at hG; refine sq (rg (ra [] f0 [(9, B (decide (v_258 < (p_0.heads.length : Int))))] (tN (sq ?_)))); replace hG := ic hG; rcases hG with ⟨h_260, hG⟩ | ⟨h_260, hG⟩
     ·try simp only [lm_, Ka.n_Hops] at h_260
      refine sb 9 (bt h_260) (ct (kS (tN (sq (bk (sq (rg (ra [] f0 [(5, I v_258)] (tN (sq ?_)))))))))); replace hG := bs hG; obtain ⟨v_261, hy_261, hG⟩ := hG; replace hG := bs hG; obtain ⟨v_271o, hy_272, hG⟩ := hG; refine rg (fx inf39 (gm (Kl.ok p_0) 2 fun _ _ h => h.f_heads) hy_261 fun b_262 o_263 hi_261 => rn 5 [(3, 0, 0, 0), (0, 5, 0, 0)] (fc (hi_261 .i64) f0) [(11, .func (.func 101) #[] #[Pt g_1 0]), (15, .agg #[I v_261.Office, I v_261.Size, U v_261.Root, I v_261.Sig.C, I v_261.Sig.S])] (l1 (ci 16 (args := [.agg #[I v_261.Office, I v_261.Size, U v_261.Root, I v_261.Sig.C, I v_261.Sig.S], Pt g_1 0]) (fun E e w => ∃ v_271 : Bool, Rs S0 w0 (B v_271) (se E [0, 1, 2, 3]) (v_271 = v_271o) e w) Tryz.func101 rfl rfl ?_ ?_)))
      ·replace hG := hy_272
       try simp only [lm_, Ka.n_Hops] at hG
       refine sq (rg (l1 (nw 2 vp [I v_261.Office, I v_261.Size, U v_261.Root, I v_261.Sig.C, I v_261.Sig.S] 27 fun g_273 => ra [] f0 [] (tN ?_)))); replace hG := bs hG; obtain ⟨o_278, hG, hG_278⟩ := hG; refine jn (fun K E a w => ∃ v_279 : Int, Js S0 w0 20 ([(5, I v_279)] ++ K) (se E [1, 2, 3, 4]) (v_279 = o_278) a w) ?_ ?_
       ·replace hG := bs hG; obtain ⟨v_274o, hy_274, hG⟩ := hG; replace hG := b2 hG; obtain ⟨v_275o, v_276, hy_275, hG⟩ := hG; refine hb [0, 1, 2, 3, 4] (ht [0, 1, 2, 3, 4] [0, 1, 2, 3, 4, 5, 7] [(0, 1, 2, 0), (2, 1, 3, 0), (1, 1, 0, 0), (0, 5, 0, 0)] f0 [(10, .map (some p_0.offices_b)), (12, I v_261.Office), (14, .agg #[I v_261.Office, I v_261.Size, U v_261.Root, I v_261.Sig.C, I v_261.Sig.S])] (ho [6, 12] ⟨?_, ?_, trivial⟩))
        ·refine h1 (ml 13 p_0.offices_b p_0.offices v_261.Office Kd.z Kd.p _ hy_274 (gm (Kl.ok p_0) 4 fun _ _ h => h.f_offices) Kd.z_ok Tryz.underlying99 Tryz.underlying3 (fun w => by kernel_rfl) fun v_274 he_274 => ?_); subst he_274
         try simp only [lm_, Ka.n_Hops] at hG
         refine hk [1, 2, 3, 4, 5] (ho [8, 12] ⟨?_, ?_, trivial⟩)
         ·refine h1 (cn 15 (zk F v_274 v_261 0 _ hy_275) hT (fun _ => (mc Kh.mv m0)) ⟨(gi 0), trivial⟩ ?_); rintro v_275 hq_275; obtain rfl : v_275.p = v_275o := hq_275.symm
          try simp only [lm_, Ka.n_Hops] at hG
          exact hk [2, 3, 4, 5, 6] (ht [2, 3, 4, 5, 6] [9, 10, 11] [] f0 [(16, .agg #[I v_275.Head.Office, I v_275.Head.Size, U v_275.Head.Root, I v_275.Head.Sig.C, I v_275.Head.Sig.S, I v_275.Index, U v_275.Entry.Doc, I v_275.Entry.Stamp.Lo, I v_275.Entry.Stamp.Hi, .slice v_275.Path_A v_275.Path.length v_275.Path_c]), (17, I v_276)] (ho [12] ⟨h1 (nw 4 vp (Kh.cells Kh.z) 34 fun g_277 => hk [3, 4, 5, 6, 7] (ho [13] ⟨h1 (sr 0 g_277 (ns 0 [I v_275.Head.Office, I v_275.Head.Size, U v_275.Head.Root, I v_275.Head.Sig.C, I v_275.Head.Sig.S, I v_275.Index, U v_275.Entry.Doc, I v_275.Entry.Stamp.Lo, I v_275.Entry.Stamp.Hi, .slice v_275.Path_A v_275.Path.length v_275.Path_c]) (hk [3, 4, 5, 6, 7] (ht [3, 4, 5, 6, 7] [14] [] f0 [(5, I v_276)] (he (tN (fun _ _ S k e => ⟨v_276, S, k.wk, e.sel [4, 5, 6, 7], oi hG⟩)))))), trivial⟩)), trivial⟩))
         ·refine h1 (nw 4 vp (Kh.cells Kh.z) 34 fun g_277 => hk [2, 3, 4, 5, 6] (ho [8] ⟨h1 (cn 15 (zk F v_274 v_261 0 _ hy_275) hT (fun _ => (mc Kh.mv m0)) ⟨(gi 1), trivial⟩ ?_), trivial⟩)); rintro v_275 hq_275; obtain rfl : v_275.p = v_275o := hq_275.symm
          try simp only [lm_, Ka.n_Hops] at hG
          exact hk [3, 4, 5, 6, 7] (ht [3, 4, 5, 6, 7] [9, 10, 11] [] f0 [(16, .agg #[I v_275.Head.Office, I v_275.Head.Size, U v_275.Head.Root, I v_275.Head.Sig.C, I v_275.Head.Sig.S, I v_275.Index, U v_275.Entry.Doc, I v_275.Entry.Stamp.Lo, I v_275.Entry.Stamp.Hi, .slice v_275.Path_A v_275.Path.length v_275.Path_c]), (17, I v_276)] (ho [13] ⟨h1 (sr 1 g_277 (ns 0 [I v_275.Head.Office, I v_275.Head.Size, U v_275.Head.Root, I v_275.Head.Sig.C, I v_275.Head.Sig.S, I v_275.Index, U v_275.Entry.Doc, I v_275.Entry.Stamp.Lo, I v_275.Entry.Stamp.Hi, .slice v_275.Path_A v_275.Path.length v_275.Path_c]) (hk [3, 4, 5, 6, 7] (ht [3, 4, 5, 6, 7] [14] [] f0 [(5, I v_276)] (he (tN (fun _ _ S k e => ⟨v_276, S, k.wk, e.sel [4, 5, 6, 7], oi hG⟩)))))), trivial⟩))
        ·refine h1 (nw 4 vp (Kh.cells Kh.z) 34 fun g_277 => hk [1, 2, 3, 4, 5] (ho [6] ⟨h1 (ml 13 p_0.offices_b p_0.offices v_261.Office Kd.z Kd.p _ hy_274 (gm (Kl.ok p_0) 5 fun _ _ h => h.f_offices) Kd.z_ok Tryz.underlying99 Tryz.underlying3 (fun w => by kernel_rfl) fun v_274 he_274 => ?_), trivial⟩)); subst he_274
         try simp only [lm_, Ka.n_Hops] at hG
         refine hk [2, 3, 4, 5, 6] (ho [8] ⟨h1 (cn 15 (zk F v_274 v_261 0 _ hy_275) hT (fun _ => (mc Kh.mv m0)) ⟨(gi 0), trivial⟩ ?_), trivial⟩); rintro v_275 hq_275; obtain rfl : v_275.p = v_275o := hq_275.symm
         try simp only [lm_, Ka.n_Hops] at hG
         exact hk [3, 4, 5, 6, 7] (ht [3, 4, 5, 6, 7] [9, 10, 11] [] f0 [(16, .agg #[I v_275.Head.Office, I v_275.Head.Size, U v_275.Head.Root, I v_275.Head.Sig.C, I v_275.Head.Sig.S, I v_275.Index, U v_275.Entry.Doc, I v_275.Entry.Stamp.Lo, I v_275.Entry.Stamp.Hi, .slice v_275.Path_A v_275.Path.length v_275.Path_c]), (17, I v_276)] (ho [13] ⟨h1 (sr 2 g_277 (ns 0 [I v_275.Head.Office, I v_275.Head.Size, U v_275.Head.Root, I v_275.Head.Sig.C, I v_275.Head.Sig.S, I v_275.Index, U v_275.Entry.Doc, I v_275.Entry.Stamp.Lo, I v_275.Entry.Stamp.Hi, .slice v_275.Path_A v_275.Path.length v_275.Path_c]) (hk [3, 4, 5, 6, 7] (ht [3, 4, 5, 6, 7] [14] [] f0 [(5, I v_276)] (he (tN (fun _ _ S k e => ⟨v_276, S, k.wk, e.sel [4, 5, 6, 7], oi hG⟩)))))), trivial⟩))
       ·rintro a w ⟨v_279, hJ⟩; refine hJ.go ?_; clear hJ; rintro rfl; replace hG := hG_278; exact sq (rg (ra [] f0 [(3, B (!(v_279 == 0)))] (tN (kR (ri [] (B (!(v_279 == 0))) (fun a w S hK hE => ⟨!(v_279 == 0), rfl, ⟨S, hE.sel [0, 1, 2, 3]⟩, oi hG⟩))))))
      ·rintro e w ⟨v_271, hJ⟩; refine hJ.go ?_; clear hJ; rintro rfl; refine nl (tN ?_); replace hG := ic hG; rcases hG with ⟨h_280, hG⟩ | ⟨h_280, hG⟩
       ·refine sb 16 (bt h_280) (ct (sq (rg (ra [] f0 [(4, I v_258)] (tN (kR (hR (tR (tR ?_))))))))); have he_ := hO2_259 _ (oi hG).symm; subst he_; replace hG := hG_259; refine hR (tR ?_); obtain rfl := oi hG; replace hG := hG_282; exact ri [] (I v_258) (fun a w S hK hE => ⟨v_258, rfl, ⟨S, hE.sel [1, 2, 3]⟩, oi hG⟩)
       ·exact sb 16 (bf h_280) (cf (kS (hN (tN (rg (ra [] f0 [(8, I (IntKind.i64.wrap (v_258 + 1)))] (tN (fun a w S hK hE => ⟨m_259, ⟨IntKind.i64.wrap (v_258 + 1), S, hK.wk, hE.sel [1, 2, 3], hO1_259 _ (oi hG).symm⟩, Nat.lt_succ_self _⟩))))))))
     ·try simp only [lm_, Ka.n_Hops] at h_260
      refine sb 9 (bf h_260) (cf (kX (tX (tX ?_)))); have he_ := hO2_259 _ (oi hG).symm; subst he_; replace hG := hG_259; exact hH (tN (fun _ _ S k e => ⟨S, k.wk, e.sel [0, 1, 2], oi hG⟩))
   ·rintro a w hJ; refine hJ.go ?_; clear hJ; rintro rfl; replace hG := el hG_282; exact sq (rg (ra [] f0 [(4, I (-1))] (tN (kR (ri [] (I (-1)) (fun a w S hK hE => ⟨(-1), rfl, ⟨S, hE.sel [0, 1, 2]⟩, oi hG⟩))))))
  ·rintro e w ⟨v_213, hJ⟩; refine hJ.go ?_; clear hJ; rintro rfl; exact ra [] f0 [(4, B (decide (v_213 ≥ 0)))] (tN (kR (ri [] (B (decide (v_213 ≥ 0))) (fun a w S hK hE => ⟨decide (v_213 ≥ 0), rfl, ⟨S, hE.sel [0, 1, 2]⟩, oi hG⟩))))
 ·rintro e w ⟨v_142, hJ⟩; refine hJ.go ?_; clear hJ; rintro rfl; refine ra [] f0 [(2, B (!v_142))] (tN (kR ?_)); obtain rfl := oi hG; exact rt []
def Ga6 (F : Nat) (p_0 : List Kg) (p_1 : List Kc) : Option ((Option Kq) × Int) :=
  Option.bind (ifB (decide ((p_0.length : Int) > 4))
      (some (p_1, true))
      (some (p_1, decide ((p_1.length : Int) > 12))) : Option (((List Kc) × Bool))) (un2 fun (v_3 : (List Kc)) (v_6 : Bool) => 
    ifB (v_6)
      (some (none, 2))
      (Option.bind (Option.bind (iter (σ := Int × (List (Int × Kg)) × Int) (ρ := (List (Int × Kg)) ⊕ Unit) (un3 fun (v_39 : Int) (v_40 : (List (Int × Kg))) (v_41 : Int) => 
            (ifB (decide (v_39 < (p_0.length : Int)))
              (Option.bind (ixI p_0 v_39) (fun v_44 =>
              Option.bind (Option.bind (Gm F v_44) (fun v_48 =>
                ifB (v_48)
                  (some (decide (v_44.ID ≤ v_41)))
                  (some true)) : Option (Bool)) (fun (v_51 : Bool) => 
                ifB (v_51)
                  (some (.inr (.inr ())))
                  (Option.bind (some (mpS v_40 v_44.ID v_44)) (fun v_55 =>
                  some (.inl (IntKind.i64.wrap (v_39 + 1), v_55, v_44.ID)))))))
              (some (.inr (.inl v_40))) : Option ((Int × (List (Int × Kg)) × Int) ⊕ ((List (Int × Kg)) ⊕ Unit)))) F (0, ([] : List (Int × Kg)), 0)) (Sum.elim (fun (v_56 : (List (Int × Kg))) => 
          some (.inl v_56)) (fun (_ : Unit) => 
          some (.inr ()))) : Option ((List (Int × Kg)) ⊕ Unit)) (Sum.elim (fun (v_58 : (List (Int × Kg))) => 
        Option.bind (Option.bind (iter (σ := Int) (ρ := Unit ⊕ Unit) (fun (v_76 : Int) => 
              (ifB (decide (v_76 < (v_3.length : Int)))
                (Option.bind (ixI v_3 v_76) (fun v_79 =>
                Option.bind (Gf F 4 v_79) (un2 fun v_83 v_84 =>
                ifB ((v_84 == 0))
                  (some (.inl (IntKind.i64.wrap (v_76 + 1))))
                  (some (.inr (.inr ()))))))
                (some (.inr (.inl ()))) : Option (Int ⊕ (Unit ⊕ Unit)))) F 0) (Sum.elim (fun (_ : Unit) => 
            some (.inl ())) (fun (_ : Unit) => 
            some (.inr ()))) : Option (Unit ⊕ Unit)) (Sum.elim (fun (_ : Unit) => 
          some ((some (⟨v_58, v_3⟩ : Kq)), 0)) (fun (_ : Unit) => 
          some (none, 1)))) (fun (_ : Unit) => 
        some (none, 1)))))
theorem zbm (F : Nat) (p_0_A : Option Addr) (p_0_c : Nat) (p_0 : List Kd) (p_1_A : Option Addr) (p_1_c : Nat) (p_1 : List Kc) (r : (Option Kq) × Int) (hG : Ga6 F (p_0.map Kd.p) p_1 = some r) :
  Cn Tryz.prog 43 [.slice p_0_A p_0.length p_0_c, .slice p_1_A p_1.length p_1_c] [RowC p_0_A p_0_c Kd.cells Kd.ok p_0, RowC p_1_A p_1_c Kc.cells tr p_1] (fun q : Ko => r.1 = q.p) (fun q => .tuple #[q.val, I r.2]) (fun q => [Ko.ok q]) := by
 unfold Ga6 at hG
 try simp only [lm_, Ka.n_Hops] at hG
 refine fin Tryz.func43 rfl rfl (mr Kd.mv (mr tr_mv m0)) fun S0 w0 hT => sq (rg (ra [] f0 [] (tN (sq ?_))))
 obtain ⟨o_2, hG, hG_2⟩ := bs hG; refine jn (fun K E a w => ∃ (v_3 : List Kc) (v_4_A : Option Addr) (v_5_c : Nat) (v_6 : Bool), Js S0 w0 68 ([(1, .slice v_4_A v_3.length v_5_c), (21, B v_6)] ++ K) ([.dat (RowC v_4_A v_5_c Kc.cells tr v_3)] ++ se E [0]) ((v_3, v_6) = o_2) a w) ?_ ?_
 ·rcases ic hG with ⟨h_1, hG⟩ | ⟨h_1, hG⟩
  ·refine rg (rn 4 [] f0 [(17, B (decide ((p_0.length : Int) > 4)))] ?_)
   try simp only [lm_, Ka.n_Hops] at h_1
   exact sb 17 (bt h_1) (ra [] f0 [(21, B true)] (tN (fun _ _ S k e => ⟨p_1, p_1_A, p_1_c, true, S, k.wk, e.sel [1, 0], oi hG⟩)))
  ·refine rg (rn 4 [] f0 [(17, B (decide ((p_0.length : Int) > 4)))] ?_)
   try simp only [lm_, Ka.n_Hops] at h_1
   exact sb 17 (bf h_1) (ra [] f0 [(21, B (decide ((p_1.length : Int) > 12)))] (tN (fun _ _ S k e => ⟨p_1, p_1_A, p_1_c, decide ((p_1.length : Int) > 12), S, k.wk, e.sel [1, 0], oi hG⟩)))
 ·rintro a w ⟨v_3, v_4_A, v_5_c, v_6, hJ⟩; refine hJ.go ?_; clear hJ; rintro rfl; replace hG := hG_2; rcases ic hG with ⟨h_7, hG⟩ | ⟨h_7, hG⟩
  ·refine sb 21 (bt h_7) (ct (sq (rg (ra [] f0 [(4, .pointer none), (5, I 2)] (tN (kR (tR ?_))))))); obtain rfl := oi hG; exact rtn [] (⟨false, 0, Kl.z⟩ : Ko) rfl ⟨(Ko.ok0 : Fd _ (Ko.ok ⟨false, 0, Kl.z⟩)), trivial⟩
  ·refine sb 21 (bf h_7) (cf (kS (tN (sq (rg (l1 (mm 22 fun g_8 => fm (EachM Kd.ok ([] : List (Int × Kd))) em0 (rn 2 [] f0 [(24, .agg #[.map (some g_8), .slice v_4_A v_3.length v_5_c])] (l1 (nw 25 vp [.map (some g_8), .slice v_4_A v_3.length v_5_c] 101 fun g_9 => ra [] f0 [(6, Pt g_9 0)] (tN (sq (rg (ra [] f0 [(7, I 0)] (tN ?_))))))))))))))); obtain ⟨o_57, hG, hG_57⟩ := bs hG; refine jn (fun K E a w => ∃ v_58 : List (Int × Kd), Js S0 w0 68 (dk [7] K) ([.mp g_8 (mpM Kd.vl v_58), .dat (EachM Kd.ok v_58)] ++ se E [0, 3]) (.inl (mpM Kd.p v_58) = o_57) a w) ?_ ?_
   ·refine sq (rg (ra [] f0 (ns 26 [.slice p_0_A p_0.length p_0_c, I (p_0.length : Int), I 0]) (tN (bk ?_)))); obtain ⟨e_42, hL, hG_42⟩ := bs hG; clear hG; obtain ⟨stp_42, hs_42, hL⟩ := iter_gen hL; refine lp (fun K E n_ a w => ∃ (v_39 : Int) (v_40 : List (Int × Kd)) (v_41 : Int), Js S0 w0 68 ([(7, I v_41), (28, I v_39)] ++ K) ([.mp g_8 (mpM Kd.vl v_40), .dat (EachM Kd.ok v_40)] ++ se E [0, 3, 4]) (iter stp_42 n_ (v_39, (mpM Kd.p v_40), v_41) = some e_42) a w) F ?_ ?_
    ·exact fun _ _ S k e => ⟨0, ([] : List (Int × Kd)), 0, S, k.wk, e.sel [2, 1, 0, 3, 4], hL⟩
    ·clear hL; rintro n_42 a w ⟨v_39, v_40, v_41, hJ⟩; refine hJ.go fun hL => ?_
     clear hJ; obtain ⟨m_42, o_42, rfl, hG, hO1_42, hO2_42⟩ := iter_step hL; clear hL; rw [hs_42] at hG
     try simp only [lm_, Ka.n_Hops] at hG
     refine sq (rg (ra [] f0 [(29, B (decide (v_39 < (p_0.length : Int))))] (tN (sq ?_)))); rcases ic hG with ⟨h_43, hG⟩ | ⟨h_43, hG⟩
     ·try simp only [lm_, Ka.n_Hops] at h_43
      refine sb 29 (bt h_43) (ct (kS (tN (sq (bk (sq ?_)))))); obtain ⟨v_44o, hy_44, hG⟩ := bs hG; refine rg (fxn (p := Kd.p) inf38 (gd' (RowC p_0_A p_0_c Kd.cells Kd.ok p_0) 4) hy_44 fun v_44 b_45 o_46 he_44 hi_44 => ?_); subst he_44
      try simp only [lm_, Ka.n_Hops] at hG
      refine rn 2 [(0, 0, 0, 0), (0, 2, 0, 0)] (fc (hi_44 .i64) f0) [(31, .agg #[I v_44.ID, .slice v_44.Entries_A v_44.Entries.length v_44.Entries_c])] (l1 (nw 9 vp [I 0, .slice none 0 0] 53 fun g_47 => l1 (sr 0 g_47 [(0, I v_44.ID), (1, .slice v_44.Entries_A v_44.Entries.length v_44.Entries_c)] (nl (tN (sq ?_)))))); obtain ⟨o_50, hG, hG_50⟩ := bs hG; refine jn (fun K E a w => ∃ v_51 : Bool, Js S0 w0 68 ([(40, B v_51)] ++ K) ([.dat (RowC v_44.Entries_A v_44.Entries_c Kb.cells tr v_44.Entries)] ++ se E [0, 3, 4, 5, 6, 7]) (v_51 = o_50) a w) ?_ ?_
      ·obtain ⟨v_48, hy_48, hG⟩ := bs hG; rcases ic hG with ⟨h_49, hG⟩ | ⟨h_49, hG⟩
       ·exact rg (rn 1 [(0, 2, 0, 0)] f0 [(32, .agg #[I v_44.ID, .slice v_44.Entries_A v_44.Entries.length v_44.Entries_c])] (l1 (cl 33 (za F v_44 _ hy_48) hT ⟨(gi 2).a, trivial⟩ (rn 2 [] f0 [(35, B (!v_48))] (sb 35 (nt h_49) (ra [(1, 1, 0, 0)] f0 [(40, B (decide (v_44.ID ≤ v_41)))] (tN (fg (Kd.ok v_44) 2 (fun _ _ h => h.f_Entries) (fun _ _ S k e => ⟨decide (v_44.ID ≤ v_41), S, k.wk, e.sel [0, 1, 4, 5, 6, 7, 8], oi hG⟩)))))))))
       ·exact rg (rn 1 [(0, 2, 0, 0)] f0 [(32, .agg #[I v_44.ID, .slice v_44.Entries_A v_44.Entries.length v_44.Entries_c])] (l1 (cl 33 (za F v_44 _ hy_48) hT ⟨(gi 2).a, trivial⟩ (rn 2 [] f0 [(35, B (!v_48))] (sb 35 (nf h_49) (ra [] f0 [(40, B true)] (tN (fg (Kd.ok v_44) 2 (fun _ _ h => h.f_Entries) (fun _ _ S k e => ⟨true, S, k.wk, e.sel [0, 1, 4, 5, 6, 7, 8], oi hG⟩)))))))))
      ·rintro a w ⟨v_51, hJ⟩; refine hJ.go ?_; clear hJ; rintro rfl; replace hG := hG_50; rcases ic hG with ⟨h_52, hG⟩ | ⟨h_52, hG⟩
       ·refine sb 40 (bt h_52) (ct (sq (rg (ra [] f0 [(4, .pointer none), (5, I 1)] (tN (kR (tR (hR (tR (tR ?_)))))))))); have he_ := hO2_42 _ (oi hG).symm; subst he_; replace hG := hG_42
        try simp only [lm_, Ka.n_Hops] at hG
        refine hR (tR ?_); obtain rfl := oi hG; replace hG := hG_57; obtain rfl := oi hG; exact rtn [] (⟨false, 0, Kl.z⟩ : Ko) rfl ⟨(Ko.ok0 : Fd _ (Ko.ok ⟨false, 0, Kl.z⟩)), trivial⟩
       ·refine sb 40 (bf h_52) (cf (kS (tN ?_))); obtain ⟨v_55o, hy_55, hG⟩ := bs hG; refine hb [0, 1, 3, 4, 5, 6] (ht [0, 1, 3, 4, 5, 6] [0, 1, 2, 3, 4, 5, 6, 7, 8] [(3, 1, 3, 0), (1, 1, 1, 0), (0, 2, 1, 0), (1, 1, 1, 0)] f0 [(44, .map (some g_8)), (46, I v_44.ID), (47, .agg #[I v_44.ID, .slice v_44.Entries_A v_44.Entries.length v_44.Entries_c]), (49, I v_44.ID)] (ho [9] ⟨h1 (mke (f := Kd.vl) 50 2 g_8 v_40 v_44.ID (.agg #[I 0, .slice none 0 0]) Tryz.underlying99 Tryz.underlying3 (fun w => by kernel_rfl) fun u_53 s_54 => hk [0, 1, 3, 4, 5, 6] (ht [0, 1, 3, 4, 5, 6] [10] [] f0 [(51, I ((s_54 : Nat) : Int))] (ho [11] ⟨h1 (mksn (t := 99) (f := Kd.vl) (ok := Kd.ok) 2 g_8 v_40 v_44.ID s_54 v_44 Kd.p hy_55 (gi 3) (((gd' (RowC v_44.Entries_A v_44.Entries_c Kb.cells tr v_44.Entries) 0)).m fun _ _ h => ⟨h⟩) fun v_55 he_55 => ?_), trivial⟩))), trivial⟩)); subst he_55
        try simp only [lm_, Ka.n_Hops] at hG
        exact hk [1, 2, 4, 5, 6, 7] (ht [1, 2, 4, 5, 6, 7] [12] [] f0 [(7, I v_44.ID)] (he (hN (tN (rg (ra [] f0 [(28, I (IntKind.i64.wrap (v_39 + 1)))] (tN (fun a w S hK hE => ⟨m_42, ⟨IntKind.i64.wrap (v_39 + 1), v_55, v_44.ID, S, hK.wk, hE.sel [3, 0, 5, 6, 7], hO1_42 _ (oi hG).symm⟩, Nat.lt_succ_self _⟩))))))))
     ·try simp only [lm_, Ka.n_Hops] at h_43
      refine sb 29 (bf h_43) (cf (kX (tX (tX ?_)))); have he_ := hO2_42 _ (oi hG).symm; subst he_; replace hG := hG_42
      try simp only [lm_, Ka.n_Hops] at hG
      exact hH (tN (fun _ _ S k e => ⟨v_40, S, k.wk, e.sel [0, 1, 2, 3], oi hG⟩))
   ·rintro a w ⟨v_58, hJ⟩; refine hJ.go ?_; clear hJ; rintro rfl; replace hG := el hG_57
    try simp only [lm_, Ka.n_Hops] at hG
    obtain ⟨o_86, hG, hG_86⟩ := bs hG; refine jn (fun K E a w => Js S0 w0 68 (K) (se E [0, 1, 2, 3]) (.inl () = o_86) a w) ?_ ?_
    ·refine sq (rg (ra [] f0 (ns 53 [.slice v_4_A v_3.length v_5_c, I (v_3.length : Int), I 0]) (tN (bk ?_)))); obtain ⟨e_77, hL, hG_77⟩ := bs hG; clear hG; obtain ⟨stp_77, hs_77, hL⟩ := iter_gen hL; refine lp (fun K E n_ a w => ∃ v_76 : Int, Js S0 w0 68 ([(55, I v_76)] ++ K) (se E [0, 1, 2, 3]) (iter stp_77 n_ v_76 = some e_77) a w) F ?_ ?_
     ·exact fun _ _ S k e => ⟨0, S, k.wk, e.sel [0, 1, 2, 3], hL⟩
     ·clear hL; rintro n_77 a w ⟨v_76, hJ⟩; refine hJ.go fun hL => ?_
      clear hJ; obtain ⟨m_77, o_77, rfl, hG, hO1_77, hO2_77⟩ := iter_step hL; clear hL; rw [hs_77] at hG; refine sq (rg (ra [] f0 [(56, B (decide (v_76 < (v_3.length : Int))))] (tN (sq ?_)))); rcases ic hG with ⟨h_78, hG⟩ | ⟨h_78, hG⟩
      ·try simp only [lm_, Ka.n_Hops] at h_78
       refine sb 56 (bt h_78) (ct (kS (tN (sq (bk (sq ?_)))))); obtain ⟨v_79, hy_79, hG⟩ := bs hG; refine rg (fx inf39 (gd' (RowC v_4_A v_5_c Kc.cells tr v_3) 3) hy_79 fun b_80 o_81 hi_79 => rn 2 [(0, 0, 0, 0), (0, 5, 0, 0)] (fc (hi_79 .i64) f0) [(58, .agg #[I v_79.Office, I v_79.Size, U v_79.Root, I v_79.Sig.C, I v_79.Sig.S])] (l1 (nw 11 vp [I 0, I 0, U 0, I 0, I 0] 27 fun g_82 => l1 (sr 0 g_82 (ns 0 [I v_79.Office, I v_79.Size, U v_79.Root, I v_79.Sig.C, I v_79.Sig.S]) (nl (tN (sq ?_))))))); obtain ⟨v_83, v_84, hy_83, hG⟩ := b2 hG; refine rg (rn 1 [(0, 5, 0, 0)] f0 [(60, .agg #[I v_79.Office, I v_79.Size, U v_79.Root, I v_79.Sig.C, I v_79.Sig.S])] (l1 (cl 61 (zp F 4 v_79 _ hy_83) hT trivial (ra [] f0 [(13, I v_84)] (tN (sq (rg (ra [] f0 [(65, B (!(v_84 == 0)))] (tN ?_))))))))); rcases ic hG with ⟨h_85, hG⟩ | ⟨h_85, hG⟩
       ·exact sb 65 (nt h_85) (cf (kS (hN (tN (rg (ra [] f0 [(55, I (IntKind.i64.wrap (v_76 + 1)))] (tN (fun a w S hK hE => ⟨m_77, ⟨IntKind.i64.wrap (v_76 + 1), S, hK.wk, hE.sel [2, 3, 4, 5], hO1_77 _ (oi hG).symm⟩, Nat.lt_succ_self _⟩))))))))
       ·refine sb 65 (nf h_85) (ct (sq (rg (ra [] f0 [(4, .pointer none), (5, I 1)] (tN (kR (hR (tR (tR ?_))))))))); have he_ := hO2_77 _ (oi hG).symm; subst he_; replace hG := hG_77; refine hR (tR ?_); obtain rfl := oi hG; replace hG := hG_86; obtain rfl := oi hG; exact rtn [] (⟨false, 0, Kl.z⟩ : Ko) rfl ⟨(Ko.ok0 : Fd _ (Ko.ok ⟨false, 0, Kl.z⟩)), trivial⟩
      ·try simp only [lm_, Ka.n_Hops] at h_78
       refine sb 56 (bf h_78) (cf (kX (tX (tX ?_)))); have he_ := hO2_77 _ (oi hG).symm; subst he_; replace hG := hG_77; exact hH (tN (fun _ _ S k e => ⟨S, k.wk, e.sel [0, 1, 2, 3], oi hG⟩))
    ·rintro a w hJ; refine hJ.go ?_; clear hJ; rintro rfl; replace hG := el hG_86; refine sq (rg (ra [] f0 [(4, Pt g_9 0), (5, I 0)] (tN (kR ?_)))); obtain rfl := oi hG; exact sm 0 g_8 Kd.vl Kd.ok v_58 Kd.mv (gi 1) (sbr 2 g_9 [.map (some g_8), .slice v_4_A v_3.length v_5_c] (rtn [] (⟨true, g_9, (⟨g_8, v_58, v_4_A, v_5_c, v_3⟩ : Kl)⟩ : Ko) rfl ⟨((Fd.two (gd' (fun S W => RecS S W g_9 0 [.map (some g_8), .slice v_4_A v_3.length v_5_c]) 2) (((Fd.two ((gd' (MapC g_8 Kd.vl Kd.ok v_58) 0)) ((gd' (RowC v_4_A v_5_c Kc.cells tr v_3) 3))).m fun _ _ h => ⟨h.1, h.2⟩))).m fun _ _ h _ => h), trivial⟩))
end Go.Proofs.YtggaodokkcoagaaGreatDoor
