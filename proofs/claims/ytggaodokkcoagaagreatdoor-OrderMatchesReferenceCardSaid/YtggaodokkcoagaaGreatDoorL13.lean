/-
  Texts joined: Z0, Z1, Z2, Z3, Z4.
-/
import Derived.Test.YtggaodokkcoagaaGreatDoorProg
import Derived.Test.YtggaodokkcoagaaGreatDoorL11
import Derived.Test.YtggaodokkcoagaaGreatDoorL12
set_option linter.unusedSimpArgs false
set_option linter.unusedVariables false
set_option maxRecDepth 100000
set_option maxHeartbeats 16000000
namespace Go.Proofs.YtggaodokkcoagaaGreatDoor
open Go.RowKit Go.Maps
def Gd (F : Nat) (p_0 : Int) (p_1 : Int) : Option (Int) :=
  Option.bind (Option.bind (iter (σ := Int × Int × Int) (ρ := Int) (un3 fun (v_18 : Int) (v_19 : Int) (v_20 : Int) => 
        (ifB (decide (v_18 > 0))
          (Option.bind (ifB (((bits BinOp.and IntKind.i64 v_18 1) == 1))
              (Option.bind (some () : Option (Unit)) (fun (_ : Unit) => 
                some (Int.tmod (IntKind.i64.wrap (v_20 * v_19)) 2147483579)))
              (some v_20) : Option (Int)) (fun (v_26 : Int) => 
            Option.bind (some () : Option (Unit)) (fun (_ : Unit) => 
              some (.inl (Int.fdiv v_18 (2 ^ 1), Int.tmod (IntKind.i64.wrap (v_19 * v_19)) 2147483579, v_26)))))
          (some (.inr v_20)) : Option ((Int × Int × Int) ⊕ Int))) F (p_1, p_0, 1)) (fun (v_28 : Int) => 
      some v_28) : Option (Int)) (fun (v_30 : Int) => 
    some v_30)
theorem zt (F : Nat) (p_0 : Int) (p_1 : Int) (r : Int) (hG : Gd F p_0 p_1 = some r) :
  Cf Tryz.prog 117 [I p_0, I p_1] [] (I r) := by
 unfold Gd at hG; refine fi Tryz.func117 rfl rfl m0 fun S0 w0 hT => sq (rg (l1 (nw 2 vp [I p_0] 3 fun g_1 => ra [] f0 [] (tN (sq (rg (l1 (nw 5 vp [I 0] 3 fun g_2 => l1 (sr 0 g_2 [(0, I 1)] (nl (tN (sq (rg (ra [] f0 [(6, .func (.func 150) #[] #[])] (tN ?_)))))))))))))))
 obtain ⟨o_29, hG, hG_29⟩ := bs hG; refine jn (fun K E a w => ∃ v_30 : Int, Js S0 w0 21 (dk [1] K) ([.blk g_2 3 [I v_30]]) (v_30 = o_29) a w) ?_ ?_
 ·refine bk ?_; obtain ⟨e_21, hL, hG_21⟩ := bs hG; clear hG; obtain ⟨stp_21, hs_21, hL⟩ := iter_gen hL; refine lp (fun K E n_ a w => ∃ v_18 v_19 v_20 : Int, Js S0 w0 21 ([(1, I v_18)] ++ K) ([.blk g_1 3 [I v_19], .blk g_2 3 [I v_20]]) (iter stp_21 n_ (v_18, v_19, v_20) = some e_21) a w) F ?_ ?_
  ·exact fun _ _ S k e => ⟨p_1, p_0, 1, S, k.wk, e.sel [1, 0], hL⟩
  ·clear hL; rintro n_21 a w ⟨v_18, v_19, v_20, hJ⟩; refine hJ.go fun hL => ?_
   clear hJ; obtain ⟨m_21, o_21, rfl, hG, hO1_21, hO2_21⟩ := iter_step hL; clear hL; rw [hs_21] at hG; refine sq (sq (rg (ra [] f0 [(8, B (decide (v_18 > 0)))] (tN ?_)))); rcases ic hG with ⟨h_22, hG⟩ | ⟨h_22, hG⟩
   ·refine sb 8 (bt h_22) (ct (kS (tN (sq (bk ?_))))); obtain ⟨o_25, hG, hG_25⟩ := bs hG; refine jn (fun K E a w => ∃ v_26 : Int, Js S0 w0 21 (K) ([.blk g_2 3 [I v_26]] ++ se E [0]) (v_26 = o_25) a w) ?_ ?_
    ·refine sq (rg (ra [] f0 [(13, B ((bits BinOp.and IntKind.i64 v_18 1) == 1))] (tN ?_))); rcases ic hG with ⟨h_23, hG⟩ | ⟨h_23, hG⟩
     ·refine sb 13 (bt h_23) (ct ?_); obtain ⟨⟨⟩, hy_24, hG⟩ := bs hG; refine rg (rn 2 [(1, 1, 0, 0)] f0 [(14, .func (.func 150) #[] #[]), (15, I v_19)] (l1 (ci 16 (args := [Pt g_2 0, I v_19]) (fun E e w => Rs S0 w0 (.tuple #[]) ([.blk g_2 3 [I (Int.tmod (IntKind.i64.wrap (v_20 * v_19)) 2147483579)]] ++ se E [0]) (() = ()) e w) Tryz.func150 rfl rfl ?_ ?_)))
      ·replace hG := hy_24
       try (simp only [lm_, Ka.n_Hops] at hG; replace hG : _ = _ := hG)
       exact rg (rn 8 [(3, 1, 1, 0), (2, 0, 0, 0)] (fc (fun W => run_rem (T := 3) (k := .i64) (p := IntKind.i64.wrap (v_20 * v_19)) (q := 2147483579) (by decide) W) f0) [(10, I (Int.tmod (IntKind.i64.wrap (v_20 * v_19)) 2147483579)), (11, Pt g_2 0)] (l1 (sr 1 g_2 [(0, I (Int.tmod (IntKind.i64.wrap (v_20 * v_19)) 2147483579))] (nl (fall (ri [] (.tuple #[]) (fun a w S hK hE => ⟨rfl, ⟨S, hE.sel [1, 0]⟩, oi hG⟩)))))))
      ·rintro e w hJ; refine hJ.go fun ho_ => ?_
       clear hJ; exact nl (tN (fun _ _ S k e => ⟨Int.tmod (IntKind.i64.wrap (v_20 * v_19)) 2147483579, S, k.wk, e.sel [0, 1], oi hG⟩))
     ·exact sb 13 (bf h_23) (cf (kS (tN (fun _ _ S k e => ⟨v_20, S, k.wk, e.sel [1, 0], oi hG⟩))))
    ·rintro a w ⟨v_26, hJ⟩; refine hJ.go ?_; clear hJ; rintro rfl; replace hG := hG_25; obtain ⟨⟨⟩, hy_27, hG⟩ := bs hG; refine rg (rn 2 [(1, 1, 1, 0)] f0 [(17, .func (.func 150) #[] #[]), (18, I v_19)] (l1 (ci 19 (args := [Pt g_1 0, I v_19]) (fun E e w => Rs S0 w0 (.tuple #[]) ([.blk g_1 3 [I (Int.tmod (IntKind.i64.wrap (v_19 * v_19)) 2147483579)]] ++ se E [0]) (() = ()) e w) Tryz.func150 rfl rfl ?_ ?_)))
     ·replace hG := hy_27
      try (simp only [lm_, Ka.n_Hops] at hG; replace hG : _ = _ := hG)
      exact rg (rn 8 [(3, 1, 1, 0), (2, 0, 0, 0)] (fc (fun W => run_rem (T := 3) (k := .i64) (p := IntKind.i64.wrap (v_19 * v_19)) (q := 2147483579) (by decide) W) f0) [(10, I (Int.tmod (IntKind.i64.wrap (v_19 * v_19)) 2147483579)), (11, Pt g_1 0)] (l1 (sr 1 g_1 [(0, I (Int.tmod (IntKind.i64.wrap (v_19 * v_19)) 2147483579))] (nl (fall (ri [] (.tuple #[]) (fun a w S hK hE => ⟨rfl, ⟨S, hE.sel [1, 0]⟩, oi hG⟩)))))))
     ·rintro e w hJ; refine hJ.go fun ho_ => ?_
      clear hJ; exact nl (hN (tN (rg (ra [] f0 [(1, I (Int.fdiv v_18 (2 ^ 1)))] (tN (fun a w S hK hE => ⟨m_21, ⟨Int.fdiv v_18 (2 ^ 1), Int.tmod (IntKind.i64.wrap (v_19 * v_19)) 2147483579, v_26, S, hK.wk, hE.sel [0, 1], hO1_21 _ (oi hG).symm⟩, Nat.lt_succ_self _⟩))))))
   ·refine sb 8 (bf h_22) (cf (kX (tX (tX ?_)))); have he_ := hO2_21 _ (oi hG).symm; subst he_; replace hG := hG_21; exact hH (tN (fun _ _ S k e => ⟨v_20, S, k.wk, e.sel [1], oi hG⟩))
 ·rintro a w ⟨v_30, hJ⟩; refine hJ.go ?_; clear hJ; rintro rfl; replace hG := hG_29; refine sq (rg (ra [(0, 1, 0, 0)] f0 [(4, I v_30)] (tN (kR ?_)))); obtain rfl := oi hG; exact rt []
def Gad (F : Nat) (p_0 : Int) (p_1 : Int) (p_2 : List Int) : Option (Int) :=
 Option.bind (apG 8 ([p_0, p_1] : List Int) p_2) (fun v_2 =>
 Option.bind (Gav F v_2) (fun v_3 =>
 some (IntKind.i64.wrap (Int.tmod v_3 1073741789))))
theorem zav (F : Nat) (p_0 : Int) (p_1 : Int) (p_2_A : Option Addr) (p_2_c : Nat) (p_2 : List Int) (r : Int) (hG : Gad F p_0 p_1 p_2 = some r) :
  Cf Tryz.prog 116 [I p_0, I p_1, .slice p_2_A p_2.length p_2_c] [RowC p_2_A p_2_c c_i64 tr p_2] (I r) := by
 unfold Gad at hG
 try simp only [lm_, Ka.n_Hops] at hG
 refine fi Tryz.func116 rfl rfl (mr tr_mv m0) fun S0 w0 hT => sq (rg (ra [] f0 [] (tN (sq ?_))))
 obtain ⟨v_2, hy_2, hG⟩ := bs hG; refine rg (rn 2 [] f0 [(8, I p_0), (9, I p_1)] (l1 (nw 10 (vs 2) [I p_0, I p_1] 3 fun g_1 => rn 1 [] f0 [(11, .slice p_2_A p_2.length p_2_c)] (bo 0 1 2 g_1 3 [I p_0, I p_1] (l1 (ap 0 12 (some ⟨g_1, 0, none⟩) 2 ([p_0, p_1] : List Int) p_2 inf22 ((gd' (RowC p_2_A p_2_c c_i64 tr p_2) 1).a) hy_2 one_i64 fun v_2_A v_2_c _ => ra [] f0 [(7, .slice v_2_A v_2.length v_2_c)] (tN (sq ?_)))))))); obtain ⟨v_3, hy_3, hG⟩ := bs hG; refine rg (rn 1 [] f0 [(13, .slice v_2_A v_2.length v_2_c)] (l1 (cl 14 (zau F v_2_A v_2_c v_2 _ hy_3) hT ⟨oa 0 et.a, trivial⟩ (ra [(0, 0, 0, 0)] (fc (fun W => run_rem (T := 23) (k := .u64) (p := v_3) (q := 1073741789) (by decide) W) f0) [(6, I (IntKind.i64.wrap (Int.tmod v_3 1073741789)))] (tN (kR ?_)))))); obtain rfl := oi hG; exact rt []
def Gr (F : Nat) (p_0 : Int) (p_1 : Int) : Option (Bool) :=
  Option.bind (ifB (decide (p_1 ≤ p_0))
      (some (decide (p_0 < 1073741789)))
      (some false) : Option (Bool)) (fun (v_3 : Bool) => 
    some v_3)
theorem zo (F : Nat) (p_0 : Int) (p_1 : Int) (r : Bool) (hG : Gr F p_0 p_1 = some r) :
  Cf Tryz.prog 115 [I p_0, I p_1] [] (B r) := by
 unfold Gr at hG; refine fi Tryz.func115 rfl rfl m0 fun S0 w0 hT => sq (rg (ra [] f0 [] (tN ?_)))
 obtain ⟨o_2, hG, hG_2⟩ := bs hG; refine jn (fun K E a w => ∃ v_3 : Bool, Js S0 w0 12 ([(4, B v_3)] ++ K) (se E []) (v_3 = o_2) a w) ?_ ?_
 ·rcases ic hG with ⟨h_1, hG⟩ | ⟨h_1, hG⟩
  ·exact rg (rn 4 [] f0 [(8, B (decide (p_1 ≤ p_0)))] (sb 8 (bt h_1) (ra [] f0 [(4, B (decide (p_0 < 1073741789)))] (tN (fun _ _ S k e => ⟨decide (p_0 < 1073741789), S, k.wk, e.sel [], oi hG⟩)))))
  ·exact rg (rn 4 [] f0 [(8, B (decide (p_1 ≤ p_0)))] (sb 8 (bf h_1) (ra [] f0 [(4, B false)] (tN (fun _ _ S k e => ⟨false, S, k.wk, e.sel [], oi hG⟩)))))
 ·rintro a w ⟨v_3, hJ⟩; refine hJ.go ?_; clear hJ; rintro rfl; replace hG := hG_2; refine kR ?_; obtain rfl := oi hG; exact rt []
def Gc (F : Nat) (p_0 : Int) (p_1 : Int) (p_2 : Int) : Option (Bool) :=
  Option.bind (ifB (decide (p_1 ≤ p_0))
      (some (decide (p_0 ≤ p_2)))
      (some false) : Option (Bool)) (fun (v_3 : Bool) => 
    some v_3)
theorem zc (F : Nat) (p_0 : Int) (p_1 : Int) (p_2 : Int) (r : Bool) (hG : Gc F p_0 p_1 p_2 = some r) :
  Cf Tryz.prog 59 [I p_0, I p_1, I p_2] [] (B r) := by
 unfold Gc at hG; refine fi Tryz.func59 rfl rfl m0 fun S0 w0 hT => sq (rg (ra [] f0 [] (tN ?_)))
 obtain ⟨o_2, hG, hG_2⟩ := bs hG; refine jn (fun K E a w => ∃ v_3 : Bool, Js S0 w0 15 ([(6, B v_3)] ++ K) (se E []) (v_3 = o_2) a w) ?_ ?_
 ·rcases ic hG with ⟨h_1, hG⟩ | ⟨h_1, hG⟩
  ·exact rg (rn 4 [] f0 [(10, B (decide (p_1 ≤ p_0)))] (sb 10 (bt h_1) (ra [] f0 [(6, B (decide (p_0 ≤ p_2)))] (tN (fun _ _ S k e => ⟨decide (p_0 ≤ p_2), S, k.wk, e.sel [], oi hG⟩)))))
  ·exact rg (rn 4 [] f0 [(10, B (decide (p_1 ≤ p_0)))] (sb 10 (bf h_1) (ra [] f0 [(6, B false)] (tN (fun _ _ S k e => ⟨false, S, k.wk, e.sel [], oi hG⟩)))))
 ·rintro a w ⟨v_3, hJ⟩; refine hJ.go ?_; clear hJ; rintro rfl; replace hG := hG_2; refine kR ?_; obtain rfl := oi hG; exact rt []
def Gaz (F : Nat) (p_0 : Kc) : Option ((List Int)) :=
 some ([p_0.Office, p_0.Size, IntKind.i64.wrap (Int.fdiv p_0.Root (2 ^ 32)), IntKind.i64.wrap (IntKind.u32.wrap p_0.Root)] : List Int)
theorem zax (F : Nat) (p_0 : Kc) (r : (List Int)) (hG : Gaz F p_0 = some r) :
  Cn Tryz.prog 62 [.agg #[I p_0.Office, I p_0.Size, U p_0.Root, I p_0.Sig.C, I p_0.Sig.S]] [] (fun q : Kr => r = q.l) (fun q => .slice q.A q.l.length q.c) (fun q => [RowC q.A q.c c_i64 tr q.l]) := by
 unfold Gaz at hG; refine fin Tryz.func62 rfl rfl m0 fun S0 w0 hT => sq (rg (l1 (nw 1 vp [I p_0.Office, I p_0.Size, U p_0.Root, I p_0.Sig.C, I p_0.Sig.S] 27 fun g_1 => ra [] f0 [] (tN (sq (rg (rn 12 [(1, 1, 0, 0), (1, 1, 0, 1), (1, 1, 0, 2), (3, 1, 0, 2)] f0 [(4, I p_0.Office), (6, I p_0.Size), (10, I (IntKind.i64.wrap (Int.fdiv p_0.Root (2 ^ 32)))), (14, I (IntKind.i64.wrap (IntKind.u32.wrap p_0.Root)))] (l1 (nw 15 (vs 4) [I p_0.Office, I p_0.Size, I (IntKind.i64.wrap (Int.fdiv p_0.Root (2 ^ 32))), I (IntKind.i64.wrap (IntKind.u32.wrap p_0.Root))] 3 fun g_2 => ra [] f0 [(2, Sb g_2 4 4)] (tN (kR ?_)))))))))))
 obtain rfl := oi hG; exact sB 0 g_2 c_i64 tr ([p_0.Office, p_0.Size, IntKind.i64.wrap (Int.fdiv p_0.Root (2 ^ 32)), IntKind.i64.wrap (IntKind.u32.wrap p_0.Root)] : List Int) tr_mv et (rtn [] ⟨(some ⟨g_2, 0, none⟩), 4, ([p_0.Office, p_0.Size, IntKind.i64.wrap (Int.fdiv p_0.Root (2 ^ 32)), IntKind.i64.wrap (IntKind.u32.wrap p_0.Root)] : List Int)⟩ rfl ⟨gi 0, trivial⟩)
def Gq (F : Nat) (p_0 : Kc) : Option (Int) :=
 Option.bind (Gav F ([p_0.Office, p_0.Size, IntKind.i64.wrap (Int.fdiv p_0.Root (2 ^ 32)), IntKind.i64.wrap (bits BinOp.and IntKind.u64 p_0.Root 4294967295), p_0.Sig.C, p_0.Sig.S] : List Int)) (fun v_3 =>
 some v_3)
theorem zx (F : Nat) (p_0 : Kc) (r : Int) (hG : Gq F p_0 = some r) :
  Cf Tryz.prog 73 [.agg #[I p_0.Office, I p_0.Size, U p_0.Root, I p_0.Sig.C, I p_0.Sig.S]] [] (U r) := by
 unfold Gq at hG; refine fi Tryz.func73 rfl rfl m0 fun S0 w0 hT => sq (rg (l1 (nw 1 vp [I p_0.Office, I p_0.Size, U p_0.Root, I p_0.Sig.C, I p_0.Sig.S] 27 fun g_1 => ra [] f0 [] (tN (sq ?_)))))
 obtain ⟨v_3, hy_3, hG⟩ := bs hG; refine rg (rn 18 [(1, 1, 0, 0), (1, 1, 0, 1), (1, 1, 0, 2), (3, 1, 0, 2), (4, 1, 0, 3), (2, 1, 0, 4)] f0 [(4, I p_0.Office), (6, I p_0.Size), (10, I (IntKind.i64.wrap (Int.fdiv p_0.Root (2 ^ 32)))), (14, I (IntKind.i64.wrap (bits BinOp.and IntKind.u64 p_0.Root 4294967295))), (17, I p_0.Sig.C), (20, I p_0.Sig.S)] (l1 (nw 21 (vs 6) [I p_0.Office, I p_0.Size, I (IntKind.i64.wrap (Int.fdiv p_0.Root (2 ^ 32))), I (IntKind.i64.wrap (bits BinOp.and IntKind.u64 p_0.Root 4294967295)), I p_0.Sig.C, I p_0.Sig.S] 3 fun g_2 => l1 (cl 22 (zau F (some ⟨g_2, 0, none⟩) 6 ([p_0.Office, p_0.Size, IntKind.i64.wrap (Int.fdiv p_0.Root (2 ^ 32)), IntKind.i64.wrap (bits BinOp.and IntKind.u64 p_0.Root 4294967295), p_0.Sig.C, p_0.Sig.S] : List Int) _ hy_3) hT ⟨ba 0 et.a, trivial⟩ (ra [] f0 [(2, U v_3)] (tN (kR ?_))))))); obtain rfl := oi hG; exact rt []
def Gay (F : Nat) (p_0 : Kf) : Option (Bool) :=
  Option.bind (ifB (decide (0 ≤ p_0.Lo))
      (ifB (decide (p_0.Lo ≤ p_0.Hi))
        (some (decide (p_0.Hi ≤ 3000000000000000)))
        (some false))
      (some false) : Option (Bool)) (fun (v_5 : Bool) => 
    some v_5)
theorem zbf (F : Nat) (p_0 : Kf) (r : Bool) (hG : Gay F p_0 = some r) :
  Cf Tryz.prog 149 [.agg #[I p_0.Lo, I p_0.Hi]] [] (B r) := by
 unfold Gay at hG; refine fi Tryz.func149 rfl rfl m0 fun S0 w0 hT => sq (rg (l1 (nw 1 vp [I p_0.Lo, I p_0.Hi] 29 fun g_1 => ra [] f0 [] (tN ?_))))
 obtain ⟨o_4, hG, hG_4⟩ := bs hG; refine jn (fun K E a w => ∃ v_5 : Bool, Js S0 w0 18 ([(2, B v_5)] ++ K) (se E []) (v_5 = o_4) a w) ?_ ?_
 ·rcases ic hG with ⟨h_2, hG⟩ | ⟨h_2, hG⟩
  ·rcases ic hG with ⟨h_3, hG⟩ | ⟨h_3, hG⟩
   ·exact rg (rn 4 [(1, 1, 0, 0)] f0 [(6, B (decide (0 ≤ p_0.Lo)))] (sb 6 (bt h_2) (rn 7 [(1, 1, 0, 0), (1, 1, 0, 1)] f0 [(13, B (decide (p_0.Lo ≤ p_0.Hi)))] (sb 13 (bt h_3) (ra [(1, 1, 0, 1)] f0 [(2, B (decide (p_0.Hi ≤ 3000000000000000)))] (tN (fun _ _ S k e => ⟨decide (p_0.Hi ≤ 3000000000000000), S, k.wk, e.sel [], oi hG⟩)))))))
   ·exact rg (rn 4 [(1, 1, 0, 0)] f0 [(6, B (decide (0 ≤ p_0.Lo)))] (sb 6 (bt h_2) (rn 7 [(1, 1, 0, 0), (1, 1, 0, 1)] f0 [(13, B (decide (p_0.Lo ≤ p_0.Hi)))] (sb 13 (bf h_3) (ra [] f0 [(2, B false)] (tN (fun _ _ S k e => ⟨false, S, k.wk, e.sel [], oi hG⟩)))))))
  ·exact rg (rn 4 [(1, 1, 0, 0)] f0 [(6, B (decide (0 ≤ p_0.Lo)))] (sb 6 (bf h_2) (ra [] f0 [(2, B false)] (tN (fun _ _ S k e => ⟨false, S, k.wk, e.sel [], oi hG⟩)))))
 ·rintro a w ⟨v_5, hJ⟩; refine hJ.go ?_; clear hJ; rintro rfl; replace hG := hG_4; refine kR ?_; obtain rfl := oi hG; exact rt []
def Gbx (F : Nat) (p_0 : Kp) : Option (Int) :=
 Option.bind (Gbw F p_0.Entry.Doc ([p_0.Entry.Stamp.Lo, p_0.Entry.Stamp.Hi] : List Int)) (fun v_3 =>
 some v_3)
theorem zbg (F : Nat) (p_0 : Kp) (r : Int) (hG : Gbx F p_0 = some r) :
  Cf Tryz.prog 118 [.agg #[U p_0.Entry.Doc, I p_0.Entry.Stamp.Lo, I p_0.Entry.Stamp.Hi]] [] (U r) := by
 unfold Gbx at hG; refine fi Tryz.func118 rfl rfl m0 fun S0 w0 hT => sq (rg (l1 (nw 1 vp [U p_0.Entry.Doc, I p_0.Entry.Stamp.Lo, I p_0.Entry.Stamp.Hi] 165 fun g_1 => ra [] f0 [] (tN (sq ?_)))))
 obtain ⟨v_3, hy_3, hG⟩ := bs hG; refine rg (rn 11 [(2, 1, 0, 0), (3, 1, 0, 1), (3, 1, 0, 2)] f0 [(5, U p_0.Entry.Doc), (9, I p_0.Entry.Stamp.Lo), (13, I p_0.Entry.Stamp.Hi)] (l1 (nw 14 (vs 2) [I p_0.Entry.Stamp.Lo, I p_0.Entry.Stamp.Hi] 3 fun g_2 => l1 (cl 15 (zbc F p_0.Entry.Doc (some ⟨g_2, 0, none⟩) 2 ([p_0.Entry.Stamp.Lo, p_0.Entry.Stamp.Hi] : List Int) _ hy_3) hT ⟨ba 0 et.a, trivial⟩ (ra [] f0 [(2, U v_3)] (tN (kR ?_))))))); obtain rfl := oi hG; exact rt []
def Ga1 (F : Nat) (p_0 : Kq) (p_1 : Int) (p_2 : Int) : Option (Bool) :=
  Option.bind (some (mpG p_0.offices p_1 Kg.z, mpH p_0.offices p_1)) (un2 fun v_1 v_2 =>
  Option.bind (ifB (v_2)
      (ifB (decide (0 ≤ p_2))
        (some (decide (p_2 < (v_1.Entries.length : Int))))
        (some false))
      (some false) : Option (Bool)) (fun (v_7 : Bool) => 
    some v_7))
theorem zai (F : Nat) (p_0_A : Nat) (p_0 : Kl) (p_1 : Int) (p_2 : Int) (r : Bool) (hG : Ga1 F p_0.p p_1 p_2 = some r) :
  Cf Tryz.prog 44 [Pt p_0_A 0, I p_1, I p_2] [fun S W => RecS S W p_0_A 0 p_0.cells, Kl.ok p_0] (B r) := by
 unfold Ga1 at hG
 try simp only [lm_, Ka.n_Hops] at hG
 refine fi Tryz.func44 rfl rfl (mrec (mc Kl.mv m0)) fun S0 w0 hT => rp p_0_A p_0.cells (gd' (fun S W => RecS S W p_0_A 0 p_0.cells) 0) (sq (rg (ra [] f0 [] (tN (sq ?_)))))
 obtain ⟨v_1o, v_2, hy_1, hG⟩ := b2 hG; refine rg (rn 5 [(3, 1, 0, 0)] f0 [(13, .map (some p_0.offices_b)), (14, I p_1)] (l1 (ml2 15 p_0.offices_b p_0.offices p_1 Kd.z Kd.p _ v_2 hy_1 (gm (Kl.ok p_0) 2 fun _ _ h => h.f_offices) Kd.z_ok Tryz.underlying99 Tryz.underlying3 (fun w => by kernel_rfl) fun v_1 he_1 => ?_))); subst he_1
 try simp only [lm_, Ka.n_Hops] at hG
 refine rn 3 [] f0 [(16, .agg #[I v_1.ID, .slice v_1.Entries_A v_1.Entries.length v_1.Entries_c]), (17, B v_2)] (l1 (nw 7 vp [I 0, .slice none 0 0] 53 fun g_3 => l1 (sr 0 g_3 [(0, I v_1.ID), (1, .slice v_1.Entries_A v_1.Entries.length v_1.Entries_c)] (ra [] f0 [(8, B v_2)] (tN ?_))))); obtain ⟨o_6, hG, hG_6⟩ := bs hG; refine jn (fun K E a w => ∃ v_7 : Bool, Js S0 w0 30 ([(6, B v_7)] ++ K) (se E []) (v_7 = o_6) a w) ?_ ?_
 ·rcases ic hG with ⟨h_4, hG⟩ | ⟨h_4, hG⟩
  ·rcases ic hG with ⟨h_5, hG⟩ | ⟨h_5, hG⟩
   ·exact rg (rn 2 [] f0 [(19, B v_2)] (sb 19 (bt h_4) (rn 4 [] f0 [(23, B (decide (0 ≤ p_2)))] (sb 23 (bt h_5) (ra [(2, 1, 0, 1)] f0 [(6, B (decide (p_2 < (v_1.Entries.length : Int))))] (tN (fun _ _ S k e => ⟨decide (p_2 < (v_1.Entries.length : Int)), S, k.wk, e.sel [], oi hG⟩)))))))
   ·exact rg (rn 2 [] f0 [(19, B v_2)] (sb 19 (bt h_4) (rn 4 [] f0 [(23, B (decide (0 ≤ p_2)))] (sb 23 (bf h_5) (ra [] f0 [(6, B false)] (tN (fun _ _ S k e => ⟨false, S, k.wk, e.sel [], oi hG⟩)))))))
  ·exact rg (rn 2 [] f0 [(19, B v_2)] (sb 19 (bf h_4) (ra [] f0 [(6, B false)] (tN (fun _ _ S k e => ⟨false, S, k.wk, e.sel [], oi hG⟩)))))
 ·rintro a w ⟨v_7, hJ⟩; refine hJ.go ?_; clear hJ; rintro rfl; replace hG := hG_6; refine kR ?_; obtain rfl := oi hG; exact rt []
def G1 (F : Nat) (p_0 : Kj) : Option (Kc) :=
 Option.bind (ixI p_0.heads (IntKind.i64.wrap ((p_0.heads.length : Int) - 1))) (fun v_3 =>
 some v_3)
theorem zaa (F : Nat) (p_0 : Ki) (r : Kc) (hG : G1 F p_0.p = some r) :
  Cf Tryz.prog 47 [.agg #[.slice p_0.heads_A p_0.heads.length p_0.heads_c, I p_0.at_]] [Ki.ok p_0] (.agg #[I r.Office, I r.Size, U r.Root, I r.Sig.C, I r.Sig.S]) := by
 unfold G1 at hG
 try simp only [lm_, Ka.n_Hops] at hG
 refine fi Tryz.func47 rfl rfl (mc Ki.mv m0) fun S0 w0 hT => sq (rg (l1 (nw 1 vp [.slice p_0.heads_A p_0.heads.length p_0.heads_c, I p_0.at_] 96 fun g_1 => l1 (nw 2 vp [I 0, I 0, U 0, I 0, I 0] 27 fun g_2 => nl (tN (sq ?_))))))
 obtain ⟨v_3, hy_3, hG⟩ := bs hG; refine rg (fx inf39 (gm (Ki.ok p_0) 2 fun _ _ h => h.f_heads) hy_3 fun b_4 o_5 hi_3 => rn 8 [(1, 1, 2, 0), (1, 1, 2, 0), (2, 0, 0, 0), (0, 5, 0, 0)] (fc (hi_3 .i64) f0) [(10, .agg #[I v_3.Office, I v_3.Size, U v_3.Root, I v_3.Sig.C, I v_3.Sig.S])] (l1 (sr 1 g_2 (ns 0 [I v_3.Office, I v_3.Size, U v_3.Root, I v_3.Sig.C, I v_3.Sig.S]) (nl (tN (kR ?_)))))); obtain rfl := oi hG; exact rt [(1, 0, 5)]
def G0 (F : Nat) (p_0 : Km) : Option ((List Int)) :=
  Option.bind (Option.bind (iter (σ := Int × (List Int)) (ρ := (List Int)) (un2 fun (v_21 : Int) (v_22 : (List Int)) => 
        (ifB (decide (v_21 < (p_0.Hops.length : Int)))
          (Option.bind (ixI p_0.Hops v_21) (fun v_27 =>
          Option.bind (apG 8 v_22 ([v_27.By.Head.Office] : List Int)) (fun v_32 =>
          some (.inl (IntKind.i64.wrap (v_21 + 1), v_32)))))
          (some (.inr v_22)) : Option ((Int × (List Int)) ⊕ (List Int)))) F (0, ([p_0.First.Head.Office] : List Int))) (fun (v_33 : (List Int)) => 
      some v_33) : Option ((List Int))) (fun (v_37 : (List Int)) => 
    some v_37)
theorem zah (F : Nat) (p_0 : Ka) (r : (List Int)) (hG : G0 F p_0.p = some r) :
  Cn Tryz.prog 18 [.agg #[I p_0.First.Head.Office, I p_0.First.Head.Size, U p_0.First.Head.Root, I p_0.First.Head.Sig.C, I p_0.First.Head.Sig.S, I p_0.First.Index, U p_0.First.Entry.Doc, I p_0.First.Entry.Stamp.Lo, I p_0.First.Entry.Stamp.Hi, .slice p_0.First.Path_A p_0.First.Path.length p_0.First.Path_c, .slice p_0.Hops_A p_0.Hops.length p_0.Hops_c, .slice p_0.Grow_A p_0.Grow.length p_0.Grow_c, I p_0.Last.Head.Office, I p_0.Last.Head.Size, U p_0.Last.Head.Root, I p_0.Last.Head.Sig.C, I p_0.Last.Head.Sig.S, I p_0.Last.Index, U p_0.Last.Entry.Doc, I p_0.Last.Entry.Stamp.Lo, I p_0.Last.Entry.Stamp.Hi, .slice p_0.Last.Path_A p_0.Last.Path.length p_0.Last.Path_c]] [Ka.ok p_0] (fun q : Kr => r = q.l) (fun q => .slice q.A q.l.length q.c) (fun q => [RowC q.A q.c c_i64 tr q.l]) := by
 unfold G0 at hG
 try simp only [lm_, Ka.n_Hops] at hG
 refine fin Tryz.func18 rfl rfl (mc Ka.mv m0) fun S0 w0 hT => sq (rg (l1 (nw 1 vp [I p_0.First.Head.Office, I p_0.First.Head.Size, U p_0.First.Head.Root, I p_0.First.Head.Sig.C, I p_0.First.Head.Sig.S, I p_0.First.Index, U p_0.First.Entry.Doc, I p_0.First.Entry.Stamp.Lo, I p_0.First.Entry.Stamp.Hi, .slice p_0.First.Path_A p_0.First.Path.length p_0.First.Path_c, .slice p_0.Hops_A p_0.Hops.length p_0.Hops_c, .slice p_0.Grow_A p_0.Grow.length p_0.Grow_c, I p_0.Last.Head.Office, I p_0.Last.Head.Size, U p_0.Last.Head.Root, I p_0.Last.Head.Sig.C, I p_0.Last.Head.Sig.S, I p_0.Last.Index, U p_0.Last.Entry.Doc, I p_0.Last.Entry.Stamp.Lo, I p_0.Last.Entry.Stamp.Hi, .slice p_0.Last.Path_A p_0.Last.Path.length p_0.Last.Path_c] 37 fun g_1 => ra [] f0 [] (tN (sq (rg (rn 4 [(3, 1, 0, 0)] f0 [(9, I p_0.First.Head.Office)] (l1 (nw 10 (vs 1) [I p_0.First.Head.Office] 3 fun g_2 => ra [] f0 [(3, Sb g_2 1 1)] (tN ?_))))))))))
 obtain ⟨o_36, hG, hG_36⟩ := bs hG; refine jn (fun K E a w => ∃ (v_37 : List Int) (v_38_A : Option Addr) (v_39_c : Nat), Js S0 w0 27 ([(3, .slice v_38_A v_37.length v_39_c)] ++ K) ([.own 3 1 (.slice v_38_A v_37.length v_39_c) v_37.length (v_37.flatMap c_i64)]) (v_37 = o_36) a w) ?_ ?_
 ·refine sq (rg (ra [(1, 1, 1, 10)] f0 (ns 12 [.slice p_0.Hops_A p_0.Hops.length p_0.Hops_c, I (p_0.Hops.length : Int), I 0]) (tN (bk ?_)))); obtain ⟨e_25, hL, hG_25⟩ := bs hG; clear hG; obtain ⟨stp_25, hs_25, hL⟩ := iter_gen hL; refine lp (fun K E n_ a w => ∃ (v_21 : Int) (v_22 : List Int) (v_23_A : Option Addr) (v_24_c : Nat), Js S0 w0 27 ([(3, .slice v_23_A v_22.length v_24_c), (14, I v_21)] ++ K) ([.dat (RowC p_0.Hops_A p_0.Hops_c Ke.cells Ke.ok p_0.Hops), .own 3 1 (.slice v_23_A v_22.length v_24_c) v_22.length (v_22.flatMap c_i64)]) (iter stp_25 n_ (v_21, v_22) = some e_25) a w) F ?_ ?_
  ·exact fg (Ka.ok p_0) 2 (fun _ _ h => h.f_Hops) (bo 1 1 1 g_2 3 [I p_0.First.Head.Office] (fun _ _ S k e => ⟨0, ([p_0.First.Head.Office] : List Int), (some ⟨g_2, 0, none⟩), 1, S, k.wk, e.sel [0, 1], hL⟩))
  ·clear hL; rintro n_25 a w ⟨v_21, v_22, v_23_A, v_24_c, hJ⟩; refine hJ.go fun hL => ?_
   clear hJ; obtain ⟨m_25, o_25, rfl, hG, hO1_25, hO2_25⟩ := iter_step hL; clear hL; rw [hs_25] at hG; refine sq (rg (ra [] f0 [(15, B (decide (v_21 < (p_0.Hops.length : Int))))] (tN (sq ?_)))); rcases ic hG with ⟨h_26, hG⟩ | ⟨h_26, hG⟩
   ·try simp only [lm_, Ka.n_Hops] at h_26
    refine sb 15 (bt h_26) (ct (kS (tN (sq (bk (sq ?_)))))); obtain ⟨v_27o, hy_27, hG⟩ := bs hG; refine rg (fxn (p := Ke.p) inf35 (gd' (RowC p_0.Hops_A p_0.Hops_c Ke.cells Ke.ok p_0.Hops) 0) hy_27 fun v_27 b_28 o_29 he_27 hi_27 => ?_); subst he_27
    try simp only [lm_, Ka.n_Hops] at hG
    refine rn 2 [(0, 0, 0, 0), (0, 16, 0, 0)] (fc (hi_27 .i64) f0) [(17, .agg #[I v_27.Of.Office, I v_27.Of.Size, U v_27.Of.Root, I v_27.Of.Sig.C, I v_27.Of.Sig.S, .slice v_27.Grow_A v_27.Grow.length v_27.Grow_c, I v_27.By.Head.Office, I v_27.By.Head.Size, U v_27.By.Head.Root, I v_27.By.Head.Sig.C, I v_27.By.Head.Sig.S, I v_27.By.Index, U v_27.By.Entry.Doc, I v_27.By.Entry.Stamp.Lo, I v_27.By.Entry.Stamp.Hi, .slice v_27.By.Path_A v_27.By.Path.length v_27.By.Path_c])] (l1 (nw 5 vp (Ke.cells Ke.z) 79 fun g_30 => l1 (sr 0 g_30 (ns 0 [I v_27.Of.Office, I v_27.Of.Size, U v_27.Of.Root, I v_27.Of.Sig.C, I v_27.Of.Sig.S, .slice v_27.Grow_A v_27.Grow.length v_27.Grow_c, I v_27.By.Head.Office, I v_27.By.Head.Size, U v_27.By.Head.Root, I v_27.By.Head.Sig.C, I v_27.By.Head.Sig.S, I v_27.By.Index, U v_27.By.Entry.Doc, I v_27.By.Entry.Stamp.Lo, I v_27.By.Entry.Stamp.Hi, .slice v_27.By.Path_A v_27.By.Path.length v_27.By.Path_c]) (nl (tN ?_))))); obtain ⟨v_32, hy_32, hG⟩ := bs hG; exact rg (rn 5 [(4, 1, 0, 6)] f0 [(18, .slice v_23_A v_22.length v_24_c), (22, I v_27.By.Head.Office)] (l1 (nw 23 (vs 1) [I v_27.By.Head.Office] 3 fun g_31 => l1 (ap 5 24 v_23_A v_24_c v_22 ([v_27.By.Head.Office] : List Int) inf22 (bA (f := c_i64) (ok := tr) (l := ([v_27.By.Head.Office] : List Int)) g_31 0 et.a) hy_32 one_i64 fun v_32_A v_32_c _ => ra [] f0 [(3, .slice v_32_A v_32.length v_32_c)] (hN (tN (rg (ra [] f0 [(14, I (IntKind.i64.wrap (v_21 + 1)))] (tN (fun a w S hK hE => ⟨m_25, ⟨IntKind.i64.wrap (v_21 + 1), v_32, v_32_A, v_32_c, S, hK.wk, hE.sel [4, 5], hO1_25 _ (oi hG).symm⟩, Nat.lt_succ_self _⟩))))))))))
   ·try simp only [lm_, Ka.n_Hops] at h_26
    refine sb 15 (bf h_26) (cf (kX (tX (tX ?_)))); have he_ := hO2_25 _ (oi hG).symm; subst he_; replace hG := hG_25; exact hH (tN (fun _ _ S k e => ⟨v_22, v_23_A, v_24_c, S, k.wk, e.sel [1], oi hG⟩))
 ·rintro a w ⟨v_37, v_38_A, v_39_c, hJ⟩; refine hJ.go ?_; clear hJ; rintro rfl; replace hG := hG_36; refine sq (rg (ra [] f0 [(2, .slice v_38_A v_37.length v_39_c)] (tN (kR ?_)))); obtain rfl := oi hG; exact so (A := v_38_A) (c := v_39_c) 0 c_i64 tr v_37 tr_mv et (rtn [] ⟨v_38_A, v_39_c, v_37⟩ rfl ⟨gi 0, trivial⟩)
def Gn (F : Nat) (p_0 : Int) (p_1 : Int) (p_2 : Int) : Option (Int) :=
  Option.bind (Option.bind (iter (σ := Int × Int × Int × Int) (ρ := Int) (un4 fun (v_19 : Int) (v_20 : Int) (v_21 : Int) (v_22 : Int) => 
        (ifB (decide (v_20 > 0))
          (Option.bind (ifB (((Int.tmod v_20 2) == 1))
              (Option.bind (whenG (!(v_21 == 0)) ()) (fun v_26 =>
              some (Int.tmod (IntKind.i64.wrap (v_22 * v_19)) v_21)))
              (some v_22) : Option (Int)) (fun (v_28 : Int) => 
            Option.bind (whenG (!(v_21 == 0)) ()) (fun v_29 =>
            some (.inl (Int.tmod (IntKind.i64.wrap (v_19 * v_19)) v_21, IntKind.i64.wrap (Int.tdiv v_20 2), v_21, v_28)))))
          (some (.inr v_22)) : Option ((Int × Int × Int × Int) ⊕ Int))) F (p_0, p_1, p_2, 1)) (fun (v_30 : Int) => 
      some v_30) : Option (Int)) (fun (v_32 : Int) => 
    some v_32)
theorem zac (F : Nat) (p_0 : Int) (p_1 : Int) (p_2 : Int) (r : Int) (hG : Gn F p_0 p_1 p_2 = some r) :
  Cf Tryz.prog 72 [I p_0, I p_1, I p_2] [] (I r) := by
 unfold Gn at hG; refine fi Tryz.func72 rfl rfl m0 fun S0 w0 hT => sq (rg (ra [] f0 [] (tN (sq (rg (ra [] f0 [(7, I 1)] (tN ?_)))))))
 obtain ⟨o_31, hG, hG_31⟩ := bs hG; refine jn (fun K E a w => ∃ v_32 : Int, Js S0 w0 26 ([(7, I v_32)] ++ dk [0, 1, 2] K) (se E []) (v_32 = o_31) a w) ?_ ?_
 ·refine bk ?_; obtain ⟨e_23, hL, hG_23⟩ := bs hG; clear hG; obtain ⟨stp_23, hs_23, hL⟩ := iter_gen hL; refine lp (fun K E n_ a w => ∃ v_19 v_20 v_21 v_22 : Int, Js S0 w0 26 ([(0, I v_19), (1, I v_20), (2, I v_21), (7, I v_22)] ++ K) (se E []) (iter stp_23 n_ (v_19, v_20, v_21, v_22) = some e_23) a w) F ?_ ?_
  ·exact fun _ _ S k e => ⟨p_0, p_1, p_2, 1, S, k.wk, e.sel [], hL⟩
  ·clear hL; rintro n_23 a w ⟨v_19, v_20, v_21, v_22, hJ⟩; refine hJ.go fun hL => ?_
   clear hJ; obtain ⟨m_23, o_23, rfl, hG, hO1_23, hO2_23⟩ := iter_step hL; clear hL; rw [hs_23] at hG; refine sq (sq (rg (ra [] f0 [(9, B (decide (v_20 > 0)))] (tN ?_)))); rcases ic hG with ⟨h_24, hG⟩ | ⟨h_24, hG⟩
   ·refine sb 9 (bt h_24) (ct (kS (tN (bk ?_)))); obtain ⟨o_27, hG, hG_27⟩ := bs hG; refine jn (fun K E a w => ∃ v_28 : Int, Js S0 w0 26 ([(7, I v_28)] ++ K) (se E []) (v_28 = o_27) a w) ?_ ?_
    ·refine sq (rg (ra [(1, 0, 0, 0)] (fc (fun W => run_rem (T := 3) (k := .i64) (p := v_20) (q := 2) (by decide) W) f0) [(12, B ((Int.tmod v_20 2) == 1))] (tN ?_))); rcases ic hG with ⟨h_25, hG⟩ | ⟨h_25, hG⟩
     ·refine sb 12 (bt h_25) (ct ?_); obtain ⟨v_26, hy_26, hG⟩ := bs hG; exact rg (ra [(4, 0, 0, 0)] (fc (fun W => run_rem (T := 3) (k := .i64) (p := IntKind.i64.wrap (v_22 * v_19)) (q := v_21) (nz_of (whenG_some hy_26).1) W) f0) [(7, I (Int.tmod (IntKind.i64.wrap (v_22 * v_19)) v_21))] (tN (fun _ _ S k e => ⟨Int.tmod (IntKind.i64.wrap (v_22 * v_19)) v_21, S, k.wk, e.sel [], oi hG⟩)))
     ·exact sb 12 (bf h_25) (cf (kS (tN (fun _ _ S k e => ⟨v_22, S, k.wk, e.sel [], oi hG⟩))))
    ·rintro a w ⟨v_28, hJ⟩; refine hJ.go ?_; clear hJ; rintro rfl; replace hG := hG_27; refine sq ?_; obtain ⟨v_29, hy_29, hG⟩ := bs hG; exact rg (ra [(4, 0, 0, 0)] (fc (fun W => run_rem (T := 3) (k := .i64) (p := IntKind.i64.wrap (v_19 * v_19)) (q := v_21) (nz_of (whenG_some hy_29).1) W) f0) [(0, I (Int.tmod (IntKind.i64.wrap (v_19 * v_19)) v_21))] (tN (rg (ra [(1, 0, 0, 0)] (fc (fun W => run_quo (T := 3) (k := .i64) (p := v_20) (q := 2) (by decide) W) f0) [(1, I (IntKind.i64.wrap (Int.tdiv v_20 2)))] (hN (tN (fun a w S hK hE => ⟨m_23, ⟨Int.tmod (IntKind.i64.wrap (v_19 * v_19)) v_21, IntKind.i64.wrap (Int.tdiv v_20 2), v_21, v_28, S, hK.wk, hE.sel [], hO1_23 _ (oi hG).symm⟩, Nat.lt_succ_self _⟩)))))))
   ·refine sb 9 (bf h_24) (cf (kX (tX (tX ?_)))); have he_ := hO2_23 _ (oi hG).symm; subst he_; replace hG := hG_23; exact hH (tN (fun _ _ S k e => ⟨v_22, S, k.wk, e.sel [], oi hG⟩))
 ·rintro a w ⟨v_32, hJ⟩; refine hJ.go ?_; clear hJ; rintro rfl; replace hG := hG_31; refine sq (rg (ra [] f0 [(6, I v_32)] (tN (kR ?_)))); obtain rfl := oi hG; exact rt []
def G9 (F : Nat) (p_0 : List Int) (p_1 : List Int) : Option (Bool) :=
  ifB (((p_0.length : Int) == (p_1.length : Int)))
    (Option.bind (Option.bind (iter (σ := Int) (ρ := Unit ⊕ Unit) (fun (v_19 : Int) => 
          (ifB (decide (v_19 < (p_0.length : Int)))
            (Option.bind (ixI p_0 v_19) (fun v_22 =>
            Option.bind (ixI p_1 v_19) (fun v_25 =>
            ifB ((v_22 == v_25))
              (some (.inl (IntKind.i64.wrap (v_19 + 1))))
              (some (.inr (.inr ()))))))
            (some (.inr (.inl ()))) : Option (Int ⊕ (Unit ⊕ Unit)))) F 0) (Sum.elim (fun (_ : Unit) => 
        some (.inl ())) (fun (_ : Unit) => 
        some (.inr ()))) : Option (Unit ⊕ Unit)) (Sum.elim (fun (_ : Unit) => 
      some true) (fun (_ : Unit) => 
      some false)))
    (some false)
theorem zar (F : Nat) (p_0_A : Option Addr) (p_0_c : Nat) (p_0 : List Int) (p_1_A : Option Addr) (p_1_c : Nat) (p_1 : List Int) (r : Bool) (hG : G9 F p_0 p_1 = some r) :
  Cf Tryz.prog 17 [.slice p_0_A p_0.length p_0_c, .slice p_1_A p_1.length p_1_c] [RowC p_0_A p_0_c c_i64 tr p_0, RowC p_1_A p_1_c c_i64 tr p_1] (B r) := by
 unfold G9 at hG
 try simp only [lm_, Ka.n_Hops] at hG
 refine fi Tryz.func17 rfl rfl (mr tr_mv (mr tr_mv m0)) fun S0 w0 hT => sq (rg (ra [] f0 [] (tN (sq (sq (rg (ra [] f0 [(10, B (!((p_0.length : Int) == (p_1.length : Int))))] (tN ?_))))))))
 rcases ic hG with ⟨h_1, hG⟩ | ⟨h_1, hG⟩
 ·try simp only [lm_, Ka.n_Hops] at h_1
  refine sb 10 (nt h_1) (cf (kS (tN ?_))); obtain ⟨o_29, hG, hG_29⟩ := bs hG; refine jn (fun K E a w => Js S0 w0 26 (K) (se E []) (.inl () = o_29) a w) ?_ ?_
  ·refine sq (rg (ra [] f0 [(5, I 0)] (tN (bk ?_)))); obtain ⟨e_20, hL, hG_20⟩ := bs hG; clear hG; obtain ⟨stp_20, hs_20, hL⟩ := iter_gen hL; refine lp (fun K E n_ a w => ∃ v_19 : Int, Js S0 w0 26 ([(5, I v_19)] ++ K) (se E [0, 1]) (iter stp_20 n_ v_19 = some e_20) a w) F ?_ ?_
   ·exact fun _ _ S k e => ⟨0, S, k.wk, e.sel [0, 1], hL⟩
   ·clear hL; rintro n_20 a w ⟨v_19, hJ⟩; refine hJ.go fun hL => ?_
    clear hJ; obtain ⟨m_20, o_20, rfl, hG, hO1_20, hO2_20⟩ := iter_step hL; clear hL; rw [hs_20] at hG; refine sq (sq (rg (ra [] f0 [(14, B (decide (v_19 < (p_0.length : Int))))] (tN ?_)))); rcases ic hG with ⟨h_21, hG⟩ | ⟨h_21, hG⟩
    ·try simp only [lm_, Ka.n_Hops] at h_21
     refine sb 14 (bt h_21) (ct (kS (tN (sq (bk (sq ?_)))))); obtain ⟨v_22, hy_22, hG⟩ := bs hG; obtain ⟨v_25, hy_25, hG⟩ := bs hG; refine qb (fx inf22 (gd' (RowC p_0_A p_0_c c_i64 tr p_0) 0) hy_22 fun b_23 o_24 hi_22 => fx inf22 (gd' (RowC p_1_A p_1_c c_i64 tr p_1) 2) hy_25 fun b_26 o_27 hi_25 => qa [(2, 0, 0, 0), (0, 1, 1, 0), (2, 0, 0, 0), (0, 1, 0, 0)] (fc (hi_22 .i64) (fc (hi_25 .i64) f0)) [(25, B (!(v_22 == v_25)))] (tN ?_)); rcases ic hG with ⟨h_28, hG⟩ | ⟨h_28, hG⟩
     ·exact sb 25 (nt h_28) (cf (kS (hN (tN (rg (ra [] f0 [(5, I (IntKind.i64.wrap (v_19 + 1)))] (tN (fun a w S hK hE => ⟨m_20, ⟨IntKind.i64.wrap (v_19 + 1), S, hK.wk, hE.sel [2, 3], hO1_20 _ (oi hG).symm⟩, Nat.lt_succ_self _⟩))))))))
     ·refine sb 25 (nf h_28) (ct (sq (rg (ra [] f0 [(4, B false)] (tN (kR (hR (tR (tR ?_))))))))); have he_ := hO2_20 _ (oi hG).symm; subst he_; replace hG := hG_20; refine hR (tR ?_); obtain rfl := oi hG; replace hG := hG_29; obtain rfl := oi hG; exact rt []
    ·try simp only [lm_, Ka.n_Hops] at h_21
     refine sb 14 (bf h_21) (cf (kX (tX (tX ?_)))); have he_ := hO2_20 _ (oi hG).symm; subst he_; replace hG := hG_20; exact hH (tN (fun _ _ S k e => ⟨S, k.wk, e.sel [], oi hG⟩))
  ·rintro a w hJ; refine hJ.go ?_; clear hJ; rintro rfl; replace hG := el hG_29; refine sq (rg (ra [] f0 [(4, B true)] (tN (kR ?_)))); obtain rfl := oi hG; exact rt []
 ·try simp only [lm_, Ka.n_Hops] at h_1
  refine sb 10 (nf h_1) (ct (sq (rg (ra [] f0 [(4, B false)] (tN (kR (tR ?_))))))); obtain rfl := oi hG; exact rt []
def Gan (F : Nat) (p_0 : Kb) : Option (Int) :=
 Option.bind (Gbz F p_0.Doc ([p_0.Stamp.Lo, p_0.Stamp.Hi] : List Int)) (fun v_3 =>
 some v_3)
theorem za4 (F : Nat) (p_0 : Kb) (r : Int) (hG : Gan F p_0 = some r) :
  Cf Tryz.prog 71 [.agg #[U p_0.Doc, I p_0.Stamp.Lo, I p_0.Stamp.Hi]] [] (U r) := by
 unfold Gan at hG; refine fi Tryz.func71 rfl rfl m0 fun S0 w0 hT => sq (rg (l1 (nw 1 vp [U p_0.Doc, I p_0.Stamp.Lo, I p_0.Stamp.Hi] 31 fun g_1 => ra [] f0 [] (tN (sq ?_)))))
 obtain ⟨v_3, hy_3, hG⟩ := bs hG; refine rg (rn 8 [(1, 1, 0, 0), (2, 1, 0, 1), (2, 1, 0, 2)] f0 [(4, U p_0.Doc), (7, I p_0.Stamp.Lo), (10, I p_0.Stamp.Hi)] (l1 (nw 11 (vs 2) [I p_0.Stamp.Lo, I p_0.Stamp.Hi] 3 fun g_2 => l1 (cl 12 (zbq F p_0.Doc (some ⟨g_2, 0, none⟩) 2 ([p_0.Stamp.Lo, p_0.Stamp.Hi] : List Int) _ hy_3) hT ⟨ba 0 et.a, trivial⟩ (ra [] f0 [(2, U v_3)] (tN (kR ?_))))))); obtain rfl := oi hG; exact rt []
def Ga8 (F : Nat) (p_0 : Kf) : Option (Bool) :=
  Option.bind (ifB (decide (0 ≤ p_0.Lo))
      (ifB (decide (p_0.Lo ≤ p_0.Hi))
        (some (decide (p_0.Hi ≤ 3000000000000000)))
        (some false))
      (some false) : Option (Bool)) (fun (v_5 : Bool) => 
    some v_5)
theorem za0 (F : Nat) (p_0 : Kf) (r : Bool) (hG : Ga8 F p_0 = some r) :
  Cf Tryz.prog 57 [.agg #[I p_0.Lo, I p_0.Hi]] [] (B r) := by
 unfold Ga8 at hG; refine fi Tryz.func57 rfl rfl m0 fun S0 w0 hT => sq (rg (l1 (nw 1 vp [I p_0.Lo, I p_0.Hi] 29 fun g_1 => ra [] f0 [] (tN ?_))))
 obtain ⟨o_4, hG, hG_4⟩ := bs hG; refine jn (fun K E a w => ∃ v_5 : Bool, Js S0 w0 18 ([(2, B v_5)] ++ K) (se E []) (v_5 = o_4) a w) ?_ ?_
 ·rcases ic hG with ⟨h_2, hG⟩ | ⟨h_2, hG⟩
  ·rcases ic hG with ⟨h_3, hG⟩ | ⟨h_3, hG⟩
   ·exact rg (rn 4 [(1, 1, 0, 0)] f0 [(6, B (decide (0 ≤ p_0.Lo)))] (sb 6 (bt h_2) (rn 7 [(1, 1, 0, 0), (1, 1, 0, 1)] f0 [(13, B (decide (p_0.Lo ≤ p_0.Hi)))] (sb 13 (bt h_3) (ra [(1, 1, 0, 1)] f0 [(2, B (decide (p_0.Hi ≤ 3000000000000000)))] (tN (fun _ _ S k e => ⟨decide (p_0.Hi ≤ 3000000000000000), S, k.wk, e.sel [], oi hG⟩)))))))
   ·exact rg (rn 4 [(1, 1, 0, 0)] f0 [(6, B (decide (0 ≤ p_0.Lo)))] (sb 6 (bt h_2) (rn 7 [(1, 1, 0, 0), (1, 1, 0, 1)] f0 [(13, B (decide (p_0.Lo ≤ p_0.Hi)))] (sb 13 (bf h_3) (ra [] f0 [(2, B false)] (tN (fun _ _ S k e => ⟨false, S, k.wk, e.sel [], oi hG⟩)))))))
  ·exact rg (rn 4 [(1, 1, 0, 0)] f0 [(6, B (decide (0 ≤ p_0.Lo)))] (sb 6 (bf h_2) (ra [] f0 [(2, B false)] (tN (fun _ _ S k e => ⟨false, S, k.wk, e.sel [], oi hG⟩)))))
 ·rintro a w ⟨v_5, hJ⟩; refine hJ.go ?_; clear hJ; rintro rfl; replace hG := hG_4; refine kR ?_; obtain rfl := oi hG; exact rt []
def Gt (F : Nat) (p_0 : Int) : Option (Bool) :=
  Option.bind (ifB (decide (p_0 ≥ 0))
      (some (decide (p_0 < 1073741789)))
      (some false) : Option (Bool)) (fun (v_3 : Bool) => 
    some v_3)
theorem zv (F : Nat) (p_0 : Int) (r : Bool) (hG : Gt F p_0 = some r) :
  Cf Tryz.prog 138 [I p_0] [] (B r) := by
 unfold Gt at hG; refine fi Tryz.func138 rfl rfl m0 fun S0 w0 hT => sq (rg (ra [] f0 [] (tN ?_)))
 obtain ⟨o_2, hG, hG_2⟩ := bs hG; refine jn (fun K E a w => ∃ v_3 : Bool, Js S0 w0 9 ([(2, B v_3)] ++ K) (se E []) (v_3 = o_2) a w) ?_ ?_
 ·rcases ic hG with ⟨h_1, hG⟩ | ⟨h_1, hG⟩
  ·exact rg (rn 3 [] f0 [(5, B (decide (p_0 ≥ 0)))] (sb 5 (bt h_1) (ra [] f0 [(2, B (decide (p_0 < 1073741789)))] (tN (fun _ _ S k e => ⟨decide (p_0 < 1073741789), S, k.wk, e.sel [], oi hG⟩)))))
  ·exact rg (rn 3 [] f0 [(5, B (decide (p_0 ≥ 0)))] (sb 5 (bf h_1) (ra [] f0 [(2, B false)] (tN (fun _ _ S k e => ⟨false, S, k.wk, e.sel [], oi hG⟩)))))
 ·rintro a w ⟨v_3, hJ⟩; refine hJ.go ?_; clear hJ; rintro rfl; replace hG := hG_2; refine kR ?_; obtain rfl := oi hG; exact rt []
def Gbc (F : Nat) (p_0 : Int) (p_1 : Int) (p_2 : List Int) : Option (Int) :=
 Option.bind (apG 8 ([p_0, p_1] : List Int) p_2) (fun v_2 =>
 Option.bind (Ga9 F v_2) (fun v_3 =>
 some (IntKind.i64.wrap (Int.tmod v_3 1073741789))))
theorem zbt (F : Nat) (p_0 : Int) (p_1 : Int) (p_2_A : Option Addr) (p_2_c : Nat) (p_2 : List Int) (r : Int) (hG : Gbc F p_0 p_1 p_2 = some r) :
  Cf Tryz.prog 166 [I p_0, I p_1, .slice p_2_A p_2.length p_2_c] [RowC p_2_A p_2_c c_i64 tr p_2] (I r) := by
 unfold Gbc at hG
 try simp only [lm_, Ka.n_Hops] at hG
 refine fi Tryz.func166 rfl rfl (mr tr_mv m0) fun S0 w0 hT => sq (rg (ra [] f0 [] (tN (sq (rg (rn 2 [] f0 [(8, I p_0), (9, I p_1)] (l1 (nw 10 (vs 2) [I p_0, I p_1] 3 fun g_1 => ra [] f0 [(7, Sb g_1 2 2)] (tN (sq ?_))))))))))
 obtain ⟨v_2, hy_2, hG⟩ := bs hG; refine rg (rn 2 [] f0 [(11, Sb g_1 2 2), (12, .slice p_2_A p_2.length p_2_c)] (bo 0 1 2 g_1 3 [I p_0, I p_1] (l1 (ap 0 13 (some ⟨g_1, 0, none⟩) 2 ([p_0, p_1] : List Int) p_2 inf22 ((gd' (RowC p_2_A p_2_c c_i64 tr p_2) 1).a) hy_2 one_i64 fun v_2_A v_2_c _ => ra [] f0 [(7, .slice v_2_A v_2.length v_2_c)] (tN (sq ?_)))))); obtain ⟨v_3, hy_3, hG⟩ := bs hG; refine rg (rn 1 [] f0 [(14, .slice v_2_A v_2.length v_2_c)] (l1 (cl 15 (za1 F v_2_A v_2_c v_2 _ hy_3) hT ⟨oa 0 et.a, trivial⟩ (ra [(0, 0, 0, 0)] (fc (fun W => run_rem (T := 23) (k := .u64) (p := v_3) (q := 1073741789) (by decide) W) f0) [(6, I (IntKind.i64.wrap (Int.tmod v_3 1073741789)))] (tN (kR ?_)))))); obtain rfl := oi hG; exact rt []
def Gbf (F : Nat) (p_0 : Kc) : Option ((List Int)) :=
 some ([p_0.Office, p_0.Size, IntKind.i64.wrap (Int.fdiv p_0.Root (2 ^ 32)), IntKind.i64.wrap (bits BinOp.and IntKind.u64 p_0.Root 4294967295)] : List Int)
theorem zby (F : Nat) (p_0 : Kc) (r : (List Int)) (hG : Gbf F p_0 = some r) :
  Cn Tryz.prog 161 [.agg #[I p_0.Office, I p_0.Size, U p_0.Root, I p_0.Sig.C, I p_0.Sig.S]] [] (fun q : Kr => r = q.l) (fun q => .slice q.A q.l.length q.c) (fun q => [RowC q.A q.c c_i64 tr q.l]) := by
 unfold Gbf at hG; refine fin Tryz.func161 rfl rfl m0 fun S0 w0 hT => sq (rg (l1 (nw 1 vp [I p_0.Office, I p_0.Size, U p_0.Root, I p_0.Sig.C, I p_0.Sig.S] 27 fun g_1 => ra [] f0 [] (tN (sq (rg (rn 12 [(1, 1, 0, 0), (1, 1, 0, 1), (1, 1, 0, 2), (3, 1, 0, 2)] f0 [(4, I p_0.Office), (6, I p_0.Size), (10, I (IntKind.i64.wrap (Int.fdiv p_0.Root (2 ^ 32)))), (14, I (IntKind.i64.wrap (bits BinOp.and IntKind.u64 p_0.Root 4294967295)))] (l1 (nw 15 (vs 4) [I p_0.Office, I p_0.Size, I (IntKind.i64.wrap (Int.fdiv p_0.Root (2 ^ 32))), I (IntKind.i64.wrap (bits BinOp.and IntKind.u64 p_0.Root 4294967295))] 3 fun g_2 => ra [] f0 [(2, Sb g_2 4 4)] (tN (kR ?_)))))))))))
 obtain rfl := oi hG; exact sB 0 g_2 c_i64 tr ([p_0.Office, p_0.Size, IntKind.i64.wrap (Int.fdiv p_0.Root (2 ^ 32)), IntKind.i64.wrap (bits BinOp.and IntKind.u64 p_0.Root 4294967295)] : List Int) tr_mv et (rtn [] ⟨(some ⟨g_2, 0, none⟩), 4, ([p_0.Office, p_0.Size, IntKind.i64.wrap (Int.fdiv p_0.Root (2 ^ 32)), IntKind.i64.wrap (bits BinOp.and IntKind.u64 p_0.Root 4294967295)] : List Int)⟩ rfl ⟨gi 0, trivial⟩)
def G6 (F : Nat) (p_0 : Kc) : Option (Int) :=
 Option.bind (Ga9 F ([p_0.Office, p_0.Size, IntKind.i64.wrap (Int.fdiv p_0.Root (2 ^ 32)), IntKind.i64.wrap (bits BinOp.and IntKind.u64 p_0.Root 4294967295), p_0.Sig.C, p_0.Sig.S] : List Int)) (fun v_3 =>
 some v_3)
theorem zam (F : Nat) (p_0 : Kc) (r : Int) (hG : G6 F p_0 = some r) :
  Cf Tryz.prog 30 [.agg #[I p_0.Office, I p_0.Size, U p_0.Root, I p_0.Sig.C, I p_0.Sig.S]] [] (U r) := by
 unfold G6 at hG; refine fi Tryz.func30 rfl rfl m0 fun S0 w0 hT => sq (rg (l1 (nw 1 vp [I p_0.Office, I p_0.Size, U p_0.Root, I p_0.Sig.C, I p_0.Sig.S] 27 fun g_1 => ra [] f0 [] (tN (sq ?_)))))
 obtain ⟨v_3, hy_3, hG⟩ := bs hG; refine rg (rn 18 [(1, 1, 0, 0), (1, 1, 0, 1), (1, 1, 0, 2), (3, 1, 0, 2), (4, 1, 0, 3), (2, 1, 0, 4)] f0 [(4, I p_0.Office), (6, I p_0.Size), (10, I (IntKind.i64.wrap (Int.fdiv p_0.Root (2 ^ 32)))), (14, I (IntKind.i64.wrap (bits BinOp.and IntKind.u64 p_0.Root 4294967295))), (17, I p_0.Sig.C), (20, I p_0.Sig.S)] (l1 (nw 21 (vs 6) [I p_0.Office, I p_0.Size, I (IntKind.i64.wrap (Int.fdiv p_0.Root (2 ^ 32))), I (IntKind.i64.wrap (bits BinOp.and IntKind.u64 p_0.Root 4294967295)), I p_0.Sig.C, I p_0.Sig.S] 3 fun g_2 => l1 (cl 22 (za1 F (some ⟨g_2, 0, none⟩) 6 ([p_0.Office, p_0.Size, IntKind.i64.wrap (Int.fdiv p_0.Root (2 ^ 32)), IntKind.i64.wrap (bits BinOp.and IntKind.u64 p_0.Root 4294967295), p_0.Sig.C, p_0.Sig.S] : List Int) _ hy_3) hT ⟨ba 0 et.a, trivial⟩ (ra [] f0 [(2, U v_3)] (tN (kR ?_))))))); obtain rfl := oi hG; exact rt []
def Gbl (F : Nat) (p_0 : List Kg) (p_1 : List Kc) : Option (Bool) :=
  Option.bind (Option.bind (iter (σ := (List Kc) × Int) (ρ := (List Kc) ⊕ Unit) (un2 fun (v_18 : (List Kc)) (v_21 : Int) => 
        (ifB (decide (v_21 < (p_0.length : Int)))
          (Option.bind (ixI p_0 v_21) (fun v_24 =>
          ifB (decide ((v_24.Entries.length : Int) > 40))
            (some (.inr (.inr ())))
            (some (.inl (v_18, IntKind.i64.wrap (v_21 + 1))))))
          (some (.inr (.inl v_18))) : Option (((List Kc) × Int) ⊕ ((List Kc) ⊕ Unit)))) F (p_1, 0)) (Sum.elim (fun (v_28 : (List Kc)) => 
      some (.inl v_28)) (fun (_ : Unit) => 
      some (.inr ()))) : Option ((List Kc) ⊕ Unit)) (Sum.elim (fun (v_32 : (List Kc)) => 
    Option.bind (ifB (decide ((p_0.length : Int) ≤ 6))
        (some (decide ((v_32.length : Int) ≤ 20)))
        (some false) : Option (Bool)) (fun (v_37 : Bool) => 
      some v_37)) (fun (_ : Unit) => 
    some false))
theorem zaq (F : Nat) (p_0_A : Option Addr) (p_0_c : Nat) (p_0 : List Kd) (p_1_A : Option Addr) (p_1_c : Nat) (p_1 : List Kc) (r : Bool) (hG : Gbl F (p_0.map Kd.p) p_1 = some r) :
  Cf Tryz.prog 11 [.slice p_0_A p_0.length p_0_c, .slice p_1_A p_1.length p_1_c] [RowC p_0_A p_0_c Kd.cells Kd.ok p_0, RowC p_1_A p_1_c Kc.cells tr p_1] (B r) := by
 unfold Gbl at hG
 try simp only [lm_, Ka.n_Hops] at hG
 refine fi Tryz.func11 rfl rfl (mr Kd.mv (mr tr_mv m0)) fun S0 w0 hT => sq (rg (ra [] f0 [] (tN ?_)))
 obtain ⟨o_31, hG, hG_31⟩ := bs hG; refine jn (fun K E a w => ∃ (v_32 : List Kc) (v_33_A : Option Addr) (v_34_c : Nat), Js S0 w0 27 ([(1, .slice v_33_A v_32.length v_34_c)] ++ K) ([.dat (RowC v_33_A v_34_c Kc.cells tr v_32)] ++ se E [0]) (.inl v_32 = o_31) a w) ?_ ?_
 ·refine sq (rg (ra [] f0 [(5, I 0)] (tN (bk ?_)))); obtain ⟨e_22, hL, hG_22⟩ := bs hG; clear hG; obtain ⟨stp_22, hs_22, hL⟩ := iter_gen hL; refine lp (fun K E n_ a w => ∃ (v_18 : List Kc) (v_19_A : Option Addr) (v_20_c : Nat) (v_21 : Int), Js S0 w0 27 ([(1, .slice v_19_A v_18.length v_20_c), (5, I v_21)] ++ K) ([.dat (RowC v_19_A v_20_c Kc.cells tr v_18)] ++ se E [0]) (iter stp_22 n_ (v_18, v_21) = some e_22) a w) F ?_ ?_
  ·exact fun _ _ S k e => ⟨p_1, p_1_A, p_1_c, 0, S, k.wk, e.sel [1, 0], hL⟩
  ·clear hL; rintro n_22 a w ⟨v_18, v_19_A, v_20_c, v_21, hJ⟩; refine hJ.go fun hL => ?_
   clear hJ; obtain ⟨m_22, o_22, rfl, hG, hO1_22, hO2_22⟩ := iter_step hL; clear hL; rw [hs_22] at hG; refine sq (sq (rg (ra [] f0 [(9, B (decide (v_21 < (p_0.length : Int))))] (tN ?_)))); rcases ic hG with ⟨h_23, hG⟩ | ⟨h_23, hG⟩
   ·try simp only [lm_, Ka.n_Hops] at h_23
    refine sb 9 (bt h_23) (ct (kS (tN (sq (bk (sq ?_)))))); obtain ⟨v_24o, hy_24, hG⟩ := bs hG; refine rg (fxn (p := Kd.p) inf38 (gd' (RowC p_0_A p_0_c Kd.cells Kd.ok p_0) 1) hy_24 fun v_24 b_25 o_26 he_24 hi_24 => ?_); subst he_24
    try simp only [lm_, Ka.n_Hops] at hG
    refine ra [(2, 0, 0, 0), (1, 1, 0, 1)] (fc (hi_24 .i64) f0) [(18, B (decide ((v_24.Entries.length : Int) > 40)))] (tN ?_); rcases ic hG with ⟨h_27, hG⟩ | ⟨h_27, hG⟩
    ·try simp only [lm_, Ka.n_Hops] at h_27
     refine sb 18 (bt h_27) (ct (sq (rg (ra [] f0 [(4, B false)] (tN (kR (hR (tR (tR ?_))))))))); have he_ := hO2_22 _ (oi hG).symm; subst he_; replace hG := hG_22; refine hR (tR ?_); obtain rfl := oi hG; replace hG := hG_31; obtain rfl := oi hG; exact rt []
    ·try simp only [lm_, Ka.n_Hops] at h_27
     exact sb 18 (bf h_27) (cf (kS (hN (tN (rg (ra [] f0 [(5, I (IntKind.i64.wrap (v_21 + 1)))] (tN (fun a w S hK hE => ⟨m_22, ⟨v_18, v_19_A, v_20_c, IntKind.i64.wrap (v_21 + 1), S, hK.wk, hE.sel [2, 3], hO1_22 _ (oi hG).symm⟩, Nat.lt_succ_self _⟩))))))))
   ·try simp only [lm_, Ka.n_Hops] at h_23
    refine sb 9 (bf h_23) (cf (kX (tX (tX ?_)))); have he_ := hO2_22 _ (oi hG).symm; subst he_; replace hG := hG_22; exact hH (tN (fun _ _ S k e => ⟨v_18, v_19_A, v_20_c, S, k.wk, e.sel [0, 1], oi hG⟩))
 ·rintro a w ⟨v_32, v_33_A, v_34_c, hJ⟩; refine hJ.go ?_; clear hJ; rintro rfl; replace hG := el hG_31; obtain ⟨o_36, hG, hG_36⟩ := bs hG; refine jn (fun K E a w => ∃ v_37 : Bool, Js S0 w0 27 ([(4, B v_37)] ++ K) (se E []) (v_37 = o_36) a w) ?_ ?_
  ·rcases ic hG with ⟨h_35, hG⟩ | ⟨h_35, hG⟩
   ·refine rg (rn 4 [] f0 [(22, B (decide ((p_0.length : Int) ≤ 6)))] ?_)
    try simp only [lm_, Ka.n_Hops] at h_35
    exact sb 22 (bt h_35) (ra [] f0 [(4, B (decide ((v_32.length : Int) ≤ 20)))] (tN (fun _ _ S k e => ⟨decide ((v_32.length : Int) ≤ 20), S, k.wk, e.sel [], oi hG⟩)))
   ·refine rg (rn 4 [] f0 [(22, B (decide ((p_0.length : Int) ≤ 6)))] ?_)
    try simp only [lm_, Ka.n_Hops] at h_35
    exact sb 22 (bf h_35) (ra [] f0 [(4, B false)] (tN (fun _ _ S k e => ⟨false, S, k.wk, e.sel [], oi hG⟩)))
  ·rintro a w ⟨v_37, hJ⟩; refine hJ.go ?_; clear hJ; rintro rfl; replace hG := hG_36; refine kR ?_; obtain rfl := oi hG; exact rt []
def Gbs (F : Nat) (p_0 : Kg) (p_1 : Int) (p_2 : Int) : Option (Int) :=
  Option.bind (Option.bind (iter (σ := Int × Int) (ρ := Unit ⊕ Int) (un2 fun (v_15 : Int) (v_16 : Int) => 
        (ifB (decide (v_16 < p_1))
          (Option.bind (ixI p_0.Entries v_16) (fun v_19 =>
          ifB ((v_19.Doc == v_15))
            (some (.inr (.inr v_16)))
            (some (.inl (v_15, IntKind.i64.wrap (v_16 + 1))))))
          (some (.inr (.inl ()))) : Option ((Int × Int) ⊕ (Unit ⊕ Int)))) F (p_2, 0)) (Sum.elim (fun (_ : Unit) => 
      some (.inl ())) (fun (v_23 : Int) => 
      some (.inr v_23))) : Option (Unit ⊕ Int)) (Sum.elim (fun (_ : Unit) => 
    some (-1)) (fun (v_25 : Int) => 
    some v_25))
theorem zb8 (F : Nat) (p_0 : Kd) (p_1 : Int) (p_2 : Int) (r : Int) (hG : Gbs F p_0.p p_1 p_2 = some r) :
  Cf Tryz.prog 163 [.agg #[I p_0.ID, .slice p_0.Entries_A p_0.Entries.length p_0.Entries_c], I p_1, U p_2] [Kd.ok p_0] (I r) := by
 unfold Gbs at hG
 try simp only [lm_, Ka.n_Hops] at hG
 refine fi Tryz.func163 rfl rfl (mc Kd.mv m0) fun S0 w0 hT => sq (rg (l1 (nw 3 vp [I p_0.ID, .slice p_0.Entries_A p_0.Entries.length p_0.Entries_c] 53 fun g_1 => ra [] f0 [] (tN ?_))))
 obtain ⟨o_24, hG, hG_24⟩ := bs hG; refine jn (fun K E a w => Js S0 w0 22 (dk [2] K) (se E []) (.inl () = o_24) a w) ?_ ?_
 ·refine sq (rg (ra [] f0 [(7, I 0)] (tN (bk ?_)))); obtain ⟨e_17, hL, hG_17⟩ := bs hG; clear hG; obtain ⟨stp_17, hs_17, hL⟩ := iter_gen hL; refine lp (fun K E n_ a w => ∃ v_15 v_16 : Int, Js S0 w0 22 ([(2, U v_15), (7, I v_16)] ++ K) ([.dat (RowC p_0.Entries_A p_0.Entries_c Kb.cells tr p_0.Entries)] ++ se E [0]) (iter stp_17 n_ (v_15, v_16) = some e_17) a w) F ?_ ?_
  ·exact fg (Kd.ok p_0) 1 (fun _ _ h => h.f_Entries) (fun _ _ S k e => ⟨p_2, 0, S, k.wk, e.sel [0, 1], hL⟩)
  ·clear hL; rintro n_17 a w ⟨v_15, v_16, hJ⟩; refine hJ.go fun hL => ?_
   clear hJ; obtain ⟨m_17, o_17, rfl, hG, hO1_17, hO2_17⟩ := iter_step hL; clear hL; rw [hs_17] at hG; refine sq (sq (rg (ra [] f0 [(10, B (decide (v_16 < p_1)))] (tN ?_)))); rcases ic hG with ⟨h_18, hG⟩ | ⟨h_18, hG⟩
   ·refine sb 10 (bt h_18) (ct (kS (tN (sq (bk (sq ?_)))))); obtain ⟨v_19, hy_19, hG⟩ := bs hG; refine rg (fx inf51 (gd' (RowC p_0.Entries_A p_0.Entries_c Kb.cells tr p_0.Entries) 0) hy_19 fun b_20 o_21 hi_19 => ra [(1, 1, 2, 1), (1, 0, 0, 0), (1, 1, 0, 0)] (fc (hi_19 .i64) f0) [(20, B (v_19.Doc == v_15))] (tN ?_)); rcases ic hG with ⟨h_22, hG⟩ | ⟨h_22, hG⟩
    ·refine sb 20 (bt h_22) (ct (sq (rg (ra [] f0 [(6, I v_16)] (tN (kR (hR (tR (tR ?_))))))))); have he_ := hO2_17 _ (oi hG).symm; subst he_; replace hG := hG_17; refine hR (tR ?_); obtain rfl := oi hG; replace hG := hG_24; obtain rfl := oi hG; exact rt []
    ·exact sb 20 (bf h_22) (cf (kS (hN (tN (rg (ra [] f0 [(7, I (IntKind.i64.wrap (v_16 + 1)))] (tN (fun a w S hK hE => ⟨m_17, ⟨v_15, IntKind.i64.wrap (v_16 + 1), S, hK.wk, hE.sel [1, 2], hO1_17 _ (oi hG).symm⟩, Nat.lt_succ_self _⟩))))))))
   ·refine sb 10 (bf h_18) (cf (kX (tX (tX ?_)))); have he_ := hO2_17 _ (oi hG).symm; subst he_; replace hG := hG_17; exact hH (tN (fun _ _ S k e => ⟨S, k.wk, e.sel [], oi hG⟩))
 ·rintro a w hJ; refine hJ.go ?_; clear hJ; rintro rfl; replace hG := el hG_24; refine sq (rg (ra [] f0 [(6, I (-1))] (tN (kR ?_)))); obtain rfl := oi hG; exact rt []
def Gb (F : Nat) (p_0 : List Kg) (p_1 : Int) : Option (Int) :=
  Option.bind (Option.bind (iter (σ := Int × Int) (ρ := Unit ⊕ Int) (un2 fun (v_14 : Int) (v_15 : Int) => 
        (ifB (decide (v_15 < (p_0.length : Int)))
          (Option.bind (ixI p_0 v_15) (fun v_18 =>
          ifB ((v_18.ID == v_14))
            (some (.inr (.inr v_15)))
            (some (.inl (v_14, IntKind.i64.wrap (v_15 + 1))))))
          (some (.inr (.inl ()))) : Option ((Int × Int) ⊕ (Unit ⊕ Int)))) F (p_1, 0)) (Sum.elim (fun (_ : Unit) => 
      some (.inl ())) (fun (v_22 : Int) => 
      some (.inr v_22))) : Option (Unit ⊕ Int)) (Sum.elim (fun (_ : Unit) => 
    some (-1)) (fun (v_24 : Int) => 
    some v_24))
theorem ze (F : Nat) (p_0_A : Option Addr) (p_0_c : Nat) (p_0 : List Kd) (p_1 : Int) (r : Int) (hG : Gb F (p_0.map Kd.p) p_1 = some r) :
  Cf Tryz.prog 52 [.slice p_0_A p_0.length p_0_c, I p_1] [RowC p_0_A p_0_c Kd.cells Kd.ok p_0] (I r) := by
 unfold Gb at hG
 try simp only [lm_, Ka.n_Hops] at hG
 refine fi Tryz.func52 rfl rfl (mr Kd.mv m0) fun S0 w0 hT => sq (rg (ra [] f0 [] (tN ?_)))
 obtain ⟨o_23, hG, hG_23⟩ := bs hG; refine jn (fun K E a w => Js S0 w0 20 (dk [1] K) (se E []) (.inl () = o_23) a w) ?_ ?_
 ·refine sq (rg (ra [] f0 [(5, I 0)] (tN (bk ?_)))); obtain ⟨e_16, hL, hG_16⟩ := bs hG; clear hG; obtain ⟨stp_16, hs_16, hL⟩ := iter_gen hL; refine lp (fun K E n_ a w => ∃ v_14 v_15 : Int, Js S0 w0 20 ([(1, I v_14), (5, I v_15)] ++ K) (se E [0]) (iter stp_16 n_ (v_14, v_15) = some e_16) a w) F ?_ ?_
  ·exact fun _ _ S k e => ⟨p_1, 0, S, k.wk, e.sel [0], hL⟩
  ·clear hL; rintro n_16 a w ⟨v_14, v_15, hJ⟩; refine hJ.go fun hL => ?_
   clear hJ; obtain ⟨m_16, o_16, rfl, hG, hO1_16, hO2_16⟩ := iter_step hL; clear hL; rw [hs_16] at hG; refine sq (sq (rg (ra [] f0 [(9, B (decide (v_15 < (p_0.length : Int))))] (tN ?_)))); rcases ic hG with ⟨h_17, hG⟩ | ⟨h_17, hG⟩
   ·try simp only [lm_, Ka.n_Hops] at h_17
    refine sb 9 (bt h_17) (ct (kS (tN (sq (bk (sq ?_)))))); obtain ⟨v_18o, hy_18, hG⟩ := bs hG; refine rg (fxn (p := Kd.p) inf38 (gd' (RowC p_0_A p_0_c Kd.cells Kd.ok p_0) 0) hy_18 fun v_18 b_19 o_20 he_18 hi_18 => ?_); subst he_18
    try simp only [lm_, Ka.n_Hops] at hG
    refine ra [(2, 0, 0, 0), (1, 1, 0, 0)] (fc (hi_18 .i64) f0) [(18, B (v_18.ID == v_14))] (tN ?_); rcases ic hG with ⟨h_21, hG⟩ | ⟨h_21, hG⟩
    ·refine sb 18 (bt h_21) (ct (sq (rg (ra [] f0 [(4, I v_15)] (tN (kR (hR (tR (tR ?_))))))))); have he_ := hO2_16 _ (oi hG).symm; subst he_; replace hG := hG_16; refine hR (tR ?_); obtain rfl := oi hG; replace hG := hG_23; obtain rfl := oi hG; exact rt []
    ·exact sb 18 (bf h_21) (cf (kS (hN (tN (rg (ra [] f0 [(5, I (IntKind.i64.wrap (v_15 + 1)))] (tN (fun a w S hK hE => ⟨m_16, ⟨v_14, IntKind.i64.wrap (v_15 + 1), S, hK.wk, hE.sel [2], hO1_16 _ (oi hG).symm⟩, Nat.lt_succ_self _⟩))))))))
   ·try simp only [lm_, Ka.n_Hops] at h_17
    refine sb 9 (bf h_17) (cf (kX (tX (tX ?_)))); have he_ := hO2_16 _ (oi hG).symm; subst he_; replace hG := hG_16; exact hH (tN (fun _ _ S k e => ⟨S, k.wk, e.sel [], oi hG⟩))
 ·rintro a w hJ; refine hJ.go ?_; clear hJ; rintro rfl; replace hG := el hG_23; refine sq (rg (ra [] f0 [(4, I (-1))] (tN (kR ?_)))); obtain rfl := oi hG; exact rt []
def Gbn (F : Nat) (p_0 : Km) : Option ((List Int)) :=
  Option.bind (Option.bind (iter (σ := (List Int) × Int) (ρ := (List Int)) (un2 fun (v_19 : (List Int)) (v_22 : Int) => 
        (ifB (decide (v_22 < (p_0.Hops.length : Int)))
          (Option.bind (ixI p_0.Hops v_22) (fun v_25 =>
          Option.bind (apG 8 v_19 ([v_25.By.Head.Office] : List Int)) (fun v_29 =>
          some (.inl (v_29, IntKind.i64.wrap (v_22 + 1))))))
          (some (.inr v_19)) : Option (((List Int) × Int) ⊕ (List Int)))) F (([p_0.First.Head.Office] : List Int), 0)) (fun (v_30 : (List Int)) => 
      some v_30) : Option ((List Int))) (fun (v_34 : (List Int)) => 
    some v_34)
theorem zb4 (F : Nat) (p_0 : Ka) (r : (List Int)) (hG : Gbn F p_0.p = some r) :
  Cn Tryz.prog 19 [.agg #[I p_0.First.Head.Office, I p_0.First.Head.Size, U p_0.First.Head.Root, I p_0.First.Head.Sig.C, I p_0.First.Head.Sig.S, I p_0.First.Index, U p_0.First.Entry.Doc, I p_0.First.Entry.Stamp.Lo, I p_0.First.Entry.Stamp.Hi, .slice p_0.First.Path_A p_0.First.Path.length p_0.First.Path_c, .slice p_0.Hops_A p_0.Hops.length p_0.Hops_c, .slice p_0.Grow_A p_0.Grow.length p_0.Grow_c, I p_0.Last.Head.Office, I p_0.Last.Head.Size, U p_0.Last.Head.Root, I p_0.Last.Head.Sig.C, I p_0.Last.Head.Sig.S, I p_0.Last.Index, U p_0.Last.Entry.Doc, I p_0.Last.Entry.Stamp.Lo, I p_0.Last.Entry.Stamp.Hi, .slice p_0.Last.Path_A p_0.Last.Path.length p_0.Last.Path_c]] [Ka.ok p_0] (fun q : Kr => r = q.l) (fun q => .slice q.A q.l.length q.c) (fun q => [RowC q.A q.c c_i64 tr q.l]) := by
 unfold Gbn at hG
 try simp only [lm_, Ka.n_Hops] at hG
 refine fin Tryz.func19 rfl rfl (mc Ka.mv m0) fun S0 w0 hT => sq (rg (l1 (nw 1 vp [I p_0.First.Head.Office, I p_0.First.Head.Size, U p_0.First.Head.Root, I p_0.First.Head.Sig.C, I p_0.First.Head.Sig.S, I p_0.First.Index, U p_0.First.Entry.Doc, I p_0.First.Entry.Stamp.Lo, I p_0.First.Entry.Stamp.Hi, .slice p_0.First.Path_A p_0.First.Path.length p_0.First.Path_c, .slice p_0.Hops_A p_0.Hops.length p_0.Hops_c, .slice p_0.Grow_A p_0.Grow.length p_0.Grow_c, I p_0.Last.Head.Office, I p_0.Last.Head.Size, U p_0.Last.Head.Root, I p_0.Last.Head.Sig.C, I p_0.Last.Head.Sig.S, I p_0.Last.Index, U p_0.Last.Entry.Doc, I p_0.Last.Entry.Stamp.Lo, I p_0.Last.Entry.Stamp.Hi, .slice p_0.Last.Path_A p_0.Last.Path.length p_0.Last.Path_c] 37 fun g_1 => ra [] f0 [] (tN (sq (rg (rn 4 [(3, 1, 0, 0)] f0 [(8, I p_0.First.Head.Office)] (l1 (nw 9 (vs 1) [I p_0.First.Head.Office] 3 fun g_2 => ra [] f0 [(3, Sb g_2 1 1)] (tN ?_))))))))))
 obtain ⟨o_33, hG, hG_33⟩ := bs hG; refine jn (fun K E a w => ∃ (v_34 : List Int) (v_35_A : Option Addr) (v_36_c : Nat), Js S0 w0 29 ([(3, .slice v_35_A v_34.length v_36_c)] ++ K) ([.own 3 1 (.slice v_35_A v_34.length v_36_c) v_34.length (v_34.flatMap c_i64)]) (v_34 = o_33) a w) ?_ ?_
 ·refine sq (rg (ra [] f0 [(4, I 0)] (tN (bk ?_)))); obtain ⟨e_23, hL, hG_23⟩ := bs hG; clear hG; obtain ⟨stp_23, hs_23, hL⟩ := iter_gen hL; refine lp (fun K E n_ a w => ∃ (v_19 : List Int) (v_20_A : Option Addr) (v_21_c : Nat) (v_22 : Int), Js S0 w0 29 ([(3, .slice v_20_A v_19.length v_21_c), (4, I v_22)] ++ K) ([.dat (RowC p_0.First.Path_A p_0.First.Path_c c_u64 tr p_0.First.Path), .dat (RowC p_0.Hops_A p_0.Hops_c Ke.cells Ke.ok p_0.Hops), .dat (RowC p_0.Grow_A p_0.Grow_c c_u64 tr p_0.Grow), .dat (RowC p_0.Last.Path_A p_0.Last.Path_c c_u64 tr p_0.Last.Path), .own 3 1 (.slice v_20_A v_19.length v_21_c) v_19.length (v_19.flatMap c_i64)] ++ se E [1]) (iter stp_23 n_ (v_19, v_22) = some e_23) a w) F ?_ ?_
  ·exact fg (Ka.ok p_0) 2 (fun _ _ h => h.b_First.f_Path) (fg (Ka.ok p_0) 3 (fun _ _ h => h.f_Hops) (fg (Ka.ok p_0) 4 (fun _ _ h => h.f_Grow) (fg (Ka.ok p_0) 5 (fun _ _ h => h.b_Last.f_Path) (bo 4 1 1 g_2 3 [I p_0.First.Head.Office] (fun _ _ S k e => ⟨([p_0.First.Head.Office] : List Int), (some ⟨g_2, 0, none⟩), 1, 0, S, k.wk, e.sel [3, 2, 1, 0, 4, 5], hL⟩)))))
  ·clear hL; rintro n_23 a w ⟨v_19, v_20_A, v_21_c, v_22, hJ⟩; refine hJ.go fun hL => ?_
   clear hJ; obtain ⟨m_23, o_23, rfl, hG, hO1_23, hO2_23⟩ := iter_step hL; clear hL; rw [hs_23] at hG; refine sq (sq (rg (ra [(2, 1, 5, 10)] f0 [(14, B (decide (v_22 < (p_0.Hops.length : Int))))] (tN ?_)))); rcases ic hG with ⟨h_24, hG⟩ | ⟨h_24, hG⟩
   ·try simp only [lm_, Ka.n_Hops] at h_24
    refine sb 14 (bt h_24) (ct (kS (tN (sq (bk ?_))))); obtain ⟨v_25o, hy_25, hG⟩ := bs hG; replace hG := bs hG; obtain ⟨v_29, hy_29, hG⟩ := hG; refine rg (fxn (p := Ke.p) inf35 (gd' (RowC p_0.Hops_A p_0.Hops_c Ke.cells Ke.ok p_0.Hops) 1) hy_25 fun v_25 b_26 o_27 he_25 hi_25 => ?_); subst he_25
    try simp only [lm_, Ka.n_Hops] at hG
    exact rn 9 [(2, 1, 7, 10), (1, 0, 0, 0), (3, 1, 0, 6)] (fc (hi_25 .i64) f0) [(17, .slice v_20_A v_19.length v_21_c), (25, I v_25.By.Head.Office)] (l1 (nw 26 (vs 1) [I v_25.By.Head.Office] 3 fun g_28 => l1 (ap 7 27 v_20_A v_21_c v_19 ([v_25.By.Head.Office] : List Int) inf22 (bA (f := c_i64) (ok := tr) (l := ([v_25.By.Head.Office] : List Int)) g_28 0 et.a) hy_29 one_i64 fun v_29_A v_29_c _ => ra [] f0 [(3, .slice v_29_A v_29.length v_29_c)] (hN (tN (rg (ra [] f0 [(4, I (IntKind.i64.wrap (v_22 + 1)))] (tN (fun a w S hK hE => ⟨m_23, ⟨v_29, v_29_A, v_29_c, IntKind.i64.wrap (v_22 + 1), S, hK.wk, hE.sel [3, 4, 5, 6, 7, 8], hO1_23 _ (oi hG).symm⟩, Nat.lt_succ_self _⟩)))))))))
   ·try simp only [lm_, Ka.n_Hops] at h_24
    refine sb 14 (bf h_24) (cf (kX (tX (tX ?_)))); have he_ := hO2_23 _ (oi hG).symm; subst he_; replace hG := hG_23; exact hH (tN (fun _ _ S k e => ⟨v_19, v_20_A, v_21_c, S, k.wk, e.sel [4], oi hG⟩))
 ·rintro a w ⟨v_34, v_35_A, v_36_c, hJ⟩; refine hJ.go ?_; clear hJ; rintro rfl; replace hG := hG_33; refine sq (rg (ra [] f0 [(2, .slice v_35_A v_34.length v_36_c)] (tN (kR ?_)))); obtain rfl := oi hG; exact so (A := v_35_A) (c := v_36_c) 0 c_i64 tr v_34 tr_mv et (rtn [] ⟨v_35_A, v_36_c, v_34⟩ rfl ⟨gi 0, trivial⟩)
def G4 (F : Nat) (p_0 : Kk) (p_1 : Kk) : Option (Bool) :=
  Option.bind (ifB (decide (p_0.Head = p_1.Head))
      (ifB ((p_0.Index == p_1.Index))
        (ifB (decide (p_0.Entry = p_1.Entry))
          (some (!((p_0.Path.length : Int) == (p_1.Path.length : Int))))
          (some true))
        (some true))
      (some true) : Option (Bool)) (fun (v_7 : Bool) => 
    ifB (v_7)
      (some false)
      (Option.bind (Option.bind (iter (σ := Int) (ρ := Unit ⊕ Unit) (fun (v_26 : Int) => 
            (ifB (decide (v_26 < (p_0.Path.length : Int)))
              (Option.bind (ixI p_0.Path v_26) (fun v_29 =>
              Option.bind (ixI p_1.Path v_26) (fun v_32 =>
              ifB ((v_29 == v_32))
                (some (.inl (IntKind.i64.wrap (v_26 + 1))))
                (some (.inr (.inr ()))))))
              (some (.inr (.inl ()))) : Option (Int ⊕ (Unit ⊕ Unit)))) F 0) (Sum.elim (fun (_ : Unit) => 
          some (.inl ())) (fun (_ : Unit) => 
          some (.inr ()))) : Option (Unit ⊕ Unit)) (Sum.elim (fun (_ : Unit) => 
        some true) (fun (_ : Unit) => 
        some false))))
theorem zj (F : Nat) (p_0 : Kh) (p_1 : Kh) (r : Bool) (hG : G4 F p_0.p p_1.p = some r) :
  Cf Tryz.prog 54 [.agg #[I p_0.Head.Office, I p_0.Head.Size, U p_0.Head.Root, I p_0.Head.Sig.C, I p_0.Head.Sig.S, I p_0.Index, U p_0.Entry.Doc, I p_0.Entry.Stamp.Lo, I p_0.Entry.Stamp.Hi, .slice p_0.Path_A p_0.Path.length p_0.Path_c], .agg #[I p_1.Head.Office, I p_1.Head.Size, U p_1.Head.Root, I p_1.Head.Sig.C, I p_1.Head.Sig.S, I p_1.Index, U p_1.Entry.Doc, I p_1.Entry.Stamp.Lo, I p_1.Entry.Stamp.Hi, .slice p_1.Path_A p_1.Path.length p_1.Path_c]] [Kh.ok p_0, Kh.ok p_1] (B r) := by
 unfold G4 at hG
 try simp only [lm_, Ka.n_Hops] at hG
 refine fi Tryz.func54 rfl rfl (mc Kh.mv (mc Kh.mv m0)) fun S0 w0 hT => sq (rg (l1 (nw 2 vp [I p_0.Head.Office, I p_0.Head.Size, U p_0.Head.Root, I p_0.Head.Sig.C, I p_0.Head.Sig.S, I p_0.Index, U p_0.Entry.Doc, I p_0.Entry.Stamp.Lo, I p_0.Entry.Stamp.Hi, .slice p_0.Path_A p_0.Path.length p_0.Path_c] 34 fun g_1 => l1 (nw 3 vp [I p_1.Head.Office, I p_1.Head.Size, U p_1.Head.Root, I p_1.Head.Sig.C, I p_1.Head.Sig.S, I p_1.Index, U p_1.Entry.Doc, I p_1.Entry.Stamp.Lo, I p_1.Entry.Stamp.Hi, .slice p_1.Path_A p_1.Path.length p_1.Path_c] 34 fun g_2 => ra [] f0 [] (tN (sq ?_))))))
 obtain ⟨o_6, hG, hG_6⟩ := bs hG; refine jn (fun K E a w => ∃ v_7 : Bool, Js S0 w0 52 ([(33, B v_7)] ++ K) ([.dat (RowC p_0.Path_A p_0.Path_c c_u64 tr p_0.Path), .dat (RowC p_1.Path_A p_1.Path_c c_u64 tr p_1.Path)] ++ se E [0, 1]) (v_7 = o_6) a w) ?_ ?_
 ·rcases ic hG with ⟨h_3, hG⟩ | ⟨h_3, hG⟩
  ·rcases ic hG with ⟨h_4, hG⟩ | ⟨h_4, hG⟩
   ·rcases ic hG with ⟨h_5, hG⟩ | ⟨h_5, hG⟩
    ·exact rg (rn 6 [(1, 5, 1, 0), (1, 5, 0, 0), (0, 0, 0, 0)] (fc (neq_KHead p_0.Head p_1.Head) f0) [(11, B (!(decide (p_0.Head = p_1.Head))))] (sb 11 (nt h_3) (rn 7 [(1, 1, 1, 5), (1, 1, 0, 5)] f0 [(18, B (!(p_0.Index == p_1.Index)))] (sb 18 (nt h_4) (rn 7 [(1, 3, 1, 6), (1, 3, 0, 6), (0, 0, 0, 0)] (fc (neq_KEntry p_0.Entry p_1.Entry) f0) [(25, B (!(decide (p_0.Entry = p_1.Entry))))] (sb 25 (nt h_5) (ra [(1, 1, 1, 9), (2, 1, 0, 9)] f0 [(33, B (!((p_0.Path.length : Int) == (p_1.Path.length : Int))))] (tN (fg (Kh.ok p_0) 2 (fun _ _ h => h.f_Path) (fg (Kh.ok p_1) 4 (fun _ _ h => h.f_Path) (fun _ _ S k e => ⟨!((p_0.Path.length : Int) == (p_1.Path.length : Int)), S, k.wk, e.sel [1, 0, 2, 3], oi hG⟩)))))))))))
    ·exact rg (rn 6 [(1, 5, 1, 0), (1, 5, 0, 0), (0, 0, 0, 0)] (fc (neq_KHead p_0.Head p_1.Head) f0) [(11, B (!(decide (p_0.Head = p_1.Head))))] (sb 11 (nt h_3) (rn 7 [(1, 1, 1, 5), (1, 1, 0, 5)] f0 [(18, B (!(p_0.Index == p_1.Index)))] (sb 18 (nt h_4) (rn 7 [(1, 3, 1, 6), (1, 3, 0, 6), (0, 0, 0, 0)] (fc (neq_KEntry p_0.Entry p_1.Entry) f0) [(25, B (!(decide (p_0.Entry = p_1.Entry))))] (sb 25 (nf h_5) (ra [] f0 [(33, B true)] (tN (fg (Kh.ok p_0) 2 (fun _ _ h => h.f_Path) (fg (Kh.ok p_1) 4 (fun _ _ h => h.f_Path) (fun _ _ S k e => ⟨true, S, k.wk, e.sel [1, 0, 2, 3], oi hG⟩)))))))))))
   ·exact rg (rn 6 [(1, 5, 1, 0), (1, 5, 0, 0), (0, 0, 0, 0)] (fc (neq_KHead p_0.Head p_1.Head) f0) [(11, B (!(decide (p_0.Head = p_1.Head))))] (sb 11 (nt h_3) (rn 7 [(1, 1, 1, 5), (1, 1, 0, 5)] f0 [(18, B (!(p_0.Index == p_1.Index)))] (sb 18 (nf h_4) (ra [] f0 [(33, B true)] (tN (fg (Kh.ok p_0) 2 (fun _ _ h => h.f_Path) (fg (Kh.ok p_1) 4 (fun _ _ h => h.f_Path) (fun _ _ S k e => ⟨true, S, k.wk, e.sel [1, 0, 2, 3], oi hG⟩)))))))))
  ·exact rg (rn 6 [(1, 5, 1, 0), (1, 5, 0, 0), (0, 0, 0, 0)] (fc (neq_KHead p_0.Head p_1.Head) f0) [(11, B (!(decide (p_0.Head = p_1.Head))))] (sb 11 (nf h_3) (ra [] f0 [(33, B true)] (tN (fg (Kh.ok p_0) 2 (fun _ _ h => h.f_Path) (fg (Kh.ok p_1) 4 (fun _ _ h => h.f_Path) (fun _ _ S k e => ⟨true, S, k.wk, e.sel [1, 0, 2, 3], oi hG⟩)))))))
 ·rintro a w ⟨v_7, hJ⟩; refine hJ.go ?_; clear hJ; rintro rfl; replace hG := hG_6; rcases ic hG with ⟨h_8, hG⟩ | ⟨h_8, hG⟩
  ·refine sb 33 (bt h_8) (ct (sq (rg (ra [] f0 [(4, B false)] (tN (kR (tR ?_))))))); obtain rfl := oi hG; exact rt []
  ·refine sb 33 (bf h_8) (cf (kS (tN ?_))); obtain ⟨o_36, hG, hG_36⟩ := bs hG; refine jn (fun K E a w => Js S0 w0 52 (K) (se E []) (.inl () = o_36) a w) ?_ ?_
   ·refine sq (rg (ra [] f0 [(5, I 0)] (tN (bk ?_)))); obtain ⟨e_27, hL, hG_27⟩ := bs hG; clear hG; obtain ⟨stp_27, hs_27, hL⟩ := iter_gen hL; refine lp (fun K E n_ a w => ∃ v_26 : Int, Js S0 w0 52 ([(5, I v_26)] ++ K) (se E [0, 1, 2, 3]) (iter stp_27 n_ v_26 = some e_27) a w) F ?_ ?_
    ·exact fun _ _ S k e => ⟨0, S, k.wk, e.sel [0, 1, 2, 3], hL⟩
    ·clear hL; rintro n_27 a w ⟨v_26, hJ⟩; refine hJ.go fun hL => ?_
     clear hJ; obtain ⟨m_27, o_27, rfl, hG, hO1_27, hO2_27⟩ := iter_step hL; clear hL; rw [hs_27] at hG; refine sq (sq (rg (ra [(2, 1, 3, 9)] f0 [(38, B (decide (v_26 < (p_0.Path.length : Int))))] (tN ?_)))); rcases ic hG with ⟨h_28, hG⟩ | ⟨h_28, hG⟩
     ·try simp only [lm_, Ka.n_Hops] at h_28
      refine sb 38 (bt h_28) (ct (kS (tN (sq (bk (sq ?_)))))); obtain ⟨v_29, hy_29, hG⟩ := bs hG; obtain ⟨v_32, hy_32, hG⟩ := bs hG; refine qb (fx inf32 (gd' (RowC p_0.Path_A p_0.Path_c c_u64 tr p_0.Path) 0) hy_29 fun b_30 o_31 hi_29 => fx inf32 (gd' (RowC p_1.Path_A p_1.Path_c c_u64 tr p_1.Path) 2) hy_32 fun b_33 o_34 hi_32 => qa [(1, 1, 5, 9), (1, 0, 0, 0), (0, 1, 1, 0), (1, 1, 4, 9), (1, 0, 0, 0), (0, 1, 0, 0)] (fc (hi_29 .i64) (fc (hi_32 .i64) f0)) [(51, B (!(v_29 == v_32)))] (tN ?_)); rcases ic hG with ⟨h_35, hG⟩ | ⟨h_35, hG⟩
      ·exact sb 51 (nt h_35) (cf (kS (hN (tN (rg (ra [] f0 [(5, I (IntKind.i64.wrap (v_26 + 1)))] (tN (fun a w S hK hE => ⟨m_27, ⟨IntKind.i64.wrap (v_26 + 1), S, hK.wk, hE.sel [2, 3, 4, 5], hO1_27 _ (oi hG).symm⟩, Nat.lt_succ_self _⟩))))))))
      ·refine sb 51 (nf h_35) (ct (sq (rg (ra [] f0 [(4, B false)] (tN (kR (hR (tR (tR ?_))))))))); have he_ := hO2_27 _ (oi hG).symm; subst he_; replace hG := hG_27; refine hR (tR ?_); obtain rfl := oi hG; replace hG := hG_36; obtain rfl := oi hG; exact rt []
     ·try simp only [lm_, Ka.n_Hops] at h_28
      refine sb 38 (bf h_28) (cf (kX (tX (tX ?_)))); have he_ := hO2_27 _ (oi hG).symm; subst he_; replace hG := hG_27; exact hH (tN (fun _ _ S k e => ⟨S, k.wk, e.sel [], oi hG⟩))
   ·rintro a w hJ; refine hJ.go ?_; clear hJ; rintro rfl; replace hG := el hG_36; refine sq (rg (ra [] f0 [(4, B true)] (tN (kR ?_)))); obtain rfl := oi hG; exact rt []
def Gba (F : Nat) (p_0 : List Int) (p_1 : List Int) : Option (Bool) :=
  ifB (((p_0.length : Int) == (p_1.length : Int)))
    (Option.bind (Option.bind (iter (σ := Int) (ρ := Unit ⊕ Unit) (fun (v_19 : Int) => 
          (ifB (decide (v_19 < (p_0.length : Int)))
            (Option.bind (ixI p_0 v_19) (fun v_22 =>
            Option.bind (ixI p_1 v_19) (fun v_25 =>
            ifB ((v_22 == v_25))
              (some (.inl (IntKind.i64.wrap (v_19 + 1))))
              (some (.inr (.inr ()))))))
            (some (.inr (.inl ()))) : Option (Int ⊕ (Unit ⊕ Unit)))) F 0) (Sum.elim (fun (_ : Unit) => 
        some (.inl ())) (fun (_ : Unit) => 
        some (.inr ()))) : Option (Unit ⊕ Unit)) (Sum.elim (fun (_ : Unit) => 
      some true) (fun (_ : Unit) => 
      some false)))
    (some false)
theorem zbr (F : Nat) (p_0_A : Option Addr) (p_0_c : Nat) (p_0 : List Int) (p_1_A : Option Addr) (p_1_c : Nat) (p_1 : List Int) (r : Bool) (hG : Gba F p_0 p_1 = some r) :
  Cf Tryz.prog 112 [.slice p_0_A p_0.length p_0_c, .slice p_1_A p_1.length p_1_c] [RowC p_0_A p_0_c c_u64 tr p_0, RowC p_1_A p_1_c c_u64 tr p_1] (B r) := by
 unfold Gba at hG
 try simp only [lm_, Ka.n_Hops] at hG
 refine fi Tryz.func112 rfl rfl (mr tr_mv (mr tr_mv m0)) fun S0 w0 hT => sq (rg (ra [] f0 [] (tN (sq (sq (rg (ra [] f0 [(10, B (!((p_0.length : Int) == (p_1.length : Int))))] (tN ?_))))))))
 rcases ic hG with ⟨h_1, hG⟩ | ⟨h_1, hG⟩
 ·try simp only [lm_, Ka.n_Hops] at h_1
  refine sb 10 (nt h_1) (cf (kS (tN ?_))); obtain ⟨o_29, hG, hG_29⟩ := bs hG; refine jn (fun K E a w => Js S0 w0 26 (K) (se E []) (.inl () = o_29) a w) ?_ ?_
  ·refine sq (rg (ra [] f0 [(5, I 0)] (tN (bk ?_)))); obtain ⟨e_20, hL, hG_20⟩ := bs hG; clear hG; obtain ⟨stp_20, hs_20, hL⟩ := iter_gen hL; refine lp (fun K E n_ a w => ∃ v_19 : Int, Js S0 w0 26 ([(5, I v_19)] ++ K) (se E [0, 1]) (iter stp_20 n_ v_19 = some e_20) a w) F ?_ ?_
   ·exact fun _ _ S k e => ⟨0, S, k.wk, e.sel [0, 1], hL⟩
   ·clear hL; rintro n_20 a w ⟨v_19, hJ⟩; refine hJ.go fun hL => ?_
    clear hJ; obtain ⟨m_20, o_20, rfl, hG, hO1_20, hO2_20⟩ := iter_step hL; clear hL; rw [hs_20] at hG; refine sq (sq (rg (ra [] f0 [(14, B (decide (v_19 < (p_0.length : Int))))] (tN ?_)))); rcases ic hG with ⟨h_21, hG⟩ | ⟨h_21, hG⟩
    ·try simp only [lm_, Ka.n_Hops] at h_21
     refine sb 14 (bt h_21) (ct (kS (tN (sq (bk (sq ?_)))))); obtain ⟨v_22, hy_22, hG⟩ := bs hG; obtain ⟨v_25, hy_25, hG⟩ := bs hG; refine qb (fx inf32 (gd' (RowC p_0_A p_0_c c_u64 tr p_0) 0) hy_22 fun b_23 o_24 hi_22 => fx inf32 (gd' (RowC p_1_A p_1_c c_u64 tr p_1) 2) hy_25 fun b_26 o_27 hi_25 => qa [(2, 0, 0, 0), (0, 1, 1, 0), (2, 0, 0, 0), (0, 1, 0, 0)] (fc (hi_22 .i64) (fc (hi_25 .i64) f0)) [(25, B (!(v_22 == v_25)))] (tN ?_)); rcases ic hG with ⟨h_28, hG⟩ | ⟨h_28, hG⟩
     ·exact sb 25 (nt h_28) (cf (kS (hN (tN (rg (ra [] f0 [(5, I (IntKind.i64.wrap (v_19 + 1)))] (tN (fun a w S hK hE => ⟨m_20, ⟨IntKind.i64.wrap (v_19 + 1), S, hK.wk, hE.sel [2, 3], hO1_20 _ (oi hG).symm⟩, Nat.lt_succ_self _⟩))))))))
     ·refine sb 25 (nf h_28) (ct (sq (rg (ra [] f0 [(4, B false)] (tN (kR (hR (tR (tR ?_))))))))); have he_ := hO2_20 _ (oi hG).symm; subst he_; replace hG := hG_20; refine hR (tR ?_); obtain rfl := oi hG; replace hG := hG_29; obtain rfl := oi hG; exact rt []
    ·try simp only [lm_, Ka.n_Hops] at h_21
     refine sb 14 (bf h_21) (cf (kX (tX (tX ?_)))); have he_ := hO2_20 _ (oi hG).symm; subst he_; replace hG := hG_20; exact hH (tN (fun _ _ S k e => ⟨S, k.wk, e.sel [], oi hG⟩))
  ·rintro a w hJ; refine hJ.go ?_; clear hJ; rintro rfl; replace hG := el hG_29; refine sq (rg (ra [] f0 [(4, B true)] (tN (kR ?_)))); obtain rfl := oi hG; exact rt []
 ·try simp only [lm_, Ka.n_Hops] at h_1
  refine sb 10 (nf h_1) (ct (sq (rg (ra [] f0 [(4, B false)] (tN (kR (tR ?_))))))); obtain rfl := oi hG; exact rt []
def Gbt (F : Nat) (p_0 : List Int) (p_1 : List Int) : Option (Bool) :=
  ifB (((p_0.length : Int) == (p_1.length : Int)))
    (Option.bind (Option.bind (iter (σ := Int) (ρ := Unit ⊕ Unit) (fun (v_19 : Int) => 
          (ifB (decide (v_19 < (p_0.length : Int)))
            (Option.bind (ixI p_0 v_19) (fun v_22 =>
            Option.bind (ixI p_1 v_19) (fun v_25 =>
            ifB ((v_22 == v_25))
              (some (.inl (IntKind.i64.wrap (v_19 + 1))))
              (some (.inr (.inr ()))))))
            (some (.inr (.inl ()))) : Option (Int ⊕ (Unit ⊕ Unit)))) F 0) (Sum.elim (fun (_ : Unit) => 
        some (.inl ())) (fun (_ : Unit) => 
        some (.inr ()))) : Option (Unit ⊕ Unit)) (Sum.elim (fun (_ : Unit) => 
      some true) (fun (_ : Unit) => 
      some false)))
    (some false)
theorem za7 (F : Nat) (p_0_A : Option Addr) (p_0_c : Nat) (p_0 : List Int) (p_1_A : Option Addr) (p_1_c : Nat) (p_1 : List Int) (r : Bool) (hG : Gbt F p_0 p_1 = some r) :
  Cf Tryz.prog 55 [.slice p_0_A p_0.length p_0_c, .slice p_1_A p_1.length p_1_c] [RowC p_0_A p_0_c c_u64 tr p_0, RowC p_1_A p_1_c c_u64 tr p_1] (B r) := by
 unfold Gbt at hG
 try simp only [lm_, Ka.n_Hops] at hG
 refine fi Tryz.func55 rfl rfl (mr tr_mv (mr tr_mv m0)) fun S0 w0 hT => sq (rg (ra [] f0 [] (tN (sq (sq (rg (ra [] f0 [(10, B (!((p_0.length : Int) == (p_1.length : Int))))] (tN ?_))))))))
 rcases ic hG with ⟨h_1, hG⟩ | ⟨h_1, hG⟩
 ·try simp only [lm_, Ka.n_Hops] at h_1
  refine sb 10 (nt h_1) (cf (kS (tN ?_))); obtain ⟨o_29, hG, hG_29⟩ := bs hG; refine jn (fun K E a w => Js S0 w0 26 (K) (se E []) (.inl () = o_29) a w) ?_ ?_
  ·refine sq (rg (ra [] f0 [(5, I 0)] (tN (bk ?_)))); obtain ⟨e_20, hL, hG_20⟩ := bs hG; clear hG; obtain ⟨stp_20, hs_20, hL⟩ := iter_gen hL; refine lp (fun K E n_ a w => ∃ v_19 : Int, Js S0 w0 26 ([(5, I v_19)] ++ K) (se E [0, 1]) (iter stp_20 n_ v_19 = some e_20) a w) F ?_ ?_
   ·exact fun _ _ S k e => ⟨0, S, k.wk, e.sel [0, 1], hL⟩
   ·clear hL; rintro n_20 a w ⟨v_19, hJ⟩; refine hJ.go fun hL => ?_
    clear hJ; obtain ⟨m_20, o_20, rfl, hG, hO1_20, hO2_20⟩ := iter_step hL; clear hL; rw [hs_20] at hG; refine sq (sq (rg (ra [] f0 [(14, B (decide (v_19 < (p_0.length : Int))))] (tN ?_)))); rcases ic hG with ⟨h_21, hG⟩ | ⟨h_21, hG⟩
    ·try simp only [lm_, Ka.n_Hops] at h_21
     refine sb 14 (bt h_21) (ct (kS (tN (sq (bk (sq ?_)))))); obtain ⟨v_22, hy_22, hG⟩ := bs hG; obtain ⟨v_25, hy_25, hG⟩ := bs hG; refine qb (fx inf32 (gd' (RowC p_0_A p_0_c c_u64 tr p_0) 0) hy_22 fun b_23 o_24 hi_22 => fx inf32 (gd' (RowC p_1_A p_1_c c_u64 tr p_1) 2) hy_25 fun b_26 o_27 hi_25 => qa [(2, 0, 0, 0), (0, 1, 1, 0), (2, 0, 0, 0), (0, 1, 0, 0)] (fc (hi_22 .i64) (fc (hi_25 .i64) f0)) [(25, B (!(v_22 == v_25)))] (tN ?_)); rcases ic hG with ⟨h_28, hG⟩ | ⟨h_28, hG⟩
     ·exact sb 25 (nt h_28) (cf (kS (hN (tN (rg (ra [] f0 [(5, I (IntKind.i64.wrap (v_19 + 1)))] (tN (fun a w S hK hE => ⟨m_20, ⟨IntKind.i64.wrap (v_19 + 1), S, hK.wk, hE.sel [2, 3], hO1_20 _ (oi hG).symm⟩, Nat.lt_succ_self _⟩))))))))
     ·refine sb 25 (nf h_28) (ct (sq (rg (ra [] f0 [(4, B false)] (tN (kR (hR (tR (tR ?_))))))))); have he_ := hO2_20 _ (oi hG).symm; subst he_; replace hG := hG_20; refine hR (tR ?_); obtain rfl := oi hG; replace hG := hG_29; obtain rfl := oi hG; exact rt []
    ·try simp only [lm_, Ka.n_Hops] at h_21
     refine sb 14 (bf h_21) (cf (kX (tX (tX ?_)))); have he_ := hO2_20 _ (oi hG).symm; subst he_; replace hG := hG_20; exact hH (tN (fun _ _ S k e => ⟨S, k.wk, e.sel [], oi hG⟩))
  ·rintro a w hJ; refine hJ.go ?_; clear hJ; rintro rfl; replace hG := el hG_29; refine sq (rg (ra [] f0 [(4, B true)] (tN (kR ?_)))); obtain rfl := oi hG; exact rt []
 ·try simp only [lm_, Ka.n_Hops] at h_1
  refine sb 10 (nf h_1) (ct (sq (rg (ra [] f0 [(4, B false)] (tN (kR (tR ?_))))))); obtain rfl := oi hG; exact rt []
def Gac (F : Nat) (p_0 : Int) : Option (Bool) :=
  Option.bind (ifB (decide (0 < p_0))
      (ifB (decide (p_0 < 2147483579))
        (Option.bind (Gd F p_0 1073741789) (fun v_3 =>
        some (v_3 == 1)))
        (some false))
      (some false) : Option (Bool)) (fun (v_5 : Bool) => 
    some v_5)
theorem zz (F : Nat) (p_0 : Int) (r : Bool) (hG : Gac F p_0 = some r) :
  Cf Tryz.prog 157 [I p_0] [] (B r) := by
 unfold Gac at hG; refine fi Tryz.func157 rfl rfl m0 fun S0 w0 hT => sq (rg (ra [] f0 [] (tN ?_)))
 obtain ⟨o_4, hG, hG_4⟩ := bs hG; refine jn (fun K E a w => ∃ v_5 : Bool, Js S0 w0 14 ([(2, B v_5)] ++ K) (se E []) (v_5 = o_4) a w) ?_ ?_
 ·rcases ic hG with ⟨h_1, hG⟩ | ⟨h_1, hG⟩
  ·rcases ic hG with ⟨h_2, hG⟩ | ⟨h_2, hG⟩
   ·obtain ⟨v_3, hy_3, hG⟩ := bs hG; exact rg (rn 3 [] f0 [(5, B (decide (0 < p_0)))] (sb 5 (bt h_1) (rn 4 [] f0 [(9, B (decide (p_0 < 2147483579)))] (sb 9 (bt h_2) (rn 1 [] f0 [(10, I p_0)] (l1 (cl 11 (zt F p_0 1073741789 _ hy_3) hT trivial (ra [] f0 [(2, B (v_3 == 1))] (tN (fun _ _ S k e => ⟨(v_3 == 1), S, k.wk, e.sel [], oi hG⟩))))))))))
   ·exact rg (rn 3 [] f0 [(5, B (decide (0 < p_0)))] (sb 5 (bt h_1) (rn 4 [] f0 [(9, B (decide (p_0 < 2147483579)))] (sb 9 (bf h_2) (ra [] f0 [(2, B false)] (tN (fun _ _ S k e => ⟨false, S, k.wk, e.sel [], oi hG⟩)))))))
  ·exact rg (rn 3 [] f0 [(5, B (decide (0 < p_0)))] (sb 5 (bf h_1) (ra [] f0 [(2, B false)] (tN (fun _ _ S k e => ⟨false, S, k.wk, e.sel [], oi hG⟩)))))
 ·rintro a w ⟨v_5, hJ⟩; refine hJ.go ?_; clear hJ; rintro rfl; replace hG := hG_4; refine kR ?_; obtain rfl := oi hG; exact rt []
def Gz (F : Nat) (p_0 : Kc) : Option (Bool) :=
 Option.bind (Option.bind (Gc F p_0.Office 1 16) (fun v_2 =>
  ifB (v_2)
   (Option.bind (Gc F p_0.Size 1 4096) (fun v_4 =>
   ifB (v_4)
    (Option.bind (Gc F p_0.Sig.C 0 1073741788) (fun v_6 =>
    ifB (v_6)
     (Option.bind (Gc F p_0.Sig.S 0 1073741788) (fun v_8 =>
     some v_8))
     (some false)))
    (some false)))
   (some false)) : Option (Bool)) (fun (v_10 : Bool) =>
  some v_10)
theorem zi (F : Nat) (p_0 : Kc) (r : Bool) (hG : Gz F p_0 = some r) :
  Cf Tryz.prog 63 [.agg #[I p_0.Office, I p_0.Size, U p_0.Root, I p_0.Sig.C, I p_0.Sig.S]] [] (B r) := by
 unfold Gz at hG; refine fi Tryz.func63 rfl rfl m0 fun S0 w0 hT => sq (rg (l1 (nw 1 vp [I p_0.Office, I p_0.Size, U p_0.Root, I p_0.Sig.C, I p_0.Sig.S] 27 fun g_1 => ra [] f0 [] (tN ?_))))
 obtain ⟨o_9, hG, hG_9⟩ := bs hG; refine jn (fun K E a w => ∃ v_10 : Bool, Js S0 w0 23 ([(2, B v_10)] ++ K) (se E []) (v_10 = o_9) a w) ?_ ?_
 ·obtain ⟨v_2, hy_2, hG⟩ := bs hG; rcases ic hG with ⟨h_3, hG⟩ | ⟨h_3, hG⟩
  ·obtain ⟨v_4, hy_4, hG⟩ := bs hG; rcases ic hG with ⟨h_5, hG⟩ | ⟨h_5, hG⟩
   ·obtain ⟨v_6, hy_6, hG⟩ := bs hG; rcases ic hG with ⟨h_7, hG⟩ | ⟨h_7, hG⟩
    ·obtain ⟨v_8, hy_8, hG⟩ := bs hG; exact rg (rn 2 [(1, 1, 0, 0)] f0 [(4, I p_0.Office)] (l1 (cl 5 (zc F p_0.Office 1 16 _ hy_2) hT trivial (rn 1 [] f0 [(6, B v_2)] (sb 6 (bt h_3) (rn 2 [(1, 1, 0, 1)] f0 [(8, I p_0.Size)] (l1 (cl 9 (zc F p_0.Size 1 4096 _ hy_4) hT trivial (rn 2 [] f0 [(11, B v_4)] (sb 11 (bt h_5) (rn 3 [(2, 1, 0, 3)] f0 [(14, I p_0.Sig.C)] (l1 (cl 15 (zc F p_0.Sig.C 0 1073741788 _ hy_6) hT trivial (rn 2 [] f0 [(17, B v_6)] (sb 17 (bt h_7) (rn 3 [(2, 1, 0, 4)] f0 [(20, I p_0.Sig.S)] (l1 (cl 21 (zc F p_0.Sig.S 0 1073741788 _ hy_8) hT trivial (ra [] f0 [(2, B v_8)] (tN (fun _ _ S k e => ⟨v_8, S, k.wk, e.sel [], oi hG⟩)))))))))))))))))))))
    ·exact rg (rn 2 [(1, 1, 0, 0)] f0 [(4, I p_0.Office)] (l1 (cl 5 (zc F p_0.Office 1 16 _ hy_2) hT trivial (rn 1 [] f0 [(6, B v_2)] (sb 6 (bt h_3) (rn 2 [(1, 1, 0, 1)] f0 [(8, I p_0.Size)] (l1 (cl 9 (zc F p_0.Size 1 4096 _ hy_4) hT trivial (rn 2 [] f0 [(11, B v_4)] (sb 11 (bt h_5) (rn 3 [(2, 1, 0, 3)] f0 [(14, I p_0.Sig.C)] (l1 (cl 15 (zc F p_0.Sig.C 0 1073741788 _ hy_6) hT trivial (rn 2 [] f0 [(17, B v_6)] (sb 17 (bf h_7) (ra [] f0 [(2, B false)] (tN (fun _ _ S k e => ⟨false, S, k.wk, e.sel [], oi hG⟩))))))))))))))))))
   ·exact rg (rn 2 [(1, 1, 0, 0)] f0 [(4, I p_0.Office)] (l1 (cl 5 (zc F p_0.Office 1 16 _ hy_2) hT trivial (rn 1 [] f0 [(6, B v_2)] (sb 6 (bt h_3) (rn 2 [(1, 1, 0, 1)] f0 [(8, I p_0.Size)] (l1 (cl 9 (zc F p_0.Size 1 4096 _ hy_4) hT trivial (rn 2 [] f0 [(11, B v_4)] (sb 11 (bf h_5) (ra [] f0 [(2, B false)] (tN (fun _ _ S k e => ⟨false, S, k.wk, e.sel [], oi hG⟩)))))))))))))
  ·exact rg (rn 2 [(1, 1, 0, 0)] f0 [(4, I p_0.Office)] (l1 (cl 5 (zc F p_0.Office 1 16 _ hy_2) hT trivial (rn 1 [] f0 [(6, B v_2)] (sb 6 (bf h_3) (ra [] f0 [(2, B false)] (tN (fun _ _ S k e => ⟨false, S, k.wk, e.sel [], oi hG⟩))))))))
 ·rintro a w ⟨v_10, hJ⟩; refine hJ.go ?_; clear hJ; rintro rfl; replace hG := hG_9; refine kR ?_; obtain rfl := oi hG; exact rt []
def Gaf (F : Nat) (p_0 : Kp) : Option (Bool) :=
 Option.bind (Gay F p_0.Entry.Stamp) (fun v_2 =>
 some v_2)
theorem zq (F : Nat) (p_0 : Kp) (r : Bool) (hG : Gaf F p_0 = some r) :
  Cf Tryz.prog 113 [.agg #[U p_0.Entry.Doc, I p_0.Entry.Stamp.Lo, I p_0.Entry.Stamp.Hi]] [] (B r) := by
 unfold Gaf at hG; refine fi Tryz.func113 rfl rfl m0 fun S0 w0 hT => sq (rg (l1 (nw 1 vp [U p_0.Entry.Doc, I p_0.Entry.Stamp.Lo, I p_0.Entry.Stamp.Hi] 165 fun g_1 => ra [] f0 [] (tN (sq ?_)))))
 obtain ⟨v_2, hy_2, hG⟩ := bs hG; refine rg (rn 3 [(2, 2, 0, 1)] f0 [(5, .agg #[I p_0.Entry.Stamp.Lo, I p_0.Entry.Stamp.Hi])] (l1 (cl 6 (zbf F p_0.Entry.Stamp _ hy_2) hT trivial (ra [] f0 [(2, B v_2)] (tN (kR ?_)))))); obtain rfl := oi hG; exact rt []
def Gj (F : Nat) (p_0 : Kb) : Option (Int) :=
 Option.bind (Gbx F (⟨p_0⟩ : Kp)) (fun v_2 =>
 some v_2)
theorem z8 (F : Nat) (p_0 : Kb) (r : Int) (hG : Gj F p_0 = some r) :
  Cf Tryz.prog 66 [.agg #[U p_0.Doc, I p_0.Stamp.Lo, I p_0.Stamp.Hi]] [] (U r) := by
 unfold Gj at hG; refine fi Tryz.func66 rfl rfl m0 fun S0 w0 hT => sq (rg (l1 (nw 1 vp [U p_0.Doc, I p_0.Stamp.Lo, I p_0.Stamp.Hi] 31 fun g_1 => ra [] f0 [] (tN (sq ?_)))))
 obtain ⟨v_2, hy_2, hG⟩ := bs hG; refine rg (rn 2 [(0, 3, 0, 0)] f0 [(4, .agg #[U p_0.Doc, I p_0.Stamp.Lo, I p_0.Stamp.Hi])] (l1 (cl 5 (zbg F (⟨p_0⟩ : Kp) _ hy_2) hT trivial (ra [] f0 [(2, U v_2)] (tN (kR ?_)))))); obtain rfl := oi hG; exact rt []
def Ga2 (F : Nat) (p_0 : Kq) (p_1 : Kj) : Option ((List Kj)) :=
  Option.bind (G1 F p_1) (fun v_2 =>
  Option.bind (Gq F v_2) (fun v_3 =>
  Option.bind (Option.bind (iter (σ := Int × (List Kj)) (ρ := (List Kj)) (un2 fun (v_211 : Int) (v_212 : (List Kj)) => 
        (ifB (decide (v_211 < (p_0.heads.length : Int)))
          (Option.bind (Option.bind (ixI p_0.heads v_211) (fun v_217 =>
            Option.bind (Option.bind (iter (σ := Int) (ρ := Unit ⊕ Unit) (fun (v_234 : Int) => 
                  (ifB (decide (v_234 < (p_1.heads.length : Int)))
                    (Option.bind (ixI p_1.heads v_234) (fun v_237 =>
                    ifB ((v_237.Office == v_217.Office))
                      (some (.inr (.inr ())))
                      (some (.inl (IntKind.i64.wrap (v_234 + 1))))))
                    (some (.inr (.inl ()))) : Option (Int ⊕ (Unit ⊕ Unit)))) F 0) (Sum.elim (fun (_ : Unit) => 
                some (.inl ())) (fun (_ : Unit) => 
                some (.inr ()))) : Option (Unit ⊕ Unit)) (Sum.elim (fun (_ : Unit) => 
              Option.bind (some (mpG p_0.offices v_217.Office Kg.z)) (fun v_243 =>
              Option.bind (slI v_243.Entries 0 v_217.Size) (fun v_244 =>
              Option.bind (Option.bind (Option.bind (iter (σ := Int) (ρ := Unit ⊕ Int) (fun (v_262 : Int) => 
                      (ifB (decide (v_262 < (v_244.length : Int)))
                        (Option.bind (ixI v_244 v_262) (fun v_265 =>
                        Option.bind (some () : Option (Unit)) (fun (_ : Unit) => 
                          ifB ((v_265.Doc == v_3))
                            (some (.inr (.inr v_262)))
                            (some (.inl (IntKind.i64.wrap (v_262 + 1)))))))
                        (some (.inr (.inl ()))) : Option (Int ⊕ (Unit ⊕ Int)))) F 0) (Sum.elim (fun (_ : Unit) => 
                    some (.inl ())) (fun (v_272 : Int) => 
                    some (.inr v_272))) : Option (Unit ⊕ Int)) (Sum.elim (fun (_ : Unit) => 
                  some (-1)) (fun (v_274 : Int) => 
                  some v_274)) : Option (Int)) (fun (v_275 : Int) => 
                ifB (decide (v_275 ≥ 0))
                  (Option.bind (apG 40 ([] : List Kc) p_1.heads) (fun v_308 =>
                  Option.bind (apG 40 p_1.heads ([v_217] : List Kc)) (fun v_310 =>
                  Option.bind (apG 32 v_212 ([(⟨v_310, v_275⟩ : Kj)] : List Kj)) (fun v_312 =>
                  some v_312))))
                  (some v_212))))) (fun (_ : Unit) => 
              some v_212))) : Option ((List Kj))) (fun (v_314 : (List Kj)) => 
            some (.inl (IntKind.i64.wrap (v_211 + 1), v_314))))
          (some (.inr v_212)) : Option ((Int × (List Kj)) ⊕ (List Kj)))) F (0, ([] : List Kj))) (fun (v_317 : (List Kj)) => 
      some v_317) : Option ((List Kj))) (fun (v_321 : (List Kj)) => 
    some v_321)))
theorem zbi (F : Nat) (p_0_A : Nat) (p_0 : Kl) (p_1 : Ki) (r : (List Kj)) (hG : Ga2 F p_0.p p_1.p = some r) :
  Cn Tryz.prog 102 [Pt p_0_A 0, .agg #[.slice p_1.heads_A p_1.heads.length p_1.heads_c, I p_1.at_]] [fun S W => RecS S W p_0_A 0 p_0.cells, Kl.ok p_0, Ki.ok p_1] (fun q : Kv => r = (q.l.map Ki.p)) (fun q => .slice q.A q.l.length q.c) (fun q => [RowC q.A q.c Ki.cells Ki.ok q.l]) := by
 unfold Ga2 at hG
 try simp only [lm_, Ka.n_Hops] at hG
 refine fin Tryz.func102 rfl rfl (mrec (mc Kl.mv (mc Ki.mv m0))) fun S0 w0 hT => rp p_0_A p_0.cells (gd' (fun S W => RecS S W p_0_A 0 p_0.cells) 0) (sq (rg (l1 (nw 3 vp [.slice p_1.heads_A p_1.heads.length p_1.heads_c, I p_1.at_] 96 fun g_1 => ra [] f0 [] (tN (sc (sq (rg (ra [] f0 [(5, .slice none 0 0)] (tN (sq ?_)))))))))))
 obtain ⟨v_2, hy_2, hG⟩ := bs hG; obtain ⟨v_3, hy_3, hG⟩ := bs hG; refine rg (rn 1 [(0, 2, 0, 0)] f0 [(13, .agg #[.slice p_1.heads_A p_1.heads.length p_1.heads_c, I p_1.at_])] (l1 (cl 14 (zaa F p_1 _ hy_2) hT ⟨(gi 4).a, trivial⟩ (l1 (cl 15 (zx F v_2 _ hy_3) hT trivial (l1 (nw 6 vp [U 0] 23 fun g_4 => l1 (sr 0 g_4 [(0, U v_3)] (nl (tN (sq (lb (tN ?_))))))))))))); obtain ⟨o_320, hG, hG_320⟩ := bs hG; refine jn (fun K E a w => ∃ (v_321 : List Ki) (v_322_A : Option Addr) (v_323_c : Nat), Js S0 w0 67 ([(5, .slice v_322_A v_321.length v_323_c)] ++ K) ([.own 96 2 (.slice v_322_A v_321.length v_323_c) v_321.length (v_321.flatMap Ki.cells), .dat (Each Ki.ok v_321)]) ((v_321.map Ki.p) = o_320) a w) ?_ ?_
 ·refine sq (rg (ra [(3, 1, 2, 1)] f0 (ns 19 [.slice p_0.heads_A p_0.heads.length p_0.heads_c, I (p_0.heads.length : Int), I 0]) (tN (bk ?_)))); obtain ⟨e_215, hL, hG_215⟩ := bs hG; clear hG; obtain ⟨stp_215, hs_215, hL⟩ := iter_gen hL; refine lp (fun K E n_ a w => ∃ (v_211 : Int) (v_212 : List Ki) (v_213_A : Option Addr) (v_214_c : Nat), Js S0 w0 67 ([(5, .slice v_213_A v_212.length v_214_c), (21, I v_211)] ++ K) ([.dat (RowC p_1.heads_A p_1.heads_c Kc.cells tr p_1.heads), .own 96 2 (.slice v_213_A v_212.length v_214_c) v_212.length (v_212.flatMap Ki.cells), .dat (Each Ki.ok v_212)] ++ se E [0, 1, 2, 4]) (iter stp_215 n_ (v_211, (v_212.map Ki.p)) = some e_215) a w) F ?_ ?_
  ·exact fg (Ki.ok p_1) 5 (fun _ _ h => h.f_heads) (on 96 2 (fm (Each Ki.ok ([] : List Ki)) e0 (fun _ _ S k e => ⟨0, ([] : List Ki), none, 0, S, k.wk, e.sel [2, 1, 0, 3, 4, 5, 7], hL⟩)))
  ·clear hL; rintro n_215 a w ⟨v_211, v_212, v_213_A, v_214_c, hJ⟩; refine hJ.go fun hL => ?_
   clear hJ; obtain ⟨m_215, o_215, rfl, hG, hO1_215, hO2_215⟩ := iter_step hL; clear hL; rw [hs_215] at hG
   try simp only [lm_, Ka.n_Hops] at hG
   refine sq (rg (ra [] f0 [(22, B (decide (v_211 < (p_0.heads.length : Int))))] (tN (sq ?_)))); rcases ic hG with ⟨h_216, hG⟩ | ⟨h_216, hG⟩
   ·try simp only [lm_, Ka.n_Hops] at h_216
    refine sb 22 (bt h_216) (ct (kS (tN ?_))); obtain ⟨o_313, hG, hG_313⟩ := bs hG; refine jn (fun K E a w => ∃ (v_314 : List Ki) (v_315_A : Option Addr) (v_316_c : Nat), Js S0 w0 67 ([(5, .slice v_315_A v_314.length v_316_c)] ++ K) ([.own 96 2 (.slice v_315_A v_314.length v_316_c) v_314.length (v_314.flatMap Ki.cells), .dat (Each Ki.ok v_314)] ++ se E [0, 3, 4, 5, 6]) ((v_314.map Ki.p) = o_313) a w) ?_ ?_
    ·refine bk (sq ?_); obtain ⟨v_217, hy_217, hG⟩ := bs hG; refine rg (fx inf39 (gm (Kl.ok p_0) 6 fun _ _ h => h.f_heads) hy_217 fun b_218 o_219 hi_217 => rn 2 [(0, 0, 0, 0), (0, 5, 0, 0)] (fc (hi_217 .i64) f0) [(24, .agg #[I v_217.Office, I v_217.Size, U v_217.Root, I v_217.Sig.C, I v_217.Sig.S])] (l1 (nw 8 vp [I 0, I 0, U 0, I 0, I 0] 27 fun g_220 => l1 (sr 0 g_220 (ns 0 [I v_217.Office, I v_217.Size, U v_217.Root, I v_217.Sig.C, I v_217.Sig.S]) (nl (tN ?_)))))); obtain ⟨o_242, hG, hG_242⟩ := bs hG; refine jn (fun K E a w => Js S0 w0 67 (K) (se E [0, 2, 3, 4, 5, 6, 7, 8]) (.inl () = o_242) a w) ?_ ?_
     ·refine sq (rg (ra [(1, 1, 6, 0)] f0 (ns 26 [.slice p_1.heads_A p_1.heads.length p_1.heads_c, I (p_1.heads.length : Int), I 0]) (tN (bk ?_)))); obtain ⟨e_235, hL, hG_235⟩ := bs hG; clear hG; obtain ⟨stp_235, hs_235, hL⟩ := iter_gen hL; refine lp (fun K E n_ a w => ∃ v_234 : Int, Js S0 w0 67 ([(28, I v_234)] ++ K) (se E [0, 2, 3, 4, 5, 6, 7, 8]) (iter stp_235 n_ v_234 = some e_235) a w) F ?_ ?_
      ·exact fun _ _ S k e => ⟨0, S, k.wk, e.sel [0, 2, 3, 4, 5, 6, 7, 8], hL⟩
      ·clear hL; rintro n_235 a w ⟨v_234, hJ⟩; refine hJ.go fun hL => ?_
       clear hJ; obtain ⟨m_235, o_235, rfl, hG, hO1_235, hO2_235⟩ := iter_step hL; clear hL; rw [hs_235] at hG; refine sq (rg (ra [] f0 [(29, B (decide (v_234 < (p_1.heads.length : Int))))] (tN (sq ?_)))); rcases ic hG with ⟨h_236, hG⟩ | ⟨h_236, hG⟩
       ·try simp only [lm_, Ka.n_Hops] at h_236
        refine sb 29 (bt h_236) (ct (kS (tN (sq (bk (sq ?_)))))); obtain ⟨v_237, hy_237, hG⟩ := bs hG; refine rg (fx inf39 (gd' (RowC p_1.heads_A p_1.heads_c Kc.cells tr p_1.heads) 1) hy_237 fun b_238 o_239 hi_237 => rn 2 [(0, 0, 0, 0), (0, 5, 0, 0)] (fc (hi_237 .i64) f0) [(31, .agg #[I v_237.Office, I v_237.Size, U v_237.Root, I v_237.Sig.C, I v_237.Sig.S])] (l1 (nw 10 vp [I 0, I 0, U 0, I 0, I 0] 27 fun g_240 => l1 (sr 0 g_240 (ns 0 [I v_237.Office, I v_237.Size, U v_237.Root, I v_237.Sig.C, I v_237.Sig.S]) (nl (tN (sq (rg (ra [(1, 1, 0, 0), (1, 1, 2, 0)] f0 [(36, B (v_237.Office == v_217.Office))] (tN ?_)))))))))); rcases ic hG with ⟨h_241, hG⟩ | ⟨h_241, hG⟩
        ·refine sb 36 (bt h_241) (ct (kX (hM (tX (tX ?_))))); have he_ := hO2_235 _ (oi hG).symm; subst he_; replace hG := hG_235; refine hM (tX ?_); obtain rfl := oi hG; replace hG := hG_242; exact hH (tN (fun _ _ S k e => ⟨v_212, v_213_A, v_214_c, S, k.wk, e.sel [4, 5, 3, 6, 7, 8, 9], oi hG⟩))
        ·exact sb 36 (bf h_241) (cf (kS (hN (tN (rg (ra [] f0 [(28, I (IntKind.i64.wrap (v_234 + 1)))] (tN (fun a w S hK hE => ⟨m_235, ⟨IntKind.i64.wrap (v_234 + 1), S, hK.wk, hE.sel [2, 3, 4, 5, 6, 7, 8, 9], hO1_235 _ (oi hG).symm⟩, Nat.lt_succ_self _⟩))))))))
       ·try simp only [lm_, Ka.n_Hops] at h_236
        refine sb 29 (bf h_236) (cf (kX (tX (tX ?_)))); have he_ := hO2_235 _ (oi hG).symm; subst he_; replace hG := hG_235; exact hH (tN (fun _ _ S k e => ⟨S, k.wk, e.sel [0, 1, 2, 3, 4, 5, 6, 7], oi hG⟩))
     ·rintro a w hJ; refine hJ.go ?_; clear hJ; rintro rfl; replace hG := el hG_242; refine sq ?_; obtain ⟨v_243o, hy_243, hG⟩ := bs hG; replace hG := bs hG; obtain ⟨v_244, hy_244, hG⟩ := hG; refine hb [0, 1, 2, 3, 4, 5, 6, 7] (ht [0, 1, 2, 3, 4, 5, 6, 7] [0, 1, 2, 3, 4, 5, 8, 9] [(3, 1, 6, 0), (1, 1, 0, 0), (1, 1, 0, 1)] f0 [(41, .map (some p_0.offices_b)), (43, I v_217.Office), (47, I v_217.Size)] (ho [6] ⟨h1 (ml 44 p_0.offices_b p_0.offices v_217.Office Kd.z Kd.p _ hy_243 (gm (Kl.ok p_0) 7 fun _ _ h => h.f_offices) Kd.z_ok Tryz.underlying99 Tryz.underlying3 (fun w => by kernel_rfl) fun v_243 he_243 => ?_), trivial⟩)); subst he_243
      try simp only [lm_, Ka.n_Hops] at hG
      refine hk [1, 2, 3, 4, 5, 6, 7, 8] (ht [1, 2, 3, 4, 5, 6, 7, 8] [7] [] f0 [(45, .slice v_243.Entries_A v_243.Entries.length v_243.Entries_c)] (ho [10] ⟨fp false true inf51 (gm (Kd.ok v_243) 0 fun _ _ h => h.f_Entries) hy_244 fun v_244_A v_244_c hp_244 => h1 (po 48 (.slice v_244_A v_244.length v_244_c) [(0, 0, 0, 0)] (fc (hp_244 .i64 .i64) f0) (hk [2, 3, 4, 5, 6, 7, 8, 9] (ht [2, 3, 4, 5, 6, 7, 8, 9] [11] [] f0 [(11, .slice v_244_A v_244.length v_244_c)] (he (tN (sq ?_)))))), trivial⟩)); obtain ⟨v_275o, hy_276, hG⟩ := bs hG; refine rg (rn 2 [] f0 [(49, .slice v_244_A v_244.length v_244_c), (50, .func (.func 142) #[] #[Pt g_4 0])] (l1 (ci 51 (args := [.slice v_244_A v_244.length v_244_c, .func (.func 142) #[] #[Pt g_4 0]]) (fun E e w => ∃ v_275 : Int, Rs S0 w0 (I v_275) ([.dat (RowC v_243.Entries_A v_243.Entries_c Kb.cells tr v_243.Entries)] ++ se E [0, 2, 3, 4, 5, 6, 7, 8, 9]) (v_275 = v_275o) e w) Tryz.func104 rfl rfl ?_ ?_)))
      ·replace hG := hy_276
       try simp only [lm_, Ka.n_Hops] at hG
       refine sq (rg (ra [] f0 [] (tN ?_))); replace hG := bs hG; obtain ⟨o_305, hG, hG_305⟩ := hG; refine jn (fun K E a w => Js S0 w0 19 (K) ([.dat (RowC v_243.Entries_A v_243.Entries_c Kb.cells tr v_243.Entries)] ++ se E [0, 2, 3, 4, 5, 6, 7, 8, 9]) (.inl () = o_305) a w) ?_ ?_
       ·refine sq (rg (ra [] f0 [(7, I (v_244.length : Int)), (8, I 0)] (tN (bk ?_)))); obtain ⟨e_295, hL, hG_295⟩ := bs hG; clear hG; obtain ⟨stp_295, hs_295, hL⟩ := iter_gen hL; refine lp (fun K E n_ a w => ∃ v_294 : Int, Js S0 w0 19 ([(8, I v_294)] ++ K) ([.dat (RowC v_243.Entries_A v_243.Entries_c Kb.cells tr v_243.Entries)] ++ se E [0, 2, 3, 4, 5, 6, 7, 8, 9]) (iter stp_295 n_ v_294 = some e_295) a w) F ?_ ?_
        ·exact fg (Kd.ok v_243) 1 (fun _ _ h => h.f_Entries) (fun _ _ S k e => ⟨0, S, k.wk, e.sel [0, 1, 3, 4, 5, 6, 7, 8, 9, 10], hL⟩)
        ·clear hL; rintro n_295 a w ⟨v_294, hJ⟩; refine hJ.go fun hL => ?_
         clear hJ; obtain ⟨m_295, o_295, rfl, hG, hO1_295, hO2_295⟩ := iter_step hL; clear hL; rw [hs_295] at hG; refine sq (rg (ra [] f0 [(9, B (decide (v_294 < (v_244.length : Int))))] (tN (sq ?_)))); replace hG := ic hG; rcases hG with ⟨h_296, hG⟩ | ⟨h_296, hG⟩
         ·try simp only [lm_, Ka.n_Hops] at h_296
          refine sb 9 (bt h_296) (ct (kS (tN (sq (bk (sq (rg (ra [] f0 [(5, I v_294)] (tN (sq ?_)))))))))); replace hG := bs hG; obtain ⟨v_297, hy_297, hG⟩ := hG; replace hG := bs hG; obtain ⟨⟨⟩, hy_301, hG⟩ := hG; refine rg (fx inf51 (gd' (RowC v_244_A v_244_c Kb.cells tr v_244) 1) hy_297 fun b_298 o_299 hi_297 => rn 5 [(3, 0, 0, 0), (0, 3, 0, 0)] (fc (hi_297 .i64) f0) [(11, .func (.func 142) #[] #[Pt g_4 0]), (15, .agg #[U v_297.Doc, I v_297.Stamp.Lo, I v_297.Stamp.Hi])] (l1 (ci 16 (args := [.agg #[U v_297.Doc, I v_297.Stamp.Lo, I v_297.Stamp.Hi], Pt g_4 0]) (fun E e w => Rs S0 w0 (B (v_297.Doc == v_3)) (se E [0, 1, 2, 3, 4, 5, 6, 7, 8, 9, 10]) (() = ()) e w) Tryz.func142 rfl rfl ?_ ?_)))
          ·replace hG := hy_301
           try (simp only [lm_, Ka.n_Hops] at hG; replace hG : _ = _ := hG)
           exact sq (rg (l1 (nw 2 vp [U v_297.Doc, I v_297.Stamp.Lo, I v_297.Stamp.Hi] 31 fun g_302 => ra [] f0 [] (tN (sq (rg (ra [(1, 1, 0, 0), (0, 1, 8, 0)] f0 [(3, B (v_297.Doc == v_3))] (tN (kR (ri [] (B (v_297.Doc == v_3)) (fun a w S hK hE => ⟨rfl, ⟨S, hE.sel [1, 2, 3, 4, 5, 6, 7, 8, 9, 10, 11]⟩, oi hG⟩)))))))))))
          ·rintro e w hJ; refine hJ.go fun ho_ => ?_
           clear hJ; refine nl (tN ?_); replace hG := ic hG; rcases hG with ⟨h_303, hG⟩ | ⟨h_303, hG⟩
           ·refine sb 16 (bt h_303) (ct (sq (rg (ra [] f0 [(4, I v_294)] (tN (kR (hR (tR (tR ?_))))))))); have he_ := hO2_295 _ (oi hG).symm; subst he_; replace hG := hG_295; refine hR (tR ?_); obtain rfl := oi hG; replace hG := hG_305; exact ri [] (I v_294) (fun a w S hK hE => ⟨v_294, rfl, ⟨S, hE.sel [1, 2, 3, 4, 5, 6, 7, 8, 9, 10]⟩, oi hG⟩)
           ·exact sb 16 (bf h_303) (cf (kS (hN (tN (rg (ra [] f0 [(8, I (IntKind.i64.wrap (v_294 + 1)))] (tN (fun a w S hK hE => ⟨m_295, ⟨IntKind.i64.wrap (v_294 + 1), S, hK.wk, hE.sel [1, 2, 3, 4, 5, 6, 7, 8, 9, 10], hO1_295 _ (oi hG).symm⟩, Nat.lt_succ_self _⟩))))))))
         ·try simp only [lm_, Ka.n_Hops] at h_296
          refine sb 9 (bf h_296) (cf (kX (tX (tX ?_)))); have he_ := hO2_295 _ (oi hG).symm; subst he_; replace hG := hG_295; exact hH (tN (fun _ _ S k e => ⟨S, k.wk, e.sel [0, 1, 2, 3, 4, 5, 6, 7, 8, 9], oi hG⟩))
       ·rintro a w hJ; refine hJ.go ?_; clear hJ; rintro rfl; replace hG := el hG_305; exact sq (rg (ra [] f0 [(4, I (-1))] (tN (kR (ri [] (I (-1)) (fun a w S hK hE => ⟨(-1), rfl, ⟨S, hE.sel [0, 1, 2, 3, 4, 5, 6, 7, 8, 9]⟩, oi hG⟩))))))
      ·rintro e w ⟨v_275, hJ⟩; refine hJ.go ?_; clear hJ; rintro rfl; refine ra [] f0 [(12, I v_275)] (tN (sq (rg (ra [] f0 [(53, B (decide (v_275 ≥ 0)))] (tN ?_))))); replace hG := ic hG; rcases hG with ⟨h_307, hG⟩ | ⟨h_307, hG⟩
       ·refine sb 53 (bt h_307) (ct ?_); replace hG := bs hG; obtain ⟨v_308, hy_308, hG⟩ := hG; replace hG := bs hG; obtain ⟨v_310, hy_310, hG⟩ := hG; replace hG := bs hG; obtain ⟨v_312o, hy_312, hG⟩ := hG; refine hb [0, 1, 2, 3, 5, 6, 7, 8, 9] (ht [0, 1, 2, 3, 5, 6, 7, 8, 9] [0, 1, 2, 4, 7] [(2, 1, 6, 0), (0, 5, 2, 0)] f0 [(54, .slice v_213_A v_212.length v_214_c), (56, .slice p_1.heads_A p_1.heads.length p_1.heads_c), (58, .agg #[I v_217.Office, I v_217.Size, U v_217.Root, I v_217.Sig.C, I v_217.Sig.S]), (61, I v_275)] (ho [3, 5] ⟨?_, ?_, trivial⟩))
        ·refine h1 (cln_KSapi_Head 57 p_1.heads_A p_1.heads_c p_1.heads (gd' (RowC p_1.heads_A p_1.heads_c Kc.cells tr p_1.heads) 3).a (by first | simpa using (apG_some hy_308).1 | (have hh_ := (apG_some hy_308).1; rw [List.length_nil, Nat.zero_add] at hh_; exact hh_)) fun v_308_A v_308_c => hk [1, 2, 3, 4, 6, 7, 8, 9, 10] (ho [5] ⟨h1 (nw 59 (vs 1) [I v_217.Office, I v_217.Size, U v_217.Root, I v_217.Sig.C, I v_217.Sig.S] 27 fun g_309 => hk [2, 3, 4, 5, 7, 8, 9, 10, 11] (ho [6] ⟨h1 (ap 1 60 v_308_A v_308_c p_1.heads ([v_217] : List Kc) inf39 (bA (f := Kc.cells) (ok := tr) (l := ([v_217] : List Kc)) g_309 0 et.a) hy_310 Kc.one fun v_310_A v_310_c _ => hk [2, 3, 4, 5, 7, 8, 9, 10, 11] (ht [2, 3, 4, 5, 7, 8, 9, 10, 11] [8] [] f0 [(62, .agg #[.slice v_310_A v_310.length v_310_c, I v_275])] (ho [9] ⟨h1 (nw 63 (vs 1) [.slice v_310_A v_310.length v_310_c, I v_275] 96 fun g_311 => hk [3, 4, 5, 6, 8, 9, 10, 11, 12] (ho [10] ⟨so (A := v_310_A) (c := v_310_c) 2 Kc.cells tr v_310 tr_mv et (h1 (apn (p := Ki.p) (ok := Ki.ok) 7 64 v_213_A v_214_c v_212 ([(⟨v_310_A, v_310_c, v_310, v_275⟩ : Ki)] : List Ki) inf157 (bA (f := Ki.cells) (ok := tr) (l := ([(⟨v_310_A, v_310_c, v_310, v_275⟩ : Ki)] : List Ki)) g_311 0 et.a) (gd' (Each Ki.ok v_212) 8) (ec (((gd' (RowC v_310_A v_310_c Kc.cells tr v_310) 2)).m fun _ _ h => ⟨h⟩) e0) hy_312 Ki.one fun v_312 v_312_A v_312_c he_312 _ => ?_)), trivial⟩)), trivial⟩))), trivial⟩)), trivial⟩)); subst he_312
         try simp only [lm_, Ka.n_Hops] at hG
         exact hk [4, 5, 6, 7, 9, 10, 11, 12, 13] (ht [4, 5, 6, 7, 9, 10, 11, 12, 13] [11] [] f0 [(5, .slice v_312_A v_312.length v_312_c)] (he (hN (tN (fun _ _ S k e => ⟨v_312, v_312_A, v_312_c, S, k.wk, e.sel [8, 0, 7, 10, 11, 12, 13], oi hG⟩)))))
        ·refine h1 (nw 59 (vs 1) [I v_217.Office, I v_217.Size, U v_217.Root, I v_217.Sig.C, I v_217.Sig.S] 27 fun g_309 => hk [1, 2, 3, 4, 6, 7, 8, 9, 10] (ho [3] ⟨h1 (cln_KSapi_Head 57 p_1.heads_A p_1.heads_c p_1.heads (gd' (RowC p_1.heads_A p_1.heads_c Kc.cells tr p_1.heads) 4).a (by first | simpa using (apG_some hy_308).1 | (have hh_ := (apG_some hy_308).1; rw [List.length_nil, Nat.zero_add] at hh_; exact hh_)) fun v_308_A v_308_c => hk [2, 3, 4, 5, 7, 8, 9, 10, 11] (ho [6] ⟨h1 (ap 0 60 v_308_A v_308_c p_1.heads ([v_217] : List Kc) inf39 (bA (f := Kc.cells) (ok := tr) (l := ([v_217] : List Kc)) g_309 1 et.a) hy_310 Kc.one fun v_310_A v_310_c _ => hk [2, 3, 4, 5, 7, 8, 9, 10, 11] (ht [2, 3, 4, 5, 7, 8, 9, 10, 11] [8] [] f0 [(62, .agg #[.slice v_310_A v_310.length v_310_c, I v_275])] (ho [9] ⟨h1 (nw 63 (vs 1) [.slice v_310_A v_310.length v_310_c, I v_275] 96 fun g_311 => hk [3, 4, 5, 6, 8, 9, 10, 11, 12] (ho [10] ⟨so (A := v_310_A) (c := v_310_c) 1 Kc.cells tr v_310 tr_mv et (h1 (apn (p := Ki.p) (ok := Ki.ok) 7 64 v_213_A v_214_c v_212 ([(⟨v_310_A, v_310_c, v_310, v_275⟩ : Ki)] : List Ki) inf157 (bA (f := Ki.cells) (ok := tr) (l := ([(⟨v_310_A, v_310_c, v_310, v_275⟩ : Ki)] : List Ki)) g_311 0 et.a) (gd' (Each Ki.ok v_212) 8) (ec (((gd' (RowC v_310_A v_310_c Kc.cells tr v_310) 1)).m fun _ _ h => ⟨h⟩) e0) hy_312 Ki.one fun v_312 v_312_A v_312_c he_312 _ => ?_)), trivial⟩)), trivial⟩))), trivial⟩)), trivial⟩)); subst he_312
         try simp only [lm_, Ka.n_Hops] at hG
         exact hk [4, 5, 6, 7, 9, 10, 11, 12, 13] (ht [4, 5, 6, 7, 9, 10, 11, 12, 13] [11] [] f0 [(5, .slice v_312_A v_312.length v_312_c)] (he (hN (tN (fun _ _ S k e => ⟨v_312, v_312_A, v_312_c, S, k.wk, e.sel [8, 0, 7, 10, 11, 12, 13], oi hG⟩)))))
       ·exact sb 53 (bf h_307) (cf (kS (hN (tN (fun _ _ S k e => ⟨v_212, v_213_A, v_214_c, S, k.wk, e.sel [4, 5, 3, 6, 7, 8, 9], oi hG⟩)))))
    ·rintro a w ⟨v_314, v_315_A, v_316_c, hJ⟩; refine hJ.go ?_; clear hJ; rintro rfl; replace hG := hG_313
     try simp only [lm_, Ka.n_Hops] at hG
     exact rg (ra [] f0 [(21, I (IntKind.i64.wrap (v_211 + 1)))] (tN (fun a w S hK hE => ⟨m_215, ⟨IntKind.i64.wrap (v_211 + 1), v_314, v_315_A, v_316_c, S, hK.wk, hE.sel [2, 0, 1, 3, 4, 5, 6], hO1_215 _ (oi hG).symm⟩, Nat.lt_succ_self _⟩)))
   ·try simp only [lm_, Ka.n_Hops] at h_216
    refine sb 22 (bf h_216) (cf (kX (tX (tX ?_)))); have he_ := hO2_215 _ (oi hG).symm; subst he_; replace hG := hG_215
    try simp only [lm_, Ka.n_Hops] at hG
    exact hH (tN (fun _ _ S k e => ⟨v_212, v_213_A, v_214_c, S, k.wk, e.sel [1, 2], oi hG⟩))
 ·rintro a w ⟨v_321, v_322_A, v_323_c, hJ⟩; refine hJ.go ?_; clear hJ; rintro rfl; replace hG := hG_320
  try simp only [lm_, Ka.n_Hops] at hG
  refine sq (rg (ra [] f0 [(4, .slice v_322_A v_321.length v_323_c)] (tN (kR (gR ?_))))); obtain rfl := oi hG; exact so (A := v_322_A) (c := v_323_c) 0 Ki.cells Ki.ok v_321 Ki.mv (gd' (Each Ki.ok v_321) 1) (rtn [] ⟨v_322_A, v_323_c, v_321⟩ rfl ⟨gi 0, trivial⟩)
def Gaw (F : Nat) (p_0 : Int) (p_1 : Int) (p_2 : List Int) : Option (KSig × Int) :=
 Option.bind (Option.bind (Gr F p_0 1) (fun v_2 =>
  ifB (v_2)
   (Option.bind (Gr F p_1 1) (fun v_4 =>
   some (!v_4, p_2)))
   (some (true, p_2))) : Option ((Bool × (List Int)))) (un2 fun (v_6 : Bool) (v_7 : (List Int)) =>
  ifB (v_6)
   (some ((⟨0, 0⟩ : KSig), 1))
   (Option.bind (Gd F 4 p_1) (fun v_11 =>
   Option.bind (Gd F 4 p_0) (fun v_12 =>
   Option.bind (Gad F v_11 v_12 v_7) (fun v_13 =>
   some ((⟨v_13, Int.tmod (IntKind.i64.wrap (p_1 + (IntKind.i64.wrap (v_13 * p_0)))) 1073741789⟩ : KSig), 0))))))
theorem zbd (F : Nat) (p_0 : Int) (p_1 : Int) (p_2_A : Option Addr) (p_2_c : Nat) (p_2 : List Int) (r : KSig × Int) (hG : Gaw F p_0 p_1 p_2 = some r) :
  Cf Tryz.prog 61 [I p_0, I p_1, .slice p_2_A p_2.length p_2_c] [RowC p_2_A p_2_c c_i64 tr p_2] (.tuple #[.agg #[I r.1.C, I r.1.S], I r.2]) := by
 unfold Gaw at hG
 try simp only [lm_, Ka.n_Hops] at hG
 refine fi Tryz.func61 rfl rfl (mr tr_mv m0) fun S0 w0 hT => sq (rg (l1 (nw 6 vp [I 0, I 0] 25 fun g_1 => ra [] f0 [] (tN (sq ?_)))))
 obtain ⟨o_5, hG, hG_5⟩ := bs hG; refine jn (fun K E a w => ∃ (v_6 : Bool) (v_7 : List Int) (v_8_A : Option Addr) (v_9_c : Nat), Js S0 w0 32 ([(2, .slice v_8_A v_7.length v_9_c), (16, B v_6)] ++ K) ([.dat (RowC v_8_A v_9_c c_i64 tr v_7)] ++ se E [0]) ((v_6, v_7) = o_5) a w) ?_ ?_
 ·obtain ⟨v_2, hy_2, hG⟩ := bs hG; rcases ic hG with ⟨h_3, hG⟩ | ⟨h_3, hG⟩
  ·obtain ⟨v_4, hy_4, hG⟩ := bs hG; exact rg (rn 1 [] f0 [(9, I p_0)] (l1 (cl 10 (zo F p_0 1 _ hy_2) hT trivial (rn 2 [] f0 [(12, B (!v_2))] (sb 12 (nt h_3) (rn 1 [] f0 [(13, I p_1)] (l1 (cl 14 (zo F p_1 1 _ hy_4) hT trivial (ra [] f0 [(16, B (!v_4))] (tN (fun _ _ S k e => ⟨!v_4, p_2, p_2_A, p_2_c, S, k.wk, e.sel [1, 0], oi hG⟩)))))))))))
  ·exact rg (rn 1 [] f0 [(9, I p_0)] (l1 (cl 10 (zo F p_0 1 _ hy_2) hT trivial (rn 2 [] f0 [(12, B (!v_2))] (sb 12 (nf h_3) (ra [] f0 [(16, B true)] (tN (fun _ _ S k e => ⟨true, p_2, p_2_A, p_2_c, S, k.wk, e.sel [1, 0], oi hG⟩))))))))
 ·rintro a w ⟨v_6, v_7, v_8_A, v_9_c, hJ⟩; refine hJ.go ?_; clear hJ; rintro rfl; replace hG := hG_5; rcases ic hG with ⟨h_10, hG⟩ | ⟨h_10, hG⟩
  ·refine sb 16 (bt h_10) (ct (sq (rg (rn 1 [] f0 [(17, .agg #[I 0, I 0])] (l1 (sr 1 g_1 [(0, I 0), (1, I 0)] (ra [] f0 [(7, I 1)] (tN (kR (tR ?_)))))))))); obtain rfl := oi hG; exact rt [(1, 0, 2)]
  ·refine sb 16 (bf h_10) (cf (kS (tN (sq ?_)))); obtain ⟨v_11, hy_11, hG⟩ := bs hG; obtain ⟨v_12, hy_12, hG⟩ := bs hG; obtain ⟨v_13, hy_13, hG⟩ := bs hG; refine rg (rn 1 [] f0 [(18, I p_1)] (l1 (cl 19 (zt F 4 p_1 _ hy_11) hT trivial (rn 1 [] f0 [(20, I p_0)] (l1 (cl 21 (zt F 4 p_0 _ hy_12) hT trivial (rn 1 [] f0 [(22, .slice v_8_A v_7.length v_9_c)] (l1 (cl 23 (zav F v_11 v_12 v_8_A v_9_c v_7 _ hy_13) hT ⟨ga 0, trivial⟩ (ra [] f0 [(8, I v_13)] (tN (sq (rg (rn 8 [(6, 0, 0, 0)] (fc (fun W => run_rem (T := 3) (k := .i64) (p := IntKind.i64.wrap (p_1 + (IntKind.i64.wrap (v_13 * p_0)))) (q := 1073741789) (by decide) W) f0) [(31, .agg #[I v_13, I (Int.tmod (IntKind.i64.wrap (p_1 + (IntKind.i64.wrap (v_13 * p_0)))) 1073741789)])] (l1 (sr 1 g_1 [(0, I v_13), (1, I (Int.tmod (IntKind.i64.wrap (p_1 + (IntKind.i64.wrap (v_13 * p_0)))) 1073741789))] (ra [] f0 [(7, I 0)] (tN (kR ?_))))))))))))))))))); obtain rfl := oi hG; exact rt [(1, 0, 2)]
def Gak (F : Nat) (p_0 : Int) : Option (Int) :=
 Option.bind (Gn F 4 p_0 2147483579) (fun v_1 =>
 some v_1)
theorem zd (F : Nat) (p_0 : Int) (r : Int) (hG : Gak F p_0 = some r) :
  Cf Tryz.prog 27 [I p_0] [] (I r) := by
 unfold Gak at hG; refine fi Tryz.func27 rfl rfl m0 fun S0 w0 hT => sq (rg (ra [] f0 [] (tN (sq ?_))))
 obtain ⟨v_1, hy_1, hG⟩ := bs hG; refine rg (rn 1 [] f0 [(3, I p_0)] (l1 (cl 4 (zac F 4 p_0 2147483579 _ hy_1) hT trivial (ra [] f0 [(2, I v_1)] (tN (kR ?_)))))); obtain rfl := oi hG; exact rt []
def Gaj (F : Nat) (p_0 : Int) : Option (Bool) :=
  Option.bind (ifB (decide (p_0 ≥ 1))
      (ifB (decide (p_0 < 2147483579))
        (Option.bind (Gn F p_0 1073741789 2147483579) (fun v_3 =>
        some (v_3 == 1)))
        (some false))
      (some false) : Option (Bool)) (fun (v_5 : Bool) => 
    some v_5)
theorem zab (F : Nat) (p_0 : Int) (r : Bool) (hG : Gaj F p_0 = some r) :
  Cf Tryz.prog 135 [I p_0] [] (B r) := by
 unfold Gaj at hG; refine fi Tryz.func135 rfl rfl m0 fun S0 w0 hT => sq (rg (ra [] f0 [] (tN ?_)))
 obtain ⟨o_4, hG, hG_4⟩ := bs hG; refine jn (fun K E a w => ∃ v_5 : Bool, Js S0 w0 14 ([(2, B v_5)] ++ K) (se E []) (v_5 = o_4) a w) ?_ ?_
 ·rcases ic hG with ⟨h_1, hG⟩ | ⟨h_1, hG⟩
  ·rcases ic hG with ⟨h_2, hG⟩ | ⟨h_2, hG⟩
   ·obtain ⟨v_3, hy_3, hG⟩ := bs hG; exact rg (rn 3 [] f0 [(5, B (decide (p_0 ≥ 1)))] (sb 5 (bt h_1) (rn 4 [] f0 [(9, B (decide (p_0 < 2147483579)))] (sb 9 (bt h_2) (rn 1 [] f0 [(10, I p_0)] (l1 (cl 11 (zac F p_0 1073741789 2147483579 _ hy_3) hT trivial (ra [] f0 [(2, B (v_3 == 1))] (tN (fun _ _ S k e => ⟨(v_3 == 1), S, k.wk, e.sel [], oi hG⟩))))))))))
   ·exact rg (rn 3 [] f0 [(5, B (decide (p_0 ≥ 1)))] (sb 5 (bt h_1) (rn 4 [] f0 [(9, B (decide (p_0 < 2147483579)))] (sb 9 (bf h_2) (ra [] f0 [(2, B false)] (tN (fun _ _ S k e => ⟨false, S, k.wk, e.sel [], oi hG⟩)))))))
  ·exact rg (rn 3 [] f0 [(5, B (decide (p_0 ≥ 1)))] (sb 5 (bf h_1) (ra [] f0 [(2, B false)] (tN (fun _ _ S k e => ⟨false, S, k.wk, e.sel [], oi hG⟩)))))
 ·rintro a w ⟨v_5, hJ⟩; refine hJ.go ?_; clear hJ; rintro rfl; replace hG := hG_4; refine kR ?_; obtain rfl := oi hG; exact rt []
def Ga (F : Nat) (p_0 : Kc) : Option (Bool) :=
  Option.bind (Gt F p_0.Sig.C) (fun v_2 =>
  Option.bind (Gt F p_0.Sig.S) (fun v_3 =>
  Option.bind (ifB (decide (p_0.Office ≥ 1))
      (ifB (decide (p_0.Office ≤ 16))
        (ifB (decide (p_0.Size ≥ 1))
          (ifB (decide (p_0.Size ≤ 4096))
            (ifB (v_2)
              (some v_3)
              (some false))
            (some false))
          (some false))
        (some false))
      (some false) : Option (Bool)) (fun (v_10 : Bool) => 
    some v_10)))
theorem zf (F : Nat) (p_0 : Kc) (r : Bool) (hG : Ga F p_0 = some r) :
  Cf Tryz.prog 97 [.agg #[I p_0.Office, I p_0.Size, U p_0.Root, I p_0.Sig.C, I p_0.Sig.S]] [] (B r) := by
 unfold Ga at hG; refine fi Tryz.func97 rfl rfl m0 fun S0 w0 hT => sq (rg (l1 (nw 1 vp [I p_0.Office, I p_0.Size, U p_0.Root, I p_0.Sig.C, I p_0.Sig.S] 27 fun g_1 => ra [] f0 [] (tN (sq ?_)))))
 obtain ⟨v_2, hy_2, hG⟩ := bs hG; refine rg (rn 3 [(2, 1, 0, 3)] f0 [(7, I p_0.Sig.C)] (l1 (cl 8 (zv F p_0.Sig.C _ hy_2) hT trivial (ra [] f0 [(3, B v_2)] (tN (sq ?_)))))); obtain ⟨v_3, hy_3, hG⟩ := bs hG; refine rg (rn 3 [(2, 1, 0, 4)] f0 [(11, I p_0.Sig.S)] (l1 (cl 12 (zv F p_0.Sig.S _ hy_3) hT trivial (ra [] f0 [(4, B v_3)] (tN ?_))))); obtain ⟨o_9, hG, hG_9⟩ := bs hG; refine jn (fun K E a w => ∃ v_10 : Bool, Js S0 w0 37 ([(2, B v_10)] ++ K) (se E []) (v_10 = o_9) a w) ?_ ?_
 ·rcases ic hG with ⟨h_4, hG⟩ | ⟨h_4, hG⟩
  ·rcases ic hG with ⟨h_5, hG⟩ | ⟨h_5, hG⟩
   ·rcases ic hG with ⟨h_6, hG⟩ | ⟨h_6, hG⟩
    ·rcases ic hG with ⟨h_7, hG⟩ | ⟨h_7, hG⟩
     ·rcases ic hG with ⟨h_8, hG⟩ | ⟨h_8, hG⟩
      ·exact rg (rn 4 [(1, 1, 0, 0)] f0 [(16, B (decide (p_0.Office ≥ 1)))] (sb 16 (bt h_4) (rn 5 [(1, 1, 0, 0)] f0 [(21, B (decide (p_0.Office ≤ 16)))] (sb 21 (bt h_5) (rn 5 [(1, 1, 0, 1)] f0 [(26, B (decide (p_0.Size ≥ 1)))] (sb 26 (bt h_6) (rn 5 [(1, 1, 0, 1)] f0 [(31, B (decide (p_0.Size ≤ 4096)))] (sb 31 (bt h_7) (rn 3 [] f0 [(34, B v_2)] (sb 34 (bt h_8) (ra [] f0 [(2, B v_3)] (tN (fun _ _ S k e => ⟨v_3, S, k.wk, e.sel [], oi hG⟩)))))))))))))
      ·exact rg (rn 4 [(1, 1, 0, 0)] f0 [(16, B (decide (p_0.Office ≥ 1)))] (sb 16 (bt h_4) (rn 5 [(1, 1, 0, 0)] f0 [(21, B (decide (p_0.Office ≤ 16)))] (sb 21 (bt h_5) (rn 5 [(1, 1, 0, 1)] f0 [(26, B (decide (p_0.Size ≥ 1)))] (sb 26 (bt h_6) (rn 5 [(1, 1, 0, 1)] f0 [(31, B (decide (p_0.Size ≤ 4096)))] (sb 31 (bt h_7) (rn 3 [] f0 [(34, B v_2)] (sb 34 (bf h_8) (ra [] f0 [(2, B false)] (tN (fun _ _ S k e => ⟨false, S, k.wk, e.sel [], oi hG⟩)))))))))))))
     ·exact rg (rn 4 [(1, 1, 0, 0)] f0 [(16, B (decide (p_0.Office ≥ 1)))] (sb 16 (bt h_4) (rn 5 [(1, 1, 0, 0)] f0 [(21, B (decide (p_0.Office ≤ 16)))] (sb 21 (bt h_5) (rn 5 [(1, 1, 0, 1)] f0 [(26, B (decide (p_0.Size ≥ 1)))] (sb 26 (bt h_6) (rn 5 [(1, 1, 0, 1)] f0 [(31, B (decide (p_0.Size ≤ 4096)))] (sb 31 (bf h_7) (ra [] f0 [(2, B false)] (tN (fun _ _ S k e => ⟨false, S, k.wk, e.sel [], oi hG⟩)))))))))))
    ·exact rg (rn 4 [(1, 1, 0, 0)] f0 [(16, B (decide (p_0.Office ≥ 1)))] (sb 16 (bt h_4) (rn 5 [(1, 1, 0, 0)] f0 [(21, B (decide (p_0.Office ≤ 16)))] (sb 21 (bt h_5) (rn 5 [(1, 1, 0, 1)] f0 [(26, B (decide (p_0.Size ≥ 1)))] (sb 26 (bf h_6) (ra [] f0 [(2, B false)] (tN (fun _ _ S k e => ⟨false, S, k.wk, e.sel [], oi hG⟩)))))))))
   ·exact rg (rn 4 [(1, 1, 0, 0)] f0 [(16, B (decide (p_0.Office ≥ 1)))] (sb 16 (bt h_4) (rn 5 [(1, 1, 0, 0)] f0 [(21, B (decide (p_0.Office ≤ 16)))] (sb 21 (bf h_5) (ra [] f0 [(2, B false)] (tN (fun _ _ S k e => ⟨false, S, k.wk, e.sel [], oi hG⟩)))))))
  ·exact rg (rn 4 [(1, 1, 0, 0)] f0 [(16, B (decide (p_0.Office ≥ 1)))] (sb 16 (bf h_4) (ra [] f0 [(2, B false)] (tN (fun _ _ S k e => ⟨false, S, k.wk, e.sel [], oi hG⟩)))))
 ·rintro a w ⟨v_10, hJ⟩; refine hJ.go ?_; clear hJ; rintro rfl; replace hG := hG_9; refine kR ?_; obtain rfl := oi hG; exact rt []
def Gbb (F : Nat) (p_0 : Int) (p_1 : KSig) : Option (Int) :=
 Option.bind (Gn F 4 p_1.S 2147483579) (fun v_2 =>
 Option.bind (Gn F p_0 (Int.tmod (IntKind.i64.wrap (1073741789 - p_1.C)) 1073741789) 2147483579) (fun v_3 =>
 some (Int.tmod (IntKind.i64.wrap (v_2 * v_3)) 2147483579)))
theorem zbs (F : Nat) (p_0 : Int) (p_1 : KSig) (r : Int) (hG : Gbb F p_0 p_1 = some r) :
  Cf Tryz.prog 167 [I p_0, .agg #[I p_1.C, I p_1.S]] [] (I r) := by
 unfold Gbb at hG; refine fi Tryz.func167 rfl rfl m0 fun S0 w0 hT => sq (rg (l1 (nw 3 vp [I p_1.C, I p_1.S] 25 fun g_1 => ra [] f0 [] (tN (sq ?_)))))
 obtain ⟨v_2, hy_2, hG⟩ := bs hG; obtain ⟨v_3, hy_3, hG⟩ := bs hG; refine qb (qn 2 [(1, 1, 0, 1)] f0 [(6, I p_1.S)] (qc 7 (zac F 4 p_1.S 2147483579 _ hy_2) hT trivial (qn 5 [(2, 1, 0, 0), (1, 0, 0, 0)] (fc (fun W => run_rem (T := 3) (k := .i64) (p := IntKind.i64.wrap (1073741789 - p_1.C)) (q := 1073741789) (by decide) W) f0) [(8, I p_0), (12, I (Int.tmod (IntKind.i64.wrap (1073741789 - p_1.C)) 1073741789))] (qc 13 (zac F p_0 (Int.tmod (IntKind.i64.wrap (1073741789 - p_1.C)) 1073741789) 2147483579 _ hy_3) hT trivial (qa [(1, 0, 0, 0)] (fc (fun W => run_rem (T := 3) (k := .i64) (p := IntKind.i64.wrap (v_2 * v_3)) (q := 2147483579) (by decide) W) f0) [(4, I (Int.tmod (IntKind.i64.wrap (v_2 * v_3)) 2147483579))] (tN (kR ?_))))))); obtain rfl := oi hG; exact rt []
def Gv (F : Nat) (p_0 : Kg) : Option (Bool) :=
  Option.bind (ifB (decide (p_0.ID < 1))
      (some true)
      (ifB (decide (p_0.ID > 16))
        (some true)
        (some (decide ((p_0.Entries.length : Int) > 4096)))) : Option (Bool)) (fun (v_5 : Bool) => 
    ifB (v_5)
      (some false)
      (Option.bind (Option.bind (iter (σ := Int) (ρ := Unit ⊕ Unit) (fun (v_33 : Int) => 
            (ifB (decide (v_33 < (p_0.Entries.length : Int)))
              (Option.bind (ixI p_0.Entries v_33) (fun v_36 =>
              Option.bind (Ga8 F v_36.Stamp) (fun v_39 =>
              Option.bind (ifB (v_39)
                  (ifB (decide (v_33 > 0))
                    (Option.bind (ixI p_0.Entries v_33) (fun v_42 =>
                    Option.bind (ixI p_0.Entries (IntKind.i64.wrap (v_33 - 1))) (fun v_45 =>
                    some (decide (v_42.Stamp.Lo < v_45.Stamp.Lo)))))
                    (some false))
                  (some true) : Option (Bool)) (fun (v_49 : Bool) => 
                ifB (v_49)
                  (some (.inr (.inr ())))
                  (some (.inl (IntKind.i64.wrap (v_33 + 1))))))))
              (some (.inr (.inl ()))) : Option (Int ⊕ (Unit ⊕ Unit)))) F 0) (Sum.elim (fun (_ : Unit) => 
          some (.inl ())) (fun (_ : Unit) => 
          some (.inr ()))) : Option (Unit ⊕ Unit)) (Sum.elim (fun (_ : Unit) => 
        some true) (fun (_ : Unit) => 
        some false))))
theorem zr (F : Nat) (p_0 : Kd) (r : Bool) (hG : Gv F p_0.p = some r) :
  Cf Tryz.prog 21 [.agg #[I p_0.ID, .slice p_0.Entries_A p_0.Entries.length p_0.Entries_c]] [Kd.ok p_0] (B r) := by
 unfold Gv at hG
 try simp only [lm_, Ka.n_Hops] at hG
 refine fi Tryz.func21 rfl rfl (mc Kd.mv m0) fun S0 w0 hT => sq (rg (l1 (nw 1 vp [I p_0.ID, .slice p_0.Entries_A p_0.Entries.length p_0.Entries_c] 53 fun g_1 => ra [] f0 [] (tN (sq ?_)))))
 obtain ⟨o_4, hG, hG_4⟩ := bs hG; refine jn (fun K E a w => ∃ v_5 : Bool, Js S0 w0 57 ([(18, B v_5)] ++ K) ([.dat (RowC p_0.Entries_A p_0.Entries_c Kb.cells tr p_0.Entries)] ++ se E [0]) (v_5 = o_4) a w) ?_ ?_
 ·rcases ic hG with ⟨h_2, hG⟩ | ⟨h_2, hG⟩
  ·exact rg (rn 4 [(1, 1, 0, 0)] f0 [(8, B (decide (p_0.ID < 1)))] (sb 8 (bt h_2) (ra [] f0 [(18, B true)] (tN (fg (Kd.ok p_0) 1 (fun _ _ h => h.f_Entries) (fun _ _ S k e => ⟨true, S, k.wk, e.sel [0, 1], oi hG⟩))))))
  ·rcases ic hG with ⟨h_3, hG⟩ | ⟨h_3, hG⟩
   ·exact rg (rn 4 [(1, 1, 0, 0)] f0 [(8, B (decide (p_0.ID < 1)))] (sb 8 (bf h_2) (rn 5 [(1, 1, 0, 0)] f0 [(13, B (decide (p_0.ID > 16)))] (sb 13 (bt h_3) (ra [] f0 [(18, B true)] (tN (fg (Kd.ok p_0) 1 (fun _ _ h => h.f_Entries) (fun _ _ S k e => ⟨true, S, k.wk, e.sel [0, 1], oi hG⟩))))))))
   ·exact rg (rn 4 [(1, 1, 0, 0)] f0 [(8, B (decide (p_0.ID < 1)))] (sb 8 (bf h_2) (rn 5 [(1, 1, 0, 0)] f0 [(13, B (decide (p_0.ID > 16)))] (sb 13 (bf h_3) (ra [(1, 1, 0, 1)] f0 [(18, B (decide ((p_0.Entries.length : Int) > 4096)))] (tN (fg (Kd.ok p_0) 1 (fun _ _ h => h.f_Entries) (fun _ _ S k e => ⟨decide ((p_0.Entries.length : Int) > 4096), S, k.wk, e.sel [0, 1], oi hG⟩))))))))
 ·rintro a w ⟨v_5, hJ⟩; refine hJ.go ?_; clear hJ; rintro rfl; replace hG := hG_4; rcases ic hG with ⟨h_6, hG⟩ | ⟨h_6, hG⟩
  ·refine sb 18 (bt h_6) (ct (sq (rg (ra [] f0 [(2, B false)] (tN (kR (tR ?_))))))); obtain rfl := oi hG; exact rt []
  ·refine sb 18 (bf h_6) (cf (kS (tN ?_))); obtain ⟨o_51, hG, hG_51⟩ := bs hG; refine jn (fun K E a w => Js S0 w0 57 (K) (se E []) (.inl () = o_51) a w) ?_ ?_
   ·refine sq (rg (ra [] f0 [(3, I 0)] (tN (bk ?_)))); obtain ⟨e_34, hL, hG_34⟩ := bs hG; clear hG; obtain ⟨stp_34, hs_34, hL⟩ := iter_gen hL; refine lp (fun K E n_ a w => ∃ v_33 : Int, Js S0 w0 57 ([(3, I v_33)] ++ K) (se E [0, 1]) (iter stp_34 n_ v_33 = some e_34) a w) F ?_ ?_
    ·exact fun _ _ S k e => ⟨0, S, k.wk, e.sel [0, 1], hL⟩
    ·clear hL; rintro n_34 a w ⟨v_33, hJ⟩; refine hJ.go fun hL => ?_
     clear hJ; obtain ⟨m_34, o_34, rfl, hG, hO1_34, hO2_34⟩ := iter_step hL; clear hL; rw [hs_34] at hG; refine sq (sq (rg (ra [(2, 1, 1, 1)] f0 [(23, B (decide (v_33 < (p_0.Entries.length : Int))))] (tN ?_)))); rcases ic hG with ⟨h_35, hG⟩ | ⟨h_35, hG⟩
     ·try simp only [lm_, Ka.n_Hops] at h_35
      refine sb 23 (bt h_35) (ct (kS (tN (sq (bk (sq ?_)))))); obtain ⟨v_36, hy_36, hG⟩ := bs hG; obtain ⟨v_39, hy_39, hG⟩ := bs hG; refine rg (fx inf51 (gd' (RowC p_0.Entries_A p_0.Entries_c Kb.cells tr p_0.Entries) 0) hy_36 fun b_37 o_38 hi_36 => rn 6 [(1, 1, 2, 1), (1, 0, 0, 0), (1, 2, 0, 1)] (fc (hi_36 .i64) f0) [(31, .agg #[I v_36.Stamp.Lo, I v_36.Stamp.Hi])] (l1 (cl 32 (za0 F v_36.Stamp _ hy_39) hT trivial (ra [] f0 [(4, B v_39)] (tN ?_))))); obtain ⟨o_48, hG, hG_48⟩ := bs hG; refine jn (fun K E a w => ∃ v_49 : Bool, Js S0 w0 57 ([(56, B v_49)] ++ K) (se E [1, 2]) (v_49 = o_48) a w) ?_ ?_
      ·rcases ic hG with ⟨h_40, hG⟩ | ⟨h_40, hG⟩
       ·rcases ic hG with ⟨h_41, hG⟩ | ⟨h_41, hG⟩
        ·obtain ⟨v_42, hy_42, hG⟩ := bs hG; obtain ⟨v_45, hy_45, hG⟩ := bs hG; exact qb (qn 3 [] f0 [(35, B (!v_39))] (sb 35 (nt h_40) (qn 3 [] f0 [(38, B (decide (v_33 > 0)))] (sb 38 (bt h_41) (fx inf51 (gd' (RowC p_0.Entries_A p_0.Entries_c Kb.cells tr p_0.Entries) 1) hy_42 fun b_43 o_44 hi_42 => fx inf51 (gd' (RowC p_0.Entries_A p_0.Entries_c Kb.cells tr p_0.Entries) 2) hy_45 fun b_46 o_47 hi_45 => qa [(1, 1, 4, 1), (1, 0, 0, 0), (2, 1, 1, 1), (1, 1, 4, 1), (2, 0, 0, 0), (2, 1, 0, 1)] (fc (hi_42 .i64) (fc (hi_45 .i64) f0)) [(56, B (decide (v_42.Stamp.Lo < v_45.Stamp.Lo)))] (tN (fun _ _ S k e => ⟨decide (v_42.Stamp.Lo < v_45.Stamp.Lo), S, k.wk, e.sel [3, 4], oi hG⟩)))))))
        ·exact qb (qn 3 [] f0 [(35, B (!v_39))] (sb 35 (nt h_40) (qn 3 [] f0 [(38, B (decide (v_33 > 0)))] (sb 38 (bf h_41) (qa [] f0 [(56, B false)] (tN (fun _ _ S k e => ⟨false, S, k.wk, e.sel [1, 2], oi hG⟩)))))))
       ·exact qb (qn 3 [] f0 [(35, B (!v_39))] (sb 35 (nf h_40) (qa [] f0 [(56, B true)] (tN (fun _ _ S k e => ⟨true, S, k.wk, e.sel [1, 2], oi hG⟩)))))
      ·rintro a w ⟨v_49, hJ⟩; refine hJ.go ?_; clear hJ; rintro rfl; replace hG := hG_48; rcases ic hG with ⟨h_50, hG⟩ | ⟨h_50, hG⟩
       ·refine sb 56 (bt h_50) (ct (sq (rg (ra [] f0 [(2, B false)] (tN (kR (hR (tR (tR ?_))))))))); have he_ := hO2_34 _ (oi hG).symm; subst he_; replace hG := hG_34; refine hR (tR ?_); obtain rfl := oi hG; replace hG := hG_51; obtain rfl := oi hG; exact rt []
       ·exact sb 56 (bf h_50) (cf (kS (hN (tN (rg (ra [] f0 [(3, I (IntKind.i64.wrap (v_33 + 1)))] (tN (fun a w S hK hE => ⟨m_34, ⟨IntKind.i64.wrap (v_33 + 1), S, hK.wk, hE.sel [0, 1], hO1_34 _ (oi hG).symm⟩, Nat.lt_succ_self _⟩))))))))
     ·try simp only [lm_, Ka.n_Hops] at h_35
      refine sb 23 (bf h_35) (cf (kX (tX (tX ?_)))); have he_ := hO2_34 _ (oi hG).symm; subst he_; replace hG := hG_34; exact hH (tN (fun _ _ S k e => ⟨S, k.wk, e.sel [], oi hG⟩))
   ·rintro a w hJ; refine hJ.go ?_; clear hJ; rintro rfl; replace hG := el hG_51; refine sq (rg (ra [] f0 [(2, B true)] (tN (kR ?_)))); obtain rfl := oi hG; exact rt []
def G5 (F : Nat) (p_0 : Kg) (p_1 : Int) : Option ((List Int)) :=
  Option.bind (Option.bind (iter (σ := (List Int) × Int) (ρ := (List Int)) (un2 fun (v_20 : (List Int)) (v_23 : Int) => 
        (ifB (decide (v_23 < p_1))
          (Option.bind (ixI p_0.Entries v_23) (fun v_26 =>
          Option.bind (Gan F v_26) (fun v_29 =>
          Option.bind (apG 8 v_20 ([v_29] : List Int)) (fun v_31 =>
          some (.inl (v_31, IntKind.i64.wrap (v_23 + 1)))))))
          (some (.inr v_20)) : Option (((List Int) × Int) ⊕ (List Int)))) F (([] : List Int), 0)) (fun (v_32 : (List Int)) => 
      some v_32) : Option ((List Int))) (fun (v_36 : (List Int)) => 
    some v_36)
theorem zal (F : Nat) (p_0 : Kd) (p_1 : Int) (r : (List Int)) (hG : G5 F p_0.p p_1 = some r) :
  Cn Tryz.prog 26 [.agg #[I p_0.ID, .slice p_0.Entries_A p_0.Entries.length p_0.Entries_c], I p_1] [Kd.ok p_0] (fun q : Ks => r = q.l) (fun q => .slice q.A q.l.length q.c) (fun q => [RowC q.A q.c c_u64 tr q.l]) := by
 unfold G5 at hG
 try simp only [lm_, Ka.n_Hops] at hG
 refine fin Tryz.func26 rfl rfl (mc Kd.mv m0) fun S0 w0 hT => sq (rg (l1 (nw 2 vp [I p_0.ID, .slice p_0.Entries_A p_0.Entries.length p_0.Entries_c] 53 fun g_1 => ra [] f0 [] (tN (sq (rg (ra [] f0 [(5, .slice none 0 0)] (tN ?_))))))))
 obtain ⟨o_35, hG, hG_35⟩ := bs hG; refine jn (fun K E a w => ∃ (v_36 : List Int) (v_37_A : Option Addr) (v_38_c : Nat), Js S0 w0 22 ([(5, .slice v_37_A v_36.length v_38_c)] ++ K) ([.own 23 1 (.slice v_37_A v_36.length v_38_c) v_36.length (v_36.flatMap c_u64)]) (v_36 = o_35) a w) ?_ ?_
 ·refine sq (rg (ra [] f0 [(6, I 0)] (tN (bk ?_)))); obtain ⟨e_24, hL, hG_24⟩ := bs hG; clear hG; obtain ⟨stp_24, hs_24, hL⟩ := iter_gen hL; refine lp (fun K E n_ a w => ∃ (v_20 : List Int) (v_21_A : Option Addr) (v_22_c : Nat) (v_23 : Int), Js S0 w0 22 ([(5, .slice v_21_A v_20.length v_22_c), (6, I v_23)] ++ K) ([.dat (RowC p_0.Entries_A p_0.Entries_c Kb.cells tr p_0.Entries), .own 23 1 (.slice v_21_A v_20.length v_22_c) v_20.length (v_20.flatMap c_u64)] ++ se E [0]) (iter stp_24 n_ (v_20, v_23) = some e_24) a w) F ?_ ?_
  ·exact fg (Kd.ok p_0) 1 (fun _ _ h => h.f_Entries) (on 23 1 (fun _ _ S k e => ⟨([] : List Int), none, 0, 0, S, k.wk, e.sel [1, 0, 2], hL⟩))
  ·clear hL; rintro n_24 a w ⟨v_20, v_21_A, v_22_c, v_23, hJ⟩; refine hJ.go fun hL => ?_
   clear hJ; obtain ⟨m_24, o_24, rfl, hG, hO1_24, hO2_24⟩ := iter_step hL; clear hL; rw [hs_24] at hG; refine sq (sq (rg (ra [] f0 [(9, B (decide (v_23 < p_1)))] (tN ?_)))); rcases ic hG with ⟨h_25, hG⟩ | ⟨h_25, hG⟩
   ·refine sb 9 (bt h_25) (ct (kS (tN (sq (bk ?_))))); obtain ⟨v_26, hy_26, hG⟩ := bs hG; obtain ⟨v_29, hy_29, hG⟩ := bs hG; obtain ⟨v_31, hy_31, hG⟩ := bs hG; exact rg (fx inf51 (gd' (RowC p_0.Entries_A p_0.Entries_c Kb.cells tr p_0.Entries) 0) hy_26 fun b_27 o_28 hi_26 => rn 6 [(2, 1, 3, 1), (1, 0, 0, 0), (0, 3, 0, 0)] (fc (hi_26 .i64) f0) [(12, .slice v_21_A v_20.length v_22_c), (17, .agg #[U v_26.Doc, I v_26.Stamp.Lo, I v_26.Stamp.Hi])] (l1 (cl 18 (za4 F v_26 _ hy_29) hT trivial (l1 (nw 19 (vs 1) [U v_29] 23 fun g_30 => l1 (ap 3 20 v_21_A v_22_c v_20 ([v_29] : List Int) inf32 (bA (f := c_u64) (ok := tr) (l := ([v_29] : List Int)) g_30 0 et.a) hy_31 one_u64 fun v_31_A v_31_c _ => ra [] f0 [(5, .slice v_31_A v_31.length v_31_c)] (hN (tN (rg (ra [] f0 [(6, I (IntKind.i64.wrap (v_23 + 1)))] (tN (fun a w S hK hE => ⟨m_24, ⟨v_31, v_31_A, v_31_c, IntKind.i64.wrap (v_23 + 1), S, hK.wk, hE.sel [2, 3, 4], hO1_24 _ (oi hG).symm⟩, Nat.lt_succ_self _⟩))))))))))))
   ·refine sb 9 (bf h_25) (cf (kX (tX (tX ?_)))); have he_ := hO2_24 _ (oi hG).symm; subst he_; replace hG := hG_24; exact hH (tN (fun _ _ S k e => ⟨v_20, v_21_A, v_22_c, S, k.wk, e.sel [1], oi hG⟩))
 ·rintro a w ⟨v_36, v_37_A, v_38_c, hJ⟩; refine hJ.go ?_; clear hJ; rintro rfl; replace hG := hG_35; refine sq (rg (ra [] f0 [(4, .slice v_37_A v_36.length v_38_c)] (tN (kR ?_)))); obtain rfl := oi hG; exact so (A := v_37_A) (c := v_38_c) 0 c_u64 tr v_36 tr_mv et (rtn [] ⟨v_37_A, v_38_c, v_36⟩ rfl ⟨gi 0, trivial⟩)
def Gbr (F : Nat) (p_0 : List Kg) (p_1 : List Kc) (p_2 : List Int) (p_3 : Int) : Option (Int × Bool) :=
  Option.bind (Option.bind (iter (σ := (List Kc) × Int × (List Int) × Int) (ρ := ((List Kc) × (List Int) × Int) ⊕ Unit) (un4 fun (v_38 : (List Kc)) (v_41 : Int) (v_42 : (List Int)) (v_45 : Int) => 
        (ifB (decide (v_41 < (v_42.length : Int)))
          (Option.bind (ixI v_42 v_41) (fun v_48 =>
          Option.bind (ixI v_38 v_48) (fun v_51 =>
          Option.bind (ixI v_38 v_45) (fun v_54 =>
          ifB ((v_51.Office == v_54.Office))
            (some (.inr (.inr ())))
            (some (.inl (v_38, IntKind.i64.wrap (v_41 + 1), v_42, v_45)))))))
          (some (.inr (.inl (v_38, v_42, v_45)))) : Option (((List Kc) × Int × (List Int) × Int) ⊕ (((List Kc) × (List Int) × Int) ⊕ Unit)))) F (p_1, 0, p_2, p_3)) (Sum.elim (un3 fun (v_58 : (List Kc)) (v_61 : (List Int)) (v_64 : Int) => 
      some (.inl (v_58, v_61, v_64))) (fun (_ : Unit) => 
      some (.inr ()))) : Option (((List Kc) × (List Int) × Int) ⊕ Unit)) (Sum.elim (un3 fun (v_66 : (List Kc)) (v_69 : (List Int)) (v_72 : Int) => 
    Option.bind (ixI v_69 (IntKind.i64.wrap ((v_69.length : Int) - 1))) (fun v_73 =>
    Option.bind (ixI v_66 v_73) (fun v_76 =>
    Option.bind (ixI v_66 v_72) (fun v_80 =>
    Option.bind (Gb F p_0 v_80.Office) (fun v_83 =>
    Option.bind (ixI p_0 v_83) (fun v_84 =>
    Option.bind (ixI v_66 v_72) (fun v_87 =>
    Option.bind (G6 F v_76) (fun v_90 =>
    Option.bind (Gbs F v_84 v_87.Size v_90) (fun v_91 =>
    some (v_91, decide (v_91 ≥ 0))))))))))) (fun (_ : Unit) => 
    some (0, false)))
theorem zb7 (F : Nat) (p_0_A : Option Addr) (p_0_c : Nat) (p_0 : List Kd) (p_1_A : Option Addr) (p_1_c : Nat) (p_1 : List Kc) (p_2_A : Option Addr) (p_2_c : Nat) (p_2 : List Int) (p_3 : Int) (r : Int × Bool) (hG : Gbr F (p_0.map Kd.p) p_1 p_2 p_3 = some r) :
  Cf Tryz.prog 144 [.slice p_0_A p_0.length p_0_c, .slice p_1_A p_1.length p_1_c, .slice p_2_A p_2.length p_2_c, I p_3] [RowC p_0_A p_0_c Kd.cells Kd.ok p_0, RowC p_1_A p_1_c Kc.cells tr p_1, RowC p_2_A p_2_c c_i64 tr p_2] (.tuple #[I r.1, B r.2]) := by
 unfold Gbr at hG
 try simp only [lm_, Ka.n_Hops] at hG
 refine fi Tryz.func144 rfl rfl (mr Kd.mv (mr tr_mv (mr tr_mv m0))) fun S0 w0 hT => sq (rg (ra [] f0 [] (tN ?_)))
 obtain ⟨o_65, hG, hG_65⟩ := bs hG; refine jn (fun K E a w => ∃ (v_66 : List Kc) (v_67_A : Option Addr) (v_68_c : Nat) (v_69 : List Int) (v_70_A : Option Addr) (v_71_c : Nat) (v_72 : Int), Js S0 w0 63 ((ns 1 [.slice v_67_A v_66.length v_68_c, .slice v_70_A v_69.length v_71_c, I v_72]) ++ K) ([.dat (RowC v_67_A v_68_c Kc.cells tr v_66), .dat (RowC v_70_A v_71_c c_i64 tr v_69)] ++ se E [0]) (.inl (v_66, v_69, v_72) = o_65) a w) ?_ ?_
 ·refine sq (rg (ra [] f0 [(10, I 0)] (tN (bk ?_)))); obtain ⟨e_46, hL, hG_46⟩ := bs hG; clear hG; obtain ⟨stp_46, hs_46, hL⟩ := iter_gen hL; refine lp (fun K E n_ a w => ∃ (v_38 : List Kc) (v_39_A : Option Addr) (v_40_c : Nat) (v_41 : Int) (v_42 : List Int) (v_43_A : Option Addr) (v_44_c : Nat) (v_45 : Int), Js S0 w0 63 ([(1, .slice v_39_A v_38.length v_40_c), (2, .slice v_43_A v_42.length v_44_c), (3, I v_45), (10, I v_41)] ++ K) ([.dat (RowC v_39_A v_40_c Kc.cells tr v_38), .dat (RowC v_43_A v_44_c c_i64 tr v_42)] ++ se E [0]) (iter stp_46 n_ (v_38, v_41, v_42, v_45) = some e_46) a w) F ?_ ?_
  ·exact fun _ _ S k e => ⟨p_1, p_1_A, p_1_c, 0, p_2, p_2_A, p_2_c, p_3, S, k.wk, e.sel [1, 2, 0], hL⟩
  ·clear hL; rintro n_46 a w ⟨v_38, v_39_A, v_40_c, v_41, v_42, v_43_A, v_44_c, v_45, hJ⟩; refine hJ.go fun hL => ?_
   clear hJ; obtain ⟨m_46, o_46, rfl, hG, hO1_46, hO2_46⟩ := iter_step hL; clear hL; rw [hs_46] at hG; refine sq (sq (rg (ra [] f0 [(16, B (decide (v_41 < (v_42.length : Int))))] (tN ?_)))); rcases ic hG with ⟨h_47, hG⟩ | ⟨h_47, hG⟩
   ·try simp only [lm_, Ka.n_Hops] at h_47
    refine sb 16 (bt h_47) (ct (kS (tN (sq (bk (sq ?_)))))); obtain ⟨v_48, hy_48, hG⟩ := bs hG; obtain ⟨v_51, hy_51, hG⟩ := bs hG; obtain ⟨v_54, hy_54, hG⟩ := bs hG; refine qb (fx inf22 (gd' (RowC v_43_A v_44_c c_i64 tr v_42) 1) hy_48 fun b_49 o_50 hi_48 => fx inf39 (gd' (RowC v_39_A v_40_c Kc.cells tr v_38) 1) hy_51 fun b_52 o_53 hi_51 => fx inf39 (gd' (RowC v_39_A v_40_c Kc.cells tr v_38) 2) hy_54 fun b_55 o_56 hi_54 => qa [(3, 0, 0, 0), (0, 1, 2, 0), (0, 0, 0, 0), (1, 1, 1, 0), (2, 0, 0, 0), (1, 1, 0, 0)] (fc (hi_48 .i64) (fc (hi_51 .i64) (fc (hi_54 .i64) f0))) [(32, B (v_51.Office == v_54.Office))] (tN ?_)); rcases ic hG with ⟨h_57, hG⟩ | ⟨h_57, hG⟩
    ·refine sb 32 (bt h_57) (ct (sq (rg (ra [] f0 [(8, I 0), (9, B false)] (tN (kR (hR (tR (tR ?_))))))))); have he_ := hO2_46 _ (oi hG).symm; subst he_; replace hG := hG_46; refine hR (tR ?_); obtain rfl := oi hG; replace hG := hG_65; obtain rfl := oi hG; exact rt []
    ·exact sb 32 (bf h_57) (cf (kS (hN (tN (rg (ra [] f0 [(10, I (IntKind.i64.wrap (v_41 + 1)))] (tN (fun a w S hK hE => ⟨m_46, ⟨v_38, v_39_A, v_40_c, IntKind.i64.wrap (v_41 + 1), v_42, v_43_A, v_44_c, v_45, S, hK.wk, hE.sel [3, 4, 5], hO1_46 _ (oi hG).symm⟩, Nat.lt_succ_self _⟩))))))))
   ·try simp only [lm_, Ka.n_Hops] at h_47
    refine sb 16 (bf h_47) (cf (kX (tX (tX ?_)))); have he_ := hO2_46 _ (oi hG).symm; subst he_; replace hG := hG_46; exact hH (tN (fun _ _ S k e => ⟨v_38, v_39_A, v_40_c, v_42, v_43_A, v_44_c, v_45, S, k.wk, e.sel [0, 1, 2], oi hG⟩))
 ·rintro a w ⟨v_66, v_67_A, v_68_c, v_69, v_70_A, v_71_c, v_72, hJ⟩; refine hJ.go ?_; clear hJ; rintro rfl; replace hG := el hG_65; refine sq ?_; obtain ⟨v_73, hy_73, hG⟩ := bs hG; obtain ⟨v_76, hy_76, hG⟩ := bs hG; refine rg (fx inf22 (gd' (RowC v_70_A v_71_c c_i64 tr v_69) 1) hy_73 fun b_74 o_75 hi_73 => fx inf39 (gd' (RowC v_67_A v_68_c Kc.cells tr v_66) 1) hy_76 fun b_77 o_78 hi_76 => rn 9 [(5, 0, 0, 0), (0, 1, 1, 0), (0, 0, 0, 0), (0, 5, 0, 0)] (fc (hi_73 .i64) (fc (hi_76 .i64) f0)) [(41, .agg #[I v_76.Office, I v_76.Size, U v_76.Root, I v_76.Sig.C, I v_76.Sig.S])] (l1 (nw 11 vp [I 0, I 0, U 0, I 0, I 0] 27 fun g_79 => l1 (sr 0 g_79 (ns 0 [I v_76.Office, I v_76.Size, U v_76.Root, I v_76.Sig.C, I v_76.Sig.S]) (nl (tN (sq ?_))))))); obtain ⟨v_80, hy_80, hG⟩ := bs hG; obtain ⟨v_83, hy_83, hG⟩ := bs hG; obtain ⟨v_84o, hy_84, hG⟩ := bs hG; replace hG := bs hG; obtain ⟨v_87, hy_87, hG⟩ := hG; replace hG := bs hG; obtain ⟨v_90, hy_90, hG⟩ := hG; replace hG := bs hG; obtain ⟨v_91, hy_91, hG⟩ := hG; refine qb (fx inf39 (gd' (RowC v_67_A v_68_c Kc.cells tr v_66) 3) hy_80 fun b_81 o_82 hi_80 => qn 7 [(4, 0, 0, 0), (1, 1, 0, 0)] (fc (hi_80 .i64) f0) [(42, .slice p_0_A p_0.length p_0_c), (43, .slice p_0_A p_0.length p_0_c), (48, I v_80.Office)] (qc 49 (ze F p_0_A p_0_c p_0 v_80.Office _ hy_83) hT ⟨ga 6, trivial⟩ (fxn (p := Kd.p) inf38 (gd' (RowC p_0_A p_0_c Kd.cells Kd.ok p_0) 6) hy_84 fun v_84 b_85 o_86 he_84 hi_84 => ?_))); subst he_84
  try simp only [lm_, Ka.n_Hops] at hG
  refine fx inf39 (gd' (RowC v_67_A v_68_c Kc.cells tr v_66) 6) hy_87 fun b_88 o_89 hi_87 => qn 8 [(0, 0, 0, 0), (0, 2, 1, 0), (2, 0, 0, 0), (1, 1, 0, 1), (0, 5, 4, 0)] (fc (hi_84 .i64) (fc (hi_87 .i64) f0)) [(51, .agg #[I v_84.ID, .slice v_84.Entries_A v_84.Entries.length v_84.Entries_c]), (56, I v_87.Size), (57, .agg #[I v_76.Office, I v_76.Size, U v_76.Root, I v_76.Sig.C, I v_76.Sig.S])] (qc 58 (zam F v_76 _ hy_90) hT trivial (qc 59 (zb8 F v_84 v_87.Size v_90 _ hy_91) hT ⟨(gi 2).a, trivial⟩ (qa [] f0 [(12, I v_91)] (tN (sq (rg (ra [] f0 [(8, I v_91), (9, B (decide (v_91 ≥ 0)))] (tN (kR ?_)))))))))
  obtain rfl := oi hG; exact rt []
def Gbh (F : Nat) (p_0 : KHop) (p_1 : KHop) : Option (Bool) :=
  Option.bind (Gba F p_0.Grow p_1.Grow) (fun v_3 =>
  Option.bind (G4 F p_0.By p_1.By) (fun v_4 =>
  Option.bind (ifB (decide (p_0.Of = p_1.Of))
      (ifB (v_3)
        (some v_4)
        (some false))
      (some false) : Option (Bool)) (fun (v_8 : Bool) => 
    some v_8)))
theorem zb0 (F : Nat) (p_0 : Ke) (p_1 : Ke) (r : Bool) (hG : Gbh F p_0.p p_1.p = some r) :
  Cf Tryz.prog 56 [.agg #[I p_0.Of.Office, I p_0.Of.Size, U p_0.Of.Root, I p_0.Of.Sig.C, I p_0.Of.Sig.S, .slice p_0.Grow_A p_0.Grow.length p_0.Grow_c, I p_0.By.Head.Office, I p_0.By.Head.Size, U p_0.By.Head.Root, I p_0.By.Head.Sig.C, I p_0.By.Head.Sig.S, I p_0.By.Index, U p_0.By.Entry.Doc, I p_0.By.Entry.Stamp.Lo, I p_0.By.Entry.Stamp.Hi, .slice p_0.By.Path_A p_0.By.Path.length p_0.By.Path_c], .agg #[I p_1.Of.Office, I p_1.Of.Size, U p_1.Of.Root, I p_1.Of.Sig.C, I p_1.Of.Sig.S, .slice p_1.Grow_A p_1.Grow.length p_1.Grow_c, I p_1.By.Head.Office, I p_1.By.Head.Size, U p_1.By.Head.Root, I p_1.By.Head.Sig.C, I p_1.By.Head.Sig.S, I p_1.By.Index, U p_1.By.Entry.Doc, I p_1.By.Entry.Stamp.Lo, I p_1.By.Entry.Stamp.Hi, .slice p_1.By.Path_A p_1.By.Path.length p_1.By.Path_c]] [Ke.ok p_0, Ke.ok p_1] (B r) := by
 unfold Gbh at hG
 try simp only [lm_, Ka.n_Hops] at hG
 refine fi Tryz.func56 rfl rfl (mc Ke.mv (mc Ke.mv m0)) fun S0 w0 hT => sq (rg (l1 (nw 2 vp [I p_0.Of.Office, I p_0.Of.Size, U p_0.Of.Root, I p_0.Of.Sig.C, I p_0.Of.Sig.S, .slice p_0.Grow_A p_0.Grow.length p_0.Grow_c, I p_0.By.Head.Office, I p_0.By.Head.Size, U p_0.By.Head.Root, I p_0.By.Head.Sig.C, I p_0.By.Head.Sig.S, I p_0.By.Index, U p_0.By.Entry.Doc, I p_0.By.Entry.Stamp.Lo, I p_0.By.Entry.Stamp.Hi, .slice p_0.By.Path_A p_0.By.Path.length p_0.By.Path_c] 79 fun g_1 => l1 (nw 3 vp [I p_1.Of.Office, I p_1.Of.Size, U p_1.Of.Root, I p_1.Of.Sig.C, I p_1.Of.Sig.S, .slice p_1.Grow_A p_1.Grow.length p_1.Grow_c, I p_1.By.Head.Office, I p_1.By.Head.Size, U p_1.By.Head.Root, I p_1.By.Head.Sig.C, I p_1.By.Head.Sig.S, I p_1.By.Index, U p_1.By.Entry.Doc, I p_1.By.Entry.Stamp.Lo, I p_1.By.Entry.Stamp.Hi, .slice p_1.By.Path_A p_1.By.Path.length p_1.By.Path_c] 79 fun g_2 => ra [] f0 [] (tN (sq ?_))))))
 obtain ⟨v_3, hy_3, hG⟩ := bs hG; refine rg (rn 4 [(1, 1, 1, 5), (1, 1, 0, 5)] f0 [(8, .slice p_0.Grow_A p_0.Grow.length p_0.Grow_c), (10, .slice p_1.Grow_A p_1.Grow.length p_1.Grow_c)] (l1 (cl 11 (zbr F p_0.Grow_A p_0.Grow_c p_0.Grow p_1.Grow_A p_1.Grow_c p_1.Grow _ hy_3) hT ⟨(gm (Ke.ok p_0) 2 fun _ _ h => h.f_Grow).a, (gm (Ke.ok p_1) 3 fun _ _ h => h.f_Grow).a, trivial⟩ (ra [] f0 [(5, B v_3)] (tN (sq ?_)))))); obtain ⟨v_4, hy_4, hG⟩ := bs hG; refine rg (rn 4 [(1, 10, 1, 6), (1, 10, 0, 6)] f0 [(13, .agg #[I p_0.By.Head.Office, I p_0.By.Head.Size, U p_0.By.Head.Root, I p_0.By.Head.Sig.C, I p_0.By.Head.Sig.S, I p_0.By.Index, U p_0.By.Entry.Doc, I p_0.By.Entry.Stamp.Lo, I p_0.By.Entry.Stamp.Hi, .slice p_0.By.Path_A p_0.By.Path.length p_0.By.Path_c]), (15, .agg #[I p_1.By.Head.Office, I p_1.By.Head.Size, U p_1.By.Head.Root, I p_1.By.Head.Sig.C, I p_1.By.Head.Sig.S, I p_1.By.Index, U p_1.By.Entry.Doc, I p_1.By.Entry.Stamp.Lo, I p_1.By.Entry.Stamp.Hi, .slice p_1.By.Path_A p_1.By.Path.length p_1.By.Path_c])] (l1 (cl 16 (zj F p_0.By p_1.By _ hy_4) hT ⟨(gm (Ke.ok p_0) 2 fun _ _ h => h.b_By).a, (gm (Ke.ok p_1) 3 fun _ _ h => h.b_By).a, trivial⟩ (ra [] f0 [(6, B v_4)] (tN ?_))))); obtain ⟨o_7, hG, hG_7⟩ := bs hG; refine jn (fun K E a w => ∃ v_8 : Bool, Js S0 w0 28 ([(4, B v_8)] ++ K) (se E []) (v_8 = o_7) a w) ?_ ?_
 ·rcases ic hG with ⟨h_5, hG⟩ | ⟨h_5, hG⟩
  ·rcases ic hG with ⟨h_6, hG⟩ | ⟨h_6, hG⟩
   ·exact rg (rn 6 [(1, 5, 1, 0), (1, 5, 0, 0), (0, 0, 0, 0)] (fc (eql_KHead p_0.Of p_1.Of) f0) [(22, B (decide (p_0.Of = p_1.Of)))] (sb 22 (bt h_5) (rn 3 [] f0 [(25, B v_3)] (sb 25 (bt h_6) (ra [] f0 [(4, B v_4)] (tN (fun _ _ S k e => ⟨v_4, S, k.wk, e.sel [], oi hG⟩)))))))
   ·exact rg (rn 6 [(1, 5, 1, 0), (1, 5, 0, 0), (0, 0, 0, 0)] (fc (eql_KHead p_0.Of p_1.Of) f0) [(22, B (decide (p_0.Of = p_1.Of)))] (sb 22 (bt h_5) (rn 3 [] f0 [(25, B v_3)] (sb 25 (bf h_6) (ra [] f0 [(4, B false)] (tN (fun _ _ S k e => ⟨false, S, k.wk, e.sel [], oi hG⟩)))))))
  ·exact rg (rn 6 [(1, 5, 1, 0), (1, 5, 0, 0), (0, 0, 0, 0)] (fc (eql_KHead p_0.Of p_1.Of) f0) [(22, B (decide (p_0.Of = p_1.Of)))] (sb 22 (bf h_5) (ra [] f0 [(4, B false)] (tN (fun _ _ S k e => ⟨false, S, k.wk, e.sel [], oi hG⟩)))))
 ·rintro a w ⟨v_8, hJ⟩; refine hJ.go ?_; clear hJ; rintro rfl; replace hG := hG_7; refine kR ?_; obtain rfl := oi hG; exact rt []
def Gax (F : Nat) (p_0 : Int) (p_1 : KSig) (p_2 : List Int) : Option (Bool × Int) :=
 Option.bind (Option.bind (Gac F p_0) (fun v_2 =>
  ifB (v_2)
   (Option.bind (Gr F p_1.C 0) (fun v_4 =>
   ifB (v_4)
    (Option.bind (Gr F p_1.S 0) (fun v_6 =>
    some (p_2, !v_6)))
    (some (p_2, true))))
   (some (p_2, true))) : Option (((List Int) × Bool))) (un2 fun (v_8 : (List Int)) (v_11 : Bool) =>
  ifB (v_11)
   (some (false, 1))
   (Option.bind (Gd F 4 p_1.S) (fun v_13 =>
   Option.bind (Gd F p_0 (IntKind.i64.wrap (1073741789 - p_1.C))) (fun v_14 =>
   Option.bind (Gad F (Int.tmod (IntKind.i64.wrap (v_13 * v_14)) 2147483579) p_0 v_8) (fun v_15 =>
   some (decide (p_1 = (⟨v_15, p_1.S⟩ : KSig)), 0))))))
theorem zbe (F : Nat) (p_0 : Int) (p_1 : KSig) (p_2_A : Option Addr) (p_2_c : Nat) (p_2 : List Int) (r : Bool × Int) (hG : Gax F p_0 p_1 p_2 = some r) :
  Cf Tryz.prog 128 [I p_0, .agg #[I p_1.C, I p_1.S], .slice p_2_A p_2.length p_2_c] [RowC p_2_A p_2_c c_i64 tr p_2] (.tuple #[B r.1, I r.2]) := by
 unfold Gax at hG
 try simp only [lm_, Ka.n_Hops] at hG
 refine fi Tryz.func128 rfl rfl (mr tr_mv m0) fun S0 w0 hT => sq (rg (l1 (nw 4 vp [I p_1.C, I p_1.S] 25 fun g_1 => ra [] f0 [] (tN (sq ?_)))))
 obtain ⟨o_7, hG, hG_7⟩ := bs hG; refine jn (fun K E a w => ∃ (v_8 : List Int) (v_9_A : Option Addr) (v_10_c : Nat) (v_11 : Bool), Js S0 w0 43 ([(2, .slice v_9_A v_8.length v_10_c), (23, B v_11)] ++ K) ([.dat (RowC v_9_A v_10_c c_i64 tr v_8)] ++ se E [0]) ((v_8, v_11) = o_7) a w) ?_ ?_
 ·obtain ⟨v_2, hy_2, hG⟩ := bs hG; rcases ic hG with ⟨h_3, hG⟩ | ⟨h_3, hG⟩
  ·obtain ⟨v_4, hy_4, hG⟩ := bs hG; rcases ic hG with ⟨h_5, hG⟩ | ⟨h_5, hG⟩
   ·obtain ⟨v_6, hy_6, hG⟩ := bs hG; exact rg (rn 1 [] f0 [(9, I p_0)] (l1 (cl 10 (zz F p_0 _ hy_2) hT trivial (rn 2 [] f0 [(12, B (!v_2))] (sb 12 (nt h_3) (rn 2 [(1, 1, 0, 0)] f0 [(14, I p_1.C)] (l1 (cl 15 (zo F p_1.C 0 _ hy_4) hT trivial (rn 3 [] f0 [(18, B (!v_4))] (sb 18 (nt h_5) (rn 2 [(1, 1, 0, 1)] f0 [(20, I p_1.S)] (l1 (cl 21 (zo F p_1.S 0 _ hy_6) hT trivial (ra [] f0 [(23, B (!v_6))] (tN (fun _ _ S k e => ⟨p_2, p_2_A, p_2_c, !v_6, S, k.wk, e.sel [1, 0], oi hG⟩))))))))))))))))
   ·exact rg (rn 1 [] f0 [(9, I p_0)] (l1 (cl 10 (zz F p_0 _ hy_2) hT trivial (rn 2 [] f0 [(12, B (!v_2))] (sb 12 (nt h_3) (rn 2 [(1, 1, 0, 0)] f0 [(14, I p_1.C)] (l1 (cl 15 (zo F p_1.C 0 _ hy_4) hT trivial (rn 3 [] f0 [(18, B (!v_4))] (sb 18 (nf h_5) (ra [] f0 [(23, B true)] (tN (fun _ _ S k e => ⟨p_2, p_2_A, p_2_c, true, S, k.wk, e.sel [1, 0], oi hG⟩)))))))))))))
  ·exact rg (rn 1 [] f0 [(9, I p_0)] (l1 (cl 10 (zz F p_0 _ hy_2) hT trivial (rn 2 [] f0 [(12, B (!v_2))] (sb 12 (nf h_3) (ra [] f0 [(23, B true)] (tN (fun _ _ S k e => ⟨p_2, p_2_A, p_2_c, true, S, k.wk, e.sel [1, 0], oi hG⟩))))))))
 ·rintro a w ⟨v_8, v_9_A, v_10_c, v_11, hJ⟩; refine hJ.go ?_; clear hJ; rintro rfl; replace hG := hG_7; rcases ic hG with ⟨h_12, hG⟩ | ⟨h_12, hG⟩
  ·refine sb 23 (bt h_12) (ct (sq (rg (ra [] f0 [(6, B false), (7, I 1)] (tN (kR (tR ?_))))))); obtain rfl := oi hG; exact rt []
  ·refine sb 23 (bf h_12) (cf (kS (tN (sq ?_)))); obtain ⟨v_13, hy_13, hG⟩ := bs hG; obtain ⟨v_14, hy_14, hG⟩ := bs hG; refine qb (qn 2 [(1, 1, 1, 1)] f0 [(25, I p_1.S)] (qc 26 (zt F 4 p_1.S _ hy_13) hT trivial (qn 4 [(2, 1, 1, 0)] f0 [(27, I p_0), (30, I (IntKind.i64.wrap (1073741789 - p_1.C)))] (qc 31 (zt F p_0 (IntKind.i64.wrap (1073741789 - p_1.C)) _ hy_14) hT trivial (qa [(1, 0, 0, 0)] (fc (fun W => run_rem (T := 3) (k := .i64) (p := IntKind.i64.wrap (v_13 * v_14)) (q := 2147483579) (by decide) W) f0) [(8, I (Int.tmod (IntKind.i64.wrap (v_13 * v_14)) 2147483579))] (tN (sq ?_))))))); obtain ⟨v_15, hy_15, hG⟩ := bs hG; refine qb (qn 4 [(0, 2, 1, 0)] f0 (ns 34 [.agg #[I p_1.C, I p_1.S], I (Int.tmod (IntKind.i64.wrap (v_13 * v_14)) 2147483579), I p_0, .slice v_9_A v_8.length v_10_c]) (qc 38 (zav F (Int.tmod (IntKind.i64.wrap (v_13 * v_14)) 2147483579) p_0 v_9_A v_10_c v_8 _ hy_15) hT ⟨ga 0, trivial⟩ (qa [(1, 1, 1, 1), (1, 0, 0, 0)] (fc (eql_KSig p_1 (⟨v_15, p_1.S⟩ : KSig)) f0) [(6, B (decide (p_1 = (⟨v_15, p_1.S⟩ : KSig)))), (7, I 0)] (tN (kR ?_))))); obtain rfl := oi hG; exact rt []
def Gae (F : Nat) (p_0 : Int) : Option (Bool) :=
  Option.bind (ifB ((p_0 == 1))
      (some false)
      (Option.bind (Gac F p_0) (fun v_2 =>
      some v_2)) : Option (Bool)) (fun (v_4 : Bool) => 
    some v_4)
theorem zl (F : Nat) (p_0 : Int) (r : Bool) (hG : Gae F p_0 = some r) :
  Cf Tryz.prog 126 [I p_0] [] (B r) := by
 unfold Gae at hG; refine fi Tryz.func126 rfl rfl m0 fun S0 w0 hT => sq (rg (ra [] f0 [] (tN ?_)))
 obtain ⟨o_3, hG, hG_3⟩ := bs hG; refine jn (fun K E a w => ∃ v_4 : Bool, Js S0 w0 9 ([(2, B v_4)] ++ K) (se E []) (v_4 = o_3) a w) ?_ ?_
 ·rcases ic hG with ⟨h_1, hG⟩ | ⟨h_1, hG⟩
  ·exact rg (rn 3 [] f0 [(5, B (!(p_0 == 1)))] (sb 5 (nt h_1) (ra [] f0 [(2, B false)] (tN (fun _ _ S k e => ⟨false, S, k.wk, e.sel [], oi hG⟩)))))
  ·obtain ⟨v_2, hy_2, hG⟩ := bs hG; exact rg (rn 3 [] f0 [(5, B (!(p_0 == 1)))] (sb 5 (nf h_1) (rn 1 [] f0 [(6, I p_0)] (l1 (cl 7 (zz F p_0 _ hy_2) hT trivial (ra [] f0 [(2, B v_2)] (tN (fun _ _ S k e => ⟨v_2, S, k.wk, e.sel [], oi hG⟩))))))))
 ·rintro a w ⟨v_4, hJ⟩; refine hJ.go ?_; clear hJ; rintro rfl; replace hG := hG_3; refine kR ?_; obtain rfl := oi hG; exact rt []
def Ga3 (F : Nat) (p_0 : Kq) (p_1 : Int) (p_2 : Int) (p_3 : Int) (p_4 : Int) : Option (Kj × Bool) :=
  Option.bind (Option.bind (iter (σ := (List Kj) × Int × Int × Int × Int) (ρ := ((List Kj) × Int × Int)) (un5 fun (v_44 : (List Kj)) (v_47 : Int) (v_48 : Int) (v_49 : Int) (v_50 : Int) => 
        (ifB (decide (v_48 < (p_0.heads.length : Int)))
          (Option.bind (Option.bind (ixI p_0.heads v_48) (fun v_53 =>
            Option.bind (ifB ((v_53.Office == p_1))
                (some (decide (v_53.Size > v_47)))
                (some false) : Option (Bool)) (fun (v_59 : Bool) => 
              ifB (v_59)
                (Option.bind (apG 32 v_44 ([(⟨([v_53] : List Kc), v_47⟩ : Kj)] : List Kj)) (fun v_63 =>
                some v_63))
                (some v_44))) : Option ((List Kj))) (fun (v_65 : (List Kj)) => 
            some (.inl (v_65, v_47, IntKind.i64.wrap (v_48 + 1), v_49, v_50))))
          (some (.inr (v_44, v_49, v_50))) : Option (((List Kj) × Int × Int × Int × Int) ⊕ ((List Kj) × Int × Int)))) F (([] : List Kj), p_2, 0, p_3, p_4)) (un3 fun (v_68 : (List Kj)) (v_71 : Int) (v_72 : Int) => 
      some (v_68, v_71, v_72)) : Option (((List Kj) × Int × Int))) (un3 fun (v_74 : (List Kj)) (v_77 : Int) (v_78 : Int) => 
    Option.bind (Option.bind (iter (σ := (List Kj) × Int) (ρ := Unit ⊕ Kj) (un2 fun (v_212 : (List Kj)) (v_215 : Int) => 
          (ifB (decide (v_215 < 4))
            (Option.bind (Option.bind (iter (σ := (List Kj) × Int) (ρ := (List Kj) ⊕ Kj) (un2 fun (v_252 : (List Kj)) (v_257 : Int) => 
                  (ifB (decide (v_257 < (v_212.length : Int)))
                    (Option.bind (ixI v_212 v_257) (fun v_260 =>
                    Option.bind (G1 F v_260) (fun v_264 =>
                    Option.bind (ifB ((v_264.Office == v_77))
                        (ifB (decide (v_264.Size > v_78))
                          (some (decide (v_78 > v_260.at_)))
                          (some false))
                        (some false) : Option (Bool)) (fun (v_269 : Bool) => 
                      ifB (v_269)
                        (some (.inr (.inr v_260)))
                        (Option.bind (Ga2 F p_0 v_260) (fun v_271 =>
                        Option.bind (apG 32 v_252 v_271) (fun v_272 =>
                        some (.inl (v_272, IntKind.i64.wrap (v_257 + 1))))))))))
                    (some (.inr (.inl v_252))) : Option (((List Kj) × Int) ⊕ ((List Kj) ⊕ Kj)))) F (([] : List Kj), 0)) (Sum.elim (fun (v_273 : (List Kj)) => 
                some (.inl v_273)) (fun (v_276 : Kj) => 
                some (.inr v_276))) : Option ((List Kj) ⊕ Kj)) (Sum.elim (fun (v_278 : (List Kj)) => 
              some (.inl (v_278, IntKind.i64.wrap (v_215 + 1)))) (fun (v_281 : Kj) => 
              some (.inr (.inr v_281)))))
            (some (.inr (.inl ()))) : Option (((List Kj) × Int) ⊕ (Unit ⊕ Kj)))) F (v_74, 0)) (Sum.elim (fun (_ : Unit) => 
        some (.inl ())) (fun (v_282 : Kj) => 
        some (.inr v_282))) : Option (Unit ⊕ Kj)) (Sum.elim (fun (_ : Unit) => 
      some ((⟨([] : List Kc), 0⟩ : Kj), false)) (fun (v_284 : Kj) => 
      some (v_284, true))))
theorem zbj (F : Nat) (p_0_A : Nat) (p_0 : Kl) (p_1 : Int) (p_2 : Int) (p_3 : Int) (p_4 : Int) (r : Kj × Bool) (hG : Ga3 F p_0.p p_1 p_2 p_3 p_4 = some r) :
  Cn Tryz.prog 46 [Pt p_0_A 0, I p_1, I p_2, I p_3, I p_4] [fun S W => RecS S W p_0_A 0 p_0.cells, Kl.ok p_0] (fun q : Ki => r.1 = q.p) (fun q => .tuple #[.agg #[.slice q.heads_A q.heads.length q.heads_c, I q.at_], B r.2]) (fun q => [Ki.ok q]) := by
 unfold Ga3 at hG
 try simp only [lm_, Ka.n_Hops] at hG
 refine fin Tryz.func46 rfl rfl (mrec (mc Kl.mv m0)) fun S0 w0 hT => rp p_0_A p_0.cells (gd' (fun S W => RecS S W p_0_A 0 p_0.cells) 0) (sq (rg (l1 (nw 10 vp [.slice none 0 0, I 0] 96 fun g_1 => ra [] f0 [] (tN (sq (rg (ra [] f0 [(12, .slice none 0 0)] (tN ?_)))))))))
 obtain ⟨o_73, hG, hG_73⟩ := bs hG; refine jn (fun K E a w => ∃ (v_74 : List Ki) (v_75_A : Option Addr) (v_76_c : Nat) (v_77 v_78 : Int), Js S0 w0 82 ([(3, I v_77), (4, I v_78), (12, .slice v_75_A v_74.length v_76_c)] ++ dk [2] K) ([.own 96 2 (.slice v_75_A v_74.length v_76_c) v_74.length (v_74.flatMap Ki.cells), .dat (Each Ki.ok v_74)] ++ se E [0, 1, 3]) (((v_74.map Ki.p), v_77, v_78) = o_73) a w) ?_ ?_
 ·refine sq (rg (ra [(3, 1, 1, 1)] f0 (ns 22 [.slice p_0.heads_A p_0.heads.length p_0.heads_c, I (p_0.heads.length : Int), I 0]) (tN (bk ?_)))); obtain ⟨e_51, hL, hG_51⟩ := bs hG; clear hG; obtain ⟨stp_51, hs_51, hL⟩ := iter_gen hL; refine lp (fun K E n_ a w => ∃ (v_44 : List Ki) (v_45_A : Option Addr) (v_46_c : Nat) (v_47 v_48 v_49 v_50 : Int), Js S0 w0 82 ([(2, I v_47), (3, I v_49), (4, I v_50), (12, .slice v_45_A v_44.length v_46_c), (24, I v_48)] ++ K) ([.own 96 2 (.slice v_45_A v_44.length v_46_c) v_44.length (v_44.flatMap Ki.cells), .dat (Each Ki.ok v_44)] ++ se E [0, 1, 3]) (iter stp_51 n_ ((v_44.map Ki.p), v_47, v_48, v_49, v_50) = some e_51) a w) F ?_ ?_
  ·exact on 96 2 (fm (Each Ki.ok ([] : List Ki)) e0 (fun _ _ S k e => ⟨([] : List Ki), none, 0, p_2, 0, p_3, p_4, S, k.wk, e.sel [1, 0, 2, 3, 5], hL⟩))
  ·clear hL; rintro n_51 a w ⟨v_44, v_45_A, v_46_c, v_47, v_48, v_49, v_50, hJ⟩; refine hJ.go fun hL => ?_
   clear hJ; obtain ⟨m_51, o_51, rfl, hG, hO1_51, hO2_51⟩ := iter_step hL; clear hL; rw [hs_51] at hG
   try simp only [lm_, Ka.n_Hops] at hG
   refine sq (rg (ra [] f0 [(25, B (decide (v_48 < (p_0.heads.length : Int))))] (tN (sq ?_)))); rcases ic hG with ⟨h_52, hG⟩ | ⟨h_52, hG⟩
   ·try simp only [lm_, Ka.n_Hops] at h_52
    refine sb 25 (bt h_52) (ct (kS (tN ?_))); obtain ⟨o_64, hG, hG_64⟩ := bs hG; refine jn (fun K E a w => ∃ (v_65 : List Ki) (v_66_A : Option Addr) (v_67_c : Nat), Js S0 w0 82 ([(12, .slice v_66_A v_65.length v_67_c)] ++ K) ([.own 96 2 (.slice v_66_A v_65.length v_67_c) v_65.length (v_65.flatMap Ki.cells), .dat (Each Ki.ok v_65)] ++ se E [2, 3, 4]) ((v_65.map Ki.p) = o_64) a w) ?_ ?_
    ·refine bk (sq ?_); obtain ⟨v_53, hy_53, hG⟩ := bs hG; refine rg (fx inf39 (gm (Kl.ok p_0) 4 fun _ _ h => h.f_heads) hy_53 fun b_54 o_55 hi_53 => rn 2 [(0, 0, 0, 0), (0, 5, 0, 0)] (fc (hi_53 .i64) f0) [(27, .agg #[I v_53.Office, I v_53.Size, U v_53.Root, I v_53.Sig.C, I v_53.Sig.S])] (l1 (nw 14 vp [I 0, I 0, U 0, I 0, I 0] 27 fun g_56 => l1 (sr 0 g_56 (ns 0 [I v_53.Office, I v_53.Size, U v_53.Root, I v_53.Sig.C, I v_53.Sig.S]) (nl (tN ?_)))))); obtain ⟨o_58, hG, hG_58⟩ := bs hG; refine jn (fun K E a w => ∃ v_59 : Bool, Js S0 w0 82 ([(37, B v_59)] ++ K) (se E [0, 2, 3, 4, 5, 6]) (v_59 = o_58) a w) ?_ ?_
     ·rcases ic hG with ⟨h_57, hG⟩ | ⟨h_57, hG⟩
      ·exact rg (rn 5 [(1, 1, 0, 0)] f0 [(32, B (v_53.Office == p_1))] (sb 32 (bt h_57) (ra [(1, 1, 0, 1)] f0 [(37, B (decide (v_53.Size > v_47)))] (tN (fun _ _ S k e => ⟨decide (v_53.Size > v_47), S, k.wk, e.sel [0, 2, 3, 4, 5, 6], oi hG⟩)))))
      ·exact rg (rn 5 [(1, 1, 0, 0)] f0 [(32, B (v_53.Office == p_1))] (sb 32 (bf h_57) (ra [] f0 [(37, B false)] (tN (fun _ _ S k e => ⟨false, S, k.wk, e.sel [0, 2, 3, 4, 5, 6], oi hG⟩)))))
     ·rintro a w ⟨v_59, hJ⟩; refine hJ.go ?_; clear hJ; rintro rfl; replace hG := hG_58; rcases ic hG with ⟨h_60, hG⟩ | ⟨h_60, hG⟩
      ·refine sb 37 (bt h_60) (ct ?_); obtain ⟨v_63o, hy_63, hG⟩ := bs hG; refine rg (rn 2 [(1, 5, 0, 0)] f0 [(38, .slice v_45_A v_44.length v_46_c), (39, .agg #[I v_53.Office, I v_53.Size, U v_53.Root, I v_53.Sig.C, I v_53.Sig.S])] (l1 (nw 40 (vs 1) [I v_53.Office, I v_53.Size, U v_53.Root, I v_53.Sig.C, I v_53.Sig.S] 27 fun g_61 => rn 2 [] f0 [(42, .agg #[Sb g_61 1 1, I v_47])] (l1 (nw 43 (vs 1) [Sb g_61 1 1, I v_47] 96 fun g_62 => sB 1 g_61 Kc.cells tr ([v_53] : List Kc) tr_mv et (l1 (apn (p := Ki.p) (ok := Ki.ok) 3 44 v_45_A v_46_c v_44 ([(⟨(some ⟨g_61, 0, none⟩), 1, ([v_53] : List Kc), v_47⟩ : Ki)] : List Ki) inf157 (bA (f := Ki.cells) (ok := tr) (l := ([(⟨(some ⟨g_61, 0, none⟩), 1, ([v_53] : List Kc), v_47⟩ : Ki)] : List Ki)) g_62 0 et.a) (gd' (Each Ki.ok v_44) 4) (ec (((gd' (RowC (some ⟨g_61, 0, none⟩) 1 Kc.cells tr ([v_53] : List Kc)) 1)).m fun _ _ h => ⟨h⟩) e0) hy_63 Ki.one fun v_63 v_63_A v_63_c he_63 _ => ?_))))))); subst he_63
       try simp only [lm_, Ka.n_Hops] at hG
       exact ra [] f0 [(12, .slice v_63_A v_63.length v_63_c)] (hN (tN (fun _ _ S k e => ⟨v_63, v_63_A, v_63_c, S, k.wk, e.sel [4, 0, 6, 7, 8], oi hG⟩)))
      ·exact sb 37 (bf h_60) (cf (kS (hN (tN (fun _ _ S k e => ⟨v_44, v_45_A, v_46_c, S, k.wk, e.sel [1, 2, 3, 4, 5], oi hG⟩)))))
    ·rintro a w ⟨v_65, v_66_A, v_67_c, hJ⟩; refine hJ.go ?_; clear hJ; rintro rfl; replace hG := hG_64
     try simp only [lm_, Ka.n_Hops] at hG
     exact rg (ra [] f0 [(24, I (IntKind.i64.wrap (v_48 + 1)))] (tN (fun a w S hK hE => ⟨m_51, ⟨v_65, v_66_A, v_67_c, v_47, IntKind.i64.wrap (v_48 + 1), v_49, v_50, S, hK.wk, hE.sel [0, 1, 2, 3, 4], hO1_51 _ (oi hG).symm⟩, Nat.lt_succ_self _⟩)))
   ·try simp only [lm_, Ka.n_Hops] at h_52
    refine sb 25 (bf h_52) (cf (kX (tX (tX ?_)))); have he_ := hO2_51 _ (oi hG).symm; subst he_; replace hG := hG_51
    try simp only [lm_, Ka.n_Hops] at hG
    exact hH (tN (fun _ _ S k e => ⟨v_44, v_45_A, v_46_c, v_49, v_50, S, k.wk, e.sel [0, 1, 2, 3, 4], oi hG⟩))
 ·rintro a w ⟨v_74, v_75_A, v_76_c, v_77, v_78, hJ⟩; refine hJ.go ?_; clear hJ; rintro rfl; replace hG := hG_73
  try simp only [lm_, Ka.n_Hops] at hG
  obtain ⟨o_283, hG, hG_283⟩ := bs hG; refine jn (fun K E a w => Js S0 w0 82 (dk [12] K) (se E [2]) (.inl () = o_283) a w) ?_ ?_
  ·refine sq (rg (ra [] f0 [(46, I 0)] (tN (bk ?_)))); obtain ⟨e_216, hL, hG_216⟩ := bs hG; clear hG; obtain ⟨stp_216, hs_216, hL⟩ := iter_gen hL; refine lp (fun K E n_ a w => ∃ (v_212 : List Ki) (v_213_A : Option Addr) (v_214_c : Nat) (v_215 : Int), Js S0 w0 82 ([(12, .slice v_213_A v_212.length v_214_c), (46, I v_215)] ++ K) ([.own 96 2 (.slice v_213_A v_212.length v_214_c) v_212.length (v_212.flatMap Ki.cells), .dat (Each Ki.ok v_212)] ++ se E [2, 3, 4]) (iter stp_216 n_ ((v_212.map Ki.p), v_215) = some e_216) a w) F ?_ ?_
   ·exact fun _ _ S k e => ⟨v_74, v_75_A, v_76_c, 0, S, k.wk, e.sel [0, 1, 2, 3, 4], hL⟩
   ·clear hL; rintro n_216 a w ⟨v_212, v_213_A, v_214_c, v_215, hJ⟩; refine hJ.go fun hL => ?_
    clear hJ; obtain ⟨m_216, o_216, rfl, hG, hO1_216, hO2_216⟩ := iter_step hL; clear hL; rw [hs_216] at hG
    try simp only [lm_, Ka.n_Hops] at hG
    refine sq (rg (ra [] f0 [(47, B (decide (v_215 < 4)))] (tN (sq ?_)))); rcases ic hG with ⟨h_217, hG⟩ | ⟨h_217, hG⟩
    ·refine sb 47 (bt h_217) (ct (kS (tN (sq (bk (sq (rg (ra [] f0 [(15, .slice none 0 0)] (tN ?_))))))))); obtain ⟨o_277, hG, hG_277⟩ := bs hG; refine jn (fun K E a w => ∃ (v_278 : List Ki) (v_279_A : Option Addr) (v_280_c : Nat), Js S0 w0 82 ([(15, .slice v_279_A v_278.length v_280_c)] ++ K) ([.own 96 2 (.slice v_279_A v_278.length v_280_c) v_278.length (v_278.flatMap Ki.cells), .dat (Each Ki.ok v_278)] ++ se E [2, 3, 4]) (.inl (v_278.map Ki.p) = o_277) a w) ?_ ?_
     ·refine sq (rg (ra [] f0 (ns 48 [.slice v_213_A v_212.length v_214_c, I (v_212.length : Int), I 0]) (tN (bk ?_)))); obtain ⟨e_258, hL, hG_258⟩ := bs hG; clear hG; obtain ⟨stp_258, hs_258, hL⟩ := iter_gen hL; refine lp (fun K E n_ a w => ∃ (v_252 : List Ki) (v_253_A : Option Addr) (v_254_c : Nat) (v_255_A : Option Addr) (v_256_c : Nat) (v_257 : Int), Js S0 w0 82 ([(15, .slice v_253_A v_252.length v_254_c), (48, .slice v_255_A v_212.length v_256_c), (50, I v_257)] ++ K) ([.own 96 2 (.slice v_253_A v_252.length v_254_c) v_252.length (v_252.flatMap Ki.cells), .dat (Each Ki.ok v_252), .dat (RowC v_255_A v_256_c Ki.cells Ki.ok v_212)] ++ se E [2, 3, 4]) (iter stp_258 n_ ((v_252.map Ki.p), v_257) = some e_258) a w) F ?_ ?_
      ·exact on 96 2 (fm (Each Ki.ok ([] : List Ki)) e0 (so (A := v_213_A) (c := v_214_c) 2 Ki.cells Ki.ok v_212 Ki.mv (gd' (Each Ki.ok v_212) 3) (fun _ _ S k e => ⟨([] : List Ki), none, 0, v_213_A, v_214_c, 0, S, k.wk, e.sel [1, 0, 2, 4, 5, 6], hL⟩)))
      ·clear hL; rintro n_258 a w ⟨v_252, v_253_A, v_254_c, v_255_A, v_256_c, v_257, hJ⟩; refine hJ.go fun hL => ?_
       clear hJ; obtain ⟨m_258, o_258, rfl, hG, hO1_258, hO2_258⟩ := iter_step hL; clear hL; rw [hs_258] at hG
       try simp only [lm_, Ka.n_Hops] at hG
       refine sq (rg (ra [] f0 [(51, B (decide (v_257 < (v_212.length : Int))))] (tN (sq ?_)))); rcases ic hG with ⟨h_259, hG⟩ | ⟨h_259, hG⟩
       ·try simp only [lm_, Ka.n_Hops] at h_259
        refine sb 51 (bt h_259) (ct (kS (tN (sq (bk (sq ?_)))))); obtain ⟨v_260o, hy_260, hG⟩ := bs hG; refine rg (fxn (p := Ki.p) inf157 (gd' (RowC v_255_A v_256_c Ki.cells Ki.ok v_212) 2) hy_260 fun v_260 b_261 o_262 he_260 hi_260 => ?_); subst he_260
        try simp only [lm_, Ka.n_Hops] at hG
        refine rn 2 [(0, 0, 0, 0), (0, 2, 0, 0)] (fc (hi_260 .i64) f0) [(53, .agg #[.slice v_260.heads_A v_260.heads.length v_260.heads_c, I v_260.at_])] (l1 (nw 17 vp [.slice none 0 0, I 0] 96 fun g_263 => l1 (sr 0 g_263 [(0, .slice v_260.heads_A v_260.heads.length v_260.heads_c), (1, I v_260.at_)] (nl (tN (sq (sq ?_))))))); obtain ⟨v_264, hy_264, hG⟩ := bs hG; refine rg (rn 1 [(0, 2, 0, 0)] f0 [(54, .agg #[.slice v_260.heads_A v_260.heads.length v_260.heads_c, I v_260.at_])] (l1 (cl 55 (zaa F v_260 _ hy_264) hT ⟨(gi 2).a, trivial⟩ (l1 (nw 18 vp [I 0, I 0, U 0, I 0, I 0] 27 fun g_265 => l1 (sr 0 g_265 (ns 0 [I v_264.Office, I v_264.Size, U v_264.Root, I v_264.Sig.C, I v_264.Sig.S]) (nl (tN ?_)))))))); obtain ⟨o_268, hG, hG_268⟩ := bs hG; refine jn (fun K E a w => ∃ v_269 : Bool, Js S0 w0 82 ([(71, B v_269)] ++ K) ([.dat (RowC v_260.heads_A v_260.heads_c Kc.cells tr v_260.heads)] ++ se E [1, 4, 5, 6, 7, 8, 9]) (v_269 = o_268) a w) ?_ ?_
        ·rcases ic hG with ⟨h_266, hG⟩ | ⟨h_266, hG⟩
         ·rcases ic hG with ⟨h_267, hG⟩ | ⟨h_267, hG⟩
          ·exact rg (rn 5 [(1, 1, 0, 0)] f0 [(60, B (v_264.Office == v_77))] (sb 60 (bt h_266) (rn 6 [(1, 1, 0, 1)] f0 [(66, B (decide (v_264.Size > v_78)))] (sb 66 (bt h_267) (ra [(2, 1, 1, 1)] f0 [(71, B (decide (v_78 > v_260.at_)))] (tN (fg (Ki.ok v_260) 3 (fun _ _ h => h.f_heads) (fun _ _ S k e => ⟨decide (v_78 > v_260.at_), S, k.wk, e.sel [0, 2, 5, 6, 7, 8, 9, 10], oi hG⟩))))))))
          ·exact rg (rn 5 [(1, 1, 0, 0)] f0 [(60, B (v_264.Office == v_77))] (sb 60 (bt h_266) (rn 6 [(1, 1, 0, 1)] f0 [(66, B (decide (v_264.Size > v_78)))] (sb 66 (bf h_267) (ra [] f0 [(71, B false)] (tN (fg (Ki.ok v_260) 3 (fun _ _ h => h.f_heads) (fun _ _ S k e => ⟨false, S, k.wk, e.sel [0, 2, 5, 6, 7, 8, 9, 10], oi hG⟩))))))))
         ·exact rg (rn 5 [(1, 1, 0, 0)] f0 [(60, B (v_264.Office == v_77))] (sb 60 (bf h_266) (ra [] f0 [(71, B false)] (tN (fg (Ki.ok v_260) 3 (fun _ _ h => h.f_heads) (fun _ _ S k e => ⟨false, S, k.wk, e.sel [0, 2, 5, 6, 7, 8, 9, 10], oi hG⟩))))))
        ·rintro a w ⟨v_269, hJ⟩; refine hJ.go ?_; clear hJ; rintro rfl; replace hG := hG_268; rcases ic hG with ⟨h_270, hG⟩ | ⟨h_270, hG⟩
         ·refine sb 71 (bt h_270) (ct (sq (rg (rn 1 [(0, 2, 1, 0)] f0 [(72, .agg #[.slice v_260.heads_A v_260.heads.length v_260.heads_c, I v_260.at_])] (l1 (sr 5 g_1 [(0, .slice v_260.heads_A v_260.heads.length v_260.heads_c), (1, I v_260.at_)] (ra [] f0 [(11, B true)] (tN (kR (tR (hR (tR (tR ?_))))))))))))); have he_ := hO2_258 _ (oi hG).symm; subst he_; replace hG := hG_258
          try simp only [lm_, Ka.n_Hops] at hG
          refine hR (tR ?_); obtain rfl := oi hG; replace hG := hG_277
          try simp only [lm_, Ka.n_Hops] at hG
          refine hR (tR (tR ?_)); have he_ := hO2_216 _ (oi hG).symm; subst he_; replace hG := hG_216
          try simp only [lm_, Ka.n_Hops] at hG
          refine hR (tR ?_); obtain rfl := oi hG; replace hG := hG_283; obtain rfl := oi hG; exact rtn [(5, 0, 2)] v_260 rfl ⟨(((gd' (RowC v_260.heads_A v_260.heads_c Kc.cells tr v_260.heads) 0)).m fun _ _ h => ⟨h⟩), trivial⟩
         ·refine sb 71 (bf h_270) (cf (kS (tN ?_))); obtain ⟨v_271o, hy_271, hG⟩ := bs hG; replace hG := bs hG; obtain ⟨v_272o, hy_272, hG⟩ := hG; refine rg (rn 3 [(2, 2, 1, 0)] f0 (ns 73 [.slice v_253_A v_252.length v_254_c, Pt p_0_A 0, .agg #[.slice v_260.heads_A v_260.heads.length v_260.heads_c, I v_260.at_]]) (l1 (cn 76 (zbi F p_0_A p_0 v_260 _ hy_271) hT (fun _ => (mr Ki.mv m0)) ⟨(gr 6), (gi 7), (((gd' (RowC v_260.heads_A v_260.heads_c Kc.cells tr v_260.heads) 0)).m fun _ _ h => ⟨h⟩), trivial⟩ ?_))); rintro ⟨v_271_A, v_271_c, v_271⟩ hq_271; obtain rfl : (v_271.map Ki.p) = v_271o := hq_271.symm
          try simp only [lm_, Ka.n_Hops] at hG
          refine l1 (apn (p := Ki.p) (ok := Ki.ok) 3 77 v_253_A v_254_c v_252 v_271 inf157 (Fa.tr ((gd' (RowC v_271_A v_271_c Ki.cells Ki.ok v_271) 0).a)) (gd' (Each Ki.ok v_252) 4) (gm (RowC v_271_A v_271_c Ki.cells Ki.ok v_271) 0 fun _ _ h => h.e) hy_272 Ki.one fun v_272 v_272_A v_272_c he_272 _ => ?_); subst he_272
          try simp only [lm_, Ka.n_Hops] at hG
          exact ra [] f0 [(15, .slice v_272_A v_272.length v_272_c)] (hN (tN (rg (ra [] f0 [(50, I (IntKind.i64.wrap (v_257 + 1)))] (tN (fun a w S hK hE => ⟨m_258, ⟨v_272, v_272_A, v_272_c, v_255_A, v_256_c, IntKind.i64.wrap (v_257 + 1), S, hK.wk, hE.sel [4, 0, 6, 7, 8, 9], hO1_258 _ (oi hG).symm⟩, Nat.lt_succ_self _⟩))))))
       ·try simp only [lm_, Ka.n_Hops] at h_259
        refine sb 51 (bf h_259) (cf (kX (tX (tX ?_)))); have he_ := hO2_258 _ (oi hG).symm; subst he_; replace hG := hG_258
        try simp only [lm_, Ka.n_Hops] at hG
        exact hH (tN (fun _ _ S k e => ⟨v_252, v_253_A, v_254_c, S, k.wk, e.sel [0, 1, 3, 4, 5], oi hG⟩))
     ·rintro a w ⟨v_278, v_279_A, v_280_c, hJ⟩; refine hJ.go ?_; clear hJ; rintro rfl; replace hG := el hG_277
      try simp only [lm_, Ka.n_Hops] at hG
      exact rg (ra [] f0 [(12, .slice v_279_A v_278.length v_280_c)] (hN (tN (rg (ra [] f0 [(46, I (IntKind.i64.wrap (v_215 + 1)))] (tN (fun a w S hK hE => ⟨m_216, ⟨v_278, v_279_A, v_280_c, IntKind.i64.wrap (v_215 + 1), S, hK.wk, hE.sel [0, 1, 2, 3, 4], hO1_216 _ (oi hG).symm⟩, Nat.lt_succ_self _⟩)))))))
    ·refine sb 47 (bf h_217) (cf (kX (tX (tX ?_)))); have he_ := hO2_216 _ (oi hG).symm; subst he_; replace hG := hG_216
     try simp only [lm_, Ka.n_Hops] at hG
     exact hH (tN (fun _ _ S k e => ⟨S, k.wk, e.sel [2], oi hG⟩))
  ·rintro a w hJ; refine hJ.go ?_; clear hJ; rintro rfl; replace hG := el hG_283; refine sq (rg (rn 1 [] f0 [(81, .agg #[.slice none 0 0, I 0])] (l1 (sr 0 g_1 [(0, .slice none 0 0), (1, I 0)] (ra [] f0 [(11, B false)] (tN (kR ?_))))))); obtain rfl := oi hG; exact rtn [(0, 0, 2)] (⟨none, 0, ([] : List Kc), 0⟩ : Ki) rfl ⟨(((gn : Fd _ (RowC none 0 Kc.cells tr ([] : List Kc)))).m fun _ _ h => ⟨h⟩), trivial⟩
def Gm (F : Nat) (p_0 : Kg) : Option (Bool) :=
  Option.bind (Option.bind (iter (σ := Int) (ρ := Unit ⊕ Unit) (fun (v_27 : Int) => 
        (ifB (decide (v_27 < (p_0.Entries.length : Int)))
          (Option.bind (ixI p_0.Entries v_27) (fun v_30 =>
          Option.bind (Option.bind (Gaf F (⟨v_30⟩ : Kp)) (fun v_34 =>
            ifB (v_34)
              (ifB (decide (v_27 > 0))
                (Option.bind (ixI p_0.Entries (IntKind.i64.wrap (v_27 - 1))) (fun v_37 =>
                some (decide (v_30.Stamp.Lo < v_37.Stamp.Lo))))
                (some false))
              (some true)) : Option (Bool)) (fun (v_41 : Bool) => 
            ifB (v_41)
              (some (.inr (.inr ())))
              (some (.inl (IntKind.i64.wrap (v_27 + 1)))))))
          (some (.inr (.inl ()))) : Option (Int ⊕ (Unit ⊕ Unit)))) F 0) (Sum.elim (fun (_ : Unit) => 
      some (.inl ())) (fun (_ : Unit) => 
      some (.inr ()))) : Option (Unit ⊕ Unit)) (Sum.elim (fun (_ : Unit) => 
    Option.bind (Option.bind (Gc F p_0.ID 1 16) (fun v_44 =>
      ifB (v_44)
        (some (decide ((p_0.Entries.length : Int) ≤ 4096)))
        (some false)) : Option (Bool)) (fun (v_47 : Bool) => 
      some v_47)) (fun (_ : Unit) => 
    some false))
theorem za (F : Nat) (p_0 : Kd) (r : Bool) (hG : Gm F p_0.p = some r) :
  Cf Tryz.prog 58 [.agg #[I p_0.ID, .slice p_0.Entries_A p_0.Entries.length p_0.Entries_c]] [Kd.ok p_0] (B r) := by
 unfold Gm at hG
 try simp only [lm_, Ka.n_Hops] at hG
 refine fi Tryz.func58 rfl rfl (mc Kd.mv m0) fun S0 w0 hT => sq (rg (l1 (nw 1 vp [I p_0.ID, .slice p_0.Entries_A p_0.Entries.length p_0.Entries_c] 53 fun g_1 => ra [] f0 [] (tN ?_))))
 obtain ⟨o_43, hG, hG_43⟩ := bs hG; refine jn (fun K E a w => Js S0 w0 45 (K) ([.dat (RowC p_0.Entries_A p_0.Entries_c Kb.cells tr p_0.Entries)] ++ se E [0]) (.inl () = o_43) a w) ?_ ?_
 ·refine sq (rg (ra [(1, 1, 0, 1)] f0 (ns 6 [.slice p_0.Entries_A p_0.Entries.length p_0.Entries_c, I (p_0.Entries.length : Int), I 0]) (tN (bk ?_)))); obtain ⟨e_28, hL, hG_28⟩ := bs hG; clear hG; obtain ⟨stp_28, hs_28, hL⟩ := iter_gen hL; refine lp (fun K E n_ a w => ∃ v_27 : Int, Js S0 w0 45 ([(8, I v_27)] ++ K) ([.dat (RowC p_0.Entries_A p_0.Entries_c Kb.cells tr p_0.Entries)] ++ se E [0]) (iter stp_28 n_ v_27 = some e_28) a w) F ?_ ?_
  ·exact fg (Kd.ok p_0) 1 (fun _ _ h => h.f_Entries) (fun _ _ S k e => ⟨0, S, k.wk, e.sel [0, 1], hL⟩)
  ·clear hL; rintro n_28 a w ⟨v_27, hJ⟩; refine hJ.go fun hL => ?_
   clear hJ; obtain ⟨m_28, o_28, rfl, hG, hO1_28, hO2_28⟩ := iter_step hL; clear hL; rw [hs_28] at hG; refine sq (rg (ra [] f0 [(9, B (decide (v_27 < (p_0.Entries.length : Int))))] (tN (sq ?_)))); rcases ic hG with ⟨h_29, hG⟩ | ⟨h_29, hG⟩
   ·try simp only [lm_, Ka.n_Hops] at h_29
    refine sb 9 (bt h_29) (ct (kS (tN (sq (bk (sq ?_)))))); obtain ⟨v_30, hy_30, hG⟩ := bs hG; refine rg (fx inf51 (gd' (RowC p_0.Entries_A p_0.Entries_c Kb.cells tr p_0.Entries) 0) hy_30 fun b_31 o_32 hi_30 => rn 3 [(1, 0, 0, 0), (0, 3, 0, 0)] (fc (hi_30 .i64) f0) [(10, I v_27), (12, .agg #[U v_30.Doc, I v_30.Stamp.Lo, I v_30.Stamp.Hi])] (l1 (nw 4 vp [U 0, I 0, I 0] 31 fun g_33 => rn 1 [] f0 [(3, I v_27)] (l1 (sr 0 g_33 (ns 0 [U v_30.Doc, I v_30.Stamp.Lo, I v_30.Stamp.Hi]) (nl (tN ?_))))))); obtain ⟨o_40, hG, hG_40⟩ := bs hG; refine jn (fun K E a w => ∃ v_41 : Bool, Js S0 w0 45 ([(34, B v_41)] ++ K) (se E [2, 3]) (v_41 = o_40) a w) ?_ ?_
    ·obtain ⟨v_34, hy_34, hG⟩ := bs hG; rcases ic hG with ⟨h_35, hG⟩ | ⟨h_35, hG⟩
     ·rcases ic hG with ⟨h_36, hG⟩ | ⟨h_36, hG⟩
      ·obtain ⟨v_37, hy_37, hG⟩ := bs hG; exact qb (qn 2 [(0, 3, 0, 0)] f0 [(14, .agg #[U v_30.Doc, I v_30.Stamp.Lo, I v_30.Stamp.Hi])] (qc 15 (zq F (⟨v_30⟩ : Kp) _ hy_34) hT trivial (qn 2 [] f0 [(17, B (!v_34))] (sb 17 (nt h_35) (qn 3 [] f0 [(20, B (decide (v_27 > 0)))] (sb 20 (bt h_36) (fx inf51 (gd' (RowC p_0.Entries_A p_0.Entries_c Kb.cells tr p_0.Entries) 2) hy_37 fun b_38 o_39 hi_37 => qa [(2, 1, 1, 1), (1, 1, 4, 1), (2, 0, 0, 0), (2, 1, 0, 1)] (fc (hi_37 .i64) f0) [(34, B (decide (v_30.Stamp.Lo < v_37.Stamp.Lo)))] (tN (fun _ _ S k e => ⟨decide (v_30.Stamp.Lo < v_37.Stamp.Lo), S, k.wk, e.sel [3, 4], oi hG⟩)))))))))
      ·exact qb (qn 2 [(0, 3, 0, 0)] f0 [(14, .agg #[U v_30.Doc, I v_30.Stamp.Lo, I v_30.Stamp.Hi])] (qc 15 (zq F (⟨v_30⟩ : Kp) _ hy_34) hT trivial (qn 2 [] f0 [(17, B (!v_34))] (sb 17 (nt h_35) (qn 3 [] f0 [(20, B (decide (v_27 > 0)))] (sb 20 (bf h_36) (qa [] f0 [(34, B false)] (tN (fun _ _ S k e => ⟨false, S, k.wk, e.sel [2, 3], oi hG⟩)))))))))
     ·exact qb (qn 2 [(0, 3, 0, 0)] f0 [(14, .agg #[U v_30.Doc, I v_30.Stamp.Lo, I v_30.Stamp.Hi])] (qc 15 (zq F (⟨v_30⟩ : Kp) _ hy_34) hT trivial (qn 2 [] f0 [(17, B (!v_34))] (sb 17 (nf h_35) (qa [] f0 [(34, B true)] (tN (fun _ _ S k e => ⟨true, S, k.wk, e.sel [2, 3], oi hG⟩)))))))
    ·rintro a w ⟨v_41, hJ⟩; refine hJ.go ?_; clear hJ; rintro rfl; replace hG := hG_40; rcases ic hG with ⟨h_42, hG⟩ | ⟨h_42, hG⟩
     ·refine sb 34 (bt h_42) (ct (sq (rg (ra [] f0 [(2, B false)] (tN (kR (hR (tR (tR ?_))))))))); have he_ := hO2_28 _ (oi hG).symm; subst he_; replace hG := hG_28; refine hR (tR ?_); obtain rfl := oi hG; replace hG := hG_43; obtain rfl := oi hG; exact rt []
     ·exact sb 34 (bf h_42) (cf (kS (hN (tN (rg (ra [] f0 [(8, I (IntKind.i64.wrap (v_27 + 1)))] (tN (fun a w S hK hE => ⟨m_28, ⟨IntKind.i64.wrap (v_27 + 1), S, hK.wk, hE.sel [0, 1], hO1_28 _ (oi hG).symm⟩, Nat.lt_succ_self _⟩))))))))
   ·try simp only [lm_, Ka.n_Hops] at h_29
    refine sb 9 (bf h_29) (cf (kX (tX (tX ?_)))); have he_ := hO2_28 _ (oi hG).symm; subst he_; replace hG := hG_28; exact hH (tN (fun _ _ S k e => ⟨S, k.wk, e.sel [0, 1], oi hG⟩))
 ·rintro a w hJ; refine hJ.go ?_; clear hJ; rintro rfl; replace hG := el hG_43; obtain ⟨o_46, hG, hG_46⟩ := bs hG; refine jn (fun K E a w => ∃ v_47 : Bool, Js S0 w0 45 ([(2, B v_47)] ++ K) (se E []) (v_47 = o_46) a w) ?_ ?_
  ·obtain ⟨v_44, hy_44, hG⟩ := bs hG; rcases ic hG with ⟨h_45, hG⟩ | ⟨h_45, hG⟩
   ·exact rg (rn 2 [(1, 1, 1, 0)] f0 [(37, I p_0.ID)] (l1 (cl 38 (zc F p_0.ID 1 16 _ hy_44) hT trivial (rn 1 [] f0 [(39, B v_44)] (sb 39 (bt h_45) (ra [(1, 1, 1, 1)] f0 [(2, B (decide ((p_0.Entries.length : Int) ≤ 4096)))] (tN (fun _ _ S k e => ⟨decide ((p_0.Entries.length : Int) ≤ 4096), S, k.wk, e.sel [], oi hG⟩))))))))
   ·exact rg (rn 2 [(1, 1, 1, 0)] f0 [(37, I p_0.ID)] (l1 (cl 38 (zc F p_0.ID 1 16 _ hy_44) hT trivial (rn 1 [] f0 [(39, B v_44)] (sb 39 (bf h_45) (ra [] f0 [(2, B false)] (tN (fun _ _ S k e => ⟨false, S, k.wk, e.sel [], oi hG⟩))))))))
  ·rintro a w ⟨v_47, hJ⟩; refine hJ.go ?_; clear hJ; rintro rfl; replace hG := hG_46; refine kR ?_; obtain rfl := oi hG; exact rt []
def Gag (F : Nat) (p_0 : Kg) (p_1 : Int) : Option (Int × Int) :=
  Option.bind (slI p_0.Entries 0 p_1) (fun v_2 =>
  Option.bind (Option.bind (Option.bind (iter (σ := Int × (List Int)) (ρ := (List Int)) (un2 fun (v_23 : Int) (v_24 : (List Int)) => 
          (ifB (decide (v_23 < (v_2.length : Int)))
            (Option.bind (ixI v_2 v_23) (fun v_29 =>
            Option.bind (Gj F v_29) (fun v_33 =>
            Option.bind (apG 8 v_24 ([v_33] : List Int)) (fun v_35 =>
            some (.inl (IntKind.i64.wrap (v_23 + 1), v_35))))))
            (some (.inr v_24)) : Option ((Int × (List Int)) ⊕ (List Int)))) F (0, ([] : List Int))) (fun (v_36 : (List Int)) => 
        some v_36) : Option ((List Int))) (fun (v_40 : (List Int)) => 
      some v_40) : Option ((List Int))) (fun (v_43 : (List Int)) => 
    Option.bind (Gbv F v_43) (un2 fun v_47 v_48 =>
    some (v_47, v_48))))
theorem zay (F : Nat) (p_0 : Kd) (p_1 : Int) (r : Int × Int) (hG : Gag F p_0.p p_1 = some r) :
  Cf Tryz.prog 60 [.agg #[I p_0.ID, .slice p_0.Entries_A p_0.Entries.length p_0.Entries_c], I p_1] [Kd.ok p_0] (.tuple #[U r.1, I r.2]) := by
 unfold Gag at hG
 try simp only [lm_, Ka.n_Hops] at hG
 refine fi Tryz.func60 rfl rfl (mc Kd.mv m0) fun S0 w0 hT => sq (rg (l1 (nw 2 vp [I p_0.ID, .slice p_0.Entries_A p_0.Entries.length p_0.Entries_c] 53 fun g_1 => ra [] f0 [] (tN (sq ?_)))))
 obtain ⟨v_2, hy_2, hG⟩ := bs hG; obtain ⟨v_43o, hy_46, hG⟩ := bs hG; replace hG := b2 hG; obtain ⟨v_47, v_48, hy_47, hG⟩ := hG; refine rg (fp false true inf51 (gm (Kd.ok p_0) 1 fun _ _ h => h.f_Entries) hy_2 fun v_2_A v_2_c hp_2 => rn 4 [(1, 1, 1, 1), (1, 0, 0, 0)] (fc (hp_2 .i64 .i64) f0) [(9, .slice v_2_A v_2.length v_2_c)] (l1 (ci 10 (args := [.slice v_2_A v_2.length v_2_c, .func (.func 66) #[] #[]]) (fun E e w => ∃ (v_43 : List Int) (v_44_A : Option Addr) (v_45_c : Nat), Rs S0 w0 (.slice v_44_A v_43.length v_45_c) ([.dat (RowC p_0.Entries_A p_0.Entries_c Kb.cells tr p_0.Entries), .own 23 1 (.slice v_44_A v_43.length v_45_c) v_43.length (v_43.flatMap c_u64)] ++ se E [0, 1]) (v_43 = v_43o) e w) Tryz.func65 rfl rfl ?_ ?_)))
 ·replace hG := hy_46
  try simp only [lm_, Ka.n_Hops] at hG
  refine sq (rg (ra [] f0 [] (tN (sq (rg (ra [] f0 [(5, .slice none 0 0)] (tN ?_))))))); replace hG := bs hG; obtain ⟨o_85, hG, hG_85⟩ := hG; refine jn (fun K E a w => ∃ (v_86 : List Int) (v_87_A : Option Addr) (v_88_c : Nat), Js S0 w0 22 ([(5, .slice v_87_A v_86.length v_88_c)] ++ K) ([.dat (RowC p_0.Entries_A p_0.Entries_c Kb.cells tr p_0.Entries), .own 23 1 (.slice v_87_A v_86.length v_88_c) v_86.length (v_86.flatMap c_u64)] ++ se E [0, 1]) (v_86 = o_85) a w) ?_ ?_
  ·refine sq (rg (ra [] f0 (ns 8 [.slice v_2_A v_2.length v_2_c, I (v_2.length : Int), I 0]) (tN (bk ?_)))); obtain ⟨e_73, hL, hG_73⟩ := bs hG; clear hG; obtain ⟨stp_73, hs_73, hL⟩ := iter_gen hL; refine lp (fun K E n_ a w => ∃ (v_69 : Int) (v_70 : List Int) (v_71_A : Option Addr) (v_72_c : Nat), Js S0 w0 22 ([(5, .slice v_71_A v_70.length v_72_c), (10, I v_69)] ++ K) ([.dat (RowC p_0.Entries_A p_0.Entries_c Kb.cells tr p_0.Entries), .own 23 1 (.slice v_71_A v_70.length v_72_c) v_70.length (v_70.flatMap c_u64)] ++ se E [0, 1]) (iter stp_73 n_ (v_69, v_70) = some e_73) a w) F ?_ ?_
   ·exact fg (Kd.ok p_0) 2 (fun _ _ h => h.f_Entries) (on 23 1 (fun _ _ S k e => ⟨0, ([] : List Int), none, 0, S, k.wk, e.sel [1, 0, 2, 3], hL⟩))
   ·clear hL; rintro n_73 a w ⟨v_69, v_70, v_71_A, v_72_c, hJ⟩; refine hJ.go fun hL => ?_
    clear hJ; obtain ⟨m_73, o_73, rfl, hG, hO1_73, hO2_73⟩ := iter_step hL; clear hL; rw [hs_73] at hG; refine sq (rg (ra [] f0 [(11, B (decide (v_69 < (v_2.length : Int))))] (tN (sq ?_)))); replace hG := ic hG; rcases hG with ⟨h_74, hG⟩ | ⟨h_74, hG⟩
    ·try simp only [lm_, Ka.n_Hops] at h_74
     refine sb 11 (bt h_74) (ct (kS (tN (sq (bk (sq ?_)))))); replace hG := bs hG; obtain ⟨v_75, hy_75, hG⟩ := hG; refine rg (fx inf51 (gd' (RowC v_2_A v_2_c Kb.cells tr v_2) 2) hy_75 fun b_76 o_77 hi_75 => rn 2 [(0, 0, 0, 0), (0, 3, 0, 0)] (fc (hi_75 .i64) f0) [(13, .agg #[U v_75.Doc, I v_75.Stamp.Lo, I v_75.Stamp.Hi])] (l1 (nw 7 vp [U 0, I 0, I 0] 31 fun g_78 => l1 (sr 0 g_78 (ns 0 [U v_75.Doc, I v_75.Stamp.Lo, I v_75.Stamp.Hi]) (nl (tN ?_)))))); replace hG := bs hG; obtain ⟨v_79, hy_79, hG⟩ := hG; replace hG := bs hG; obtain ⟨v_81, hy_81, hG⟩ := hG; exact rg (rn 3 [(2, 3, 0, 0)] f0 (ns 14 [.slice v_71_A v_70.length v_72_c, .func (.func 66) #[] #[], .agg #[U v_75.Doc, I v_75.Stamp.Lo, I v_75.Stamp.Hi]]) (l1 (cl 17 (z8 F v_75 _ hy_79) hT trivial (l1 (nw 18 (vs 1) [U v_79] 23 fun g_80 => l1 (ap 4 19 v_71_A v_72_c v_70 ([v_79] : List Int) inf32 (bA (f := c_u64) (ok := tr) (l := ([v_79] : List Int)) g_80 0 et.a) hy_81 one_u64 fun v_81_A v_81_c _ => ra [] f0 [(5, .slice v_81_A v_81.length v_81_c)] (hN (tN (rg (ra [] f0 [(10, I (IntKind.i64.wrap (v_69 + 1)))] (tN (fun a w S hK hE => ⟨m_73, ⟨IntKind.i64.wrap (v_69 + 1), v_81, v_81_A, v_81_c, S, hK.wk, hE.sel [3, 4, 5, 6], hO1_73 _ (oi hG).symm⟩, Nat.lt_succ_self _⟩))))))))))))
    ·try simp only [lm_, Ka.n_Hops] at h_74
     refine sb 11 (bf h_74) (cf (kX (tX (tX ?_)))); have he_ := hO2_73 _ (oi hG).symm; subst he_; replace hG := hG_73; exact hH (tN (fun _ _ S k e => ⟨v_70, v_71_A, v_72_c, S, k.wk, e.sel [0, 1, 2, 3], oi hG⟩))
  ·rintro a w ⟨v_86, v_87_A, v_88_c, hJ⟩; refine hJ.go ?_; clear hJ; rintro rfl; replace hG := hG_85; exact sq (rg (ra [] f0 [(4, .slice v_87_A v_86.length v_88_c)] (tN (kR (ri [] (.slice v_87_A v_86.length v_88_c) (fun a w S hK hE => ⟨v_86, v_87_A, v_88_c, rfl, ⟨S, hE.sel [0, 1, 2, 3]⟩, oi hG⟩))))))
 ·rintro e w ⟨v_43, v_44_A, v_45_c, hJ⟩; refine hJ.go ?_; clear hJ; rintro rfl; refine l1 (cl 11 (za9 F v_44_A v_45_c v_43 _ hy_47) hT ⟨oa 1 et.a, trivial⟩ (ra [] f0 [(4, U v_47), (5, I v_48)] (tN (kR ?_)))); obtain rfl := oi hG; exact rt []
def Gab (F : Nat) (p_0 : Kg) (p_1 : Int) : Option ((List Int)) :=
  Option.bind (Option.bind (slI p_0.Entries 0 p_1) (fun v_2 =>
    Option.bind (iter (σ := Int × (List Int)) (ρ := (List Int)) (un2 fun (v_23 : Int) (v_24 : (List Int)) => 
        (ifB (decide (v_23 < (v_2.length : Int)))
          (Option.bind (ixI v_2 v_23) (fun v_29 =>
          Option.bind (Gj F v_29) (fun v_33 =>
          Option.bind (apG 8 v_24 ([v_33] : List Int)) (fun v_35 =>
          some (.inl (IntKind.i64.wrap (v_23 + 1), v_35))))))
          (some (.inr v_24)) : Option ((Int × (List Int)) ⊕ (List Int)))) F (0, ([] : List Int))) (fun (v_36 : (List Int)) => 
      some v_36)) : Option ((List Int))) (fun (v_40 : (List Int)) => 
    some v_40)
theorem zat (F : Nat) (p_0 : Kd) (p_1 : Int) (r : (List Int)) (hG : Gab F p_0.p p_1 = some r) :
  Cn Tryz.prog 106 [.agg #[I p_0.ID, .slice p_0.Entries_A p_0.Entries.length p_0.Entries_c], I p_1] [Kd.ok p_0] (fun q : Ks => r = q.l) (fun q => .slice q.A q.l.length q.c) (fun q => [RowC q.A q.c c_u64 tr q.l]) := by
 unfold Gab at hG
 try simp only [lm_, Ka.n_Hops] at hG
 refine fin Tryz.func106 rfl rfl (mc Kd.mv m0) fun S0 w0 hT => sq (rg (l1 (nw 2 vp [I p_0.ID, .slice p_0.Entries_A p_0.Entries.length p_0.Entries_c] 53 fun g_1 => ra [] f0 [] (tN (sq (rg (ra [] f0 [(5, .slice none 0 0)] (tN ?_))))))))
 obtain ⟨o_39, hG, hG_39⟩ := bs hG; refine jn (fun K E a w => ∃ (v_40 : List Int) (v_41_A : Option Addr) (v_42_c : Nat), Js S0 w0 24 ([(5, .slice v_41_A v_40.length v_42_c)] ++ K) ([.own 23 1 (.slice v_41_A v_40.length v_42_c) v_40.length (v_40.flatMap c_u64)]) (v_40 = o_39) a w) ?_ ?_
 ·refine sq ?_; obtain ⟨v_2, hy_2, hG⟩ := bs hG; refine rg (fp false true inf51 (gm (Kd.ok p_0) 1 fun _ _ h => h.f_Entries) hy_2 fun v_2_A v_2_c hp_2 => ra [(1, 1, 1, 1), (1, 0, 0, 0)] (fc (hp_2 .i64 .i64) f0) (ns 11 [.slice v_2_A v_2.length v_2_c, I (v_2.length : Int), I 0]) (tN (bk ?_))); obtain ⟨e_27, hL, hG_27⟩ := bs hG; clear hG; obtain ⟨stp_27, hs_27, hL⟩ := iter_gen hL; refine lp (fun K E n_ a w => ∃ (v_23 : Int) (v_24 : List Int) (v_25_A : Option Addr) (v_26_c : Nat), Js S0 w0 24 ([(5, .slice v_25_A v_24.length v_26_c), (13, I v_23)] ++ K) ([.own 23 1 (.slice v_25_A v_24.length v_26_c) v_24.length (v_24.flatMap c_u64)] ++ se E [0]) (iter stp_27 n_ (v_23, v_24) = some e_27) a w) F ?_ ?_
  ·exact on 23 1 (fun _ _ S k e => ⟨0, ([] : List Int), none, 0, S, k.wk, e.sel [0, 1], hL⟩)
  ·clear hL; rintro n_27 a w ⟨v_23, v_24, v_25_A, v_26_c, hJ⟩; refine hJ.go fun hL => ?_
   clear hJ; obtain ⟨m_27, o_27, rfl, hG, hO1_27, hO2_27⟩ := iter_step hL; clear hL; rw [hs_27] at hG; refine sq (rg (ra [] f0 [(14, B (decide (v_23 < (v_2.length : Int))))] (tN (sq ?_)))); rcases ic hG with ⟨h_28, hG⟩ | ⟨h_28, hG⟩
   ·try simp only [lm_, Ka.n_Hops] at h_28
    refine sb 14 (bt h_28) (ct (kS (tN (sq (bk (sq ?_)))))); obtain ⟨v_29, hy_29, hG⟩ := bs hG; refine rg (fx inf51 (gd' (RowC v_2_A v_2_c Kb.cells tr v_2) 1) hy_29 fun b_30 o_31 hi_29 => rn 2 [(0, 0, 0, 0), (0, 3, 0, 0)] (fc (hi_29 .i64) f0) [(16, .agg #[U v_29.Doc, I v_29.Stamp.Lo, I v_29.Stamp.Hi])] (l1 (nw 7 vp [U 0, I 0, I 0] 31 fun g_32 => l1 (sr 0 g_32 (ns 0 [U v_29.Doc, I v_29.Stamp.Lo, I v_29.Stamp.Hi]) (nl (tN ?_)))))); obtain ⟨v_33, hy_33, hG⟩ := bs hG; obtain ⟨v_35, hy_35, hG⟩ := bs hG; exact rg (rn 2 [(1, 3, 0, 0)] f0 [(17, .slice v_25_A v_24.length v_26_c), (18, .agg #[U v_29.Doc, I v_29.Stamp.Lo, I v_29.Stamp.Hi])] (l1 (cl 19 (z8 F v_29 _ hy_33) hT trivial (l1 (nw 20 (vs 1) [U v_33] 23 fun g_34 => l1 (ap 3 21 v_25_A v_26_c v_24 ([v_33] : List Int) inf32 (bA (f := c_u64) (ok := tr) (l := ([v_33] : List Int)) g_34 0 et.a) hy_35 one_u64 fun v_35_A v_35_c _ => ra [] f0 [(5, .slice v_35_A v_35.length v_35_c)] (hN (tN (rg (ra [] f0 [(13, I (IntKind.i64.wrap (v_23 + 1)))] (tN (fun a w S hK hE => ⟨m_27, ⟨IntKind.i64.wrap (v_23 + 1), v_35, v_35_A, v_35_c, S, hK.wk, hE.sel [3, 4], hO1_27 _ (oi hG).symm⟩, Nat.lt_succ_self _⟩))))))))))))
   ·try simp only [lm_, Ka.n_Hops] at h_28
    refine sb 14 (bf h_28) (cf (kX (tX (tX ?_)))); have he_ := hO2_27 _ (oi hG).symm; subst he_; replace hG := hG_27; exact hH (tN (fun _ _ S k e => ⟨v_24, v_25_A, v_26_c, S, k.wk, e.sel [0], oi hG⟩))
 ·rintro a w ⟨v_40, v_41_A, v_42_c, hJ⟩; refine hJ.go ?_; clear hJ; rintro rfl; replace hG := hG_39; refine sq (rg (ra [] f0 [(4, .slice v_41_A v_40.length v_42_c)] (tN (kR ?_)))); obtain rfl := oi hG; exact so (A := v_41_A) (c := v_42_c) 0 c_u64 tr v_40 tr_mv et (rtn [] ⟨v_41_A, v_42_c, v_40⟩ rfl ⟨gi 0, trivial⟩)
def G3 (F : Nat) (p_0 : Int) : Option (Bool) :=
  Option.bind (Gaj F p_0) (fun v_1 =>
  Option.bind (ifB (v_1)
      (some (!(p_0 == 1)))
      (some false) : Option (Bool)) (fun (v_4 : Bool) => 
    some v_4))
theorem zak (F : Nat) (p_0 : Int) (r : Bool) (hG : G3 F p_0 = some r) :
  Cf Tryz.prog 93 [I p_0] [] (B r) := by
 unfold G3 at hG; refine fi Tryz.func93 rfl rfl m0 fun S0 w0 hT => sq (rg (ra [] f0 [] (tN (sq ?_))))
 obtain ⟨v_1, hy_1, hG⟩ := bs hG; refine rg (rn 1 [] f0 [(4, I p_0)] (l1 (cl 5 (zab F p_0 _ hy_1) hT trivial (ra [] f0 [(3, B v_1)] (tN ?_))))); obtain ⟨o_3, hG, hG_3⟩ := bs hG; refine jn (fun K E a w => ∃ v_4 : Bool, Js S0 w0 11 ([(2, B v_4)] ++ K) (se E []) (v_4 = o_3) a w) ?_ ?_
 ·rcases ic hG with ⟨h_2, hG⟩ | ⟨h_2, hG⟩
  ·exact rg (rn 2 [] f0 [(7, B v_1)] (sb 7 (bt h_2) (ra [] f0 [(2, B (!(p_0 == 1)))] (tN (fun _ _ S k e => ⟨!(p_0 == 1), S, k.wk, e.sel [], oi hG⟩)))))
  ·exact rg (rn 2 [] f0 [(7, B v_1)] (sb 7 (bf h_2) (ra [] f0 [(2, B false)] (tN (fun _ _ S k e => ⟨false, S, k.wk, e.sel [], oi hG⟩)))))
 ·rintro a w ⟨v_4, hJ⟩; refine hJ.go ?_; clear hJ; rintro rfl; replace hG := hG_3; refine kR ?_; obtain rfl := oi hG; exact rt []
def Gu (F : Nat) (p_0 : Kk) : Option (Bool) :=
  Option.bind (Ga F p_0.Head) (fun v_2 =>
  Option.bind (Ga8 F p_0.Entry.Stamp) (fun v_3 =>
  Option.bind (ifB (v_2)
      (ifB (v_3)
        (ifB (decide (p_0.Index ≥ 0))
          (ifB (decide (p_0.Index < p_0.Head.Size))
            (some (decide ((p_0.Path.length : Int) ≤ 20)))
            (some false))
          (some false))
        (some false))
      (some false) : Option (Bool)) (fun (v_9 : Bool) => 
    some v_9)))
theorem zg (F : Nat) (p_0 : Kh) (r : Bool) (hG : Gu F p_0.p = some r) :
  Cf Tryz.prog 94 [.agg #[I p_0.Head.Office, I p_0.Head.Size, U p_0.Head.Root, I p_0.Head.Sig.C, I p_0.Head.Sig.S, I p_0.Index, U p_0.Entry.Doc, I p_0.Entry.Stamp.Lo, I p_0.Entry.Stamp.Hi, .slice p_0.Path_A p_0.Path.length p_0.Path_c]] [Kh.ok p_0] (B r) := by
 unfold Gu at hG
 try simp only [lm_, Ka.n_Hops] at hG
 refine fi Tryz.func94 rfl rfl (mc Kh.mv m0) fun S0 w0 hT => sq (rg (l1 (nw 1 vp [I p_0.Head.Office, I p_0.Head.Size, U p_0.Head.Root, I p_0.Head.Sig.C, I p_0.Head.Sig.S, I p_0.Index, U p_0.Entry.Doc, I p_0.Entry.Stamp.Lo, I p_0.Entry.Stamp.Hi, .slice p_0.Path_A p_0.Path.length p_0.Path_c] 34 fun g_1 => ra [] f0 [] (tN (sq ?_)))))
 obtain ⟨v_2, hy_2, hG⟩ := bs hG; refine rg (rn 2 [(1, 5, 0, 0)] f0 [(6, .agg #[I p_0.Head.Office, I p_0.Head.Size, U p_0.Head.Root, I p_0.Head.Sig.C, I p_0.Head.Sig.S])] (l1 (cl 7 (zf F p_0.Head _ hy_2) hT trivial (ra [] f0 [(3, B v_2)] (tN (sq ?_)))))); obtain ⟨v_3, hy_3, hG⟩ := bs hG; refine rg (rn 3 [(2, 2, 0, 7)] f0 [(10, .agg #[I p_0.Entry.Stamp.Lo, I p_0.Entry.Stamp.Hi])] (l1 (cl 11 (za0 F p_0.Entry.Stamp _ hy_3) hT trivial (ra [] f0 [(4, B v_3)] (tN ?_))))); obtain ⟨o_8, hG, hG_8⟩ := bs hG; refine jn (fun K E a w => ∃ v_9 : Bool, Js S0 w0 35 ([(2, B v_9)] ++ K) (se E []) (v_9 = o_8) a w) ?_ ?_
 ·rcases ic hG with ⟨h_4, hG⟩ | ⟨h_4, hG⟩
  ·rcases ic hG with ⟨h_5, hG⟩ | ⟨h_5, hG⟩
   ·rcases ic hG with ⟨h_6, hG⟩ | ⟨h_6, hG⟩
    ·rcases ic hG with ⟨h_7, hG⟩ | ⟨h_7, hG⟩
     ·exact rg (rn 2 [] f0 [(13, B v_2)] (sb 13 (bt h_4) (rn 3 [] f0 [(16, B v_3)] (sb 16 (bt h_5) (rn 5 [(1, 1, 0, 5)] f0 [(21, B (decide (p_0.Index ≥ 0)))] (sb 21 (bt h_6) (rn 8 [(1, 1, 0, 5), (2, 1, 0, 1)] f0 [(29, B (decide (p_0.Index < p_0.Head.Size)))] (sb 29 (bt h_7) (ra [(1, 1, 0, 9)] f0 [(2, B (decide ((p_0.Path.length : Int) ≤ 20)))] (tN (fun _ _ S k e => ⟨decide ((p_0.Path.length : Int) ≤ 20), S, k.wk, e.sel [], oi hG⟩)))))))))))
     ·exact rg (rn 2 [] f0 [(13, B v_2)] (sb 13 (bt h_4) (rn 3 [] f0 [(16, B v_3)] (sb 16 (bt h_5) (rn 5 [(1, 1, 0, 5)] f0 [(21, B (decide (p_0.Index ≥ 0)))] (sb 21 (bt h_6) (rn 8 [(1, 1, 0, 5), (2, 1, 0, 1)] f0 [(29, B (decide (p_0.Index < p_0.Head.Size)))] (sb 29 (bf h_7) (ra [] f0 [(2, B false)] (tN (fun _ _ S k e => ⟨false, S, k.wk, e.sel [], oi hG⟩)))))))))))
    ·exact rg (rn 2 [] f0 [(13, B v_2)] (sb 13 (bt h_4) (rn 3 [] f0 [(16, B v_3)] (sb 16 (bt h_5) (rn 5 [(1, 1, 0, 5)] f0 [(21, B (decide (p_0.Index ≥ 0)))] (sb 21 (bf h_6) (ra [] f0 [(2, B false)] (tN (fun _ _ S k e => ⟨false, S, k.wk, e.sel [], oi hG⟩)))))))))
   ·exact rg (rn 2 [] f0 [(13, B v_2)] (sb 13 (bt h_4) (rn 3 [] f0 [(16, B v_3)] (sb 16 (bf h_5) (ra [] f0 [(2, B false)] (tN (fun _ _ S k e => ⟨false, S, k.wk, e.sel [], oi hG⟩)))))))
  ·exact rg (rn 2 [] f0 [(13, B v_2)] (sb 13 (bf h_4) (ra [] f0 [(2, B false)] (tN (fun _ _ S k e => ⟨false, S, k.wk, e.sel [], oi hG⟩)))))
 ·rintro a w ⟨v_9, hJ⟩; refine hJ.go ?_; clear hJ; rintro rfl; replace hG := hG_8; refine kR ?_; obtain rfl := oi hG; exact rt []
def Gbd (F : Nat) (p_0 : Int) (p_1 : KSig) (p_2 : List Int) : Option (Bool × Int) :=
 Option.bind (Option.bind (Gaj F p_0) (fun v_2 =>
  ifB (v_2)
   (Option.bind (Gt F p_1.C) (fun v_4 =>
   ifB (v_4)
    (Option.bind (Gt F p_1.S) (fun v_6 =>
    some (p_2, !v_6)))
    (some (p_2, true))))
   (some (p_2, true))) : Option (((List Int) × Bool))) (un2 fun (v_8 : (List Int)) (v_11 : Bool) =>
  ifB (v_11)
   (some (false, 1))
   (Option.bind (Gbb F p_0 p_1) (fun v_13 =>
   Option.bind (Gbc F v_13 p_0 v_8) (fun v_14 =>
   some ((v_14 == p_1.C), 0)))))
theorem zbu (F : Nat) (p_0 : Int) (p_1 : KSig) (p_2_A : Option Addr) (p_2_c : Nat) (p_2 : List Int) (r : Bool × Int) (hG : Gbd F p_0 p_1 p_2 = some r) :
  Cf Tryz.prog 160 [I p_0, .agg #[I p_1.C, I p_1.S], .slice p_2_A p_2.length p_2_c] [RowC p_2_A p_2_c c_i64 tr p_2] (.tuple #[B r.1, I r.2]) := by
 unfold Gbd at hG
 try simp only [lm_, Ka.n_Hops] at hG
 refine fi Tryz.func160 rfl rfl (mr tr_mv m0) fun S0 w0 hT => sq (rg (l1 (nw 4 vp [I p_1.C, I p_1.S] 25 fun g_1 => ra [] f0 [] (tN (sq ?_)))))
 obtain ⟨o_7, hG, hG_7⟩ := bs hG; refine jn (fun K E a w => ∃ (v_8 : List Int) (v_9_A : Option Addr) (v_10_c : Nat) (v_11 : Bool), Js S0 w0 32 ([(2, .slice v_9_A v_8.length v_10_c), (22, B v_11)] ++ K) ([.dat (RowC v_9_A v_10_c c_i64 tr v_8)] ++ se E [0]) ((v_8, v_11) = o_7) a w) ?_ ?_
 ·obtain ⟨v_2, hy_2, hG⟩ := bs hG; rcases ic hG with ⟨h_3, hG⟩ | ⟨h_3, hG⟩
  ·obtain ⟨v_4, hy_4, hG⟩ := bs hG; rcases ic hG with ⟨h_5, hG⟩ | ⟨h_5, hG⟩
   ·obtain ⟨v_6, hy_6, hG⟩ := bs hG; exact rg (rn 1 [] f0 [(8, I p_0)] (l1 (cl 9 (zab F p_0 _ hy_2) hT trivial (rn 2 [] f0 [(11, B (!v_2))] (sb 11 (nt h_3) (rn 2 [(1, 1, 0, 0)] f0 [(13, I p_1.C)] (l1 (cl 14 (zv F p_1.C _ hy_4) hT trivial (rn 3 [] f0 [(17, B (!v_4))] (sb 17 (nt h_5) (rn 2 [(1, 1, 0, 1)] f0 [(19, I p_1.S)] (l1 (cl 20 (zv F p_1.S _ hy_6) hT trivial (ra [] f0 [(22, B (!v_6))] (tN (fun _ _ S k e => ⟨p_2, p_2_A, p_2_c, !v_6, S, k.wk, e.sel [1, 0], oi hG⟩))))))))))))))))
   ·exact rg (rn 1 [] f0 [(8, I p_0)] (l1 (cl 9 (zab F p_0 _ hy_2) hT trivial (rn 2 [] f0 [(11, B (!v_2))] (sb 11 (nt h_3) (rn 2 [(1, 1, 0, 0)] f0 [(13, I p_1.C)] (l1 (cl 14 (zv F p_1.C _ hy_4) hT trivial (rn 3 [] f0 [(17, B (!v_4))] (sb 17 (nf h_5) (ra [] f0 [(22, B true)] (tN (fun _ _ S k e => ⟨p_2, p_2_A, p_2_c, true, S, k.wk, e.sel [1, 0], oi hG⟩)))))))))))))
  ·exact rg (rn 1 [] f0 [(8, I p_0)] (l1 (cl 9 (zab F p_0 _ hy_2) hT trivial (rn 2 [] f0 [(11, B (!v_2))] (sb 11 (nf h_3) (ra [] f0 [(22, B true)] (tN (fun _ _ S k e => ⟨p_2, p_2_A, p_2_c, true, S, k.wk, e.sel [1, 0], oi hG⟩))))))))
 ·rintro a w ⟨v_8, v_9_A, v_10_c, v_11, hJ⟩; refine hJ.go ?_; clear hJ; rintro rfl; replace hG := hG_7; rcases ic hG with ⟨h_12, hG⟩ | ⟨h_12, hG⟩
  ·refine sb 22 (bt h_12) (ct (sq (rg (ra [] f0 [(6, B false), (7, I 1)] (tN (kR (tR ?_))))))); obtain rfl := oi hG; exact rt []
  ·refine sb 22 (bf h_12) (cf (kS (tN (sq ?_)))); obtain ⟨v_13, hy_13, hG⟩ := bs hG; obtain ⟨v_14, hy_14, hG⟩ := bs hG; refine qb (qn 2 [(1, 2, 1, 0)] f0 [(23, I p_0), (24, .agg #[I p_1.C, I p_1.S])] (qc 25 (zbs F p_0 p_1 _ hy_13) hT trivial (qn 2 [] f0 [(26, I p_0), (27, .slice v_9_A v_8.length v_10_c)] (qc 28 (zbt F v_13 p_0 v_9_A v_10_c v_8 _ hy_14) hT ⟨ga 0, trivial⟩ (qa [(1, 1, 1, 0)] f0 [(6, B (v_14 == p_1.C)), (7, I 0)] (tN (kR ?_))))))); obtain rfl := oi hG; exact rt []
end Go.Proofs.YtggaodokkcoagaaGreatDoor
