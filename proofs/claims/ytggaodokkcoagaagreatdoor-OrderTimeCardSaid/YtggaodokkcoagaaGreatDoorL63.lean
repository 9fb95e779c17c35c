/-
  Texts joined: Z4, Z5, Z6, Z7, Z8, Z9, Z10, Z11.
-/
import Derived.Test.YtggaodokkcoagaaGreatDoorProg
import Derived.Test.YtggaodokkcoagaaGreatDoorL61
import Derived.Test.YtggaodokkcoagaaGreatDoorL62
set_option linter.unusedSimpArgs false
set_option linter.unusedVariables false
set_option maxRecDepth 100000
set_option maxHeartbeats 16000000
namespace Go.Proofs.YtggaodokkcoagaaGreatDoor
open Go.RowKit Go.Maps
def Gaf (F : Nat) (p_0 : Int) (p_1 : KSig) (p_2 : List Int) : Option (Bool × Int) :=
 Option.bind (Option.bind (Gz F p_0) (fun v_2 =>
  ifB (v_2)
   (Option.bind (Gp F p_1.C 0) (fun v_4 =>
   ifB (v_4)
    (Option.bind (Gp F p_1.S 0) (fun v_6 =>
    some (p_2, !v_6)))
    (some (p_2, true))))
   (some (p_2, true))) : Option (((List Int) × Bool))) (un2 fun (v_8 : (List Int)) (v_11 : Bool) =>
  ifB (v_11)
   (some (false, 1))
   (Option.bind (Gf F 4 p_1.S) (fun v_13 =>
   Option.bind (Gf F p_0 (IntKind.i64.wrap (1073741789 - p_1.C))) (fun v_14 =>
   Option.bind (G0 F (Int.tmod (IntKind.i64.wrap (v_13 * v_14)) 2147483579) p_0 v_8) (fun v_15 =>
   some (decide (p_1 = (⟨v_15, p_1.S⟩ : KSig)), 0))))))
theorem zan (F : Nat) (p_0 : Int) (p_1 : KSig) (p_2_A : Option Addr) (p_2_c : Nat) (p_2 : List Int) (r : Bool × Int) (hG : Gaf F p_0 p_1 p_2 = some r) :
  Cf Tryz.prog 128 [I p_0, .agg #[I p_1.C, I p_1.S], .slice p_2_A p_2.length p_2_c] [RowC p_2_A p_2_c c_i64 tr p_2] (.tuple #[B r.1, I r.2]) := by
 unfold Gaf at hG
 try simp only [lm_, Kd.n_Hops] at hG
 refine fi Tryz.func128 rfl rfl (mr tr_mv m0) fun S0 w0 hT => sq (rg (l1 (nw 4 vp [I p_1.C, I p_1.S] 25 fun g_1 => ra [] f0 [] (tN (sq ?_)))))
 obtain ⟨o_7, hG, hG_7⟩ := bs hG; refine jn (fun K E a w => ∃ (v_8 : List Int) (v_9_A : Option Addr) (v_10_c : Nat) (v_11 : Bool), Js S0 w0 43 ([(2, .slice v_9_A v_8.length v_10_c), (23, B v_11)] ++ K) ([.dat (RowC v_9_A v_10_c c_i64 tr v_8)] ++ se E [0]) ((v_8, v_11) = o_7) a w) ?_ ?_
 ·obtain ⟨v_2, hy_2, hG⟩ := bs hG; rcases ic hG with ⟨h_3, hG⟩ | ⟨h_3, hG⟩
  ·obtain ⟨v_4, hy_4, hG⟩ := bs hG; rcases ic hG with ⟨h_5, hG⟩ | ⟨h_5, hG⟩
   ·obtain ⟨v_6, hy_6, hG⟩ := bs hG; exact rg (rn 1 [] f0 [(9, I p_0)] (l1 (cl 10 (zu F p_0 _ hy_2) hT trivial (rn 2 [] f0 [(12, B (!v_2))] (sb 12 (nt h_3) (rn 2 [(1, 1, 0, 0)] f0 [(14, I p_1.C)] (l1 (cl 15 (zn F p_1.C 0 _ hy_4) hT trivial (rn 3 [] f0 [(18, B (!v_4))] (sb 18 (nt h_5) (rn 2 [(1, 1, 0, 1)] f0 [(20, I p_1.S)] (l1 (cl 21 (zn F p_1.S 0 _ hy_6) hT trivial (ra [] f0 [(23, B (!v_6))] (tN (fun _ _ S k e => ⟨p_2, p_2_A, p_2_c, !v_6, S, k.wk, e.sel [1, 0], oi hG⟩))))))))))))))))
   ·exact rg (rn 1 [] f0 [(9, I p_0)] (l1 (cl 10 (zu F p_0 _ hy_2) hT trivial (rn 2 [] f0 [(12, B (!v_2))] (sb 12 (nt h_3) (rn 2 [(1, 1, 0, 0)] f0 [(14, I p_1.C)] (l1 (cl 15 (zn F p_1.C 0 _ hy_4) hT trivial (rn 3 [] f0 [(18, B (!v_4))] (sb 18 (nf h_5) (ra [] f0 [(23, B true)] (tN (fun _ _ S k e => ⟨p_2, p_2_A, p_2_c, true, S, k.wk, e.sel [1, 0], oi hG⟩)))))))))))))
  ·exact rg (rn 1 [] f0 [(9, I p_0)] (l1 (cl 10 (zu F p_0 _ hy_2) hT trivial (rn 2 [] f0 [(12, B (!v_2))] (sb 12 (nf h_3) (ra [] f0 [(23, B true)] (tN (fun _ _ S k e => ⟨p_2, p_2_A, p_2_c, true, S, k.wk, e.sel [1, 0], oi hG⟩))))))))
 ·rintro a w ⟨v_8, v_9_A, v_10_c, v_11, hJ⟩; refine hJ.go ?_; clear hJ; rintro rfl; replace hG := hG_7; rcases ic hG with ⟨h_12, hG⟩ | ⟨h_12, hG⟩
  ·refine sb 23 (bt h_12) (ct (sq (rg (ra [] f0 [(6, B false), (7, I 1)] (tN (kR (tR ?_))))))); obtain rfl := oi hG; exact rt []
  ·refine sb 23 (bf h_12) (cf (kS (tN (sq ?_)))); obtain ⟨v_13, hy_13, hG⟩ := bs hG; obtain ⟨v_14, hy_14, hG⟩ := bs hG; refine qb (qn 2 [(1, 1, 1, 1)] f0 [(25, I p_1.S)] (qc 26 (zr F 4 p_1.S _ hy_13) hT trivial (qn 4 [(2, 1, 1, 0)] f0 [(27, I p_0), (30, I (IntKind.i64.wrap (1073741789 - p_1.C)))] (qc 31 (zr F p_0 (IntKind.i64.wrap (1073741789 - p_1.C)) _ hy_14) hT trivial (qa [(1, 0, 0, 0)] (fc (fun W => run_rem (T := 3) (k := .i64) (p := IntKind.i64.wrap (v_13 * v_14)) (q := 2147483579) (by decide) W) f0) [(8, I (Int.tmod (IntKind.i64.wrap (v_13 * v_14)) 2147483579))] (tN (sq ?_))))))); obtain ⟨v_15, hy_15, hG⟩ := bs hG; refine qb (qn 4 [(0, 2, 1, 0)] f0 (ns 34 [.agg #[I p_1.C, I p_1.S], I (Int.tmod (IntKind.i64.wrap (v_13 * v_14)) 2147483579), I p_0, .slice v_9_A v_8.length v_10_c]) (qc 38 (z8 F (Int.tmod (IntKind.i64.wrap (v_13 * v_14)) 2147483579) p_0 v_9_A v_10_c v_8 _ hy_15) hT ⟨ga 0, trivial⟩ (qa [(1, 1, 1, 1), (1, 0, 0, 0)] (fc (eql_KSig p_1 (⟨v_15, p_1.S⟩ : KSig)) f0) [(6, B (decide (p_1 = (⟨v_15, p_1.S⟩ : KSig)))), (7, I 0)] (tN (kR ?_))))); obtain rfl := oi hG; exact rt []
def G2 (F : Nat) (p_0 : Int) : Option (Bool) :=
  Option.bind (ifB ((p_0 == 1))
      (some false)
      (Option.bind (Gz F p_0) (fun v_2 =>
      some v_2)) : Option (Bool)) (fun (v_4 : Bool) => 
    some v_4)
theorem zj (F : Nat) (p_0 : Int) (r : Bool) (hG : G2 F p_0 = some r) :
  Cf Tryz.prog 126 [I p_0] [] (B r) := by
 unfold G2 at hG; refine fi Tryz.func126 rfl rfl m0 fun S0 w0 hT => sq (rg (ra [] f0 [] (tN ?_)))
 obtain ⟨o_3, hG, hG_3⟩ := bs hG; refine jn (fun K E a w => ∃ v_4 : Bool, Js S0 w0 9 ([(2, B v_4)] ++ K) (se E []) (v_4 = o_3) a w) ?_ ?_
 ·rcases ic hG with ⟨h_1, hG⟩ | ⟨h_1, hG⟩
  ·exact rg (rn 3 [] f0 [(5, B (!(p_0 == 1)))] (sb 5 (nt h_1) (ra [] f0 [(2, B false)] (tN (fun _ _ S k e => ⟨false, S, k.wk, e.sel [], oi hG⟩)))))
  ·obtain ⟨v_2, hy_2, hG⟩ := bs hG; exact rg (rn 3 [] f0 [(5, B (!(p_0 == 1)))] (sb 5 (nf h_1) (rn 1 [] f0 [(6, I p_0)] (l1 (cl 7 (zu F p_0 _ hy_2) hT trivial (ra [] f0 [(2, B v_2)] (tN (fun _ _ S k e => ⟨v_2, S, k.wk, e.sel [], oi hG⟩))))))))
 ·rintro a w ⟨v_4, hJ⟩; refine hJ.go ?_; clear hJ; rintro rfl; replace hG := hG_3; refine kR ?_; obtain rfl := oi hG; exact rt []
def Gal (F : Nat) (p_0 : Ks) (p_1 : Int) (p_2 : Int) (p_3 : Int) (p_4 : Int) : Option (Kj × Bool) :=
  Option.bind (Option.bind (iter (σ := (List Kj) × Int × Int × Int × Int) (ρ := ((List Kj) × Int × Int)) (un5 fun (v_44 : (List Kj)) (v_47 : Int) (v_48 : Int) (v_49 : Int) (v_50 : Int) => 
        (ifB (decide (v_48 < (p_0.heads.length : Int)))
          (Option.bind (Option.bind (ixI p_0.heads v_48) (fun v_53 =>
            Option.bind (ifB ((v_53.Office == p_1))
                (some (decide (v_53.Size > v_47)))
                (some false) : Option (Bool)) (fun (v_59 : Bool) => 
              ifB (v_59)
                (Option.bind (apG 32 v_44 ([(⟨([v_53] : List Kc), v_47⟩ : Kj)] : List Kj)) (fun v_63 =>
                some v_63))
                (some v_44))) : Option ((List Kj))) (fun (v_65 : (List Kj)) => 
            some (.inl (v_65, v_47, IntKind.i64.wrap (v_48 + 1), v_49, v_50))))
          (some (.inr (v_44, v_49, v_50))) : Option (((List Kj) × Int × Int × Int × Int) ⊕ ((List Kj) × Int × Int)))) F (([] : List Kj), p_2, 0, p_3, p_4)) (un3 fun (v_68 : (List Kj)) (v_71 : Int) (v_72 : Int) => 
      some (v_68, v_71, v_72)) : Option (((List Kj) × Int × Int))) (un3 fun (v_74 : (List Kj)) (v_77 : Int) (v_78 : Int) => 
    Option.bind (Option.bind (iter (σ := (List Kj) × Int) (ρ := Unit ⊕ Kj) (un2 fun (v_212 : (List Kj)) (v_215 : Int) => 
          (ifB (decide (v_215 < 4))
            (Option.bind (Option.bind (iter (σ := (List Kj) × Int) (ρ := (List Kj) ⊕ Kj) (un2 fun (v_252 : (List Kj)) (v_257 : Int) => 
                  (ifB (decide (v_257 < (v_212.length : Int)))
                    (Option.bind (ixI v_212 v_257) (fun v_260 =>
                    Option.bind (Gw F v_260) (fun v_264 =>
                    Option.bind (ifB ((v_264.Office == v_77))
                        (ifB (decide (v_264.Size > v_78))
                          (some (decide (v_78 > v_260.at_)))
                          (some false))
                        (some false) : Option (Bool)) (fun (v_269 : Bool) => 
                      ifB (v_269)
                        (some (.inr (.inr v_260)))
                        (Option.bind (Gak F p_0 v_260) (fun v_271 =>
                        Option.bind (apG 32 v_252 v_271) (fun v_272 =>
                        some (.inl (v_272, IntKind.i64.wrap (v_257 + 1))))))))))
                    (some (.inr (.inl v_252))) : Option (((List Kj) × Int) ⊕ ((List Kj) ⊕ Kj)))) F (([] : List Kj), 0)) (Sum.elim (fun (v_273 : (List Kj)) => 
                some (.inl v_273)) (fun (v_276 : Kj) => 
                some (.inr v_276))) : Option ((List Kj) ⊕ Kj)) (Sum.elim (fun (v_278 : (List Kj)) => 
              some (.inl (v_278, IntKind.i64.wrap (v_215 + 1)))) (fun (v_281 : Kj) => 
              some (.inr (.inr v_281)))))
            (some (.inr (.inl ()))) : Option (((List Kj) × Int) ⊕ (Unit ⊕ Kj)))) F (v_74, 0)) (Sum.elim (fun (_ : Unit) => 
        some (.inl ())) (fun (v_282 : Kj) => 
        some (.inr v_282))) : Option (Unit ⊕ Kj)) (Sum.elim (fun (_ : Unit) => 
      some ((⟨([] : List Kc), 0⟩ : Kj), false)) (fun (v_284 : Kj) => 
      some (v_284, true))))
theorem zas (F : Nat) (p_0_A : Nat) (p_0 : Kl) (p_1 : Int) (p_2 : Int) (p_3 : Int) (p_4 : Int) (r : Kj × Bool) (hG : Gal F p_0.p p_1 p_2 p_3 p_4 = some r) :
  Cn Tryz.prog 46 [Pt p_0_A 0, I p_1, I p_2, I p_3, I p_4] [fun S W => RecS S W p_0_A 0 p_0.cells, Kl.ok p_0] (fun q : Ki => r.1 = q.p) (fun q => .tuple #[.agg #[.slice q.heads_A q.heads.length q.heads_c, I q.at_], B r.2]) (fun q => [Ki.ok q]) := by
 unfold Gal at hG
 try simp only [lm_, Kd.n_Hops] at hG
 refine fin Tryz.func46 rfl rfl (mrec (mc Kl.mv m0)) fun S0 w0 hT => rp p_0_A p_0.cells (gd' (fun S W => RecS S W p_0_A 0 p_0.cells) 0) (sq (rg (l1 (nw 10 vp [.slice none 0 0, I 0] 96 fun g_1 => ra [] f0 [] (tN (sq (rg (ra [] f0 [(12, .slice none 0 0)] (tN ?_)))))))))
 obtain ⟨o_73, hG, hG_73⟩ := bs hG; refine jn (fun K E a w => ∃ (v_74 : List Ki) (v_75_A : Option Addr) (v_76_c : Nat) (v_77 v_78 : Int), Js S0 w0 82 ([(3, I v_77), (4, I v_78), (12, .slice v_75_A v_74.length v_76_c)] ++ dk [2] K) ([.own 96 2 (.slice v_75_A v_74.length v_76_c) v_74.length (v_74.flatMap Ki.cells), .dat (Each Ki.ok v_74)] ++ se E [0, 1, 3]) (((v_74.map Ki.p), v_77, v_78) = o_73) a w) ?_ ?_
 ·refine sq (rg (ra [(3, 1, 1, 1)] f0 (ns 22 [.slice p_0.heads_A p_0.heads.length p_0.heads_c, I (p_0.heads.length : Int), I 0]) (tN (bk ?_)))); obtain ⟨e_51, hL, hG_51⟩ := bs hG; clear hG; obtain ⟨stp_51, hs_51, hL⟩ := iter_gen hL; refine lp (fun K E n_ a w => ∃ (v_44 : List Ki) (v_45_A : Option Addr) (v_46_c : Nat) (v_47 v_48 v_49 v_50 : Int), Js S0 w0 82 ([(2, I v_47), (3, I v_49), (4, I v_50), (12, .slice v_45_A v_44.length v_46_c), (24, I v_48)] ++ K) ([.own 96 2 (.slice v_45_A v_44.length v_46_c) v_44.length (v_44.flatMap Ki.cells), .dat (Each Ki.ok v_44)] ++ se E [0, 1, 3]) (iter stp_51 n_ ((v_44.map Ki.p), v_47, v_48, v_49, v_50) = some e_51) a w) F ?_ ?_
  ·exact on 96 2 (fm (Each Ki.ok ([] : List Ki)) e0 (fun _ _ S k e => ⟨([] : List Ki), none, 0, p_2, 0, p_3, p_4, S, k.wk, e.sel [1, 0, 2, 3, 5], hL⟩))
  ·clear hL; rintro n_51 a w ⟨v_44, v_45_A, v_46_c, v_47, v_48, v_49, v_50, hJ⟩; refine hJ.go fun hL => ?_
   clear hJ; obtain ⟨m_51, o_51, rfl, hG, hO1_51, hO2_51⟩ := iter_step hL; clear hL; rw [hs_51] at hG
   try simp only [lm_, Kd.n_Hops] at hG
   refine sq (rg (ra [] f0 [(25, B (decide (v_48 < (p_0.heads.length : Int))))] (tN (sq ?_)))); rcases ic hG with ⟨h_52, hG⟩ | ⟨h_52, hG⟩
   ·try simp only [lm_, Kd.n_Hops] at h_52
    refine sb 25 (bt h_52) (ct (kS (tN ?_))); obtain ⟨o_64, hG, hG_64⟩ := bs hG; refine jn (fun K E a w => ∃ (v_65 : List Ki) (v_66_A : Option Addr) (v_67_c : Nat), Js S0 w0 82 ([(12, .slice v_66_A v_65.length v_67_c)] ++ K) ([.own 96 2 (.slice v_66_A v_65.length v_67_c) v_65.length (v_65.flatMap Ki.cells), .dat (Each Ki.ok v_65)] ++ se E [2, 3, 4]) ((v_65.map Ki.p) = o_64) a w) ?_ ?_
    ·refine bk (sq ?_); obtain ⟨v_53, hy_53, hG⟩ := bs hG; refine rg (fx inf39 (gm (Kl.ok p_0) 4 fun _ _ h => h.f_heads) hy_53 fun b_54 o_55 hi_53 => rn 2 [(0, 0, 0, 0), (0, 5, 0, 0)] (fc (hi_53 .i64) f0) [(27, .agg #[I v_53.Office, I v_53.Size, U v_53.Root, I v_53.Sig.C, I v_53.Sig.S])] (l1 (nw 14 vp [I 0, I 0, U 0, I 0, I 0] 27 fun g_56 => l1 (sr 0 g_56 (ns 0 [I v_53.Office, I v_53.Size, U v_53.Root, I v_53.Sig.C, I v_53.Sig.S]) (nl (tN ?_)))))); obtain ⟨o_58, hG, hG_58⟩ := bs hG; refine jn (fun K E a w => ∃ v_59 : Bool, Js S0 w0 82 ([(37, B v_59)] ++ K) (se E [0, 2, 3, 4, 5, 6]) (v_59 = o_58) a w) ?_ ?_
     ·rcases ic hG with ⟨h_57, hG⟩ | ⟨h_57, hG⟩
      ·exact rg (rn 5 [(1, 1, 0, 0)] f0 [(32, B (v_53.Office == p_1))] (sb 32 (bt h_57) (ra [(1, 1, 0, 1)] f0 [(37, B (decide (v_53.Size > v_47)))] (tN (fun _ _ S k e => ⟨decide (v_53.Size > v_47), S, k.wk, e.sel [0, 2, 3, 4, 5, 6], oi hG⟩)))))
      ·exact rg (rn 5 [(1, 1, 0, 0)] f0 [(32, B (v_53.Office == p_1))] (sb 32 (bf h_57) (ra [] f0 [(37, B false)] (tN (fun _ _ S k e => ⟨false, S, k.wk, e.sel [0, 2, 3, 4, 5, 6], oi hG⟩)))))
     ·rintro a w ⟨v_59, hJ⟩; refine hJ.go ?_; clear hJ; rintro rfl; replace hG := hG_58; rcases ic hG with ⟨h_60, hG⟩ | ⟨h_60, hG⟩
      ·refine sb 37 (bt h_60) (ct ?_); obtain ⟨v_63o, hy_63, hG⟩ := bs hG; refine rg (rn 2 [(1, 5, 0, 0)] f0 [(38, .slice v_45_A v_44.length v_46_c), (39, .agg #[I v_53.Office, I v_53.Size, U v_53.Root, I v_53.Sig.C, I v_53.Sig.S])] (l1 (nw 40 (vs 1) [I v_53.Office, I v_53.Size, U v_53.Root, I v_53.Sig.C, I v_53.Sig.S] 27 fun g_61 => rn 2 [] f0 [(42, .agg #[Sb g_61 1 1, I v_47])] (l1 (nw 43 (vs 1) [Sb g_61 1 1, I v_47] 96 fun g_62 => sB 1 g_61 Kc.cells tr ([v_53] : List Kc) tr_mv et (l1 (apn (p := Ki.p) (ok := Ki.ok) 3 44 v_45_A v_46_c v_44 ([(⟨(some ⟨g_61, 0, none⟩), 1, ([v_53] : List Kc), v_47⟩ : Ki)] : List Ki) inf157 (bA (f := Ki.cells) (ok := tr) (l := ([(⟨(some ⟨g_61, 0, none⟩), 1, ([v_53] : List Kc), v_47⟩ : Ki)] : List Ki)) g_62 0 et.a) (gd' (Each Ki.ok v_44) 4) (ec (((gd' (RowC (some ⟨g_61, 0, none⟩) 1 Kc.cells tr ([v_53] : List Kc)) 1)).m fun _ _ h => ⟨h⟩) e0) hy_63 Ki.one fun v_63 v_63_A v_63_c he_63 _ => ?_))))))); subst he_63
       try simp only [lm_, Kd.n_Hops] at hG
       exact ra [] f0 [(12, .slice v_63_A v_63.length v_63_c)] (hN (tN (fun _ _ S k e => ⟨v_63, v_63_A, v_63_c, S, k.wk, e.sel [4, 0, 6, 7, 8], oi hG⟩)))
      ·exact sb 37 (bf h_60) (cf (kS (hN (tN (fun _ _ S k e => ⟨v_44, v_45_A, v_46_c, S, k.wk, e.sel [1, 2, 3, 4, 5], oi hG⟩)))))
    ·rintro a w ⟨v_65, v_66_A, v_67_c, hJ⟩; refine hJ.go ?_; clear hJ; rintro rfl; replace hG := hG_64
     try simp only [lm_, Kd.n_Hops] at hG
     exact rg (ra [] f0 [(24, I (IntKind.i64.wrap (v_48 + 1)))] (tN (fun a w S hK hE => ⟨m_51, ⟨v_65, v_66_A, v_67_c, v_47, IntKind.i64.wrap (v_48 + 1), v_49, v_50, S, hK.wk, hE.sel [0, 1, 2, 3, 4], hO1_51 _ (oi hG).symm⟩, Nat.lt_succ_self _⟩)))
   ·try simp only [lm_, Kd.n_Hops] at h_52
    refine sb 25 (bf h_52) (cf (kX (tX (tX ?_)))); have he_ := hO2_51 _ (oi hG).symm; subst he_; replace hG := hG_51
    try simp only [lm_, Kd.n_Hops] at hG
    exact hH (tN (fun _ _ S k e => ⟨v_44, v_45_A, v_46_c, v_49, v_50, S, k.wk, e.sel [0, 1, 2, 3, 4], oi hG⟩))
 ·rintro a w ⟨v_74, v_75_A, v_76_c, v_77, v_78, hJ⟩; refine hJ.go ?_; clear hJ; rintro rfl; replace hG := hG_73
  try simp only [lm_, Kd.n_Hops] at hG
  obtain ⟨o_283, hG, hG_283⟩ := bs hG; refine jn (fun K E a w => Js S0 w0 82 (dk [12] K) (se E [2]) (.inl () = o_283) a w) ?_ ?_
  ·refine sq (rg (ra [] f0 [(46, I 0)] (tN (bk ?_)))); obtain ⟨e_216, hL, hG_216⟩ := bs hG; clear hG; obtain ⟨stp_216, hs_216, hL⟩ := iter_gen hL; refine lp (fun K E n_ a w => ∃ (v_212 : List Ki) (v_213_A : Option Addr) (v_214_c : Nat) (v_215 : Int), Js S0 w0 82 ([(12, .slice v_213_A v_212.length v_214_c), (46, I v_215)] ++ K) ([.own 96 2 (.slice v_213_A v_212.length v_214_c) v_212.length (v_212.flatMap Ki.cells), .dat (Each Ki.ok v_212)] ++ se E [2, 3, 4]) (iter stp_216 n_ ((v_212.map Ki.p), v_215) = some e_216) a w) F ?_ ?_
   ·exact fun _ _ S k e => ⟨v_74, v_75_A, v_76_c, 0, S, k.wk, e.sel [0, 1, 2, 3, 4], hL⟩
   ·clear hL; rintro n_216 a w ⟨v_212, v_213_A, v_214_c, v_215, hJ⟩; refine hJ.go fun hL => ?_
    clear hJ; obtain ⟨m_216, o_216, rfl, hG, hO1_216, hO2_216⟩ := iter_step hL; clear hL; rw [hs_216] at hG
    try simp only [lm_, Kd.n_Hops] at hG
    refine sq (rg (ra [] f0 [(47, B (decide (v_215 < 4)))] (tN (sq ?_)))); rcases ic hG with ⟨h_217, hG⟩ | ⟨h_217, hG⟩
    ·refine sb 47 (bt h_217) (ct (kS (tN (sq (bk (sq (rg (ra [] f0 [(15, .slice none 0 0)] (tN ?_))))))))); obtain ⟨o_277, hG, hG_277⟩ := bs hG; refine jn (fun K E a w => ∃ (v_278 : List Ki) (v_279_A : Option Addr) (v_280_c : Nat), Js S0 w0 82 ([(15, .slice v_279_A v_278.length v_280_c)] ++ K) ([.own 96 2 (.slice v_279_A v_278.length v_280_c) v_278.length (v_278.flatMap Ki.cells), .dat (Each Ki.ok v_278)] ++ se E [2, 3, 4]) (.inl (v_278.map Ki.p) = o_277) a w) ?_ ?_
     ·refine sq (rg (ra [] f0 (ns 48 [.slice v_213_A v_212.length v_214_c, I (v_212.length : Int), I 0]) (tN (bk ?_)))); obtain ⟨e_258, hL, hG_258⟩ := bs hG; clear hG; obtain ⟨stp_258, hs_258, hL⟩ := iter_gen hL; refine lp (fun K E n_ a w => ∃ (v_252 : List Ki) (v_253_A : Option Addr) (v_254_c : Nat) (v_255_A : Option Addr) (v_256_c : Nat) (v_257 : Int), Js S0 w0 82 ([(15, .slice v_253_A v_252.length v_254_c), (48, .slice v_255_A v_212.length v_256_c), (50, I v_257)] ++ K) ([.own 96 2 (.slice v_253_A v_252.length v_254_c) v_252.length (v_252.flatMap Ki.cells), .dat (Each Ki.ok v_252), .dat (RowC v_255_A v_256_c Ki.cells Ki.ok v_212)] ++ se E [2, 3, 4]) (iter stp_258 n_ ((v_252.map Ki.p), v_257) = some e_258) a w) F ?_ ?_
      ·exact on 96 2 (fm (Each Ki.ok ([] : List Ki)) e0 (so (A := v_213_A) (c := v_214_c) 2 Ki.cells Ki.ok v_212 Ki.mv (gd' (Each Ki.ok v_212) 3) (fun _ _ S k e => ⟨([] : List Ki), none, 0, v_213_A, v_214_c, 0, S, k.wk, e.sel [1, 0, 2, 4, 5, 6], hL⟩)))
      ·clear hL; rintro n_258 a w ⟨v_252, v_253_A, v_254_c, v_255_A, v_256_c, v_257, hJ⟩; refine hJ.go fun hL => ?_
       clear hJ; obtain ⟨m_258, o_258, rfl, hG, hO1_258, hO2_258⟩ := iter_step hL; clear hL; rw [hs_258] at hG
       try simp only [lm_, Kd.n_Hops] at hG
       refine sq (rg (ra [] f0 [(51, B (decide (v_257 < (v_212.length : Int))))] (tN (sq ?_)))); rcases ic hG with ⟨h_259, hG⟩ | ⟨h_259, hG⟩
       ·try simp only [lm_, Kd.n_Hops] at h_259
        refine sb 51 (bt h_259) (ct (kS (tN (sq (bk (sq ?_)))))); obtain ⟨v_260o, hy_260, hG⟩ := bs hG; refine rg (fxn (p := Ki.p) inf157 (gd' (RowC v_255_A v_256_c Ki.cells Ki.ok v_212) 2) hy_260 fun v_260 b_261 o_262 he_260 hi_260 => ?_); subst he_260
        try simp only [lm_, Kd.n_Hops] at hG
        refine rn 2 [(0, 0, 0, 0), (0, 2, 0, 0)] (fc (hi_260 .i64) f0) [(53, .agg #[.slice v_260.heads_A v_260.heads.length v_260.heads_c, I v_260.at_])] (l1 (nw 17 vp [.slice none 0 0, I 0] 96 fun g_263 => l1 (sr 0 g_263 [(0, .slice v_260.heads_A v_260.heads.length v_260.heads_c), (1, I v_260.at_)] (nl (tN (sq (sq ?_))))))); obtain ⟨v_264, hy_264, hG⟩ := bs hG; refine rg (rn 1 [(0, 2, 0, 0)] f0 [(54, .agg #[.slice v_260.heads_A v_260.heads.length v_260.heads_c, I v_260.at_])] (l1 (cl 55 (zw F v_260 _ hy_264) hT ⟨(gi 2).a, trivial⟩ (l1 (nw 18 vp [I 0, I 0, U 0, I 0, I 0] 27 fun g_265 => l1 (sr 0 g_265 (ns 0 [I v_264.Office, I v_264.Size, U v_264.Root, I v_264.Sig.C, I v_264.Sig.S]) (nl (tN ?_)))))))); obtain ⟨o_268, hG, hG_268⟩ := bs hG; refine jn (fun K E a w => ∃ v_269 : Bool, Js S0 w0 82 ([(71, B v_269)] ++ K) ([.dat (RowC v_260.heads_A v_260.heads_c Kc.cells tr v_260.heads)] ++ se E [1, 4, 5, 6, 7, 8, 9]) (v_269 = o_268) a w) ?_ ?_
        ·rcases ic hG with ⟨h_266, hG⟩ | ⟨h_266, hG⟩
         ·rcases ic hG with ⟨h_267, hG⟩ | ⟨h_267, hG⟩
          ·exact rg (rn 5 [(1, 1, 0, 0)] f0 [(60, B (v_264.Office == v_77))] (sb 60 (bt h_266) (rn 6 [(1, 1, 0, 1)] f0 [(66, B (decide (v_264.Size > v_78)))] (sb 66 (bt h_267) (ra [(2, 1, 1, 1)] f0 [(71, B (decide (v_78 > v_260.at_)))] (tN (fg (Ki.ok v_260) 3 (fun _ _ h => h.f_heads) (fun _ _ S k e => ⟨decide (v_78 > v_260.at_), S, k.wk, e.sel [0, 2, 5, 6, 7, 8, 9, 10], oi hG⟩))))))))
          ·exact rg (rn 5 [(1, 1, 0, 0)] f0 [(60, B (v_264.Office == v_77))] (sb 60 (bt h_266) (rn 6 [(1, 1, 0, 1)] f0 [(66, B (decide (v_264.Size > v_78)))] (sb 66 (bf h_267) (ra [] f0 [(71, B false)] (tN (fg (Ki.ok v_260) 3 (fun _ _ h => h.f_heads) (fun _ _ S k e => ⟨false, S, k.wk, e.sel [0, 2, 5, 6, 7, 8, 9, 10], oi hG⟩))))))))
         ·exact rg (rn 5 [(1, 1, 0, 0)] f0 [(60, B (v_264.Office == v_77))] (sb 60 (bf h_266) (ra [] f0 [(71, B false)] (tN (fg (Ki.ok v_260) 3 (fun _ _ h => h.f_heads) (fun _ _ S k e => ⟨false, S, k.wk, e.sel [0, 2, 5, 6, 7, 8, 9, 10], oi hG⟩))))))
        ·rintro a w ⟨v_269, hJ⟩; refine hJ.go ?_; clear hJ; rintro rfl; replace hG := hG_268; rcases ic hG with ⟨h_270, hG⟩ | ⟨h_270, hG⟩
         ·refine sb 71 (bt h_270) (ct (sq (rg (rn 1 [(0, 2, 1, 0)] f0 [(72, .agg #[.slice v_260.heads_A v_260.heads.length v_260.heads_c, I v_260.at_])] (l1 (sr 5 g_1 [(0, .slice v_260.heads_A v_260.heads.length v_260.heads_c), (1, I v_260.at_)] (ra [] f0 [(11, B true)] (tN (kR (tR (hR (tR (tR ?_))))))))))))); have he_ := hO2_258 _ (oi hG).symm; subst he_; replace hG := hG_258
          try simp only [lm_, Kd.n_Hops] at hG
          refine hR (tR ?_); obtain rfl := oi hG; replace hG := hG_277
          try simp only [lm_, Kd.n_Hops] at hG
          refine hR (tR (tR ?_)); have he_ := hO2_216 _ (oi hG).symm; subst he_; replace hG := hG_216
          try simp only [lm_, Kd.n_Hops] at hG
          refine hR (tR ?_); obtain rfl := oi hG; replace hG := hG_283; obtain rfl := oi hG; exact rtn [(5, 0, 2)] v_260 rfl ⟨(((gd' (RowC v_260.heads_A v_260.heads_c Kc.cells tr v_260.heads) 0)).m fun _ _ h => ⟨h⟩), trivial⟩
         ·refine sb 71 (bf h_270) (cf (kS (tN ?_))); obtain ⟨v_271o, hy_271, hG⟩ := bs hG; replace hG := bs hG; obtain ⟨v_272o, hy_272, hG⟩ := hG; refine rg (rn 3 [(2, 2, 1, 0)] f0 (ns 73 [.slice v_253_A v_252.length v_254_c, Pt p_0_A 0, .agg #[.slice v_260.heads_A v_260.heads.length v_260.heads_c, I v_260.at_]]) (l1 (cn 76 (zar F p_0_A p_0 v_260 _ hy_271) hT (fun _ => (mr Ki.mv m0)) ⟨(gr 6), (gi 7), (((gd' (RowC v_260.heads_A v_260.heads_c Kc.cells tr v_260.heads) 0)).m fun _ _ h => ⟨h⟩), trivial⟩ ?_))); rintro ⟨v_271_A, v_271_c, v_271⟩ hq_271; obtain rfl : (v_271.map Ki.p) = v_271o := hq_271.symm
          try simp only [lm_, Kd.n_Hops] at hG
          refine l1 (apn (p := Ki.p) (ok := Ki.ok) 3 77 v_253_A v_254_c v_252 v_271 inf157 (Fa.tr ((gd' (RowC v_271_A v_271_c Ki.cells Ki.ok v_271) 0).a)) (gd' (Each Ki.ok v_252) 4) (gm (RowC v_271_A v_271_c Ki.cells Ki.ok v_271) 0 fun _ _ h => h.e) hy_272 Ki.one fun v_272 v_272_A v_272_c he_272 _ => ?_); subst he_272
          try simp only [lm_, Kd.n_Hops] at hG
          exact ra [] f0 [(15, .slice v_272_A v_272.length v_272_c)] (hN (tN (rg (ra [] f0 [(50, I (IntKind.i64.wrap (v_257 + 1)))] (tN (fun a w S hK hE => ⟨m_258, ⟨v_272, v_272_A, v_272_c, v_255_A, v_256_c, IntKind.i64.wrap (v_257 + 1), S, hK.wk, hE.sel [4, 0, 6, 7, 8, 9], hO1_258 _ (oi hG).symm⟩, Nat.lt_succ_self _⟩))))))
       ·try simp only [lm_, Kd.n_Hops] at h_259
        refine sb 51 (bf h_259) (cf (kX (tX (tX ?_)))); have he_ := hO2_258 _ (oi hG).symm; subst he_; replace hG := hG_258
        try simp only [lm_, Kd.n_Hops] at hG
        exact hH (tN (fun _ _ S k e => ⟨v_252, v_253_A, v_254_c, S, k.wk, e.sel [0, 1, 3, 4, 5], oi hG⟩))
     ·rintro a w ⟨v_278, v_279_A, v_280_c, hJ⟩; refine hJ.go ?_; clear hJ; rintro rfl; replace hG := el hG_277
      try simp only [lm_, Kd.n_Hops] at hG
      exact rg (ra [] f0 [(12, .slice v_279_A v_278.length v_280_c)] (hN (tN (rg (ra [] f0 [(46, I (IntKind.i64.wrap (v_215 + 1)))] (tN (fun a w S hK hE => ⟨m_216, ⟨v_278, v_279_A, v_280_c, IntKind.i64.wrap (v_215 + 1), S, hK.wk, hE.sel [0, 1, 2, 3, 4], hO1_216 _ (oi hG).symm⟩, Nat.lt_succ_self _⟩)))))))
    ·refine sb 47 (bf h_217) (cf (kX (tX (tX ?_)))); have he_ := hO2_216 _ (oi hG).symm; subst he_; replace hG := hG_216
     try simp only [lm_, Kd.n_Hops] at hG
     exact hH (tN (fun _ _ S k e => ⟨S, k.wk, e.sel [2], oi hG⟩))
  ·rintro a w hJ; refine hJ.go ?_; clear hJ; rintro rfl; replace hG := el hG_283; refine sq (rg (rn 1 [] f0 [(81, .agg #[.slice none 0 0, I 0])] (l1 (sr 0 g_1 [(0, .slice none 0 0), (1, I 0)] (ra [] f0 [(11, B false)] (tN (kR ?_))))))); obtain rfl := oi hG; exact rtn [(0, 0, 2)] (⟨none, 0, ([] : List Kc), 0⟩ : Ki) rfl ⟨(((gn : Fd _ (RowC none 0 Kc.cells tr ([] : List Kc)))).m fun _ _ h => ⟨h⟩), trivial⟩
def Gh (F : Nat) (p_0 : Kf) : Option (Bool) :=
  Option.bind (Option.bind (iter (σ := Int) (ρ := Unit ⊕ Unit) (fun (v_27 : Int) => 
        (ifB (decide (v_27 < (p_0.Entries.length : Int)))
          (Option.bind (ixI p_0.Entries v_27) (fun v_30 =>
          Option.bind (Option.bind (Gu F (⟨v_30⟩ : Kr)) (fun v_34 =>
            ifB (v_34)
              (ifB (decide (v_27 > 0))
                (Option.bind (ixI p_0.Entries (IntKind.i64.wrap (v_27 - 1))) (fun v_37 =>
                some (decide (v_30.Stamp.Lo < v_37.Stamp.Lo))))
                (some false))
              (some true)) : Option (Bool)) (fun (v_41 : Bool) => 
            ifB (v_41)
              (some (.inr (.inr ())))
              (some (.inl (IntKind.i64.wrap (v_27 + 1)))))))
          (some (.inr (.inl ()))) : Option (Int ⊕ (Unit ⊕ Unit)))) F 0) (Sum.elim (fun (_ : Unit) => 
      some (.inl ())) (fun (_ : Unit) => 
      some (.inr ()))) : Option (Unit ⊕ Unit)) (Sum.elim (fun (_ : Unit) => 
    Option.bind (Option.bind (Gb F p_0.ID 1 16) (fun v_44 =>
      ifB (v_44)
        (some (decide ((p_0.Entries.length : Int) ≤ 4096)))
        (some false)) : Option (Bool)) (fun (v_47 : Bool) => 
      some v_47)) (fun (_ : Unit) => 
    some false))
theorem zc (F : Nat) (p_0 : Ka) (r : Bool) (hG : Gh F p_0.p = some r) :
  Cf Tryz.prog 58 [.agg #[I p_0.ID, .slice p_0.Entries_A p_0.Entries.length p_0.Entries_c]] [Ka.ok p_0] (B r) := by
 unfold Gh at hG
 try simp only [lm_, Kd.n_Hops] at hG
 refine fi Tryz.func58 rfl rfl (mc Ka.mv m0) fun S0 w0 hT => sq (rg (l1 (nw 1 vp [I p_0.ID, .slice p_0.Entries_A p_0.Entries.length p_0.Entries_c] 53 fun g_1 => ra [] f0 [] (tN ?_))))
 obtain ⟨o_43, hG, hG_43⟩ := bs hG; refine jn (fun K E a w => Js S0 w0 45 (K) ([.dat (RowC p_0.Entries_A p_0.Entries_c Kb.cells tr p_0.Entries)] ++ se E [0]) (.inl () = o_43) a w) ?_ ?_
 ·refine sq (rg (ra [(1, 1, 0, 1)] f0 (ns 6 [.slice p_0.Entries_A p_0.Entries.length p_0.Entries_c, I (p_0.Entries.length : Int), I 0]) (tN (bk ?_)))); obtain ⟨e_28, hL, hG_28⟩ := bs hG; clear hG; obtain ⟨stp_28, hs_28, hL⟩ := iter_gen hL; refine lp (fun K E n_ a w => ∃ v_27 : Int, Js S0 w0 45 ([(8, I v_27)] ++ K) ([.dat (RowC p_0.Entries_A p_0.Entries_c Kb.cells tr p_0.Entries)] ++ se E [0]) (iter stp_28 n_ v_27 = some e_28) a w) F ?_ ?_
  ·exact fg (Ka.ok p_0) 1 (fun _ _ h => h.f_Entries) (fun _ _ S k e => ⟨0, S, k.wk, e.sel [0, 1], hL⟩)
  ·clear hL; rintro n_28 a w ⟨v_27, hJ⟩; refine hJ.go fun hL => ?_
   clear hJ; obtain ⟨m_28, o_28, rfl, hG, hO1_28, hO2_28⟩ := iter_step hL; clear hL; rw [hs_28] at hG; refine sq (rg (ra [] f0 [(9, B (decide (v_27 < (p_0.Entries.length : Int))))] (tN (sq ?_)))); rcases ic hG with ⟨h_29, hG⟩ | ⟨h_29, hG⟩
   ·try simp only [lm_, Kd.n_Hops] at h_29
    refine sb 9 (bt h_29) (ct (kS (tN (sq (bk (sq ?_)))))); obtain ⟨v_30, hy_30, hG⟩ := bs hG; refine rg (fx inf51 (gd' (RowC p_0.Entries_A p_0.Entries_c Kb.cells tr p_0.Entries) 0) hy_30 fun b_31 o_32 hi_30 => rn 3 [(1, 0, 0, 0), (0, 3, 0, 0)] (fc (hi_30 .i64) f0) [(10, I v_27), (12, .agg #[U v_30.Doc, I v_30.Stamp.Lo, I v_30.Stamp.Hi])] (l1 (nw 4 vp [U 0, I 0, I 0] 31 fun g_33 => rn 1 [] f0 [(3, I v_27)] (l1 (sr 0 g_33 (ns 0 [U v_30.Doc, I v_30.Stamp.Lo, I v_30.Stamp.Hi]) (nl (tN ?_))))))); obtain ⟨o_40, hG, hG_40⟩ := bs hG; refine jn (fun K E a w => ∃ v_41 : Bool, Js S0 w0 45 ([(34, B v_41)] ++ K) (se E [2, 3]) (v_41 = o_40) a w) ?_ ?_
    ·obtain ⟨v_34, hy_34, hG⟩ := bs hG; rcases ic hG with ⟨h_35, hG⟩ | ⟨h_35, hG⟩
     ·rcases ic hG with ⟨h_36, hG⟩ | ⟨h_36, hG⟩
      ·obtain ⟨v_37, hy_37, hG⟩ := bs hG; exact qb (qn 2 [(0, 3, 0, 0)] f0 [(14, .agg #[U v_30.Doc, I v_30.Stamp.Lo, I v_30.Stamp.Hi])] (qc 15 (zk F (⟨v_30⟩ : Kr) _ hy_34) hT trivial (qn 2 [] f0 [(17, B (!v_34))] (sb 17 (nt h_35) (qn 3 [] f0 [(20, B (decide (v_27 > 0)))] (sb 20 (bt h_36) (fx inf51 (gd' (RowC p_0.Entries_A p_0.Entries_c Kb.cells tr p_0.Entries) 2) hy_37 fun b_38 o_39 hi_37 => qa [(2, 1, 1, 1), (1, 1, 4, 1), (2, 0, 0, 0), (2, 1, 0, 1)] (fc (hi_37 .i64) f0) [(34, B (decide (v_30.Stamp.Lo < v_37.Stamp.Lo)))] (tN (fun _ _ S k e => ⟨decide (v_30.Stamp.Lo < v_37.Stamp.Lo), S, k.wk, e.sel [3, 4], oi hG⟩)))))))))
      ·exact qb (qn 2 [(0, 3, 0, 0)] f0 [(14, .agg #[U v_30.Doc, I v_30.Stamp.Lo, I v_30.Stamp.Hi])] (qc 15 (zk F (⟨v_30⟩ : Kr) _ hy_34) hT trivial (qn 2 [] f0 [(17, B (!v_34))] (sb 17 (nt h_35) (qn 3 [] f0 [(20, B (decide (v_27 > 0)))] (sb 20 (bf h_36) (qa [] f0 [(34, B false)] (tN (fun _ _ S k e => ⟨false, S, k.wk, e.sel [2, 3], oi hG⟩)))))))))
     ·exact qb (qn 2 [(0, 3, 0, 0)] f0 [(14, .agg #[U v_30.Doc, I v_30.Stamp.Lo, I v_30.Stamp.Hi])] (qc 15 (zk F (⟨v_30⟩ : Kr) _ hy_34) hT trivial (qn 2 [] f0 [(17, B (!v_34))] (sb 17 (nf h_35) (qa [] f0 [(34, B true)] (tN (fun _ _ S k e => ⟨true, S, k.wk, e.sel [2, 3], oi hG⟩)))))))
    ·rintro a w ⟨v_41, hJ⟩; refine hJ.go ?_; clear hJ; rintro rfl; replace hG := hG_40; rcases ic hG with ⟨h_42, hG⟩ | ⟨h_42, hG⟩
     ·refine sb 34 (bt h_42) (ct (sq (rg (ra [] f0 [(2, B false)] (tN (kR (hR (tR (tR ?_))))))))); have he_ := hO2_28 _ (oi hG).symm; subst he_; replace hG := hG_28; refine hR (tR ?_); obtain rfl := oi hG; replace hG := hG_43; obtain rfl := oi hG; exact rt []
     ·exact sb 34 (bf h_42) (cf (kS (hN (tN (rg (ra [] f0 [(8, I (IntKind.i64.wrap (v_27 + 1)))] (tN (fun a w S hK hE => ⟨m_28, ⟨IntKind.i64.wrap (v_27 + 1), S, hK.wk, hE.sel [0, 1], hO1_28 _ (oi hG).symm⟩, Nat.lt_succ_self _⟩))))))))
   ·try simp only [lm_, Kd.n_Hops] at h_29
    refine sb 9 (bf h_29) (cf (kX (tX (tX ?_)))); have he_ := hO2_28 _ (oi hG).symm; subst he_; replace hG := hG_28; exact hH (tN (fun _ _ S k e => ⟨S, k.wk, e.sel [0, 1], oi hG⟩))
 ·rintro a w hJ; refine hJ.go ?_; clear hJ; rintro rfl; replace hG := el hG_43; obtain ⟨o_46, hG, hG_46⟩ := bs hG; refine jn (fun K E a w => ∃ v_47 : Bool, Js S0 w0 45 ([(2, B v_47)] ++ K) (se E []) (v_47 = o_46) a w) ?_ ?_
  ·obtain ⟨v_44, hy_44, hG⟩ := bs hG; rcases ic hG with ⟨h_45, hG⟩ | ⟨h_45, hG⟩
   ·exact rg (rn 2 [(1, 1, 1, 0)] f0 [(37, I p_0.ID)] (l1 (cl 38 (zf F p_0.ID 1 16 _ hy_44) hT trivial (rn 1 [] f0 [(39, B v_44)] (sb 39 (bt h_45) (ra [(1, 1, 1, 1)] f0 [(2, B (decide ((p_0.Entries.length : Int) ≤ 4096)))] (tN (fun _ _ S k e => ⟨decide ((p_0.Entries.length : Int) ≤ 4096), S, k.wk, e.sel [], oi hG⟩))))))))
   ·exact rg (rn 2 [(1, 1, 1, 0)] f0 [(37, I p_0.ID)] (l1 (cl 38 (zf F p_0.ID 1 16 _ hy_44) hT trivial (rn 1 [] f0 [(39, B v_44)] (sb 39 (bf h_45) (ra [] f0 [(2, B false)] (tN (fun _ _ S k e => ⟨false, S, k.wk, e.sel [], oi hG⟩))))))))
  ·rintro a w ⟨v_47, hJ⟩; refine hJ.go ?_; clear hJ; rintro rfl; replace hG := hG_46; refine kR ?_; obtain rfl := oi hG; exact rt []
def G3 (F : Nat) (p_0 : Kf) (p_1 : Int) : Option (Int × Int) :=
  Option.bind (slI p_0.Entries 0 p_1) (fun v_2 =>
  Option.bind (Option.bind (Option.bind (iter (σ := Int × (List Int)) (ρ := (List Int)) (un2 fun (v_23 : Int) (v_24 : (List Int)) => 
          (ifB (decide (v_23 < (v_2.length : Int)))
            (Option.bind (ixI v_2 v_23) (fun v_29 =>
            Option.bind (Gk F v_29) (fun v_33 =>
            Option.bind (apG 8 v_24 ([v_33] : List Int)) (fun v_35 =>
            some (.inl (IntKind.i64.wrap (v_23 + 1), v_35))))))
            (some (.inr v_24)) : Option ((Int × (List Int)) ⊕ (List Int)))) F (0, ([] : List Int))) (fun (v_36 : (List Int)) => 
        some v_36) : Option ((List Int))) (fun (v_40 : (List Int)) => 
      some v_40) : Option ((List Int))) (fun (v_43 : (List Int)) => 
    Option.bind (Gat F v_43) (un2 fun v_47 v_48 =>
    some (v_47, v_48))))
theorem zab (F : Nat) (p_0 : Ka) (p_1 : Int) (r : Int × Int) (hG : G3 F p_0.p p_1 = some r) :
  Cf Tryz.prog 60 [.agg #[I p_0.ID, .slice p_0.Entries_A p_0.Entries.length p_0.Entries_c], I p_1] [Ka.ok p_0] (.tuple #[U r.1, I r.2]) := by
 unfold G3 at hG
 try simp only [lm_, Kd.n_Hops] at hG
 refine fi Tryz.func60 rfl rfl (mc Ka.mv m0) fun S0 w0 hT => sq (rg (l1 (nw 2 vp [I p_0.ID, .slice p_0.Entries_A p_0.Entries.length p_0.Entries_c] 53 fun g_1 => ra [] f0 [] (tN (sq ?_)))))
 obtain ⟨v_2, hy_2, hG⟩ := bs hG; obtain ⟨v_43o, hy_46, hG⟩ := bs hG; replace hG := b2 hG; obtain ⟨v_47, v_48, hy_47, hG⟩ := hG; refine rg (fp false true inf51 (gm (Ka.ok p_0) 1 fun _ _ h => h.f_Entries) hy_2 fun v_2_A v_2_c hp_2 => rn 4 [(1, 1, 1, 1), (1, 0, 0, 0)] (fc (hp_2 .i64 .i64) f0) [(9, .slice v_2_A v_2.length v_2_c)] (l1 (ci 10 (args := [.slice v_2_A v_2.length v_2_c, .func (.func 66) #[] #[]]) (fun E e w => ∃ (v_43 : List Int) (v_44_A : Option Addr) (v_45_c : Nat), Rs S0 w0 (.slice v_44_A v_43.length v_45_c) ([.dat (RowC p_0.Entries_A p_0.Entries_c Kb.cells tr p_0.Entries), .own 23 1 (.slice v_44_A v_43.length v_45_c) v_43.length (v_43.flatMap c_u64)] ++ se E [0, 1]) (v_43 = v_43o) e w) Tryz.func65 rfl rfl ?_ ?_)))
 ·replace hG := hy_46
  try simp only [lm_, Kd.n_Hops] at hG
  refine sq (rg (ra [] f0 [] (tN (sq (rg (ra [] f0 [(5, .slice none 0 0)] (tN ?_))))))); replace hG := bs hG; obtain ⟨o_85, hG, hG_85⟩ := hG; refine jn (fun K E a w => ∃ (v_86 : List Int) (v_87_A : Option Addr) (v_88_c : Nat), Js S0 w0 22 ([(5, .slice v_87_A v_86.length v_88_c)] ++ K) ([.dat (RowC p_0.Entries_A p_0.Entries_c Kb.cells tr p_0.Entries), .own 23 1 (.slice v_87_A v_86.length v_88_c) v_86.length (v_86.flatMap c_u64)] ++ se E [0, 1]) (v_86 = o_85) a w) ?_ ?_
  ·refine sq (rg (ra [] f0 (ns 8 [.slice v_2_A v_2.length v_2_c, I (v_2.length : Int), I 0]) (tN (bk ?_)))); obtain ⟨e_73, hL, hG_73⟩ := bs hG; clear hG; obtain ⟨stp_73, hs_73, hL⟩ := iter_gen hL; refine lp (fun K E n_ a w => ∃ (v_69 : Int) (v_70 : List Int) (v_71_A : Option Addr) (v_72_c : Nat), Js S0 w0 22 ([(5, .slice v_71_A v_70.length v_72_c), (10, I v_69)] ++ K) ([.dat (RowC p_0.Entries_A p_0.Entries_c Kb.cells tr p_0.Entries), .own 23 1 (.slice v_71_A v_70.length v_72_c) v_70.length (v_70.flatMap c_u64)] ++ se E [0, 1]) (iter stp_73 n_ (v_69, v_70) = some e_73) a w) F ?_ ?_
   ·exact fg (Ka.ok p_0) 2 (fun _ _ h => h.f_Entries) (on 23 1 (fun _ _ S k e => ⟨0, ([] : List Int), none, 0, S, k.wk, e.sel [1, 0, 2, 3], hL⟩))
   ·clear hL; rintro n_73 a w ⟨v_69, v_70, v_71_A, v_72_c, hJ⟩; refine hJ.go fun hL => ?_
    clear hJ; obtain ⟨m_73, o_73, rfl, hG, hO1_73, hO2_73⟩ := iter_step hL; clear hL; rw [hs_73] at hG; refine sq (rg (ra [] f0 [(11, B (decide (v_69 < (v_2.length : Int))))] (tN (sq ?_)))); replace hG := ic hG; rcases hG with ⟨h_74, hG⟩ | ⟨h_74, hG⟩
    ·try simp only [lm_, Kd.n_Hops] at h_74
     refine sb 11 (bt h_74) (ct (kS (tN (sq (bk (sq ?_)))))); replace hG := bs hG; obtain ⟨v_75, hy_75, hG⟩ := hG; refine rg (fx inf51 (gd' (RowC v_2_A v_2_c Kb.cells tr v_2) 2) hy_75 fun b_76 o_77 hi_75 => rn 2 [(0, 0, 0, 0), (0, 3, 0, 0)] (fc (hi_75 .i64) f0) [(13, .agg #[U v_75.Doc, I v_75.Stamp.Lo, I v_75.Stamp.Hi])] (l1 (nw 7 vp [U 0, I 0, I 0] 31 fun g_78 => l1 (sr 0 g_78 (ns 0 [U v_75.Doc, I v_75.Stamp.Lo, I v_75.Stamp.Hi]) (nl (tN ?_)))))); replace hG := bs hG; obtain ⟨v_79, hy_79, hG⟩ := hG; replace hG := bs hG; obtain ⟨v_81, hy_81, hG⟩ := hG; exact rg (rn 3 [(2, 3, 0, 0)] f0 (ns 14 [.slice v_71_A v_70.length v_72_c, .func (.func 66) #[] #[], .agg #[U v_75.Doc, I v_75.Stamp.Lo, I v_75.Stamp.Hi]]) (l1 (cl 17 (zv F v_75 _ hy_79) hT trivial (l1 (nw 18 (vs 1) [U v_79] 23 fun g_80 => l1 (ap 4 19 v_71_A v_72_c v_70 ([v_79] : List Int) inf32 (bA (f := c_u64) (ok := tr) (l := ([v_79] : List Int)) g_80 0 et.a) hy_81 one_u64 fun v_81_A v_81_c _ => ra [] f0 [(5, .slice v_81_A v_81.length v_81_c)] (hN (tN (rg (ra [] f0 [(10, I (IntKind.i64.wrap (v_69 + 1)))] (tN (fun a w S hK hE => ⟨m_73, ⟨IntKind.i64.wrap (v_69 + 1), v_81, v_81_A, v_81_c, S, hK.wk, hE.sel [3, 4, 5, 6], hO1_73 _ (oi hG).symm⟩, Nat.lt_succ_self _⟩))))))))))))
    ·try simp only [lm_, Kd.n_Hops] at h_74
     refine sb 11 (bf h_74) (cf (kX (tX (tX ?_)))); have he_ := hO2_73 _ (oi hG).symm; subst he_; replace hG := hG_73; exact hH (tN (fun _ _ S k e => ⟨v_70, v_71_A, v_72_c, S, k.wk, e.sel [0, 1, 2, 3], oi hG⟩))
  ·rintro a w ⟨v_86, v_87_A, v_88_c, hJ⟩; refine hJ.go ?_; clear hJ; rintro rfl; replace hG := hG_85; exact sq (rg (ra [] f0 [(4, .slice v_87_A v_86.length v_88_c)] (tN (kR (ri [] (.slice v_87_A v_86.length v_88_c) (fun a w S hK hE => ⟨v_86, v_87_A, v_88_c, rfl, ⟨S, hE.sel [0, 1, 2, 3]⟩, oi hG⟩))))))
 ·rintro e w ⟨v_43, v_44_A, v_45_c, hJ⟩; refine hJ.go ?_; clear hJ; rintro rfl; refine l1 (cl 11 (zai F v_44_A v_45_c v_43 _ hy_47) hT ⟨oa 1 et.a, trivial⟩ (ra [] f0 [(4, U v_47), (5, I v_48)] (tN (kR ?_)))); obtain rfl := oi hG; exact rt []
def Gy (F : Nat) (p_0 : Kf) (p_1 : Int) : Option ((List Int)) :=
  Option.bind (Option.bind (slI p_0.Entries 0 p_1) (fun v_2 =>
    Option.bind (iter (σ := Int × (List Int)) (ρ := (List Int)) (un2 fun (v_23 : Int) (v_24 : (List Int)) => 
        (ifB (decide (v_23 < (v_2.length : Int)))
          (Option.bind (ixI v_2 v_23) (fun v_29 =>
          Option.bind (Gk F v_29) (fun v_33 =>
          Option.bind (apG 8 v_24 ([v_33] : List Int)) (fun v_35 =>
          some (.inl (IntKind.i64.wrap (v_23 + 1), v_35))))))
          (some (.inr v_24)) : Option ((Int × (List Int)) ⊕ (List Int)))) F (0, ([] : List Int))) (fun (v_36 : (List Int)) => 
      some v_36)) : Option ((List Int))) (fun (v_40 : (List Int)) => 
    some v_40)
theorem z6 (F : Nat) (p_0 : Ka) (p_1 : Int) (r : (List Int)) (hG : Gy F p_0.p p_1 = some r) :
  Cn Tryz.prog 106 [.agg #[I p_0.ID, .slice p_0.Entries_A p_0.Entries.length p_0.Entries_c], I p_1] [Ka.ok p_0] (fun q : Kv => r = q.l) (fun q => .slice q.A q.l.length q.c) (fun q => [RowC q.A q.c c_u64 tr q.l]) := by
 unfold Gy at hG
 try simp only [lm_, Kd.n_Hops] at hG
 refine fin Tryz.func106 rfl rfl (mc Ka.mv m0) fun S0 w0 hT => sq (rg (l1 (nw 2 vp [I p_0.ID, .slice p_0.Entries_A p_0.Entries.length p_0.Entries_c] 53 fun g_1 => ra [] f0 [] (tN (sq (rg (ra [] f0 [(5, .slice none 0 0)] (tN ?_))))))))
 obtain ⟨o_39, hG, hG_39⟩ := bs hG; refine jn (fun K E a w => ∃ (v_40 : List Int) (v_41_A : Option Addr) (v_42_c : Nat), Js S0 w0 24 ([(5, .slice v_41_A v_40.length v_42_c)] ++ K) ([.own 23 1 (.slice v_41_A v_40.length v_42_c) v_40.length (v_40.flatMap c_u64)]) (v_40 = o_39) a w) ?_ ?_
 ·refine sq ?_; obtain ⟨v_2, hy_2, hG⟩ := bs hG; refine rg (fp false true inf51 (gm (Ka.ok p_0) 1 fun _ _ h => h.f_Entries) hy_2 fun v_2_A v_2_c hp_2 => ra [(1, 1, 1, 1), (1, 0, 0, 0)] (fc (hp_2 .i64 .i64) f0) (ns 11 [.slice v_2_A v_2.length v_2_c, I (v_2.length : Int), I 0]) (tN (bk ?_))); obtain ⟨e_27, hL, hG_27⟩ := bs hG; clear hG; obtain ⟨stp_27, hs_27, hL⟩ := iter_gen hL; refine lp (fun K E n_ a w => ∃ (v_23 : Int) (v_24 : List Int) (v_25_A : Option Addr) (v_26_c : Nat), Js S0 w0 24 ([(5, .slice v_25_A v_24.length v_26_c), (13, I v_23)] ++ K) ([.own 23 1 (.slice v_25_A v_24.length v_26_c) v_24.length (v_24.flatMap c_u64)] ++ se E [0]) (iter stp_27 n_ (v_23, v_24) = some e_27) a w) F ?_ ?_
  ·exact on 23 1 (fun _ _ S k e => ⟨0, ([] : List Int), none, 0, S, k.wk, e.sel [0, 1], hL⟩)
  ·clear hL; rintro n_27 a w ⟨v_23, v_24, v_25_A, v_26_c, hJ⟩; refine hJ.go fun hL => ?_
   clear hJ; obtain ⟨m_27, o_27, rfl, hG, hO1_27, hO2_27⟩ := iter_step hL; clear hL; rw [hs_27] at hG; refine sq (rg (ra [] f0 [(14, B (decide (v_23 < (v_2.length : Int))))] (tN (sq ?_)))); rcases ic hG with ⟨h_28, hG⟩ | ⟨h_28, hG⟩
   ·try simp only [lm_, Kd.n_Hops] at h_28
    refine sb 14 (bt h_28) (ct (kS (tN (sq (bk (sq ?_)))))); obtain ⟨v_29, hy_29, hG⟩ := bs hG; refine rg (fx inf51 (gd' (RowC v_2_A v_2_c Kb.cells tr v_2) 1) hy_29 fun b_30 o_31 hi_29 => rn 2 [(0, 0, 0, 0), (0, 3, 0, 0)] (fc (hi_29 .i64) f0) [(16, .agg #[U v_29.Doc, I v_29.Stamp.Lo, I v_29.Stamp.Hi])] (l1 (nw 7 vp [U 0, I 0, I 0] 31 fun g_32 => l1 (sr 0 g_32 (ns 0 [U v_29.Doc, I v_29.Stamp.Lo, I v_29.Stamp.Hi]) (nl (tN ?_)))))); obtain ⟨v_33, hy_33, hG⟩ := bs hG; obtain ⟨v_35, hy_35, hG⟩ := bs hG; exact rg (rn 2 [(1, 3, 0, 0)] f0 [(17, .slice v_25_A v_24.length v_26_c), (18, .agg #[U v_29.Doc, I v_29.Stamp.Lo, I v_29.Stamp.Hi])] (l1 (cl 19 (zv F v_29 _ hy_33) hT trivial (l1 (nw 20 (vs 1) [U v_33] 23 fun g_34 => l1 (ap 3 21 v_25_A v_26_c v_24 ([v_33] : List Int) inf32 (bA (f := c_u64) (ok := tr) (l := ([v_33] : List Int)) g_34 0 et.a) hy_35 one_u64 fun v_35_A v_35_c _ => ra [] f0 [(5, .slice v_35_A v_35.length v_35_c)] (hN (tN (rg (ra [] f0 [(13, I (IntKind.i64.wrap (v_23 + 1)))] (tN (fun a w S hK hE => ⟨m_27, ⟨IntKind.i64.wrap (v_23 + 1), v_35, v_35_A, v_35_c, S, hK.wk, hE.sel [3, 4], hO1_27 _ (oi hG).symm⟩, Nat.lt_succ_self _⟩))))))))))))
   ·try simp only [lm_, Kd.n_Hops] at h_28
    refine sb 14 (bf h_28) (cf (kX (tX (tX ?_)))); have he_ := hO2_27 _ (oi hG).symm; subst he_; replace hG := hG_27; exact hH (tN (fun _ _ S k e => ⟨v_24, v_25_A, v_26_c, S, k.wk, e.sel [0], oi hG⟩))
 ·rintro a w ⟨v_40, v_41_A, v_42_c, hJ⟩; refine hJ.go ?_; clear hJ; rintro rfl; replace hG := hG_39; refine sq (rg (ra [] f0 [(4, .slice v_41_A v_40.length v_42_c)] (tN (kR ?_)))); obtain rfl := oi hG; exact so (A := v_41_A) (c := v_42_c) 0 c_u64 tr v_40 tr_mv et (rtn [] ⟨v_41_A, v_42_c, v_40⟩ rfl ⟨gi 0, trivial⟩)
def Gg (F : Nat) (p_0 : Int) (p_1 : Kc) : Option (Bool × Int) :=
 Option.bind (Option.bind (G2 F p_0) (fun v_2 =>
  ifB (v_2)
   (Option.bind (Gt F p_1) (fun v_4 =>
   some (!v_4)))
   (some true)) : Option (Bool)) (fun (v_6 : Bool) =>
  ifB (v_6)
   (some (false, 1))
   (Option.bind (Gah F p_1) (fun v_8 =>
   Option.bind (Gaf F p_0 p_1.Sig v_8) (un2 fun v_9 v_10 =>
   some (v_9, v_10)))))
theorem zo (F : Nat) (p_0 : Int) (p_1 : Kc) (r : Bool × Int) (hG : Gg F p_0 p_1 = some r) :
  Cf Tryz.prog 78 [I p_0, .agg #[I p_1.Office, I p_1.Size, U p_1.Root, I p_1.Sig.C, I p_1.Sig.S]] [] (.tuple #[B r.1, I r.2]) := by
 unfold Gg at hG; refine fi Tryz.func78 rfl rfl m0 fun S0 w0 hT => sq (rg (l1 (nw 3 vp [I p_1.Office, I p_1.Size, U p_1.Root, I p_1.Sig.C, I p_1.Sig.S] 27 fun g_1 => ra [] f0 [] (tN (sq ?_)))))
 obtain ⟨o_5, hG, hG_5⟩ := bs hG; refine jn (fun K E a w => ∃ v_6 : Bool, Js S0 w0 22 ([(13, B v_6)] ++ K) (se E [0]) (v_6 = o_5) a w) ?_ ?_
 ·obtain ⟨v_2, hy_2, hG⟩ := bs hG; rcases ic hG with ⟨h_3, hG⟩ | ⟨h_3, hG⟩
  ·obtain ⟨v_4, hy_4, hG⟩ := bs hG; exact rg (rn 1 [] f0 [(6, I p_0)] (l1 (cl 7 (zj F p_0 _ hy_2) hT trivial (rn 2 [] f0 [(9, B (!v_2))] (sb 9 (nt h_3) (rn 1 [(0, 5, 0, 0)] f0 [(10, .agg #[I p_1.Office, I p_1.Size, U p_1.Root, I p_1.Sig.C, I p_1.Sig.S])] (l1 (cl 11 (zh F p_1 _ hy_4) hT trivial (ra [] f0 [(13, B (!v_4))] (tN (fun _ _ S k e => ⟨!v_4, S, k.wk, e.sel [0], oi hG⟩)))))))))))
  ·exact rg (rn 1 [] f0 [(6, I p_0)] (l1 (cl 7 (zj F p_0 _ hy_2) hT trivial (rn 2 [] f0 [(9, B (!v_2))] (sb 9 (nf h_3) (ra [] f0 [(13, B true)] (tN (fun _ _ S k e => ⟨true, S, k.wk, e.sel [0], oi hG⟩))))))))
 ·rintro a w ⟨v_6, hJ⟩; refine hJ.go ?_; clear hJ; rintro rfl; replace hG := hG_5; rcases ic hG with ⟨h_7, hG⟩ | ⟨h_7, hG⟩
  ·refine sb 13 (bt h_7) (ct (sq (rg (ra [] f0 [(4, B false), (5, I 1)] (tN (kR (tR ?_))))))); obtain rfl := oi hG; exact rt []
  ·refine sb 13 (bf h_7) (cf (kS (tN (sq ?_)))); obtain ⟨v_8o, hy_8, hG⟩ := bs hG; replace hG := b2 hG; obtain ⟨v_9, v_10, hy_9, hG⟩ := hG; refine hb [0] (ht [0] [0, 1, 2, 3] [(2, 2, 0, 3), (0, 5, 0, 0)] f0 [(14, I p_0), (16, .agg #[I p_1.Sig.C, I p_1.Sig.S]), (17, .agg #[I p_1.Office, I p_1.Size, U p_1.Root, I p_1.Sig.C, I p_1.Sig.S])] (ho [4] ⟨h1 (cn 18 (zaa F p_1 _ hy_8) hT (fun _ => (mr tr_mv m0)) trivial ?_), trivial⟩)); rintro ⟨v_8_A, v_8_c, v_8⟩ hq_8; obtain rfl : v_8 = v_8o := hq_8.symm
   try simp only [lm_, Kd.n_Hops] at hG
   refine hk [1] (ho [5] ⟨h1 (cl 19 (zan F p_0 p_1.Sig v_8_A v_8_c v_8 _ hy_9) hT ⟨ga 0, trivial⟩ (hk [1] (ht [1] [6, 7, 8, 9] [] f0 [(4, B v_9), (5, I v_10)] (he (tN (kR ?_)))))), trivial⟩); obtain rfl := oi hG; exact rt []
def Gl (F : Nat) (p_0 : Kf) (p_1 : Kc) (p_2 : Int) : Option (Km × Int) :=
  Option.bind (Option.bind (Gh F p_0) (fun v_4 =>
    ifB (v_4)
      (Option.bind (Gt F p_1) (fun v_6 =>
      ifB (v_6)
        (ifB (decide (p_1.Size > (p_0.Entries.length : Int)))
          (some true)
          (Option.bind (Gb F p_2 0 (IntKind.i64.wrap (p_1.Size - 1))) (fun v_9 =>
          some (!v_9))))
        (some true)))
      (some true)) : Option (Bool)) (fun (v_11 : Bool) => 
    ifB (v_11)
      (some ((⟨(⟨0, 0, 0, (⟨0, 0⟩ : KSig)⟩ : Kc), 0, (⟨0, ⟨0, 0⟩⟩ : Kb), ([] : List Int)⟩ : Km), 1))
      (Option.bind (G3 F p_0 p_1.Size) (un2 fun v_13 v_14 =>
      Option.bind (ifB ((v_14 == 0))
          (ifB ((p_1.Office == p_0.ID))
            (some (!(v_13 == p_1.Root)))
            (some true))
          (some true) : Option (Bool)) (fun (v_18 : Bool) => 
        ifB (v_18)
          (some ((⟨(⟨0, 0, 0, (⟨0, 0⟩ : KSig)⟩ : Kc), 0, (⟨0, ⟨0, 0⟩⟩ : Kb), ([] : List Int)⟩ : Km), 33))
          (Option.bind (slI p_0.Entries 0 p_1.Size) (fun v_20 =>
          Option.bind (Option.bind (Option.bind (iter (σ := Int × (List Int)) (ρ := (List Int)) (un2 fun (v_41 : Int) (v_42 : (List Int)) => 
                  (ifB (decide (v_41 < (v_20.length : Int)))
                    (Option.bind (ixI v_20 v_41) (fun v_47 =>
                    Option.bind (Gk F v_47) (fun v_51 =>
                    Option.bind (apG 8 v_42 ([v_51] : List Int)) (fun v_53 =>
                    some (.inl (IntKind.i64.wrap (v_41 + 1), v_53))))))
                    (some (.inr v_42)) : Option ((Int × (List Int)) ⊕ (List Int)))) F (0, ([] : List Int))) (fun (v_54 : (List Int)) => 
                some v_54) : Option ((List Int))) (fun (v_58 : (List Int)) => 
              some v_58) : Option ((List Int))) (fun (v_61 : (List Int)) => 
            Option.bind (Gaz F v_61 p_2) (un2 fun v_65 v_66 =>
            ifB ((v_66 == 0))
              (Option.bind (ixI p_0.Entries p_2) (fun v_108 =>
              some ((⟨p_1, p_2, v_108, v_65⟩ : Km), 0)))
              (some ((⟨(⟨0, 0, 0, (⟨0, 0⟩ : KSig)⟩ : Kc), 0, (⟨0, ⟨0, 0⟩⟩ : Kb), ([] : List Int)⟩ : Km), v_66))))))))))
theorem zi (F : Nat) (p_0 : Ka) (p_1 : Kc) (p_2 : Int) (r : Km × Int) (hG : Gl F p_0.p p_1 p_2 = some r) :
  Cn Tryz.prog 24 [.agg #[I p_0.ID, .slice p_0.Entries_A p_0.Entries.length p_0.Entries_c], .agg #[I p_1.Office, I p_1.Size, U p_1.Root, I p_1.Sig.C, I p_1.Sig.S], I p_2] [Ka.ok p_0] (fun q : Kk => r.1 = q.p) (fun q => .tuple #[.agg #[I q.Head.Office, I q.Head.Size, U q.Head.Root, I q.Head.Sig.C, I q.Head.Sig.S, I q.Index, U q.Entry.Doc, I q.Entry.Stamp.Lo, I q.Entry.Stamp.Hi, .slice q.Path_A q.Path.length q.Path_c], I r.2]) (fun q => [Kk.ok q]) := by
 unfold Gl at hG
 try simp only [lm_, Kd.n_Hops] at hG
 refine fin Tryz.func24 rfl rfl (mc Ka.mv m0) fun S0 w0 hT => sq (rg (l1 (nw 3 vp [I p_0.ID, .slice p_0.Entries_A p_0.Entries.length p_0.Entries_c] 53 fun g_1 => l1 (nw 4 vp [I p_1.Office, I p_1.Size, U p_1.Root, I p_1.Sig.C, I p_1.Sig.S] 27 fun g_2 => l1 (nw 6 vp (Kk.cells Kk.z) 34 fun g_3 => ra [] f0 [] (tN (sq ?_)))))))
 obtain ⟨o_10, hG, hG_10⟩ := bs hG; refine jn (fun K E a w => ∃ v_11 : Bool, Js S0 w0 84 ([(35, B v_11)] ++ K) ([.dat (RowC p_0.Entries_A p_0.Entries_c Kb.cells tr p_0.Entries)] ++ se E [0, 1, 2]) (v_11 = o_10) a w) ?_ ?_
 ·obtain ⟨v_4, hy_4, hG⟩ := bs hG; rcases ic hG with ⟨h_5, hG⟩ | ⟨h_5, hG⟩
  ·obtain ⟨v_6, hy_6, hG⟩ := bs hG; rcases ic hG with ⟨h_7, hG⟩ | ⟨h_7, hG⟩
   ·rcases ic hG with ⟨h_8, hG⟩ | ⟨h_8, hG⟩
    ·refine rg (rn 1 [(0, 2, 2, 0)] f0 [(12, .agg #[I p_0.ID, .slice p_0.Entries_A p_0.Entries.length p_0.Entries_c])] (l1 (cl 13 (zc F p_0 _ hy_4) hT ⟨(gi 3).a, trivial⟩ (rn 2 [] f0 [(15, B (!v_4))] (sb 15 (nt h_5) (rn 1 [(0, 5, 1, 0)] f0 [(16, .agg #[I p_1.Office, I p_1.Size, U p_1.Root, I p_1.Sig.C, I p_1.Sig.S])] (l1 (cl 17 (zh F p_1 _ hy_6) hT trivial (rn 3 [] f0 [(20, B (!v_6))] (sb 20 (nt h_7) (rn 8 [(1, 1, 1, 1), (1, 1, 2, 1)] f0 [(28, B (decide (p_1.Size > (p_0.Entries.length : Int))))] ?_)))))))))))
     try simp only [lm_, Kd.n_Hops] at h_8
     exact sb 28 (bt h_8) (ra [] f0 [(35, B true)] (tN (fg (Ka.ok p_0) 3 (fun _ _ h => h.f_Entries) (fun _ _ S k e => ⟨true, S, k.wk, e.sel [0, 1, 2, 3], oi hG⟩))))
    ·obtain ⟨v_9, hy_9, hG⟩ := bs hG; refine rg (rn 1 [(0, 2, 2, 0)] f0 [(12, .agg #[I p_0.ID, .slice p_0.Entries_A p_0.Entries.length p_0.Entries_c])] (l1 (cl 13 (zc F p_0 _ hy_4) hT ⟨(gi 3).a, trivial⟩ (rn 2 [] f0 [(15, B (!v_4))] (sb 15 (nt h_5) (rn 1 [(0, 5, 1, 0)] f0 [(16, .agg #[I p_1.Office, I p_1.Size, U p_1.Root, I p_1.Sig.C, I p_1.Sig.S])] (l1 (cl 17 (zh F p_1 _ hy_6) hT trivial (rn 3 [] f0 [(20, B (!v_6))] (sb 20 (nt h_7) (rn 8 [(1, 1, 1, 1), (1, 1, 2, 1)] f0 [(28, B (decide (p_1.Size > (p_0.Entries.length : Int))))] ?_)))))))))))
     try simp only [lm_, Kd.n_Hops] at h_8
     exact sb 28 (bf h_8) (rn 4 [(2, 1, 1, 1)] f0 [(29, I p_2), (32, I (IntKind.i64.wrap (p_1.Size - 1)))] (l1 (cl 33 (zf F p_2 0 (IntKind.i64.wrap (p_1.Size - 1)) _ hy_9) hT trivial (ra [] f0 [(35, B (!v_9))] (tN (fg (Ka.ok p_0) 3 (fun _ _ h => h.f_Entries) (fun _ _ S k e => ⟨!v_9, S, k.wk, e.sel [0, 1, 2, 3], oi hG⟩)))))))
   ·exact rg (rn 1 [(0, 2, 2, 0)] f0 [(12, .agg #[I p_0.ID, .slice p_0.Entries_A p_0.Entries.length p_0.Entries_c])] (l1 (cl 13 (zc F p_0 _ hy_4) hT ⟨(gi 3).a, trivial⟩ (rn 2 [] f0 [(15, B (!v_4))] (sb 15 (nt h_5) (rn 1 [(0, 5, 1, 0)] f0 [(16, .agg #[I p_1.Office, I p_1.Size, U p_1.Root, I p_1.Sig.C, I p_1.Sig.S])] (l1 (cl 17 (zh F p_1 _ hy_6) hT trivial (rn 3 [] f0 [(20, B (!v_6))] (sb 20 (nf h_7) (ra [] f0 [(35, B true)] (tN (fg (Ka.ok p_0) 3 (fun _ _ h => h.f_Entries) (fun _ _ S k e => ⟨true, S, k.wk, e.sel [0, 1, 2, 3], oi hG⟩))))))))))))))
  ·exact rg (rn 1 [(0, 2, 2, 0)] f0 [(12, .agg #[I p_0.ID, .slice p_0.Entries_A p_0.Entries.length p_0.Entries_c])] (l1 (cl 13 (zc F p_0 _ hy_4) hT ⟨(gi 3).a, trivial⟩ (rn 2 [] f0 [(15, B (!v_4))] (sb 15 (nf h_5) (ra [] f0 [(35, B true)] (tN (fg (Ka.ok p_0) 3 (fun _ _ h => h.f_Entries) (fun _ _ S k e => ⟨true, S, k.wk, e.sel [0, 1, 2, 3], oi hG⟩)))))))))
 ·rintro a w ⟨v_11, hJ⟩; refine hJ.go ?_; clear hJ; rintro rfl; replace hG := hG_10; rcases ic hG with ⟨h_12, hG⟩ | ⟨h_12, hG⟩
  ·refine sb 35 (bt h_12) (ct (sq (rg (rn 1 [] f0 [(36, Aw (Kk.cells Kk.z))] (l1 (sr 1 g_3 (ns 0 (Kk.cells Kk.z)) (ra [] f0 [(7, I 1)] (tN (kR (tR ?_)))))))))); obtain rfl := oi hG; exact rtn [(1, 0, 10)] (⟨(⟨0, 0, 0, (⟨0, 0⟩ : KSig)⟩ : Kc), 0, (⟨0, ⟨0, 0⟩⟩ : Kb), none, 0, ([] : List Int)⟩ : Kk) rfl ⟨(((gn : Fd _ (RowC none 0 c_u64 tr ([] : List Int)))).m fun _ _ h => ⟨h⟩), trivial⟩
  ·refine sb 35 (bf h_12) (cf (kS (tN (sq (sq ?_))))); obtain ⟨v_13, v_14, hy_13, hG⟩ := b2 hG; refine rg (rn 3 [(0, 2, 3, 0), (1, 1, 2, 1)] f0 [(38, .agg #[I p_0.ID, .slice p_0.Entries_A p_0.Entries.length p_0.Entries_c]), (40, I p_1.Size)] (l1 (cl 41 (zab F p_0 p_1.Size _ hy_13) hT ⟨(((gd' (RowC p_0.Entries_A p_0.Entries_c Kb.cells tr p_0.Entries) 0)).m fun _ _ h => ⟨h⟩).a, trivial⟩ (ra [] f0 [(8, U v_13), (9, I v_14)] (tN ?_))))); obtain ⟨o_17, hG, hG_17⟩ := bs hG; refine jn (fun K E a w => ∃ v_18 : Bool, Js S0 w0 84 ([(58, B v_18)] ++ K) (se E [0, 1, 2, 3]) (v_18 = o_17) a w) ?_ ?_
   ·rcases ic hG with ⟨h_15, hG⟩ | ⟨h_15, hG⟩
    ·rcases ic hG with ⟨h_16, hG⟩ | ⟨h_16, hG⟩
     ·exact rg (rn 3 [] f0 [(46, B (!(v_14 == 0)))] (sb 46 (nt h_15) (rn 7 [(1, 1, 2, 0), (1, 1, 3, 0)] f0 [(53, B (!(p_1.Office == p_0.ID)))] (sb 53 (nt h_16) (ra [(2, 1, 2, 2)] f0 [(58, B (!(v_13 == p_1.Root)))] (tN (fun _ _ S k e => ⟨!(v_13 == p_1.Root), S, k.wk, e.sel [0, 1, 2, 3], oi hG⟩)))))))
     ·exact rg (rn 3 [] f0 [(46, B (!(v_14 == 0)))] (sb 46 (nt h_15) (rn 7 [(1, 1, 2, 0), (1, 1, 3, 0)] f0 [(53, B (!(p_1.Office == p_0.ID)))] (sb 53 (nf h_16) (ra [] f0 [(58, B true)] (tN (fun _ _ S k e => ⟨true, S, k.wk, e.sel [0, 1, 2, 3], oi hG⟩)))))))
    ·exact rg (rn 3 [] f0 [(46, B (!(v_14 == 0)))] (sb 46 (nf h_15) (ra [] f0 [(58, B true)] (tN (fun _ _ S k e => ⟨true, S, k.wk, e.sel [0, 1, 2, 3], oi hG⟩)))))
   ·rintro a w ⟨v_18, hJ⟩; refine hJ.go ?_; clear hJ; rintro rfl; replace hG := hG_17; rcases ic hG with ⟨h_19, hG⟩ | ⟨h_19, hG⟩
    ·refine sb 58 (bt h_19) (ct (sq (rg (rn 1 [] f0 [(59, Aw (Kk.cells Kk.z))] (l1 (sr 1 g_3 (ns 0 (Kk.cells Kk.z)) (ra [] f0 [(7, I 33)] (tN (kR (tR ?_)))))))))); obtain rfl := oi hG; exact rtn [(1, 0, 10)] (⟨(⟨0, 0, 0, (⟨0, 0⟩ : KSig)⟩ : Kc), 0, (⟨0, ⟨0, 0⟩⟩ : Kb), none, 0, ([] : List Int)⟩ : Kk) rfl ⟨(((gn : Fd _ (RowC none 0 c_u64 tr ([] : List Int)))).m fun _ _ h => ⟨h⟩), trivial⟩
    ·refine sb 58 (bf h_19) (cf (kS (tN (sq ?_)))); obtain ⟨v_20, hy_20, hG⟩ := bs hG; obtain ⟨v_61o, hy_64, hG⟩ := bs hG; replace hG := b2 hG; obtain ⟨v_65o, v_66, hy_65, hG⟩ := hG; refine rg (fp false true inf51 (gd' (RowC p_0.Entries_A p_0.Entries_c Kb.cells tr p_0.Entries) 0) hy_20 fun v_20_A v_20_c hp_20 => rn 5 [(1, 1, 4, 1), (1, 1, 3, 1), (0, 0, 0, 0)] (fc (hp_20 .i64 .i64) f0) [(65, .slice v_20_A v_20.length v_20_c)] (l1 (ci 66 (args := [.slice v_20_A v_20.length v_20_c, .func (.func 66) #[] #[]]) (fun E e w => ∃ (v_61 : List Int) (v_62_A : Option Addr) (v_63_c : Nat), Rs S0 w0 (.slice v_62_A v_61.length v_63_c) ([.own 23 1 (.slice v_62_A v_61.length v_63_c) v_61.length (v_61.flatMap c_u64)] ++ se E [0, 1, 2, 3, 4]) (v_61 = v_61o) e w) Tryz.func65 rfl rfl ?_ ?_)))
     ·replace hG := hy_64
      try simp only [lm_, Kd.n_Hops] at hG
      refine sq (rg (ra [] f0 [] (tN (sq (rg (ra [] f0 [(5, .slice none 0 0)] (tN ?_))))))); replace hG := bs hG; obtain ⟨o_103, hG, hG_103⟩ := hG; refine jn (fun K E a w => ∃ (v_104 : List Int) (v_105_A : Option Addr) (v_106_c : Nat), Js S0 w0 22 ([(5, .slice v_105_A v_104.length v_106_c)] ++ K) ([.own 23 1 (.slice v_105_A v_104.length v_106_c) v_104.length (v_104.flatMap c_u64)] ++ se E [0, 1, 2, 3, 4]) (v_104 = o_103) a w) ?_ ?_
      ·refine sq (rg (ra [] f0 (ns 8 [.slice v_20_A v_20.length v_20_c, I (v_20.length : Int), I 0]) (tN (bk ?_)))); obtain ⟨e_91, hL, hG_91⟩ := bs hG; clear hG; obtain ⟨stp_91, hs_91, hL⟩ := iter_gen hL; refine lp (fun K E n_ a w => ∃ (v_87 : Int) (v_88 : List Int) (v_89_A : Option Addr) (v_90_c : Nat), Js S0 w0 22 ([(5, .slice v_89_A v_88.length v_90_c), (10, I v_87)] ++ K) ([.own 23 1 (.slice v_89_A v_88.length v_90_c) v_88.length (v_88.flatMap c_u64)] ++ se E [0, 1, 2, 3, 4]) (iter stp_91 n_ (v_87, v_88) = some e_91) a w) F ?_ ?_
       ·exact on 23 1 (fun _ _ S k e => ⟨0, ([] : List Int), none, 0, S, k.wk, e.sel [0, 1, 2, 3, 4, 5], hL⟩)
       ·clear hL; rintro n_91 a w ⟨v_87, v_88, v_89_A, v_90_c, hJ⟩; refine hJ.go fun hL => ?_
        clear hJ; obtain ⟨m_91, o_91, rfl, hG, hO1_91, hO2_91⟩ := iter_step hL; clear hL; rw [hs_91] at hG; refine sq (rg (ra [] f0 [(11, B (decide (v_87 < (v_20.length : Int))))] (tN (sq ?_)))); replace hG := ic hG; rcases hG with ⟨h_92, hG⟩ | ⟨h_92, hG⟩
        ·try simp only [lm_, Kd.n_Hops] at h_92
         refine sb 11 (bt h_92) (ct (kS (tN (sq (bk (sq ?_)))))); replace hG := bs hG; obtain ⟨v_93, hy_93, hG⟩ := hG; refine rg (fx inf51 (gd' (RowC v_20_A v_20_c Kb.cells tr v_20) 1) hy_93 fun b_94 o_95 hi_93 => rn 2 [(0, 0, 0, 0), (0, 3, 0, 0)] (fc (hi_93 .i64) f0) [(13, .agg #[U v_93.Doc, I v_93.Stamp.Lo, I v_93.Stamp.Hi])] (l1 (nw 7 vp [U 0, I 0, I 0] 31 fun g_96 => l1 (sr 0 g_96 (ns 0 [U v_93.Doc, I v_93.Stamp.Lo, I v_93.Stamp.Hi]) (nl (tN ?_)))))); replace hG := bs hG; obtain ⟨v_97, hy_97, hG⟩ := hG; replace hG := bs hG; obtain ⟨v_99, hy_99, hG⟩ := hG; exact rg (rn 3 [(2, 3, 0, 0)] f0 (ns 14 [.slice v_89_A v_88.length v_90_c, .func (.func 66) #[] #[], .agg #[U v_93.Doc, I v_93.Stamp.Lo, I v_93.Stamp.Hi]]) (l1 (cl 17 (zv F v_93 _ hy_97) hT trivial (l1 (nw 18 (vs 1) [U v_97] 23 fun g_98 => l1 (ap 3 19 v_89_A v_90_c v_88 ([v_97] : List Int) inf32 (bA (f := c_u64) (ok := tr) (l := ([v_97] : List Int)) g_98 0 et.a) hy_99 one_u64 fun v_99_A v_99_c _ => ra [] f0 [(5, .slice v_99_A v_99.length v_99_c)] (hN (tN (rg (ra [] f0 [(10, I (IntKind.i64.wrap (v_87 + 1)))] (tN (fun a w S hK hE => ⟨m_91, ⟨IntKind.i64.wrap (v_87 + 1), v_99, v_99_A, v_99_c, S, hK.wk, hE.sel [3, 4, 5, 6, 7, 8], hO1_91 _ (oi hG).symm⟩, Nat.lt_succ_self _⟩))))))))))))
        ·try simp only [lm_, Kd.n_Hops] at h_92
         refine sb 11 (bf h_92) (cf (kX (tX (tX ?_)))); have he_ := hO2_91 _ (oi hG).symm; subst he_; replace hG := hG_91; exact hH (tN (fun _ _ S k e => ⟨v_88, v_89_A, v_90_c, S, k.wk, e.sel [0, 1, 2, 3, 4, 5], oi hG⟩))
      ·rintro a w ⟨v_104, v_105_A, v_106_c, hJ⟩; refine hJ.go ?_; clear hJ; rintro rfl; replace hG := hG_103; exact sq (rg (ra [] f0 [(4, .slice v_105_A v_104.length v_106_c)] (tN (kR (ri [] (.slice v_105_A v_104.length v_106_c) (fun a w S hK hE => ⟨v_104, v_105_A, v_106_c, rfl, ⟨S, hE.sel [0, 1, 2, 3, 4, 5]⟩, oi hG⟩))))))
     ·rintro e w ⟨v_61, v_62_A, v_63_c, hJ⟩; refine hJ.go ?_; clear hJ; rintro rfl; refine rn 1 [] f0 [(67, I p_2)] (so (A := v_62_A) (c := v_63_c) 0 c_u64 tr v_61 tr_mv et (l1 (cn 68 (za5 F v_62_A v_63_c v_61 p_2 _ hy_65) hT (fun _ => (mr tr_mv m0)) ⟨gi 0, trivial⟩ ?_))); rintro ⟨v_65_A, v_65_c, v_65⟩ hq_65; obtain rfl : v_65 = v_65o := hq_65.symm
      try simp only [lm_, Kd.n_Hops] at hG
      refine ra [] f0 [(10, .slice v_65_A v_65.length v_65_c), (11, I v_66)] (tN (sq (sq (rg (ra [] f0 [(72, B (!(v_66 == 0)))] (tN ?_)))))); replace hG := ic hG; rcases hG with ⟨h_107, hG⟩ | ⟨h_107, hG⟩
      ·refine sb 72 (nt h_107) (cf (kS (tN (sq ?_)))); replace hG := bs hG; obtain ⟨v_108, hy_108, hG⟩ := hG; refine fx inf51 (gd' (RowC p_0.Entries_A p_0.Entries_c Kb.cells tr p_0.Entries) 3) hy_108 fun b_109 o_110 hi_108 => hb [0, 1, 2, 3, 4, 6, 7] (ht [0, 1, 2, 3, 4, 6, 7] [0, 1, 2, 3, 4, 5, 6, 7, 8] [(0, 5, 5, 0), (2, 1, 6, 1), (1, 0, 0, 0), (0, 3, 0, 0)] (fc (hi_108 .i64) f0) [(83, .agg #[I p_1.Office, I p_1.Size, U p_1.Root, I p_1.Sig.C, I p_1.Sig.S, I p_2, U v_108.Doc, I v_108.Stamp.Lo, I v_108.Stamp.Hi, .slice v_65_A v_65.length v_65_c])] (ho [9] ⟨h1 (sr 5 g_3 (ns 0 [I p_1.Office, I p_1.Size, U p_1.Root, I p_1.Sig.C, I p_1.Sig.S, I p_2, U v_108.Doc, I v_108.Stamp.Lo, I v_108.Stamp.Hi, .slice v_65_A v_65.length v_65_c]) (hk [0, 1, 2, 3, 4, 6, 7] (ht [0, 1, 2, 3, 4, 6, 7] [10] [] f0 [(7, I 0)] (he (tN (kR ?_)))))), trivial⟩))
       obtain rfl := oi hG; exact rtn [(5, 0, 10)] (⟨p_1, p_2, v_108, v_65_A, v_65_c, v_65⟩ : Kk) rfl ⟨(((gd' (RowC v_65_A v_65_c c_u64 tr v_65) 1)).m fun _ _ h => ⟨h⟩), trivial⟩
      ·refine sb 72 (nf h_107) (ct (sq (rg (rn 2 [] f0 [(73, Aw (Kk.cells Kk.z)), (74, I v_66)] (l1 (sr 4 g_3 (ns 0 (Kk.cells Kk.z)) (ra [] f0 [(7, I v_66)] (tN (kR (tR ?_)))))))))); obtain rfl := oi hG; exact rtn [(4, 0, 10)] (⟨(⟨0, 0, 0, (⟨0, 0⟩ : KSig)⟩ : Kc), 0, (⟨0, ⟨0, 0⟩⟩ : Kb), none, 0, ([] : List Int)⟩ : Kk) rfl ⟨(((gn : Fd _ (RowC none 0 c_u64 tr ([] : List Int)))).m fun _ _ h => ⟨h⟩), trivial⟩
def Gr (F : Nat) (p_0 : Kf) (p_1 : Kc) : Option (Bool) :=
  Option.bind (ifB ((p_1.Office == p_0.ID))
      (some (decide (p_1.Size > (p_0.Entries.length : Int))))
      (some true) : Option (Bool)) (fun (v_5 : Bool) => 
    ifB (v_5)
      (some false)
      (Option.bind (Gy F p_0 p_1.Size) (fun v_7 =>
      Option.bind (Gat F v_7) (un2 fun v_8 v_9 =>
      Option.bind (ifB ((v_9 == 0))
          (some (v_8 == p_1.Root))
          (some false) : Option (Bool)) (fun (v_12 : Bool) => 
        some v_12)))))
theorem zl (F : Nat) (p_0 : Ka) (p_1 : Kc) (r : Bool) (hG : Gr F p_0.p p_1 = some r) :
  Cf Tryz.prog 103 [.agg #[I p_0.ID, .slice p_0.Entries_A p_0.Entries.length p_0.Entries_c], .agg #[I p_1.Office, I p_1.Size, U p_1.Root, I p_1.Sig.C, I p_1.Sig.S]] [Ka.ok p_0] (B r) := by
 unfold Gr at hG
 try simp only [lm_, Kd.n_Hops] at hG
 refine fi Tryz.func103 rfl rfl (mc Ka.mv m0) fun S0 w0 hT => sq (rg (l1 (nw 2 vp [I p_0.ID, .slice p_0.Entries_A p_0.Entries.length p_0.Entries_c] 53 fun g_1 => l1 (nw 3 vp [I p_1.Office, I p_1.Size, U p_1.Root, I p_1.Sig.C, I p_1.Sig.S] 27 fun g_2 => ra [] f0 [] (tN (sq ?_))))))
 obtain ⟨o_4, hG, hG_4⟩ := bs hG; refine jn (fun K E a w => ∃ v_5 : Bool, Js S0 w0 36 ([(19, B v_5)] ++ K) ([.dat (RowC p_0.Entries_A p_0.Entries_c Kb.cells tr p_0.Entries)] ++ se E [0, 1]) (v_5 = o_4) a w) ?_ ?_
 ·rcases ic hG with ⟨h_3, hG⟩ | ⟨h_3, hG⟩
  ·exact rg (rn 6 [(1, 1, 0, 0), (1, 1, 1, 0)] f0 [(12, B (!(p_1.Office == p_0.ID)))] (sb 12 (nt h_3) (ra [(1, 1, 0, 1), (1, 1, 1, 1)] f0 [(19, B (decide (p_1.Size > (p_0.Entries.length : Int))))] (tN (fg (Ka.ok p_0) 2 (fun _ _ h => h.f_Entries) (fun _ _ S k e => ⟨decide (p_1.Size > (p_0.Entries.length : Int)), S, k.wk, e.sel [0, 1, 2], oi hG⟩))))))
  ·exact rg (rn 6 [(1, 1, 0, 0), (1, 1, 1, 0)] f0 [(12, B (!(p_1.Office == p_0.ID)))] (sb 12 (nf h_3) (ra [] f0 [(19, B true)] (tN (fg (Ka.ok p_0) 2 (fun _ _ h => h.f_Entries) (fun _ _ S k e => ⟨true, S, k.wk, e.sel [0, 1, 2], oi hG⟩))))))
 ·rintro a w ⟨v_5, hJ⟩; refine hJ.go ?_; clear hJ; rintro rfl; replace hG := hG_4; rcases ic hG with ⟨h_6, hG⟩ | ⟨h_6, hG⟩
  ·refine sb 19 (bt h_6) (ct (sq (rg (ra [] f0 [(4, B false)] (tN (kR (tR ?_))))))); obtain rfl := oi hG; exact rt []
  ·refine sb 19 (bf h_6) (cf (kS (tN (sq ?_)))); obtain ⟨v_7o, hy_7, hG⟩ := bs hG; replace hG := b2 hG; obtain ⟨v_8, v_9, hy_8, hG⟩ := hG; refine rg (rn 3 [(0, 2, 2, 0), (1, 1, 1, 1)] f0 [(21, .agg #[I p_0.ID, .slice p_0.Entries_A p_0.Entries.length p_0.Entries_c]), (23, I p_1.Size)] (l1 (cn 24 (z6 F p_0 p_1.Size _ hy_7) hT (fun _ => (mr tr_mv m0)) ⟨(((gd' (RowC p_0.Entries_A p_0.Entries_c Kb.cells tr p_0.Entries) 0)).m fun _ _ h => ⟨h⟩), trivial⟩ ?_))); rintro ⟨v_7_A, v_7_c, v_7⟩ hq_7; obtain rfl : v_7 = v_7o := hq_7.symm
   try simp only [lm_, Kd.n_Hops] at hG
   refine l1 (cl 25 (zai F v_7_A v_7_c v_7 _ hy_8) hT ⟨ga 0, trivial⟩ (ra [] f0 [(5, U v_8), (6, I v_9)] (tN ?_))); obtain ⟨o_11, hG, hG_11⟩ := bs hG; refine jn (fun K E a w => ∃ v_12 : Bool, Js S0 w0 36 ([(4, B v_12)] ++ K) (se E []) (v_12 = o_11) a w) ?_ ?_
   ·rcases ic hG with ⟨h_10, hG⟩ | ⟨h_10, hG⟩
    ·exact rg (rn 3 [] f0 [(30, B (v_9 == 0))] (sb 30 (bt h_10) (ra [(2, 1, 2, 2)] f0 [(4, B (v_8 == p_1.Root))] (tN (fun _ _ S k e => ⟨(v_8 == p_1.Root), S, k.wk, e.sel [], oi hG⟩)))))
    ·exact rg (rn 3 [] f0 [(30, B (v_9 == 0))] (sb 30 (bf h_10) (ra [] f0 [(4, B false)] (tN (fun _ _ S k e => ⟨false, S, k.wk, e.sel [], oi hG⟩)))))
   ·rintro a w ⟨v_12, hJ⟩; refine hJ.go ?_; clear hJ; rintro rfl; replace hG := hG_11; refine kR ?_; obtain rfl := oi hG; exact rt []
def Ga (F : Nat) (p_0 : Kf) (p_1 : Int) (p_2 : Int) (p_3 : Int) : Option (Kc × Int) :=
 Option.bind (Option.bind (Gh F p_0) (fun v_3 =>
  ifB (v_3)
   (Option.bind (Gb F p_1 1 (p_0.Entries.length : Int)) (fun v_5 =>
   some (!v_5, p_3)))
   (some (true, p_3))) : Option ((Bool × Int))) (un2 fun (v_7 : Bool) (v_8 : Int) =>
  ifB (v_7)
   (some ((⟨0, 0, 0, (⟨0, 0⟩ : KSig)⟩ : Kc), 1))
   (Option.bind (G3 F p_0 p_1) (un2 fun v_10 v_11 =>
   ifB ((v_11 == 0))
    (Option.bind (Gah F (⟨p_0.ID, p_1, v_10, (⟨0, 0⟩ : KSig)⟩ : Kc)) (fun v_14 =>
    Option.bind (Gae F p_2 v_8 v_14) (un2 fun v_15 v_16 =>
    ifB ((v_16 == 0))
     (some ((⟨p_0.ID, p_1, v_10, v_15⟩ : Kc), 0))
     (some ((⟨0, 0, 0, (⟨0, 0⟩ : KSig)⟩ : Kc), v_16)))))
    (some ((⟨0, 0, 0, (⟨0, 0⟩ : KSig)⟩ : Kc), v_11)))))
theorem za (F : Nat) (p_0 : Ka) (p_1 : Int) (p_2 : Int) (p_3 : Int) (r : Kc × Int) (hG : Ga F p_0.p p_1 p_2 p_3 = some r) :
  Cf Tryz.prog 22 [.agg #[I p_0.ID, .slice p_0.Entries_A p_0.Entries.length p_0.Entries_c], I p_1, I p_2, I p_3] [Ka.ok p_0] (.tuple #[.agg #[I r.1.Office, I r.1.Size, U r.1.Root, I r.1.Sig.C, I r.1.Sig.S], I r.2]) := by
 unfold Ga at hG
 try simp only [lm_, Kd.n_Hops] at hG
 refine fi Tryz.func22 rfl rfl (mc Ka.mv m0) fun S0 w0 hT => sq (rg (l1 (nw 4 vp [I p_0.ID, .slice p_0.Entries_A p_0.Entries.length p_0.Entries_c] 53 fun g_1 => l1 (nw 8 vp [I 0, I 0, U 0, I 0, I 0] 27 fun g_2 => ra [] f0 [] (tN (sq ?_))))))
 obtain ⟨o_6, hG, hG_6⟩ := bs hG; refine jn (fun K E a w => ∃ (v_7 : Bool) (v_8 : Int), Js S0 w0 56 ([(3, I v_8), (24, B v_7)] ++ K) ([.dat (RowC p_0.Entries_A p_0.Entries_c Kb.cells tr p_0.Entries)] ++ se E [0, 1]) ((v_7, v_8) = o_6) a w) ?_ ?_
 ·obtain ⟨v_3, hy_3, hG⟩ := bs hG; rcases ic hG with ⟨h_4, hG⟩ | ⟨h_4, hG⟩
  ·obtain ⟨v_5, hy_5, hG⟩ := bs hG; exact rg (rn 1 [(0, 2, 1, 0)] f0 [(14, .agg #[I p_0.ID, .slice p_0.Entries_A p_0.Entries.length p_0.Entries_c])] (l1 (cl 15 (zc F p_0 _ hy_3) hT ⟨(gi 2).a, trivial⟩ (rn 2 [] f0 [(17, B (!v_3))] (sb 17 (nt h_4) (rn 4 [(2, 1, 1, 1)] f0 [(18, I p_1), (21, I (p_0.Entries.length : Int))] (l1 (cl 22 (zf F p_1 1 (p_0.Entries.length : Int) _ hy_5) hT trivial (ra [] f0 [(24, B (!v_5))] (tN (fg (Ka.ok p_0) 2 (fun _ _ h => h.f_Entries) (fun _ _ S k e => ⟨!v_5, p_3, S, k.wk, e.sel [0, 1, 2], oi hG⟩))))))))))))
  ·exact rg (rn 1 [(0, 2, 1, 0)] f0 [(14, .agg #[I p_0.ID, .slice p_0.Entries_A p_0.Entries.length p_0.Entries_c])] (l1 (cl 15 (zc F p_0 _ hy_3) hT ⟨(gi 2).a, trivial⟩ (rn 2 [] f0 [(17, B (!v_3))] (sb 17 (nf h_4) (ra [] f0 [(24, B true)] (tN (fg (Ka.ok p_0) 2 (fun _ _ h => h.f_Entries) (fun _ _ S k e => ⟨true, p_3, S, k.wk, e.sel [0, 1, 2], oi hG⟩)))))))))
 ·rintro a w ⟨v_7, v_8, hJ⟩; refine hJ.go ?_; clear hJ; rintro rfl; replace hG := hG_6; rcases ic hG with ⟨h_9, hG⟩ | ⟨h_9, hG⟩
  ·refine sb 24 (bt h_9) (ct (sq (rg (rn 1 [] f0 [(25, .agg #[I 0, I 0, U 0, I 0, I 0])] (l1 (sr 1 g_2 (ns 0 [I 0, I 0, U 0, I 0, I 0]) (ra [] f0 [(9, I 1)] (tN (kR (tR ?_)))))))))); obtain rfl := oi hG; exact rt [(1, 0, 5)]
  ·refine sb 24 (bf h_9) (cf (kS (tN (sq ?_)))); obtain ⟨v_10, v_11, hy_10, hG⟩ := b2 hG; refine rg (rn 2 [(0, 2, 2, 0)] f0 [(27, .agg #[I p_0.ID, .slice p_0.Entries_A p_0.Entries.length p_0.Entries_c]), (28, I p_1)] (l1 (cl 29 (zab F p_0 p_1 _ hy_10) hT ⟨(((gd' (RowC p_0.Entries_A p_0.Entries_c Kb.cells tr p_0.Entries) 0)).m fun _ _ h => ⟨h⟩).a, trivial⟩ (ra [] f0 [(10, U v_10), (11, I v_11)] (tN (sq (sq (rg (ra [] f0 [(33, B (!(v_11 == 0)))] (tN ?_)))))))))); rcases ic hG with ⟨h_12, hG⟩ | ⟨h_12, hG⟩
   ·refine sb 33 (nt h_12) (cf (kS (tN (sq (rg (rn 5 [(1, 1, 2, 0)] f0 [(40, .agg #[I p_0.ID, I p_1, U v_10, I 0, I 0])] (l1 (nw 12 vp [I 0, I 0, U 0, I 0, I 0] 27 fun g_13 => l1 (sr 0 g_13 (ns 0 [I p_0.ID, I p_1, U v_10, I 0, I 0]) (nl (tN (sq ?_)))))))))))); obtain ⟨v_14o, hy_14, hG⟩ := bs hG; replace hG := b2 hG; obtain ⟨v_15, v_16, hy_15, hG⟩ := hG; refine rg (rn 3 [(2, 5, 0, 0)] f0 (ns 42 [I p_2, I v_8, .agg #[I p_0.ID, I p_1, U v_10, I 0, I 0]]) (l1 (cn 45 (zaa F (⟨p_0.ID, p_1, v_10, (⟨0, 0⟩ : KSig)⟩ : Kc) _ hy_14) hT (fun _ => (mr tr_mv m0)) trivial ?_))); rintro ⟨v_14_A, v_14_c, v_14⟩ hq_14; obtain rfl : v_14 = v_14o := hq_14.symm
    try simp only [lm_, Kd.n_Hops] at hG
    refine l1 (cl 46 (zam F p_2 v_8 v_14_A v_14_c v_14 _ hy_15) hT ⟨ga 0, trivial⟩ (rn 3 [] f0 [(47, .agg #[I v_15.C, I v_15.S]), (48, I v_16)] (l1 (nw 13 vp [I 0, I 0] 25 fun g_17 => l1 (sr 0 g_17 [(0, I v_15.C), (1, I v_15.S)] (ra [] f0 [(11, I v_16)] (tN (sq (sq (rg (ra [] f0 [(50, B (!(v_16 == 0)))] (tN ?_)))))))))))); rcases ic hG with ⟨h_18, hG⟩ | ⟨h_18, hG⟩
    ·refine sb 50 (nt h_18) (cf (kS (tN (sq (rg (rn 2 [(0, 2, 0, 0)] f0 [(53, .agg #[I v_15.C, I v_15.S]), (54, Pt g_13 3)] (l1 (sr 2 g_13 [(3, I v_15.C), (4, I v_15.S)] (nl (tN (sq (rg (rn 1 [(0, 5, 2, 0)] f0 [(55, .agg #[I p_0.ID, I p_1, U v_10, I v_15.C, I v_15.S])] (l1 (sr 4 g_2 (ns 0 [I p_0.ID, I p_1, U v_10, I v_15.C, I v_15.S]) (ra [] f0 [(9, I 0)] (tN (kR ?_)))))))))))))))))); obtain rfl := oi hG; exact rt [(4, 0, 5)]
    ·refine sb 50 (nf h_18) (ct (sq (rg (rn 2 [] f0 [(51, .agg #[I 0, I 0, U 0, I 0, I 0]), (52, I v_16)] (l1 (sr 4 g_2 (ns 0 [I 0, I 0, U 0, I 0, I 0]) (ra [] f0 [(9, I v_16)] (tN (kR (tR ?_)))))))))); obtain rfl := oi hG; exact rt [(4, 0, 5)]
   ·refine sb 33 (nf h_12) (ct (sq (rg (rn 2 [] f0 [(34, .agg #[I 0, I 0, U 0, I 0, I 0]), (35, I v_11)] (l1 (sr 1 g_2 (ns 0 [I 0, I 0, U 0, I 0, I 0]) (ra [] f0 [(9, I v_11)] (tN (kR (tR ?_)))))))))); obtain rfl := oi hG; exact rt [(1, 0, 5)]
def G1 (F : Nat) (p_0 : Kf) (p_1 : Kb) : Option (Kf × Int) :=
  Option.bind (Option.bind (Gh F p_0) (fun v_4 =>
    ifB (v_4)
      (Option.bind (Gu F (⟨p_1⟩ : Kr)) (fun v_6 =>
      some (!v_6)))
      (some true)) : Option (Bool)) (fun (v_8 : Bool) => 
    ifB (v_8)
      (some ((⟨0, ([] : List Kb)⟩ : Kf), 1))
      (ifB (((p_0.Entries.length : Int) == 4096))
        (some ((⟨0, ([] : List Kb)⟩ : Kf), 2))
        (Option.bind (ifB (decide ((p_0.Entries.length : Int) > 0))
            (Option.bind (ixI p_0.Entries (IntKind.i64.wrap ((p_0.Entries.length : Int) - 1))) (fun v_12 =>
            some (decide (p_1.Stamp.Lo < v_12.Stamp.Lo))))
            (some false) : Option (Bool)) (fun (v_16 : Bool) => 
          ifB (v_16)
            (some ((⟨0, ([] : List Kb)⟩ : Kf), 30))
            (Option.bind (Option.bind (whenG (decide (0 ≤ (IntKind.i64.wrap ((p_0.Entries.length : Int) + 1)) ∧ (IntKind.i64.wrap ((p_0.Entries.length : Int) + 1)) * 24 ≤ 140737488355328)) ()) (fun v_18 =>
              Option.bind (apG 24 ([] : List Kb) p_0.Entries) (fun v_19 =>
              Option.bind (apG 24 v_19 ([p_1] : List Kb)) (fun v_21 =>
              some v_21))) : Option ((List Kb))) (fun (v_23 : (List Kb)) => 
              some ((⟨p_0.ID, v_23⟩ : Kf), 0)))))))
theorem zx (F : Nat) (p_0 : Ka) (p_1 : Kb) (r : Kf × Int) (hG : G1 F p_0.p p_1 = some r) :
  Cn Tryz.prog 74 [.agg #[I p_0.ID, .slice p_0.Entries_A p_0.Entries.length p_0.Entries_c], .agg #[U p_1.Doc, I p_1.Stamp.Lo, I p_1.Stamp.Hi]] [Ka.ok p_0] (fun q : Ka => r.1 = q.p) (fun q => .tuple #[.agg #[I q.ID, .slice q.Entries_A q.Entries.length q.Entries_c], I r.2]) (fun q => [Ka.ok q]) := by
 unfold G1 at hG
 try simp only [lm_, Kd.n_Hops, Kh.n_l] at hG
 refine fin Tryz.func74 rfl rfl (mc Ka.mv m0) fun S0 w0 hT => sq (rg (l1 (nw 2 vp [I p_0.ID, .slice p_0.Entries_A p_0.Entries.length p_0.Entries_c] 53 fun g_1 => l1 (nw 3 vp [U p_1.Doc, I p_1.Stamp.Lo, I p_1.Stamp.Hi] 31 fun g_2 => l1 (nw 4 vp [I 0, .slice none 0 0] 53 fun g_3 => ra [] f0 [] (tN (sq (rg (ra [(1, 1, 2, 1)] f0 [(6, I (p_0.Entries.length : Int))] (tN (sq (bk ?_))))))))))))
 obtain ⟨o_7, hG, hG_7⟩ := bs hG; refine jn (fun K E a w => ∃ v_8 : Bool, Js S0 w0 55 ([(10, B v_8)] ++ K) ([.dat (RowC p_0.Entries_A p_0.Entries_c Kb.cells tr p_0.Entries)] ++ se E [0, 1, 2]) (v_8 = o_7) a w) ?_ ?_
 ·obtain ⟨v_4, hy_4, hG⟩ := bs hG; rcases ic hG with ⟨h_5, hG⟩ | ⟨h_5, hG⟩
  ·obtain ⟨v_6, hy_6, hG⟩ := bs hG; exact rg (rn 1 [(0, 2, 2, 0)] f0 [(11, .agg #[I p_0.ID, .slice p_0.Entries_A p_0.Entries.length p_0.Entries_c])] (l1 (cl 12 (zc F p_0 _ hy_4) hT ⟨(gi 3).a, trivial⟩ (rn 2 [] f0 [(14, B (!v_4))] (sb 14 (nt h_5) (rn 2 [(0, 3, 1, 0)] f0 [(16, .agg #[U p_1.Doc, I p_1.Stamp.Lo, I p_1.Stamp.Hi])] (l1 (cl 17 (zk F (⟨p_1⟩ : Kr) _ hy_6) hT trivial (ra [] f0 [(10, B (!v_6))] (tN (fg (Ka.ok p_0) 3 (fun _ _ h => h.f_Entries) (fun _ _ S k e => ⟨!v_6, S, k.wk, e.sel [0, 1, 2, 3], oi hG⟩))))))))))))
  ·exact rg (rn 1 [(0, 2, 2, 0)] f0 [(11, .agg #[I p_0.ID, .slice p_0.Entries_A p_0.Entries.length p_0.Entries_c])] (l1 (cl 12 (zc F p_0 _ hy_4) hT ⟨(gi 3).a, trivial⟩ (rn 2 [] f0 [(14, B (!v_4))] (sb 14 (nf h_5) (ra [] f0 [(10, B true)] (tN (fg (Ka.ok p_0) 3 (fun _ _ h => h.f_Entries) (fun _ _ S k e => ⟨true, S, k.wk, e.sel [0, 1, 2, 3], oi hG⟩)))))))))
 ·rintro a w ⟨v_8, hJ⟩; refine hJ.go ?_; clear hJ; rintro rfl; replace hG := hG_7; rcases ic hG with ⟨h_9, hG⟩ | ⟨h_9, hG⟩
  ·refine sb 10 (bt h_9) (ct (sq (rg (rn 1 [] f0 [(20, .agg #[I 0, .slice none 0 0])] (l1 (sr 1 g_3 [(0, I 0), (1, .slice none 0 0)] (ra [] f0 [(5, I 1)] (tN (kR (hR (tR ?_))))))))))); obtain rfl := oi hG; exact rtn [(1, 0, 2)] (⟨0, none, 0, ([] : List Kb)⟩ : Ka) rfl ⟨(((gn : Fd _ (RowC none 0 Kb.cells tr ([] : List Kb)))).m fun _ _ h => ⟨h⟩), trivial⟩
  ·refine sb 10 (bf h_9) (cf (sq (rg (ra [] f0 [(21, B ((p_0.Entries.length : Int) == 4096))] (tN ?_))))); rcases ic hG with ⟨h_10, hG⟩ | ⟨h_10, hG⟩
   ·try simp only [lm_, Kd.n_Hops, Kh.n_l] at h_10
    refine sb 21 (bt h_10) (ct (sq (rg (rn 1 [] f0 [(24, .agg #[I 0, .slice none 0 0])] (l1 (sr 1 g_3 [(0, I 0), (1, .slice none 0 0)] (ra [] f0 [(5, I 2)] (tN (kR (hR (tR ?_))))))))))); obtain rfl := oi hG; exact rtn [(1, 0, 2)] (⟨0, none, 0, ([] : List Kb)⟩ : Ka) rfl ⟨(((gn : Fd _ (RowC none 0 Kb.cells tr ([] : List Kb)))).m fun _ _ h => ⟨h⟩), trivial⟩
   ·try simp only [lm_, Kd.n_Hops, Kh.n_l] at h_10
    refine sb 21 (bf h_10) (cf ?_); obtain ⟨o_15, hG, hG_15⟩ := bs hG; refine jn (fun K E a w => ∃ v_16 : Bool, Js S0 w0 55 ([(25, B v_16)] ++ K) (se E [0, 1, 2, 3]) (v_16 = o_15) a w) ?_ ?_
    ·rcases ic hG with ⟨h_11, hG⟩ | ⟨h_11, hG⟩
     ·obtain ⟨v_12, hy_12, hG⟩ := bs hG; refine qb (qn 3 [] f0 [(28, B (decide ((p_0.Entries.length : Int) > 0)))] ?_)
      try simp only [lm_, Kd.n_Hops, Kh.n_l] at h_11
      exact sb 28 (bt h_11) (fx inf51 (gd' (RowC p_0.Entries_A p_0.Entries_c Kb.cells tr p_0.Entries) 0) hy_12 fun b_13 o_14 hi_12 => qa [(2, 1, 3, 1), (1, 1, 4, 1), (2, 0, 0, 0), (2, 1, 0, 1)] (fc (hi_12 .i64) f0) [(25, B (decide (p_1.Stamp.Lo < v_12.Stamp.Lo)))] (tN (fun _ _ S k e => ⟨decide (p_1.Stamp.Lo < v_12.Stamp.Lo), S, k.wk, e.sel [1, 2, 3, 4], oi hG⟩)))
     ·refine qb (qn 3 [] f0 [(28, B (decide ((p_0.Entries.length : Int) > 0)))] ?_)
      try simp only [lm_, Kd.n_Hops, Kh.n_l] at h_11
      exact sb 28 (bf h_11) (qa [] f0 [(25, B false)] (tN (fun _ _ S k e => ⟨false, S, k.wk, e.sel [0, 1, 2, 3], oi hG⟩)))
    ·rintro a w ⟨v_16, hJ⟩; refine hJ.go ?_; clear hJ; rintro rfl; replace hG := hG_15; rcases ic hG with ⟨h_17, hG⟩ | ⟨h_17, hG⟩
     ·refine sb 25 (bt h_17) (ct (sq (rg (rn 1 [] f0 [(42, .agg #[I 0, .slice none 0 0])] (l1 (sr 1 g_3 [(0, I 0), (1, .slice none 0 0)] (ra [] f0 [(5, I 30)] (tN (kR (hR (tR ?_))))))))))); obtain rfl := oi hG; exact rtn [(1, 0, 2)] (⟨0, none, 0, ([] : List Kb)⟩ : Ka) rfl ⟨(((gn : Fd _ (RowC none 0 Kb.cells tr ([] : List Kb)))).m fun _ _ h => ⟨h⟩), trivial⟩
     ·refine sb 25 (bf h_17) (cf (kS (hN (tN ?_)))); obtain ⟨o_22, hG, hG_22⟩ := bs hG; refine jn (fun K E a w => ∃ (v_23 : List Kb) (v_24_A : Option Addr) (v_25_c : Nat), Js S0 w0 55 ([(5, I 0)] ++ K) ([.blk g_3 53 [I p_0.ID, .slice v_24_A v_23.length v_25_c], .own 31 3 (.slice v_24_A v_23.length v_25_c) v_23.length (v_23.flatMap Kb.cells)]) (v_23 = o_22) a w) ?_ ?_
      ·obtain ⟨v_18, hy_18, hG⟩ := bs hG; obtain ⟨v_19, hy_19, hG⟩ := bs hG; obtain ⟨v_21, hy_21, hG⟩ := bs hG; refine hb [0, 2, 3] (ht [0, 2, 3] [0, 1, 2, 3, 5, 6, 8] [(1, 1, 2, 0), (3, 1, 2, 1), (0, 3, 1, 0)] f0 [(44, I p_0.ID), (46, I (IntKind.i64.wrap ((p_0.Entries.length : Int) + 1))), (49, .slice p_0.Entries_A p_0.Entries.length p_0.Entries_c), (51, .agg #[U p_1.Doc, I p_1.Stamp.Lo, I p_1.Stamp.Hi])] (ho [4, 9] ⟨?_, ?_, trivial⟩))
       ·refine h1 (mk0 47 (cc := IntKind.i64.wrap ((p_0.Entries.length : Int) + 1)) (kl := .i64) (kc := .i64) inf51 (of_decide_eq_true (whenG_some hy_18).1) fun v_18_A v_18_c => hk [1, 3, 4] (ho [7, 9] ⟨?_, ?_, trivial⟩))
        ·exact h1 (ap 0 50 v_18_A v_18_c ([] : List Kb) p_0.Entries inf51 ((gd' (RowC p_0.Entries_A p_0.Entries_c Kb.cells tr p_0.Entries) 1).a) hy_19 Kb.one fun v_19_A v_19_c _ => hk [1, 3, 4] (ho [9] ⟨h1 (nw 52 (vs 1) [U p_1.Doc, I p_1.Stamp.Lo, I p_1.Stamp.Hi] 31 fun g_20 => hk [2, 4, 5] (ho [10] ⟨h1 (ap 1 53 v_19_A v_19_c v_19 ([p_1] : List Kb) inf51 (bA (f := Kb.cells) (ok := tr) (l := ([p_1] : List Kb)) g_20 0 et.a) hy_21 Kb.one fun v_21_A v_21_c _ => hk [2, 4, 5] (ht [2, 4, 5] [11] [] f0 [(54, .agg #[I p_0.ID, .slice v_21_A v_21.length v_21_c])] (ho [12] ⟨h1 (sr 3 g_3 [(0, I p_0.ID), (1, .slice v_21_A v_21.length v_21_c)] (hk [2, 4, 5] (ht [2, 4, 5] [13] [] f0 [(5, I 0)] (he (tN (fun _ _ S k e => ⟨v_21, v_21_A, v_21_c, S, k.wk, e.sel [3, 1], oi hG⟩)))))), trivial⟩))), trivial⟩)), trivial⟩))
        ·exact h1 (nw 52 (vs 1) [U p_1.Doc, I p_1.Stamp.Lo, I p_1.Stamp.Hi] 31 fun g_20 => hk [2, 4, 5] (ho [7] ⟨h1 (ap 1 50 v_18_A v_18_c ([] : List Kb) p_0.Entries inf51 ((gd' (RowC p_0.Entries_A p_0.Entries_c Kb.cells tr p_0.Entries) 2).a) hy_19 Kb.one fun v_19_A v_19_c _ => hk [2, 4, 5] (ho [10] ⟨h1 (ap 1 53 v_19_A v_19_c v_19 ([p_1] : List Kb) inf51 (bA (f := Kb.cells) (ok := tr) (l := ([p_1] : List Kb)) g_20 0 et.a) hy_21 Kb.one fun v_21_A v_21_c _ => hk [2, 4, 5] (ht [2, 4, 5] [11] [] f0 [(54, .agg #[I p_0.ID, .slice v_21_A v_21.length v_21_c])] (ho [12] ⟨h1 (sr 3 g_3 [(0, I p_0.ID), (1, .slice v_21_A v_21.length v_21_c)] (hk [2, 4, 5] (ht [2, 4, 5] [13] [] f0 [(5, I 0)] (he (tN (fun _ _ S k e => ⟨v_21, v_21_A, v_21_c, S, k.wk, e.sel [3, 1], oi hG⟩)))))), trivial⟩))), trivial⟩)), trivial⟩))
       ·exact h1 (nw 52 (vs 1) [U p_1.Doc, I p_1.Stamp.Lo, I p_1.Stamp.Hi] 31 fun g_20 => hk [1, 3, 4] (ho [4] ⟨h1 (mk0 47 (cc := IntKind.i64.wrap ((p_0.Entries.length : Int) + 1)) (kl := .i64) (kc := .i64) inf51 (of_decide_eq_true (whenG_some hy_18).1) fun v_18_A v_18_c => hk [2, 4, 5] (ho [7] ⟨h1 (ap 0 50 v_18_A v_18_c ([] : List Kb) p_0.Entries inf51 ((gd' (RowC p_0.Entries_A p_0.Entries_c Kb.cells tr p_0.Entries) 2).a) hy_19 Kb.one fun v_19_A v_19_c _ => hk [2, 4, 5] (ho [10] ⟨h1 (ap 0 53 v_19_A v_19_c v_19 ([p_1] : List Kb) inf51 (bA (f := Kb.cells) (ok := tr) (l := ([p_1] : List Kb)) g_20 1 et.a) hy_21 Kb.one fun v_21_A v_21_c _ => hk [2, 4, 5] (ht [2, 4, 5] [11] [] f0 [(54, .agg #[I p_0.ID, .slice v_21_A v_21.length v_21_c])] (ho [12] ⟨h1 (sr 3 g_3 [(0, I p_0.ID), (1, .slice v_21_A v_21.length v_21_c)] (hk [2, 4, 5] (ht [2, 4, 5] [13] [] f0 [(5, I 0)] (he (tN (fun _ _ S k e => ⟨v_21, v_21_A, v_21_c, S, k.wk, e.sel [3, 0], oi hG⟩)))))), trivial⟩))), trivial⟩)), trivial⟩)), trivial⟩))
      ·rintro a w ⟨v_23, v_24_A, v_25_c, hJ⟩; refine hJ.go ?_; clear hJ; rintro rfl; replace hG := hG_22; refine kR ?_; obtain rfl := oi hG; exact so (A := v_24_A) (c := v_25_c) 1 Kb.cells tr v_23 tr_mv et (rtn [(0, 0, 2)] (⟨p_0.ID, v_24_A, v_25_c, v_23⟩ : Ka) rfl ⟨(((gd' (RowC v_24_A v_25_c Kb.cells tr v_23) 1)).m fun _ _ h => ⟨h⟩), trivial⟩)
def Gac (F : Nat) (p_0 : Int) : Option (Bool) :=
  Option.bind (Gg F p_0 (⟨1, 1, 0, (⟨0, 0⟩ : KSig)⟩ : Kc)) (un2 fun v_1 v_2 =>
  Option.bind (ifB ((p_0 == 0))
      (some false)
      (some (!(v_2 == 0))) : Option (Bool)) (fun (v_5 : Bool) => 
    some v_5))
theorem zak (F : Nat) (p_0 : Int) (r : Bool) (hG : Gac F p_0 = some r) :
  Cf Tryz.prog 129 [I p_0] [] (B r) := by
 unfold Gac at hG; refine fi Tryz.func129 rfl rfl m0 fun S0 w0 hT => sq (rg (ra [] f0 [] (tN (sq ?_))))
 obtain ⟨v_1, v_2, hy_1, hG⟩ := b2 hG; refine rg (rn 2 [] f0 [(6, I p_0), (7, .agg #[I 1, I 1, U 0, I 0, I 0])] (l1 (cl 8 (zo F p_0 (⟨1, 1, 0, (⟨0, 0⟩ : KSig)⟩ : Kc) _ hy_1) hT trivial (ra [] f0 [(4, I v_2)] (tN ?_))))); obtain ⟨o_4, hG, hG_4⟩ := bs hG; refine jn (fun K E a w => ∃ v_5 : Bool, Js S0 w0 17 ([(2, B v_5)] ++ K) (se E []) (v_5 = o_4) a w) ?_ ?_
 ·rcases ic hG with ⟨h_3, hG⟩ | ⟨h_3, hG⟩
  ·exact rg (rn 3 [] f0 [(13, B (!(p_0 == 0)))] (sb 13 (nt h_3) (ra [] f0 [(2, B false)] (tN (fun _ _ S k e => ⟨false, S, k.wk, e.sel [], oi hG⟩)))))
  ·exact rg (rn 3 [] f0 [(13, B (!(p_0 == 0)))] (sb 13 (nf h_3) (ra [] f0 [(2, B (!(v_2 == 0)))] (tN (fun _ _ S k e => ⟨!(v_2 == 0), S, k.wk, e.sel [], oi hG⟩)))))
 ·rintro a w ⟨v_5, hJ⟩; refine hJ.go ?_; clear hJ; rintro rfl; replace hG := hG_4; refine kR ?_; obtain rfl := oi hG; exact rt []
def Gs (F : Nat) (p_0 : List Int) (p_1 : Kc) : Option (Bool) :=
  Option.bind (ifB (decide (p_1.Office < 1))
      (some true)
      (ifB (decide (p_1.Office > (p_0.length : Int)))
        (some true)
        (Option.bind (ixI p_0 (IntKind.i64.wrap (p_1.Office - 1))) (fun v_4 =>
        some (v_4 == 0)))) : Option (Bool)) (fun (v_8 : Bool) => 
    ifB (v_8)
      (some false)
      (Option.bind (ixI p_0 (IntKind.i64.wrap (p_1.Office - 1))) (fun v_10 =>
      Option.bind (Gg F v_10 p_1) (un2 fun v_13 v_14 =>
      some v_13))))
theorem zm (F : Nat) (p_0_A : Option Addr) (p_0_c : Nat) (p_0 : List Int) (p_1 : Kc) (r : Bool) (hG : Gs F p_0 p_1 = some r) :
  Cf Tryz.prog 83 [.slice p_0_A p_0.length p_0_c, .agg #[I p_1.Office, I p_1.Size, U p_1.Root, I p_1.Sig.C, I p_1.Sig.S]] [RowC p_0_A p_0_c c_i64 tr p_0] (B r) := by
 unfold Gs at hG
 try simp only [lm_, Kd.n_Hops] at hG
 refine fi Tryz.func83 rfl rfl (mr tr_mv m0) fun S0 w0 hT => sq (rg (l1 (nw 3 vp [I p_1.Office, I p_1.Size, U p_1.Root, I p_1.Sig.C, I p_1.Sig.S] 27 fun g_1 => ra [] f0 [] (tN (sq ?_)))))
 obtain ⟨o_7, hG, hG_7⟩ := bs hG; refine jn (fun K E a w => ∃ v_8 : Bool, Js S0 w0 38 ([(25, B v_8)] ++ K) (se E [0, 1]) (v_8 = o_7) a w) ?_ ?_
 ·rcases ic hG with ⟨h_2, hG⟩ | ⟨h_2, hG⟩
  ·exact rg (rn 4 [(1, 1, 0, 0)] f0 [(10, B (decide (p_1.Office < 1)))] (sb 10 (bt h_2) (ra [] f0 [(25, B true)] (tN (fun _ _ S k e => ⟨true, S, k.wk, e.sel [0, 1], oi hG⟩)))))
  ·rcases ic hG with ⟨h_3, hG⟩ | ⟨h_3, hG⟩
   ·refine rg (rn 4 [(1, 1, 0, 0)] f0 [(10, B (decide (p_1.Office < 1)))] (sb 10 (bf h_2) (rn 7 [(1, 1, 0, 0)] f0 [(17, B (decide (p_1.Office > (p_0.length : Int))))] ?_)))
    try simp only [lm_, Kd.n_Hops] at h_3
    exact sb 17 (bt h_3) (ra [] f0 [(25, B true)] (tN (fun _ _ S k e => ⟨true, S, k.wk, e.sel [0, 1], oi hG⟩)))
   ·obtain ⟨v_4, hy_4, hG⟩ := bs hG; refine rg (rn 4 [(1, 1, 0, 0)] f0 [(10, B (decide (p_1.Office < 1)))] (sb 10 (bf h_2) (rn 7 [(1, 1, 0, 0)] f0 [(17, B (decide (p_1.Office > (p_0.length : Int))))] ?_)))
    try simp only [lm_, Kd.n_Hops] at h_3
    exact sb 17 (bf h_3) (fx inf139 (gd' (RowC p_0_A p_0_c c_i64 tr p_0) 1) hy_4 fun b_5 o_6 hi_4 => ra [(2, 1, 1, 0), (1, 0, 0, 0), (0, 1, 0, 0)] (fc (hi_4 .i64) f0) [(25, B (v_4 == 0))] (tN (fun _ _ S k e => ⟨(v_4 == 0), S, k.wk, e.sel [1, 2], oi hG⟩)))
 ·rintro a w ⟨v_8, hJ⟩; refine hJ.go ?_; clear hJ; rintro rfl; replace hG := hG_7; rcases ic hG with ⟨h_9, hG⟩ | ⟨h_9, hG⟩
  ·refine sb 25 (bt h_9) (ct (sq (rg (ra [] f0 [(4, B false)] (tN (kR (tR ?_))))))); obtain rfl := oi hG; exact rt []
  ·refine sb 25 (bf h_9) (cf (kS (tN (sq ?_)))); obtain ⟨v_10, hy_10, hG⟩ := bs hG; obtain ⟨v_13, v_14, hy_13, hG⟩ := b2 hG; refine qb (fx inf139 (gd' (RowC p_0_A p_0_c c_i64 tr p_0) 1) hy_10 fun b_11 o_12 hi_10 => qn 7 [(2, 1, 1, 0), (1, 0, 0, 0), (0, 1, 0, 0), (0, 5, 1, 0)] (fc (hi_10 .i64) f0) [(32, I v_10), (33, .agg #[I p_1.Office, I p_1.Size, U p_1.Root, I p_1.Sig.C, I p_1.Sig.S])] (qc 34 (zo F v_10 p_1 _ hy_13) hT trivial (qa [] f0 [(5, B v_13)] (tN (sq (rg (ra [] f0 [(4, B v_13)] (tN (kR ?_))))))))); obtain rfl := oi hG; exact rt []
def Gi (F : Nat) (p_0 : Kc) : Option (Bool) :=
 Option.bind (Gg F 4 p_0) (un2 fun v_2 v_3 =>
 some (v_3 == 0))
theorem ze (F : Nat) (p_0 : Kc) (r : Bool) (hG : Gi F p_0 = some r) :
  Cf Tryz.prog 80 [.agg #[I p_0.Office, I p_0.Size, U p_0.Root, I p_0.Sig.C, I p_0.Sig.S]] [] (B r) := by
 unfold Gi at hG; refine fi Tryz.func80 rfl rfl m0 fun S0 w0 hT => sq (rg (l1 (nw 1 vp [I p_0.Office, I p_0.Size, U p_0.Root, I p_0.Sig.C, I p_0.Sig.S] 27 fun g_1 => ra [] f0 [] (tN (sq ?_)))))
 obtain ⟨v_2, v_3, hy_2, hG⟩ := b2 hG; refine rg (rn 1 [(0, 5, 0, 0)] f0 [(6, .agg #[I p_0.Office, I p_0.Size, U p_0.Root, I p_0.Sig.C, I p_0.Sig.S])] (l1 (cl 7 (zo F 4 p_0 _ hy_2) hT trivial (ra [] f0 [(4, I v_3)] (tN (sq (rg (ra [] f0 [(2, B (v_3 == 0))] (tN (kR ?_)))))))))); obtain rfl := oi hG; exact rt []
def Gj (F : Nat) (p_0 : Int) (p_1 : Km) : Option (Bool × Int) :=
  Option.bind (Option.bind (G2 F p_0) (fun v_2 =>
    ifB (v_2)
      (Option.bind (Gt F p_1.Head) (fun v_4 =>
      ifB (v_4)
        (Option.bind (Gu F (⟨p_1.Entry⟩ : Kr)) (fun v_6 =>
        ifB (v_6)
          (Option.bind (Gb F p_1.Index 0 (IntKind.i64.wrap (p_1.Head.Size - 1))) (fun v_8 =>
          ifB (v_8)
            (some (decide ((p_1.Path.length : Int) > 20)))
            (some true)))
          (some true)))
        (some true)))
      (some true)) : Option (Bool)) (fun (v_11 : Bool) => 
    ifB (v_11)
      (some (false, 1))
      (Option.bind (Gg F p_0 p_1.Head) (un2 fun v_13 v_14 =>
      Option.bind (ifB (v_13)
          (Option.bind (Gk F p_1.Entry) (fun v_16 =>
          Option.bind (Ga0 F p_1.Head.Root v_16 p_1.Index p_1.Head.Size p_1.Path) (fun v_17 =>
          some v_17)))
          (some false) : Option (Bool)) (fun (v_19 : Bool) => 
        some (v_19, v_14)))))
theorem zy (F : Nat) (p_0 : Int) (p_1 : Kk) (r : Bool × Int) (hG : Gj F p_0 p_1.p = some r) :
  Cf Tryz.prog 76 [I p_0, .agg #[I p_1.Head.Office, I p_1.Head.Size, U p_1.Head.Root, I p_1.Head.Sig.C, I p_1.Head.Sig.S, I p_1.Index, U p_1.Entry.Doc, I p_1.Entry.Stamp.Lo, I p_1.Entry.Stamp.Hi, .slice p_1.Path_A p_1.Path.length p_1.Path_c]] [Kk.ok p_1] (.tuple #[B r.1, I r.2]) := by
 unfold Gj at hG
 try simp only [lm_, Kd.n_Hops] at hG
 refine fi Tryz.func76 rfl rfl (mc Kk.mv m0) fun S0 w0 hT => sq (rg (l1 (nw 3 vp [I p_1.Head.Office, I p_1.Head.Size, U p_1.Head.Root, I p_1.Head.Sig.C, I p_1.Head.Sig.S, I p_1.Index, U p_1.Entry.Doc, I p_1.Entry.Stamp.Lo, I p_1.Entry.Stamp.Hi, .slice p_1.Path_A p_1.Path.length p_1.Path_c] 34 fun g_1 => ra [] f0 [] (tN (sq ?_)))))
 obtain ⟨o_10, hG, hG_10⟩ := bs hG; refine jn (fun K E a w => ∃ v_11 : Bool, Js S0 w0 65 ([(39, B v_11)] ++ K) ([.dat (RowC p_1.Path_A p_1.Path_c c_u64 tr p_1.Path)] ++ se E [0]) (v_11 = o_10) a w) ?_ ?_
 ·obtain ⟨v_2, hy_2, hG⟩ := bs hG; rcases ic hG with ⟨h_3, hG⟩ | ⟨h_3, hG⟩
  ·obtain ⟨v_4, hy_4, hG⟩ := bs hG; rcases ic hG with ⟨h_5, hG⟩ | ⟨h_5, hG⟩
   ·obtain ⟨v_6, hy_6, hG⟩ := bs hG; rcases ic hG with ⟨h_7, hG⟩ | ⟨h_7, hG⟩
    ·obtain ⟨v_8, hy_8, hG⟩ := bs hG; rcases ic hG with ⟨h_9, hG⟩ | ⟨h_9, hG⟩
     ·exact rg (rn 1 [] f0 [(8, I p_0)] (l1 (cl 9 (zj F p_0 _ hy_2) hT trivial (rn 2 [] f0 [(11, B (!v_2))] (sb 11 (nt h_3) (rn 2 [(1, 5, 0, 0)] f0 [(13, .agg #[I p_1.Head.Office, I p_1.Head.Size, U p_1.Head.Root, I p_1.Head.Sig.C, I p_1.Head.Sig.S])] (l1 (cl 14 (zh F p_1.Head _ hy_4) hT trivial (rn 3 [] f0 [(17, B (!v_4))] (sb 17 (nt h_5) (rn 3 [(1, 3, 0, 6)] f0 [(20, .agg #[U p_1.Entry.Doc, I p_1.Entry.Stamp.Lo, I p_1.Entry.Stamp.Hi])] (l1 (cl 21 (zk F (⟨p_1.Entry⟩ : Kr) _ hy_6) hT trivial (rn 3 [] f0 [(24, B (!v_6))] (sb 24 (nt h_7) (rn 6 [(1, 1, 0, 5), (2, 1, 0, 1)] f0 [(26, I p_1.Index), (30, I (IntKind.i64.wrap (p_1.Head.Size - 1)))] (l1 (cl 31 (zf F p_1.Index 0 (IntKind.i64.wrap (p_1.Head.Size - 1)) _ hy_8) hT trivial (rn 3 [] f0 [(34, B (!v_8))] (sb 34 (nt h_9) (ra [(1, 1, 0, 9)] f0 [(39, B (decide ((p_1.Path.length : Int) > 20)))] (tN (fg (Kk.ok p_1) 1 (fun _ _ h => h.f_Path) (fun _ _ S k e => ⟨decide ((p_1.Path.length : Int) > 20), S, k.wk, e.sel [0, 1], oi hG⟩))))))))))))))))))))))))
     ·exact rg (rn 1 [] f0 [(8, I p_0)] (l1 (cl 9 (zj F p_0 _ hy_2) hT trivial (rn 2 [] f0 [(11, B (!v_2))] (sb 11 (nt h_3) (rn 2 [(1, 5, 0, 0)] f0 [(13, .agg #[I p_1.Head.Office, I p_1.Head.Size, U p_1.Head.Root, I p_1.Head.Sig.C, I p_1.Head.Sig.S])] (l1 (cl 14 (zh F p_1.Head _ hy_4) hT trivial (rn 3 [] f0 [(17, B (!v_4))] (sb 17 (nt h_5) (rn 3 [(1, 3, 0, 6)] f0 [(20, .agg #[U p_1.Entry.Doc, I p_1.Entry.Stamp.Lo, I p_1.Entry.Stamp.Hi])] (l1 (cl 21 (zk F (⟨p_1.Entry⟩ : Kr) _ hy_6) hT trivial (rn 3 [] f0 [(24, B (!v_6))] (sb 24 (nt h_7) (rn 6 [(1, 1, 0, 5), (2, 1, 0, 1)] f0 [(26, I p_1.Index), (30, I (IntKind.i64.wrap (p_1.Head.Size - 1)))] (l1 (cl 31 (zf F p_1.Index 0 (IntKind.i64.wrap (p_1.Head.Size - 1)) _ hy_8) hT trivial (rn 3 [] f0 [(34, B (!v_8))] (sb 34 (nf h_9) (ra [] f0 [(39, B true)] (tN (fg (Kk.ok p_1) 1 (fun _ _ h => h.f_Path) (fun _ _ S k e => ⟨true, S, k.wk, e.sel [0, 1], oi hG⟩))))))))))))))))))))))))
    ·exact rg (rn 1 [] f0 [(8, I p_0)] (l1 (cl 9 (zj F p_0 _ hy_2) hT trivial (rn 2 [] f0 [(11, B (!v_2))] (sb 11 (nt h_3) (rn 2 [(1, 5, 0, 0)] f0 [(13, .agg #[I p_1.Head.Office, I p_1.Head.Size, U p_1.Head.Root, I p_1.Head.Sig.C, I p_1.Head.Sig.S])] (l1 (cl 14 (zh F p_1.Head _ hy_4) hT trivial (rn 3 [] f0 [(17, B (!v_4))] (sb 17 (nt h_5) (rn 3 [(1, 3, 0, 6)] f0 [(20, .agg #[U p_1.Entry.Doc, I p_1.Entry.Stamp.Lo, I p_1.Entry.Stamp.Hi])] (l1 (cl 21 (zk F (⟨p_1.Entry⟩ : Kr) _ hy_6) hT trivial (rn 3 [] f0 [(24, B (!v_6))] (sb 24 (nf h_7) (ra [] f0 [(39, B true)] (tN (fg (Kk.ok p_1) 1 (fun _ _ h => h.f_Path) (fun _ _ S k e => ⟨true, S, k.wk, e.sel [0, 1], oi hG⟩)))))))))))))))))))
   ·exact rg (rn 1 [] f0 [(8, I p_0)] (l1 (cl 9 (zj F p_0 _ hy_2) hT trivial (rn 2 [] f0 [(11, B (!v_2))] (sb 11 (nt h_3) (rn 2 [(1, 5, 0, 0)] f0 [(13, .agg #[I p_1.Head.Office, I p_1.Head.Size, U p_1.Head.Root, I p_1.Head.Sig.C, I p_1.Head.Sig.S])] (l1 (cl 14 (zh F p_1.Head _ hy_4) hT trivial (rn 3 [] f0 [(17, B (!v_4))] (sb 17 (nf h_5) (ra [] f0 [(39, B true)] (tN (fg (Kk.ok p_1) 1 (fun _ _ h => h.f_Path) (fun _ _ S k e => ⟨true, S, k.wk, e.sel [0, 1], oi hG⟩))))))))))))))
  ·exact rg (rn 1 [] f0 [(8, I p_0)] (l1 (cl 9 (zj F p_0 _ hy_2) hT trivial (rn 2 [] f0 [(11, B (!v_2))] (sb 11 (nf h_3) (ra [] f0 [(39, B true)] (tN (fg (Kk.ok p_1) 1 (fun _ _ h => h.f_Path) (fun _ _ S k e => ⟨true, S, k.wk, e.sel [0, 1], oi hG⟩)))))))))
 ·rintro a w ⟨v_11, hJ⟩; refine hJ.go ?_; clear hJ; rintro rfl; replace hG := hG_10; rcases ic hG with ⟨h_12, hG⟩ | ⟨h_12, hG⟩
  ·refine sb 39 (bt h_12) (ct (sq (rg (ra [] f0 [(4, B false), (5, I 1)] (tN (kR (tR ?_))))))); obtain rfl := oi hG; exact rt []
  ·refine sb 39 (bf h_12) (cf (kS (tN (sq ?_)))); obtain ⟨v_13, v_14, hy_13, hG⟩ := b2 hG; refine rg (rn 3 [(2, 5, 1, 0)] f0 [(41, I p_0), (43, .agg #[I p_1.Head.Office, I p_1.Head.Size, U p_1.Head.Root, I p_1.Head.Sig.C, I p_1.Head.Sig.S])] (l1 (cl 44 (zo F p_0 p_1.Head _ hy_13) hT trivial (ra [] f0 [(6, B v_13), (7, I v_14)] (tN ?_))))); obtain ⟨o_18, hG, hG_18⟩ := bs hG; refine jn (fun K E a w => ∃ v_19 : Bool, Js S0 w0 65 ([(4, B v_19), (5, I v_14)] ++ K) (se E []) (v_19 = o_18) a w) ?_ ?_
   ·rcases ic hG with ⟨h_15, hG⟩ | ⟨h_15, hG⟩
    ·obtain ⟨v_16, hy_16, hG⟩ := bs hG; obtain ⟨v_17, hy_17, hG⟩ := bs hG; exact qb (qn 2 [] f0 [(48, B v_13)] (sb 48 (bt h_15) (qn 5 [(2, 1, 1, 2), (1, 3, 1, 6)] f0 [(51, U p_1.Head.Root), (53, .agg #[U p_1.Entry.Doc, I p_1.Entry.Stamp.Lo, I p_1.Entry.Stamp.Hi])] (qc 54 (zv F p_1.Entry _ hy_16) hT trivial (qn 7 [(1, 1, 1, 5), (2, 1, 1, 1), (1, 1, 1, 9)] f0 [(56, I p_1.Index), (59, I p_1.Head.Size), (61, .slice p_1.Path_A p_1.Path.length p_1.Path_c)] (qc 62 (za6 F p_1.Head.Root v_16 p_1.Index p_1.Head.Size p_1.Path_A p_1.Path_c p_1.Path _ hy_17) hT ⟨ga 0, trivial⟩ (qa [] f0 [(4, B v_17), (5, I v_14)] (tN (fun _ _ S k e => ⟨v_17, S, k.wk, e.sel [], oi hG⟩)))))))))
    ·exact qb (qn 2 [] f0 [(48, B v_13)] (sb 48 (bf h_15) (qa [] f0 [(4, B false), (5, I v_14)] (tN (fun _ _ S k e => ⟨false, S, k.wk, e.sel [], oi hG⟩)))))
   ·rintro a w ⟨v_19, hJ⟩; refine hJ.go ?_; clear hJ; rintro rfl; replace hG := hG_18; refine kR ?_; obtain rfl := oi hG; exact rt []
def Gan (F : Nat) (p_0 : Int) : Option (Bool) :=
 Option.bind (Gg F p_0 (⟨1, 1, 0, (⟨0, 0⟩ : KSig)⟩ : Kc)) (un2 fun v_1 v_2 =>
 some (v_2 == 0))
theorem zau (F : Nat) (p_0 : Int) (r : Bool) (hG : Gan F p_0 = some r) :
  Cf Tryz.prog 35 [I p_0] [] (B r) := by
 unfold Gan at hG; refine fi Tryz.func35 rfl rfl m0 fun S0 w0 hT => sq (rg (ra [] f0 [] (tN (sq ?_))))
 obtain ⟨v_1, v_2, hy_1, hG⟩ := b2 hG; refine rg (rn 2 [] f0 [(6, I p_0), (7, .agg #[I 1, I 1, U 0, I 0, I 0])] (l1 (cl 8 (zo F p_0 (⟨1, 1, 0, (⟨0, 0⟩ : KSig)⟩ : Kc) _ hy_1) hT trivial (ra [] f0 [(4, I v_2)] (tN (sq (rg (ra [] f0 [(2, B (v_2 == 0))] (tN (kR ?_)))))))))); obtain rfl := oi hG; exact rt []
def Gam (F : Nat) (p_0 : Ks) : Option (Bool) :=
  Option.bind (Option.bind (Option.bind (Option.bind (iter (σ := Int) (ρ := Unit ⊕ Int) (fun (v_45 : Int) => 
            (ifB (decide (v_45 < (p_0.heads.length : Int)))
              (Option.bind (ixI p_0.heads v_45) (fun v_48 =>
              Option.bind (Option.bind (Option.bind (some (mpG p_0.offices v_48.Office Kf.z)) (fun v_52 =>
                  Option.bind (Gl F v_52 v_48 0) (un2 fun v_53 v_54 =>
                  some v_54)) : Option (Int)) (fun (v_57 : Int) => 
                  some (!(v_57 == 0))) : Option (Bool)) (fun (v_58 : Bool) => 
                ifB (v_58)
                  (some (.inr (.inr v_45)))
                  (some (.inl (IntKind.i64.wrap (v_45 + 1)))))))
              (some (.inr (.inl ()))) : Option (Int ⊕ (Unit ⊕ Int)))) F 0) (Sum.elim (fun (_ : Unit) => 
          some (.inl ())) (fun (v_68 : Int) => 
          some (.inr v_68))) : Option (Unit ⊕ Int)) (Sum.elim (fun (_ : Unit) => 
        some (-1)) (fun (v_70 : Int) => 
        some v_70)) : Option (Int)) (fun (v_71 : Int) => 
      some (decide (v_71 ≥ 0))) : Option (Bool)) (fun (v_142 : Bool) => 
    some (!v_142))
theorem zat (F : Nat) (p_0_A : Nat) (p_0 : Kl) (r : Bool) (hG : Gam F p_0.p = some r) :
  Cf Tryz.prog 45 [Pt p_0_A 0] [fun S W => RecS S W p_0_A 0 p_0.cells, Kl.ok p_0] (B r) := by
 unfold Gam at hG
 try simp only [lm_, Kd.n_Hops] at hG
 refine fi Tryz.func45 rfl rfl (mrec (mc Kl.mv m0)) fun S0 w0 hT => rp p_0_A p_0.cells (gd' (fun S W => RecS S W p_0_A 0 p_0.cells) 0) (sq (rg (l1 (nw 1 vp [Pt p_0_A 0] 91 fun g_1 => ra [] f0 [] (tN (sq ?_))))))
 obtain ⟨v_142o, hy_143, hG⟩ := bs hG; refine rg (rn 5 [(0, 1, 0, 0), (2, 1, 1, 1)] f0 [(6, .slice p_0.heads_A p_0.heads.length p_0.heads_c), (7, .func (.func 101) #[] #[Pt g_1 0])] (l1 (ci 8 (args := [.slice p_0.heads_A p_0.heads.length p_0.heads_c, .func (.func 101) #[] #[Pt g_1 0]]) (fun E e w => ∃ v_142 : Bool, Rs S0 w0 (B v_142) (se E [0, 1, 3]) (v_142 = v_142o) e w) Tryz.func100 rfl rfl ?_ ?_)))
 ·replace hG := hy_143
  try simp only [lm_, Kd.n_Hops] at hG
  refine sq (rg (ra [] f0 [] (tN (sq ?_)))); replace hG := bs hG; obtain ⟨v_213o, hy_214, hG⟩ := hG; refine rg (rn 2 [] f0 [(5, .slice p_0.heads_A p_0.heads.length p_0.heads_c), (6, .func (.func 101) #[] #[Pt g_1 0])] (l1 (ci 7 (args := [.slice p_0.heads_A p_0.heads.length p_0.heads_c, .func (.func 101) #[] #[Pt g_1 0]]) (fun E e w => ∃ v_213 : Int, Rs S0 w0 (I v_213) (se E [0, 1, 3]) (v_213 = v_213o) e w) Tryz.func141 rfl rfl ?_ ?_)))
  ·replace hG := hy_214
   try simp only [lm_, Kd.n_Hops] at hG
   refine sq (rg (ra [] f0 [] (tN ?_))); replace hG := bs hG; obtain ⟨o_282, hG, hG_282⟩ := hG; refine jn (fun K E a w => Js S0 w0 19 (K) (se E [0, 1, 3]) (.inl () = o_282) a w) ?_ ?_
   ·refine sq (rg (ra [] f0 [(7, I (p_0.heads.length : Int)), (8, I 0)] (tN (bk ?_)))); obtain ⟨e_259, hL, hG_259⟩ := bs hG; clear hG; obtain ⟨stp_259, hs_259, hL⟩ := iter_gen hL; refine lp (fun K E n_ a w => ∃ v_258 : Int, Js S0 w0 19 ([(8, I v_258)] ++ K) (se E [0, 1, 3]) (iter stp_259 n_ v_258 = some e_259) a w) F ?_ ?_
    ·exact fun _ _ S k e => ⟨0, S, k.wk, e.sel [0, 1, 3], hL⟩
    ·clear hL; rintro n_259 a w ⟨v_258, hJ⟩; refine hJ.go fun hL => ?_
     clear hJ; obtain ⟨m_259, o_259, rfl, hG, hO1_259, hO2_259⟩ := iter_step hL; clear hL; rw [hs_259] at hG; refine sq (rg (ra [] f0 [(9, B (decide (v_258 < (p_0.heads.length : Int))))] (tN (sq ?_)))); replace hG := ic hG; rcases hG with ⟨h_260, hG⟩ | ⟨h_260, hG⟩
     ·try simp only [lm_, Kd.n_Hops] at h_260
      refine sb 9 (bt h_260) (ct (kS (tN (sq (bk (sq (rg (ra [] f0 [(5, I v_258)] (tN (sq ?_)))))))))); replace hG := bs hG; obtain ⟨v_261, hy_261, hG⟩ := hG; replace hG := bs hG; obtain ⟨v_271o, hy_272, hG⟩ := hG; refine rg (fx inf39 (gm (Kl.ok p_0) 2 fun _ _ h => h.f_heads) hy_261 fun b_262 o_263 hi_261 => rn 5 [(3, 0, 0, 0), (0, 5, 0, 0)] (fc (hi_261 .i64) f0) [(11, .func (.func 101) #[] #[Pt g_1 0]), (15, .agg #[I v_261.Office, I v_261.Size, U v_261.Root, I v_261.Sig.C, I v_261.Sig.S])] (l1 (ci 16 (args := [.agg #[I v_261.Office, I v_261.Size, U v_261.Root, I v_261.Sig.C, I v_261.Sig.S], Pt g_1 0]) (fun E e w => ∃ v_271 : Bool, Rs S0 w0 (B v_271) (se E [0, 1, 2, 3]) (v_271 = v_271o) e w) Tryz.func101 rfl rfl ?_ ?_)))
      ·replace hG := hy_272
       try simp only [lm_, Kd.n_Hops] at hG
       refine sq (rg (l1 (nw 2 vp [I v_261.Office, I v_261.Size, U v_261.Root, I v_261.Sig.C, I v_261.Sig.S] 27 fun g_273 => ra [] f0 [] (tN ?_)))); replace hG := bs hG; obtain ⟨o_278, hG, hG_278⟩ := hG; refine jn (fun K E a w => ∃ v_279 : Int, Js S0 w0 20 ([(5, I v_279)] ++ K) (se E [1, 2, 3, 4]) (v_279 = o_278) a w) ?_ ?_
       ·replace hG := bs hG; obtain ⟨v_274o, hy_274, hG⟩ := hG; replace hG := b2 hG; obtain ⟨v_275o, v_276, hy_275, hG⟩ := hG; refine hb [0, 1, 2, 3, 4] (ht [0, 1, 2, 3, 4] [0, 1, 2, 3, 4, 5, 7] [(0, 1, 2, 0), (2, 1, 3, 0), (1, 1, 0, 0), (0, 5, 0, 0)] f0 [(10, .map (some p_0.offices_b)), (12, I v_261.Office), (14, .agg #[I v_261.Office, I v_261.Size, U v_261.Root, I v_261.Sig.C, I v_261.Sig.S])] (ho [6, 12] ⟨?_, ?_, trivial⟩))
        ·refine h1 (ml 13 p_0.offices_b p_0.offices v_261.Office Ka.z Ka.p _ hy_274 (gm (Kl.ok p_0) 4 fun _ _ h => h.f_offices) Ka.z_ok Tryz.underlying99 Tryz.underlying3 (fun w => by kernel_rfl) fun v_274 he_274 => ?_); subst he_274
         try simp only [lm_, Kd.n_Hops] at hG
         refine hk [1, 2, 3, 4, 5] (ho [8, 12] ⟨?_, ?_, trivial⟩)
         ·refine h1 (cn 15 (zi F v_274 v_261 0 _ hy_275) hT (fun _ => (mc Kk.mv m0)) ⟨(gi 0), trivial⟩ ?_); rintro v_275 hq_275; obtain rfl : v_275.p = v_275o := hq_275.symm
          try simp only [lm_, Kd.n_Hops] at hG
          exact hk [2, 3, 4, 5, 6] (ht [2, 3, 4, 5, 6] [9, 10, 11] [] f0 [(16, .agg #[I v_275.Head.Office, I v_275.Head.Size, U v_275.Head.Root, I v_275.Head.Sig.C, I v_275.Head.Sig.S, I v_275.Index, U v_275.Entry.Doc, I v_275.Entry.Stamp.Lo, I v_275.Entry.Stamp.Hi, .slice v_275.Path_A v_275.Path.length v_275.Path_c]), (17, I v_276)] (ho [12] ⟨h1 (nw 4 vp (Kk.cells Kk.z) 34 fun g_277 => hk [3, 4, 5, 6, 7] (ho [13] ⟨h1 (sr 0 g_277 (ns 0 [I v_275.Head.Office, I v_275.Head.Size, U v_275.Head.Root, I v_275.Head.Sig.C, I v_275.Head.Sig.S, I v_275.Index, U v_275.Entry.Doc, I v_275.Entry.Stamp.Lo, I v_275.Entry.Stamp.Hi, .slice v_275.Path_A v_275.Path.length v_275.Path_c]) (hk [3, 4, 5, 6, 7] (ht [3, 4, 5, 6, 7] [14] [] f0 [(5, I v_276)] (he (tN (fun _ _ S k e => ⟨v_276, S, k.wk, e.sel [4, 5, 6, 7], oi hG⟩)))))), trivial⟩)), trivial⟩))
         ·refine h1 (nw 4 vp (Kk.cells Kk.z) 34 fun g_277 => hk [2, 3, 4, 5, 6] (ho [8] ⟨h1 (cn 15 (zi F v_274 v_261 0 _ hy_275) hT (fun _ => (mc Kk.mv m0)) ⟨(gi 1), trivial⟩ ?_), trivial⟩)); rintro v_275 hq_275; obtain rfl : v_275.p = v_275o := hq_275.symm
          try simp only [lm_, Kd.n_Hops] at hG
          exact hk [3, 4, 5, 6, 7] (ht [3, 4, 5, 6, 7] [9, 10, 11] [] f0 [(16, .agg #[I v_275.Head.Office, I v_275.Head.Size, U v_275.Head.Root, I v_275.Head.Sig.C, I v_275.Head.Sig.S, I v_275.Index, U v_275.Entry.Doc, I v_275.Entry.Stamp.Lo, I v_275.Entry.Stamp.Hi, .slice v_275.Path_A v_275.Path.length v_275.Path_c]), (17, I v_276)] (ho [13] ⟨h1 (sr 1 g_277 (ns 0 [I v_275.Head.Office, I v_275.Head.Size, U v_275.Head.Root, I v_275.Head.Sig.C, I v_275.Head.Sig.S, I v_275.Index, U v_275.Entry.Doc, I v_275.Entry.Stamp.Lo, I v_275.Entry.Stamp.Hi, .slice v_275.Path_A v_275.Path.length v_275.Path_c]) (hk [3, 4, 5, 6, 7] (ht [3, 4, 5, 6, 7] [14] [] f0 [(5, I v_276)] (he (tN (fun _ _ S k e => ⟨v_276, S, k.wk, e.sel [4, 5, 6, 7], oi hG⟩)))))), trivial⟩))
        ·refine h1 (nw 4 vp (Kk.cells Kk.z) 34 fun g_277 => hk [1, 2, 3, 4, 5] (ho [6] ⟨h1 (ml 13 p_0.offices_b p_0.offices v_261.Office Ka.z Ka.p _ hy_274 (gm (Kl.ok p_0) 5 fun _ _ h => h.f_offices) Ka.z_ok Tryz.underlying99 Tryz.underlying3 (fun w => by kernel_rfl) fun v_274 he_274 => ?_), trivial⟩)); subst he_274
         try simp only [lm_, Kd.n_Hops] at hG
         refine hk [2, 3, 4, 5, 6] (ho [8] ⟨h1 (cn 15 (zi F v_274 v_261 0 _ hy_275) hT (fun _ => (mc Kk.mv m0)) ⟨(gi 0), trivial⟩ ?_), trivial⟩); rintro v_275 hq_275; obtain rfl : v_275.p = v_275o := hq_275.symm
         try simp only [lm_, Kd.n_Hops] at hG
         exact hk [3, 4, 5, 6, 7] (ht [3, 4, 5, 6, 7] [9, 10, 11] [] f0 [(16, .agg #[I v_275.Head.Office, I v_275.Head.Size, U v_275.Head.Root, I v_275.Head.Sig.C, I v_275.Head.Sig.S, I v_275.Index, U v_275.Entry.Doc, I v_275.Entry.Stamp.Lo, I v_275.Entry.Stamp.Hi, .slice v_275.Path_A v_275.Path.length v_275.Path_c]), (17, I v_276)] (ho [13] ⟨h1 (sr 2 g_277 (ns 0 [I v_275.Head.Office, I v_275.Head.Size, U v_275.Head.Root, I v_275.Head.Sig.C, I v_275.Head.Sig.S, I v_275.Index, U v_275.Entry.Doc, I v_275.Entry.Stamp.Lo, I v_275.Entry.Stamp.Hi, .slice v_275.Path_A v_275.Path.length v_275.Path_c]) (hk [3, 4, 5, 6, 7] (ht [3, 4, 5, 6, 7] [14] [] f0 [(5, I v_276)] (he (tN (fun _ _ S k e => ⟨v_276, S, k.wk, e.sel [4, 5, 6, 7], oi hG⟩)))))), trivial⟩))
       ·rintro a w ⟨v_279, hJ⟩; refine hJ.go ?_; clear hJ; rintro rfl; replace hG := hG_278; exact sq (rg (ra [] f0 [(3, B (!(v_279 == 0)))] (tN (kR (ri [] (B (!(v_279 == 0))) (fun a w S hK hE => ⟨!(v_279 == 0), rfl, ⟨S, hE.sel [0, 1, 2, 3]⟩, oi hG⟩))))))
      ·rintro e w ⟨v_271, hJ⟩; refine hJ.go ?_; clear hJ; rintro rfl; refine nl (tN ?_); replace hG := ic hG; rcases hG with ⟨h_280, hG⟩ | ⟨h_280, hG⟩
       ·refine sb 16 (bt h_280) (ct (sq (rg (ra [] f0 [(4, I v_258)] (tN (kR (hR (tR (tR ?_))))))))); have he_ := hO2_259 _ (oi hG).symm; subst he_; replace hG := hG_259; refine hR (tR ?_); obtain rfl := oi hG; replace hG := hG_282; exact ri [] (I v_258) (fun a w S hK hE => ⟨v_258, rfl, ⟨S, hE.sel [1, 2, 3]⟩, oi hG⟩)
       ·exact sb 16 (bf h_280) (cf (kS (hN (tN (rg (ra [] f0 [(8, I (IntKind.i64.wrap (v_258 + 1)))] (tN (fun a w S hK hE => ⟨m_259, ⟨IntKind.i64.wrap (v_258 + 1), S, hK.wk, hE.sel [1, 2, 3], hO1_259 _ (oi hG).symm⟩, Nat.lt_succ_self _⟩))))))))
     ·try simp only [lm_, Kd.n_Hops] at h_260
      refine sb 9 (bf h_260) (cf (kX (tX (tX ?_)))); have he_ := hO2_259 _ (oi hG).symm; subst he_; replace hG := hG_259; exact hH (tN (fun _ _ S k e => ⟨S, k.wk, e.sel [0, 1, 2], oi hG⟩))
   ·rintro a w hJ; refine hJ.go ?_; clear hJ; rintro rfl; replace hG := el hG_282; exact sq (rg (ra [] f0 [(4, I (-1))] (tN (kR (ri [] (I (-1)) (fun a w S hK hE => ⟨(-1), rfl, ⟨S, hE.sel [0, 1, 2]⟩, oi hG⟩))))))
  ·rintro e w ⟨v_213, hJ⟩; refine hJ.go ?_; clear hJ; rintro rfl; exact ra [] f0 [(4, B (decide (v_213 ≥ 0)))] (tN (kR (ri [] (B (decide (v_213 ≥ 0))) (fun a w S hK hE => ⟨decide (v_213 ≥ 0), rfl, ⟨S, hE.sel [0, 1, 2]⟩, oi hG⟩))))
 ·rintro e w ⟨v_142, hJ⟩; refine hJ.go ?_; clear hJ; rintro rfl; refine ra [] f0 [(2, B (!v_142))] (tN (kR ?_)); obtain rfl := oi hG; exact rt []
def Gao (F : Nat) (p_0 : List Kf) (p_1 : List Kc) : Option ((Option Ks) × Int) :=
  Option.bind (ifB (decide ((p_0.length : Int) > 4))
      (some (p_1, true))
      (some (p_1, decide ((p_1.length : Int) > 12))) : Option (((List Kc) × Bool))) (un2 fun (v_3 : (List Kc)) (v_6 : Bool) => 
    ifB (v_6)
      (some (none, 2))
      (Option.bind (Option.bind (iter (σ := Int × (List (Int × Kf)) × Int) (ρ := (List (Int × Kf)) ⊕ Unit) (un3 fun (v_39 : Int) (v_40 : (List (Int × Kf))) (v_41 : Int) => 
            (ifB (decide (v_39 < (p_0.length : Int)))
              (Option.bind (ixI p_0 v_39) (fun v_44 =>
              Option.bind (Option.bind (Gh F v_44) (fun v_48 =>
                ifB (v_48)
                  (some (decide (v_44.ID ≤ v_41)))
                  (some true)) : Option (Bool)) (fun (v_51 : Bool) => 
                ifB (v_51)
                  (some (.inr (.inr ())))
                  (Option.bind (some (mpS v_40 v_44.ID v_44)) (fun v_55 =>
                  some (.inl (IntKind.i64.wrap (v_39 + 1), v_55, v_44.ID)))))))
              (some (.inr (.inl v_40))) : Option ((Int × (List (Int × Kf)) × Int) ⊕ ((List (Int × Kf)) ⊕ Unit)))) F (0, ([] : List (Int × Kf)), 0)) (Sum.elim (fun (v_56 : (List (Int × Kf))) => 
          some (.inl v_56)) (fun (_ : Unit) => 
          some (.inr ()))) : Option ((List (Int × Kf)) ⊕ Unit)) (Sum.elim (fun (v_58 : (List (Int × Kf))) => 
        Option.bind (Option.bind (iter (σ := Int) (ρ := Unit ⊕ Unit) (fun (v_76 : Int) => 
              (ifB (decide (v_76 < (v_3.length : Int)))
                (Option.bind (ixI v_3 v_76) (fun v_79 =>
                Option.bind (Gg F 4 v_79) (un2 fun v_83 v_84 =>
                ifB ((v_84 == 0))
                  (some (.inl (IntKind.i64.wrap (v_76 + 1))))
                  (some (.inr (.inr ()))))))
                (some (.inr (.inl ()))) : Option (Int ⊕ (Unit ⊕ Unit)))) F 0) (Sum.elim (fun (_ : Unit) => 
            some (.inl ())) (fun (_ : Unit) => 
            some (.inr ()))) : Option (Unit ⊕ Unit)) (Sum.elim (fun (_ : Unit) => 
          some ((some (⟨v_58, v_3⟩ : Ks)), 0)) (fun (_ : Unit) => 
          some (none, 1)))) (fun (_ : Unit) => 
        some (none, 1)))))
theorem zav (F : Nat) (p_0_A : Option Addr) (p_0_c : Nat) (p_0 : List Ka) (p_1_A : Option Addr) (p_1_c : Nat) (p_1 : List Kc) (r : (Option Ks) × Int) (hG : Gao F (p_0.map Ka.p) p_1 = some r) :
  Cn Tryz.prog 43 [.slice p_0_A p_0.length p_0_c, .slice p_1_A p_1.length p_1_c] [RowC p_0_A p_0_c Ka.cells Ka.ok p_0, RowC p_1_A p_1_c Kc.cells tr p_1] (fun q : Ko => r.1 = q.p) (fun q => .tuple #[q.val, I r.2]) (fun q => [Ko.ok q]) := by
 unfold Gao at hG
 try simp only [lm_, Kd.n_Hops] at hG
 refine fin Tryz.func43 rfl rfl (mr Ka.mv (mr tr_mv m0)) fun S0 w0 hT => sq (rg (ra [] f0 [] (tN (sq ?_))))
 obtain ⟨o_2, hG, hG_2⟩ := bs hG; refine jn (fun K E a w => ∃ (v_3 : List Kc) (v_4_A : Option Addr) (v_5_c : Nat) (v_6 : Bool), Js S0 w0 68 ([(1, .slice v_4_A v_3.length v_5_c), (21, B v_6)] ++ K) ([.dat (RowC v_4_A v_5_c Kc.cells tr v_3)] ++ se E [0]) ((v_3, v_6) = o_2) a w) ?_ ?_
 ·rcases ic hG with ⟨h_1, hG⟩ | ⟨h_1, hG⟩
  ·refine rg (rn 4 [] f0 [(17, B (decide ((p_0.length : Int) > 4)))] ?_)
   try simp only [lm_, Kd.n_Hops] at h_1
   exact sb 17 (bt h_1) (ra [] f0 [(21, B true)] (tN (fun _ _ S k e => ⟨p_1, p_1_A, p_1_c, true, S, k.wk, e.sel [1, 0], oi hG⟩)))
  ·refine rg (rn 4 [] f0 [(17, B (decide ((p_0.length : Int) > 4)))] ?_)
   try simp only [lm_, Kd.n_Hops] at h_1
   exact sb 17 (bf h_1) (ra [] f0 [(21, B (decide ((p_1.length : Int) > 12)))] (tN (fun _ _ S k e => ⟨p_1, p_1_A, p_1_c, decide ((p_1.length : Int) > 12), S, k.wk, e.sel [1, 0], oi hG⟩)))
 ·rintro a w ⟨v_3, v_4_A, v_5_c, v_6, hJ⟩; refine hJ.go ?_; clear hJ; rintro rfl; replace hG := hG_2; rcases ic hG with ⟨h_7, hG⟩ | ⟨h_7, hG⟩
  ·refine sb 21 (bt h_7) (ct (sq (rg (ra [] f0 [(4, .pointer none), (5, I 2)] (tN (kR (tR ?_))))))); obtain rfl := oi hG; exact rtn [] (⟨false, 0, Kl.z⟩ : Ko) rfl ⟨(Ko.ok0 : Fd _ (Ko.ok ⟨false, 0, Kl.z⟩)), trivial⟩
  ·refine sb 21 (bf h_7) (cf (kS (tN (sq (rg (l1 (mm 22 fun g_8 => fm (EachM Ka.ok ([] : List (Int × Ka))) em0 (rn 2 [] f0 [(24, .agg #[.map (some g_8), .slice v_4_A v_3.length v_5_c])] (l1 (nw 25 vp [.map (some g_8), .slice v_4_A v_3.length v_5_c] 101 fun g_9 => ra [] f0 [(6, Pt g_9 0)] (tN (sq (rg (ra [] f0 [(7, I 0)] (tN ?_))))))))))))))); obtain ⟨o_57, hG, hG_57⟩ := bs hG; refine jn (fun K E a w => ∃ v_58 : List (Int × Ka), Js S0 w0 68 (dk [7] K) ([.mp g_8 (mpM Ka.vl v_58), .dat (EachM Ka.ok v_58)] ++ se E [0, 3]) (.inl (mpM Ka.p v_58) = o_57) a w) ?_ ?_
   ·refine sq (rg (ra [] f0 (ns 26 [.slice p_0_A p_0.length p_0_c, I (p_0.length : Int), I 0]) (tN (bk ?_)))); obtain ⟨e_42, hL, hG_42⟩ := bs hG; clear hG; obtain ⟨stp_42, hs_42, hL⟩ := iter_gen hL; refine lp (fun K E n_ a w => ∃ (v_39 : Int) (v_40 : List (Int × Ka)) (v_41 : Int), Js S0 w0 68 ([(7, I v_41), (28, I v_39)] ++ K) ([.mp g_8 (mpM Ka.vl v_40), .dat (EachM Ka.ok v_40)] ++ se E [0, 3, 4]) (iter stp_42 n_ (v_39, (mpM Ka.p v_40), v_41) = some e_42) a w) F ?_ ?_
    ·exact fun _ _ S k e => ⟨0, ([] : List (Int × Ka)), 0, S, k.wk, e.sel [2, 1, 0, 3, 4], hL⟩
    ·clear hL; rintro n_42 a w ⟨v_39, v_40, v_41, hJ⟩; refine hJ.go fun hL => ?_
     clear hJ; obtain ⟨m_42, o_42, rfl, hG, hO1_42, hO2_42⟩ := iter_step hL; clear hL; rw [hs_42] at hG
     try simp only [lm_, Kd.n_Hops] at hG
     refine sq (rg (ra [] f0 [(29, B (decide (v_39 < (p_0.length : Int))))] (tN (sq ?_)))); rcases ic hG with ⟨h_43, hG⟩ | ⟨h_43, hG⟩
     ·try simp only [lm_, Kd.n_Hops] at h_43
      refine sb 29 (bt h_43) (ct (kS (tN (sq (bk (sq ?_)))))); obtain ⟨v_44o, hy_44, hG⟩ := bs hG; refine rg (fxn (p := Ka.p) inf38 (gd' (RowC p_0_A p_0_c Ka.cells Ka.ok p_0) 4) hy_44 fun v_44 b_45 o_46 he_44 hi_44 => ?_); subst he_44
      try simp only [lm_, Kd.n_Hops] at hG
      refine rn 2 [(0, 0, 0, 0), (0, 2, 0, 0)] (fc (hi_44 .i64) f0) [(31, .agg #[I v_44.ID, .slice v_44.Entries_A v_44.Entries.length v_44.Entries_c])] (l1 (nw 9 vp [I 0, .slice none 0 0] 53 fun g_47 => l1 (sr 0 g_47 [(0, I v_44.ID), (1, .slice v_44.Entries_A v_44.Entries.length v_44.Entries_c)] (nl (tN (sq ?_)))))); obtain ⟨o_50, hG, hG_50⟩ := bs hG; refine jn (fun K E a w => ∃ v_51 : Bool, Js S0 w0 68 ([(40, B v_51)] ++ K) ([.dat (RowC v_44.Entries_A v_44.Entries_c Kb.cells tr v_44.Entries)] ++ se E [0, 3, 4, 5, 6, 7]) (v_51 = o_50) a w) ?_ ?_
      ·obtain ⟨v_48, hy_48, hG⟩ := bs hG; rcases ic hG with ⟨h_49, hG⟩ | ⟨h_49, hG⟩
       ·exact rg (rn 1 [(0, 2, 0, 0)] f0 [(32, .agg #[I v_44.ID, .slice v_44.Entries_A v_44.Entries.length v_44.Entries_c])] (l1 (cl 33 (zc F v_44 _ hy_48) hT ⟨(gi 2).a, trivial⟩ (rn 2 [] f0 [(35, B (!v_48))] (sb 35 (nt h_49) (ra [(1, 1, 0, 0)] f0 [(40, B (decide (v_44.ID ≤ v_41)))] (tN (fg (Ka.ok v_44) 2 (fun _ _ h => h.f_Entries) (fun _ _ S k e => ⟨decide (v_44.ID ≤ v_41), S, k.wk, e.sel [0, 1, 4, 5, 6, 7, 8], oi hG⟩)))))))))
       ·exact rg (rn 1 [(0, 2, 0, 0)] f0 [(32, .agg #[I v_44.ID, .slice v_44.Entries_A v_44.Entries.length v_44.Entries_c])] (l1 (cl 33 (zc F v_44 _ hy_48) hT ⟨(gi 2).a, trivial⟩ (rn 2 [] f0 [(35, B (!v_48))] (sb 35 (nf h_49) (ra [] f0 [(40, B true)] (tN (fg (Ka.ok v_44) 2 (fun _ _ h => h.f_Entries) (fun _ _ S k e => ⟨true, S, k.wk, e.sel [0, 1, 4, 5, 6, 7, 8], oi hG⟩)))))))))
      ·rintro a w ⟨v_51, hJ⟩; refine hJ.go ?_; clear hJ; rintro rfl; replace hG := hG_50; rcases ic hG with ⟨h_52, hG⟩ | ⟨h_52, hG⟩
       ·refine sb 40 (bt h_52) (ct (sq (rg (ra [] f0 [(4, .pointer none), (5, I 1)] (tN (kR (tR (hR (tR (tR ?_)))))))))); have he_ := hO2_42 _ (oi hG).symm; subst he_; replace hG := hG_42
        try simp only [lm_, Kd.n_Hops] at hG
        refine hR (tR ?_); obtain rfl := oi hG; replace hG := hG_57; obtain rfl := oi hG; exact rtn [] (⟨false, 0, Kl.z⟩ : Ko) rfl ⟨(Ko.ok0 : Fd _ (Ko.ok ⟨false, 0, Kl.z⟩)), trivial⟩
       ·refine sb 40 (bf h_52) (cf (kS (tN ?_))); obtain ⟨v_55o, hy_55, hG⟩ := bs hG; refine hb [0, 1, 3, 4, 5, 6] (ht [0, 1, 3, 4, 5, 6] [0, 1, 2, 3, 4, 5, 6, 7, 8] [(3, 1, 3, 0), (1, 1, 1, 0), (0, 2, 1, 0), (1, 1, 1, 0)] f0 [(44, .map (some g_8)), (46, I v_44.ID), (47, .agg #[I v_44.ID, .slice v_44.Entries_A v_44.Entries.length v_44.Entries_c]), (49, I v_44.ID)] (ho [9] ⟨h1 (mke (f := Ka.vl) 50 2 g_8 v_40 v_44.ID (.agg #[I 0, .slice none 0 0]) Tryz.underlying99 Tryz.underlying3 (fun w => by kernel_rfl) fun u_53 s_54 => hk [0, 1, 3, 4, 5, 6] (ht [0, 1, 3, 4, 5, 6] [10] [] f0 [(51, I ((s_54 : Nat) : Int))] (ho [11] ⟨h1 (mksn (t := 99) (f := Ka.vl) (ok := Ka.ok) 2 g_8 v_40 v_44.ID s_54 v_44 Ka.p hy_55 (gi 3) (((gd' (RowC v_44.Entries_A v_44.Entries_c Kb.cells tr v_44.Entries) 0)).m fun _ _ h => ⟨h⟩) fun v_55 he_55 => ?_), trivial⟩))), trivial⟩)); subst he_55
        try simp only [lm_, Kd.n_Hops] at hG
        exact hk [1, 2, 4, 5, 6, 7] (ht [1, 2, 4, 5, 6, 7] [12] [] f0 [(7, I v_44.ID)] (he (hN (tN (rg (ra [] f0 [(28, I (IntKind.i64.wrap (v_39 + 1)))] (tN (fun a w S hK hE => ⟨m_42, ⟨IntKind.i64.wrap (v_39 + 1), v_55, v_44.ID, S, hK.wk, hE.sel [3, 0, 5, 6, 7], hO1_42 _ (oi hG).symm⟩, Nat.lt_succ_self _⟩))))))))
     ·try simp only [lm_, Kd.n_Hops] at h_43
      refine sb 29 (bf h_43) (cf (kX (tX (tX ?_)))); have he_ := hO2_42 _ (oi hG).symm; subst he_; replace hG := hG_42
      try simp only [lm_, Kd.n_Hops] at hG
      exact hH (tN (fun _ _ S k e => ⟨v_40, S, k.wk, e.sel [0, 1, 2, 3], oi hG⟩))
   ·rintro a w ⟨v_58, hJ⟩; refine hJ.go ?_; clear hJ; rintro rfl; replace hG := el hG_57
    try simp only [lm_, Kd.n_Hops] at hG
    obtain ⟨o_86, hG, hG_86⟩ := bs hG; refine jn (fun K E a w => Js S0 w0 68 (K) (se E [0, 1, 2, 3]) (.inl () = o_86) a w) ?_ ?_
    ·refine sq (rg (ra [] f0 (ns 53 [.slice v_4_A v_3.length v_5_c, I (v_3.length : Int), I 0]) (tN (bk ?_)))); obtain ⟨e_77, hL, hG_77⟩ := bs hG; clear hG; obtain ⟨stp_77, hs_77, hL⟩ := iter_gen hL; refine lp (fun K E n_ a w => ∃ v_76 : Int, Js S0 w0 68 ([(55, I v_76)] ++ K) (se E [0, 1, 2, 3]) (iter stp_77 n_ v_76 = some e_77) a w) F ?_ ?_
     ·exact fun _ _ S k e => ⟨0, S, k.wk, e.sel [0, 1, 2, 3], hL⟩
     ·clear hL; rintro n_77 a w ⟨v_76, hJ⟩; refine hJ.go fun hL => ?_
      clear hJ; obtain ⟨m_77, o_77, rfl, hG, hO1_77, hO2_77⟩ := iter_step hL; clear hL; rw [hs_77] at hG; refine sq (rg (ra [] f0 [(56, B (decide (v_76 < (v_3.length : Int))))] (tN (sq ?_)))); rcases ic hG with ⟨h_78, hG⟩ | ⟨h_78, hG⟩
      ·try simp only [lm_, Kd.n_Hops] at h_78
       refine sb 56 (bt h_78) (ct (kS (tN (sq (bk (sq ?_)))))); obtain ⟨v_79, hy_79, hG⟩ := bs hG; refine rg (fx inf39 (gd' (RowC v_4_A v_5_c Kc.cells tr v_3) 3) hy_79 fun b_80 o_81 hi_79 => rn 2 [(0, 0, 0, 0), (0, 5, 0, 0)] (fc (hi_79 .i64) f0) [(58, .agg #[I v_79.Office, I v_79.Size, U v_79.Root, I v_79.Sig.C, I v_79.Sig.S])] (l1 (nw 11 vp [I 0, I 0, U 0, I 0, I 0] 27 fun g_82 => l1 (sr 0 g_82 (ns 0 [I v_79.Office, I v_79.Size, U v_79.Root, I v_79.Sig.C, I v_79.Sig.S]) (nl (tN (sq ?_))))))); obtain ⟨v_83, v_84, hy_83, hG⟩ := b2 hG; refine rg (rn 1 [(0, 5, 0, 0)] f0 [(60, .agg #[I v_79.Office, I v_79.Size, U v_79.Root, I v_79.Sig.C, I v_79.Sig.S])] (l1 (cl 61 (zo F 4 v_79 _ hy_83) hT trivial (ra [] f0 [(13, I v_84)] (tN (sq (rg (ra [] f0 [(65, B (!(v_84 == 0)))] (tN ?_))))))))); rcases ic hG with ⟨h_85, hG⟩ | ⟨h_85, hG⟩
       ·exact sb 65 (nt h_85) (cf (kS (hN (tN (rg (ra [] f0 [(55, I (IntKind.i64.wrap (v_76 + 1)))] (tN (fun a w S hK hE => ⟨m_77, ⟨IntKind.i64.wrap (v_76 + 1), S, hK.wk, hE.sel [2, 3, 4, 5], hO1_77 _ (oi hG).symm⟩, Nat.lt_succ_self _⟩))))))))
       ·refine sb 65 (nf h_85) (ct (sq (rg (ra [] f0 [(4, .pointer none), (5, I 1)] (tN (kR (hR (tR (tR ?_))))))))); have he_ := hO2_77 _ (oi hG).symm; subst he_; replace hG := hG_77; refine hR (tR ?_); obtain rfl := oi hG; replace hG := hG_86; obtain rfl := oi hG; exact rtn [] (⟨false, 0, Kl.z⟩ : Ko) rfl ⟨(Ko.ok0 : Fd _ (Ko.ok ⟨false, 0, Kl.z⟩)), trivial⟩
      ·try simp only [lm_, Kd.n_Hops] at h_78
       refine sb 56 (bf h_78) (cf (kX (tX (tX ?_)))); have he_ := hO2_77 _ (oi hG).symm; subst he_; replace hG := hG_77; exact hH (tN (fun _ _ S k e => ⟨S, k.wk, e.sel [0, 1, 2, 3], oi hG⟩))
    ·rintro a w hJ; refine hJ.go ?_; clear hJ; rintro rfl; replace hG := el hG_86; refine sq (rg (ra [] f0 [(4, Pt g_9 0), (5, I 0)] (tN (kR ?_)))); obtain rfl := oi hG; exact sm 0 g_8 Ka.vl Ka.ok v_58 Ka.mv (gi 1) (sbr 2 g_9 [.map (some g_8), .slice v_4_A v_3.length v_5_c] (rtn [] (⟨true, g_9, (⟨g_8, v_58, v_4_A, v_5_c, v_3⟩ : Kl)⟩ : Ko) rfl ⟨((Fd.two (gd' (fun S W => RecS S W g_9 0 [.map (some g_8), .slice v_4_A v_3.length v_5_c]) 2) (((Fd.two ((gd' (MapC g_8 Ka.vl Ka.ok v_58) 0)) ((gd' (RowC v_4_A v_5_c Kc.cells tr v_3) 3))).m fun _ _ h => ⟨h.1, h.2⟩))).m fun _ _ h _ => h), trivial⟩))
def Gar (F : Nat)  : Option ((List Kf) × (List Kc) × (List Int)) :=
 Option.bind (Ga F (⟨1, ([(⟨77, ⟨0, 0⟩⟩ : Kb)] : List Kb)⟩ : Kf) 1 5 6) (un2 fun v_3 v_4 =>
 Option.bind (Gd F v_3) (fun v_6 =>
 Option.bind (Ga F (⟨2, ([(⟨v_6, ⟨0, 0⟩⟩ : Kb), (⟨88, ⟨0, 0⟩⟩ : Kb)] : List Kb)⟩ : Kf) 2 7 8) (un2 fun v_9 v_10 =>
 Option.bind (Option.bind (Gm F 5) (fun v_14 =>
  Option.bind (Gm F 7) (fun v_15 =>
  some ([v_14, v_15] : List Int))) : Option ((List Int))) (fun (v_22 : (List Int)) =>
  some (([(⟨1, ([(⟨77, ⟨0, 0⟩⟩ : Kb)] : List Kb)⟩ : Kf), (⟨2, ([(⟨v_6, ⟨0, 0⟩⟩ : Kb), (⟨88, ⟨0, 0⟩⟩ : Kb)] : List Kb)⟩ : Kf)] : List Kf), ([v_3, v_9] : List Kc), v_22)))))
theorem za0 (F : Nat)  (r : (List Kf) × (List Kc) × (List Int)) (hG : Gar F  = some r) :
  Cn Tryz.prog 31 [] [] (fun q : Ky × Kw × Ku => r.1 = (q.1.l.map Ka.p) ∧ r.2.1 = q.2.1.l ∧ r.2.2 = q.2.2.l) (fun q => .tuple #[.slice q.1.A q.1.l.length q.1.c, .slice q.2.1.A q.2.1.l.length q.2.1.c, .slice q.2.2.A q.2.2.l.length q.2.2.c]) (fun q => [RowC q.1.A q.1.c Ka.cells Ka.ok q.1.l, RowC q.2.1.A q.2.1.c Kc.cells tr q.2.1.l, RowC q.2.2.A q.2.2.c c_i64 tr q.2.2.l]) := by
 unfold Gar at hG; refine fin Tryz.func31 rfl rfl m0 fun S0 w0 hT => sq (rg (ra [] f0 [] (tN (sq (rg (rn 1 [] f0 [(9, .agg #[U 77, I 0, I 0])] (l1 (nw 10 (vs 1) [U 77, I 0, I 0] 31 fun g_1 => rn 1 [] f0 [(11, .agg #[I 1, Sb g_1 1 1])] (l1 (nw 3 vp [I 0, .slice none 0 0] 53 fun g_2 => l1 (sr 0 g_2 [(0, I 1), (1, Sb g_1 1 1)] (nl (tN (sq ?_))))))))))))))
 obtain ⟨v_3, v_4, hy_3, hG⟩ := b2 hG; refine rg (rn 1 [(0, 2, 0, 0)] f0 [(13, .agg #[I 1, Sb g_1 1 1])] (l1 (cl 14 (za F (⟨1, (some ⟨g_1, 0, none⟩), 1, ([(⟨77, ⟨0, 0⟩⟩ : Kb)] : List Kb)⟩ : Ka) 1 5 6 _ hy_3) hT ⟨Fa.m (bA (f := Kb.cells) (ok := tr) (l := ([(⟨77, ⟨0, 0⟩⟩ : Kb)] : List Kb)) g_1 1 (et.a)) fun _ _ h => ⟨h⟩, trivial⟩ (rn 3 [] f0 [(15, .agg #[I v_3.Office, I v_3.Size, U v_3.Root, I v_3.Sig.C, I v_3.Sig.S]), (16, I v_4)] (l1 (nw 4 vp [I 0, I 0, U 0, I 0, I 0] 27 fun g_5 => l1 (sr 0 g_5 (ns 0 [I v_3.Office, I v_3.Size, U v_3.Root, I v_3.Sig.C, I v_3.Sig.S]) (ra [] f0 [] (tN (sq ?_)))))))))); obtain ⟨v_6, hy_6, hG⟩ := bs hG; refine rg (rn 1 [(0, 5, 0, 0)] f0 [(17, .agg #[I v_3.Office, I v_3.Size, U v_3.Root, I v_3.Sig.C, I v_3.Sig.S])] (l1 (cl 18 (zq F v_3 _ hy_6) hT trivial (rn 2 [] f0 [(19, .agg #[U v_6, I 0, I 0]), (20, .agg #[U 88, I 0, I 0])] (l1 (nw 21 (vs 2) [U v_6, I 0, I 0, U 88, I 0, I 0] 31 fun g_7 => rn 1 [] f0 [(22, .agg #[I 2, Sb g_7 2 2])] (l1 (nw 6 vp [I 0, .slice none 0 0] 53 fun g_8 => l1 (sr 0 g_8 [(0, I 2), (1, Sb g_7 2 2)] (nl (tN (sq ?_)))))))))))); obtain ⟨v_9, v_10, hy_9, hG⟩ := b2 hG; refine rg (rn 1 [(0, 2, 0, 0)] f0 [(24, .agg #[I 2, Sb g_7 2 2])] (l1 (cl 25 (za F (⟨2, (some ⟨g_7, 0, none⟩), 2, ([(⟨v_6, ⟨0, 0⟩⟩ : Kb), (⟨88, ⟨0, 0⟩⟩ : Kb)] : List Kb)⟩ : Ka) 2 7 8 _ hy_9) hT ⟨Fa.m (bA (f := Kb.cells) (ok := tr) (l := ([(⟨v_6, ⟨0, 0⟩⟩ : Kb), (⟨88, ⟨0, 0⟩⟩ : Kb)] : List Kb)) g_7 1 (et.a)) fun _ _ h => ⟨h⟩, trivial⟩ (rn 3 [] f0 [(26, .agg #[I v_9.Office, I v_9.Size, U v_9.Root, I v_9.Sig.C, I v_9.Sig.S]), (27, I v_10)] (l1 (nw 7 vp [I 0, I 0, U 0, I 0, I 0] 27 fun g_11 => l1 (sr 0 g_11 (ns 0 [I v_9.Office, I v_9.Size, U v_9.Root, I v_9.Sig.C, I v_9.Sig.S]) (ra [] f0 [] (tN ?_))))))))); obtain ⟨o_17, hG, hG_17⟩ := bs hG; refine jn (fun K E a w => ∃ (v_18_A : Option Addr) (v_19_c : Nat) (v_20_A : Option Addr) (v_21_c : Nat) (v_22 : List Int) (v_23_A : Option Addr) (v_24_c : Nat), Js S0 w0 37 ((ns 0 [.slice v_18_A ([(⟨1, (some ⟨g_1, 0, none⟩), 1, ([(⟨77, ⟨0, 0⟩⟩ : Kb)] : List Kb)⟩ : Ka), (⟨2, (some ⟨g_7, 0, none⟩), 2, ([(⟨v_6, ⟨0, 0⟩⟩ : Kb), (⟨88, ⟨0, 0⟩⟩ : Kb)] : List Kb)⟩ : Ka)] : List Ka).length v_19_c, .slice v_20_A ([v_3, v_9] : List Kc).length v_21_c, .slice v_23_A v_22.length v_24_c]) ++ K) ([.dat (RowC v_18_A v_19_c Ka.cells Ka.ok ([(⟨1, (some ⟨g_1, 0, none⟩), 1, ([(⟨77, ⟨0, 0⟩⟩ : Kb)] : List Kb)⟩ : Ka), (⟨2, (some ⟨g_7, 0, none⟩), 2, ([(⟨v_6, ⟨0, 0⟩⟩ : Kb), (⟨88, ⟨0, 0⟩⟩ : Kb)] : List Kb)⟩ : Ka)] : List Ka)), .dat (RowC v_20_A v_21_c Kc.cells tr ([v_3, v_9] : List Kc)), .dat (RowC v_23_A v_24_c c_i64 tr v_22)]) (v_22 = o_17) a w) ?_ ?_
 ·obtain ⟨v_14, hy_14, hG⟩ := bs hG; obtain ⟨v_15, hy_15, hG⟩ := bs hG; refine hb [0, 1, 2, 3, 4, 5] (ht [0, 1, 2, 3, 4, 5] [0, 1, 3, 4] [(0, 2, 4, 0), (0, 2, 1, 0), (0, 5, 3, 0), (0, 5, 0, 0)] f0 [(28, .agg #[I 1, Sb g_1 1 1]), (29, .agg #[I 2, Sb g_7 2 2]), (31, .agg #[I v_3.Office, I v_3.Size, U v_3.Root, I v_3.Sig.C, I v_3.Sig.S]), (32, .agg #[I v_9.Office, I v_9.Size, U v_9.Root, I v_9.Sig.C, I v_9.Sig.S])] (ho [2, 5, 6] ⟨?_, ?_, ?_, trivial⟩))
  ·refine h1 (nw 30 (vs 2) [I 1, Sb g_1 1 1, I 2, Sb g_7 2 2] 53 fun g_12 => hk [1, 2, 3, 4, 5, 6] (ho [5, 6] ⟨?_, ?_, trivial⟩))
   ·exact h1 (nw 33 (vs 2) [I v_3.Office, I v_3.Size, U v_3.Root, I v_3.Sig.C, I v_3.Sig.S, I v_9.Office, I v_9.Size, U v_9.Root, I v_9.Sig.C, I v_9.Sig.S] 27 fun g_13 => hk [2, 3, 4, 5, 6, 7] (ho [6] ⟨h1 (cl 34 (zd F 5 _ hy_14) hT trivial (hk [2, 3, 4, 5, 6, 7] (ho [7] ⟨h1 (cl 35 (zd F 7 _ hy_15) hT trivial (hk [2, 3, 4, 5, 6, 7] (ht [2, 3, 4, 5, 6, 7] [9, 10] [] f0 [(0, Sb g_12 2 2), (1, Sb g_13 2 2)] (ho [8] ⟨h1 (nw 36 (vs 2) [I v_14, I v_15] 3 fun g_16 => hk [3, 4, 5, 6, 7, 8] (ht [3, 4, 5, 6, 7, 8] [11] [] f0 [(2, Sb g_16 2 2)] (he (tN (sB 8 g_1 Kb.cells tr ([(⟨77, ⟨0, 0⟩⟩ : Kb)] : List Kb) tr_mv et (sB 5 g_7 Kb.cells tr ([(⟨v_6, ⟨0, 0⟩⟩ : Kb), (⟨88, ⟨0, 0⟩⟩ : Kb)] : List Kb) tr_mv et (sB 2 g_12 Ka.cells Ka.ok ([(⟨1, (some ⟨g_1, 0, none⟩), 1, ([(⟨77, ⟨0, 0⟩⟩ : Kb)] : List Kb)⟩ : Ka), (⟨2, (some ⟨g_7, 0, none⟩), 2, ([(⟨v_6, ⟨0, 0⟩⟩ : Kb), (⟨88, ⟨0, 0⟩⟩ : Kb)] : List Kb)⟩ : Ka)] : List Ka) Ka.mv (ec (((gd' (RowC (some ⟨g_1, 0, none⟩) 1 Kb.cells tr ([(⟨77, ⟨0, 0⟩⟩ : Kb)] : List Kb)) 8)).m fun _ _ h => ⟨h⟩) (ec (((gd' (RowC (some ⟨g_7, 0, none⟩) 2 Kb.cells tr ([(⟨v_6, ⟨0, 0⟩⟩ : Kb), (⟨88, ⟨0, 0⟩⟩ : Kb)] : List Kb)) 5)).m fun _ _ h => ⟨h⟩) e0)) (sB 1 g_13 Kc.cells tr ([v_3, v_9] : List Kc) tr_mv et (sB 0 g_16 c_i64 tr ([v_14, v_15] : List Int) tr_mv et (fun _ _ S k e => ⟨(some ⟨g_12, 0, none⟩), 2, (some ⟨g_13, 0, none⟩), 2, ([v_14, v_15] : List Int), (some ⟨g_16, 0, none⟩), 2, S, k.wk, e.sel [2, 1, 0], oi hG⟩)))))))))), trivial⟩)))), trivial⟩))), trivial⟩))
   ·refine h1 (cl 34 (zd F 5 _ hy_14) hT trivial (hk [1, 2, 3, 4, 5, 6] (ho [5, 7] ⟨?_, ?_, trivial⟩)))
    ·exact h1 (nw 33 (vs 2) [I v_3.Office, I v_3.Size, U v_3.Root, I v_3.Sig.C, I v_3.Sig.S, I v_9.Office, I v_9.Size, U v_9.Root, I v_9.Sig.C, I v_9.Sig.S] 27 fun g_13 => hk [2, 3, 4, 5, 6, 7] (ho [7] ⟨h1 (cl 35 (zd F 7 _ hy_15) hT trivial (hk [2, 3, 4, 5, 6, 7] (ht [2, 3, 4, 5, 6, 7] [9, 10] [] f0 [(0, Sb g_12 2 2), (1, Sb g_13 2 2)] (ho [8] ⟨h1 (nw 36 (vs 2) [I v_14, I v_15] 3 fun g_16 => hk [3, 4, 5, 6, 7, 8] (ht [3, 4, 5, 6, 7, 8] [11] [] f0 [(2, Sb g_16 2 2)] (he (tN (sB 8 g_1 Kb.cells tr ([(⟨77, ⟨0, 0⟩⟩ : Kb)] : List Kb) tr_mv et (sB 5 g_7 Kb.cells tr ([(⟨v_6, ⟨0, 0⟩⟩ : Kb), (⟨88, ⟨0, 0⟩⟩ : Kb)] : List Kb) tr_mv et (sB 2 g_12 Ka.cells Ka.ok ([(⟨1, (some ⟨g_1, 0, none⟩), 1, ([(⟨77, ⟨0, 0⟩⟩ : Kb)] : List Kb)⟩ : Ka), (⟨2, (some ⟨g_7, 0, none⟩), 2, ([(⟨v_6, ⟨0, 0⟩⟩ : Kb), (⟨88, ⟨0, 0⟩⟩ : Kb)] : List Kb)⟩ : Ka)] : List Ka) Ka.mv (ec (((gd' (RowC (some ⟨g_1, 0, none⟩) 1 Kb.cells tr ([(⟨77, ⟨0, 0⟩⟩ : Kb)] : List Kb)) 8)).m fun _ _ h => ⟨h⟩) (ec (((gd' (RowC (some ⟨g_7, 0, none⟩) 2 Kb.cells tr ([(⟨v_6, ⟨0, 0⟩⟩ : Kb), (⟨88, ⟨0, 0⟩⟩ : Kb)] : List Kb)) 5)).m fun _ _ h => ⟨h⟩) e0)) (sB 1 g_13 Kc.cells tr ([v_3, v_9] : List Kc) tr_mv et (sB 0 g_16 c_i64 tr ([v_14, v_15] : List Int) tr_mv et (fun _ _ S k e => ⟨(some ⟨g_12, 0, none⟩), 2, (some ⟨g_13, 0, none⟩), 2, ([v_14, v_15] : List Int), (some ⟨g_16, 0, none⟩), 2, S, k.wk, e.sel [2, 1, 0], oi hG⟩)))))))))), trivial⟩)))), trivial⟩))
    ·refine h1 (cl 35 (zd F 7 _ hy_15) hT trivial (hk [1, 2, 3, 4, 5, 6] (ht [1, 2, 3, 4, 5, 6] [9] [] f0 [(0, Sb g_12 2 2)] (ho [5, 8] ⟨?_, ?_, trivial⟩))))
     ·exact h1 (nw 33 (vs 2) [I v_3.Office, I v_3.Size, U v_3.Root, I v_3.Sig.C, I v_3.Sig.S, I v_9.Office, I v_9.Size, U v_9.Root, I v_9.Sig.C, I v_9.Sig.S] 27 fun g_13 => hk [2, 3, 4, 5, 6, 7] (ht [2, 3, 4, 5, 6, 7] [10] [] f0 [(1, Sb g_13 2 2)] (ho [8] ⟨h1 (nw 36 (vs 2) [I v_14, I v_15] 3 fun g_16 => hk [3, 4, 5, 6, 7, 8] (ht [3, 4, 5, 6, 7, 8] [11] [] f0 [(2, Sb g_16 2 2)] (he (tN (sB 8 g_1 Kb.cells tr ([(⟨77, ⟨0, 0⟩⟩ : Kb)] : List Kb) tr_mv et (sB 5 g_7 Kb.cells tr ([(⟨v_6, ⟨0, 0⟩⟩ : Kb), (⟨88, ⟨0, 0⟩⟩ : Kb)] : List Kb) tr_mv et (sB 2 g_12 Ka.cells Ka.ok ([(⟨1, (some ⟨g_1, 0, none⟩), 1, ([(⟨77, ⟨0, 0⟩⟩ : Kb)] : List Kb)⟩ : Ka), (⟨2, (some ⟨g_7, 0, none⟩), 2, ([(⟨v_6, ⟨0, 0⟩⟩ : Kb), (⟨88, ⟨0, 0⟩⟩ : Kb)] : List Kb)⟩ : Ka)] : List Ka) Ka.mv (ec (((gd' (RowC (some ⟨g_1, 0, none⟩) 1 Kb.cells tr ([(⟨77, ⟨0, 0⟩⟩ : Kb)] : List Kb)) 8)).m fun _ _ h => ⟨h⟩) (ec (((gd' (RowC (some ⟨g_7, 0, none⟩) 2 Kb.cells tr ([(⟨v_6, ⟨0, 0⟩⟩ : Kb), (⟨88, ⟨0, 0⟩⟩ : Kb)] : List Kb)) 5)).m fun _ _ h => ⟨h⟩) e0)) (sB 1 g_13 Kc.cells tr ([v_3, v_9] : List Kc) tr_mv et (sB 0 g_16 c_i64 tr ([v_14, v_15] : List Int) tr_mv et (fun _ _ S k e => ⟨(some ⟨g_12, 0, none⟩), 2, (some ⟨g_13, 0, none⟩), 2, ([v_14, v_15] : List Int), (some ⟨g_16, 0, none⟩), 2, S, k.wk, e.sel [2, 1, 0], oi hG⟩)))))))))), trivial⟩)))
     ·exact h1 (nw 36 (vs 2) [I v_14, I v_15] 3 fun g_16 => hk [2, 3, 4, 5, 6, 7] (ho [5] ⟨h1 (nw 33 (vs 2) [I v_3.Office, I v_3.Size, U v_3.Root, I v_3.Sig.C, I v_3.Sig.S, I v_9.Office, I v_9.Size, U v_9.Root, I v_9.Sig.C, I v_9.Sig.S] 27 fun g_13 => hk [3, 4, 5, 6, 7, 8] (ht [3, 4, 5, 6, 7, 8] [10, 11] [] f0 [(1, Sb g_13 2 2), (2, Sb g_16 2 2)] (he (tN (sB 8 g_1 Kb.cells tr ([(⟨77, ⟨0, 0⟩⟩ : Kb)] : List Kb) tr_mv et (sB 5 g_7 Kb.cells tr ([(⟨v_6, ⟨0, 0⟩⟩ : Kb), (⟨88, ⟨0, 0⟩⟩ : Kb)] : List Kb) tr_mv et (sB 2 g_12 Ka.cells Ka.ok ([(⟨1, (some ⟨g_1, 0, none⟩), 1, ([(⟨77, ⟨0, 0⟩⟩ : Kb)] : List Kb)⟩ : Ka), (⟨2, (some ⟨g_7, 0, none⟩), 2, ([(⟨v_6, ⟨0, 0⟩⟩ : Kb), (⟨88, ⟨0, 0⟩⟩ : Kb)] : List Kb)⟩ : Ka)] : List Ka) Ka.mv (ec (((gd' (RowC (some ⟨g_1, 0, none⟩) 1 Kb.cells tr ([(⟨77, ⟨0, 0⟩⟩ : Kb)] : List Kb)) 8)).m fun _ _ h => ⟨h⟩) (ec (((gd' (RowC (some ⟨g_7, 0, none⟩) 2 Kb.cells tr ([(⟨v_6, ⟨0, 0⟩⟩ : Kb), (⟨88, ⟨0, 0⟩⟩ : Kb)] : List Kb)) 5)).m fun _ _ h => ⟨h⟩) e0)) (sB 0 g_13 Kc.cells tr ([v_3, v_9] : List Kc) tr_mv et (sB 1 g_16 c_i64 tr ([v_14, v_15] : List Int) tr_mv et (fun _ _ S k e => ⟨(some ⟨g_12, 0, none⟩), 2, (some ⟨g_13, 0, none⟩), 2, ([v_14, v_15] : List Int), (some ⟨g_16, 0, none⟩), 2, S, k.wk, e.sel [2, 0, 1], oi hG⟩)))))))))), trivial⟩))
  ·refine h1 (nw 33 (vs 2) [I v_3.Office, I v_3.Size, U v_3.Root, I v_3.Sig.C, I v_3.Sig.S, I v_9.Office, I v_9.Size, U v_9.Root, I v_9.Sig.C, I v_9.Sig.S] 27 fun g_13 => hk [1, 2, 3, 4, 5, 6] (ho [2, 6] ⟨?_, ?_, trivial⟩))
   ·exact h1 (nw 30 (vs 2) [I 1, Sb g_1 1 1, I 2, Sb g_7 2 2] 53 fun g_12 => hk [2, 3, 4, 5, 6, 7] (ho [6] ⟨h1 (cl 34 (zd F 5 _ hy_14) hT trivial (hk [2, 3, 4, 5, 6, 7] (ho [7] ⟨h1 (cl 35 (zd F 7 _ hy_15) hT trivial (hk [2, 3, 4, 5, 6, 7] (ht [2, 3, 4, 5, 6, 7] [9, 10] [] f0 [(0, Sb g_12 2 2), (1, Sb g_13 2 2)] (ho [8] ⟨h1 (nw 36 (vs 2) [I v_14, I v_15] 3 fun g_16 => hk [3, 4, 5, 6, 7, 8] (ht [3, 4, 5, 6, 7, 8] [11] [] f0 [(2, Sb g_16 2 2)] (he (tN (sB 8 g_1 Kb.cells tr ([(⟨77, ⟨0, 0⟩⟩ : Kb)] : List Kb) tr_mv et (sB 5 g_7 Kb.cells tr ([(⟨v_6, ⟨0, 0⟩⟩ : Kb), (⟨88, ⟨0, 0⟩⟩ : Kb)] : List Kb) tr_mv et (sB 1 g_12 Ka.cells Ka.ok ([(⟨1, (some ⟨g_1, 0, none⟩), 1, ([(⟨77, ⟨0, 0⟩⟩ : Kb)] : List Kb)⟩ : Ka), (⟨2, (some ⟨g_7, 0, none⟩), 2, ([(⟨v_6, ⟨0, 0⟩⟩ : Kb), (⟨88, ⟨0, 0⟩⟩ : Kb)] : List Kb)⟩ : Ka)] : List Ka) Ka.mv (ec (((gd' (RowC (some ⟨g_1, 0, none⟩) 1 Kb.cells tr ([(⟨77, ⟨0, 0⟩⟩ : Kb)] : List Kb)) 8)).m fun _ _ h => ⟨h⟩) (ec (((gd' (RowC (some ⟨g_7, 0, none⟩) 2 Kb.cells tr ([(⟨v_6, ⟨0, 0⟩⟩ : Kb), (⟨88, ⟨0, 0⟩⟩ : Kb)] : List Kb)) 5)).m fun _ _ h => ⟨h⟩) e0)) (sB 2 g_13 Kc.cells tr ([v_3, v_9] : List Kc) tr_mv et (sB 0 g_16 c_i64 tr ([v_14, v_15] : List Int) tr_mv et (fun _ _ S k e => ⟨(some ⟨g_12, 0, none⟩), 2, (some ⟨g_13, 0, none⟩), 2, ([v_14, v_15] : List Int), (some ⟨g_16, 0, none⟩), 2, S, k.wk, e.sel [1, 2, 0], oi hG⟩)))))))))), trivial⟩)))), trivial⟩))), trivial⟩))
   ·refine h1 (cl 34 (zd F 5 _ hy_14) hT trivial (hk [1, 2, 3, 4, 5, 6] (ho [2, 7] ⟨?_, ?_, trivial⟩)))
    ·exact h1 (nw 30 (vs 2) [I 1, Sb g_1 1 1, I 2, Sb g_7 2 2] 53 fun g_12 => hk [2, 3, 4, 5, 6, 7] (ho [7] ⟨h1 (cl 35 (zd F 7 _ hy_15) hT trivial (hk [2, 3, 4, 5, 6, 7] (ht [2, 3, 4, 5, 6, 7] [9, 10] [] f0 [(0, Sb g_12 2 2), (1, Sb g_13 2 2)] (ho [8] ⟨h1 (nw 36 (vs 2) [I v_14, I v_15] 3 fun g_16 => hk [3, 4, 5, 6, 7, 8] (ht [3, 4, 5, 6, 7, 8] [11] [] f0 [(2, Sb g_16 2 2)] (he (tN (sB 8 g_1 Kb.cells tr ([(⟨77, ⟨0, 0⟩⟩ : Kb)] : List Kb) tr_mv et (sB 5 g_7 Kb.cells tr ([(⟨v_6, ⟨0, 0⟩⟩ : Kb), (⟨88, ⟨0, 0⟩⟩ : Kb)] : List Kb) tr_mv et (sB 1 g_12 Ka.cells Ka.ok ([(⟨1, (some ⟨g_1, 0, none⟩), 1, ([(⟨77, ⟨0, 0⟩⟩ : Kb)] : List Kb)⟩ : Ka), (⟨2, (some ⟨g_7, 0, none⟩), 2, ([(⟨v_6, ⟨0, 0⟩⟩ : Kb), (⟨88, ⟨0, 0⟩⟩ : Kb)] : List Kb)⟩ : Ka)] : List Ka) Ka.mv (ec (((gd' (RowC (some ⟨g_1, 0, none⟩) 1 Kb.cells tr ([(⟨77, ⟨0, 0⟩⟩ : Kb)] : List Kb)) 8)).m fun _ _ h => ⟨h⟩) (ec (((gd' (RowC (some ⟨g_7, 0, none⟩) 2 Kb.cells tr ([(⟨v_6, ⟨0, 0⟩⟩ : Kb), (⟨88, ⟨0, 0⟩⟩ : Kb)] : List Kb)) 5)).m fun _ _ h => ⟨h⟩) e0)) (sB 2 g_13 Kc.cells tr ([v_3, v_9] : List Kc) tr_mv et (sB 0 g_16 c_i64 tr ([v_14, v_15] : List Int) tr_mv et (fun _ _ S k e => ⟨(some ⟨g_12, 0, none⟩), 2, (some ⟨g_13, 0, none⟩), 2, ([v_14, v_15] : List Int), (some ⟨g_16, 0, none⟩), 2, S, k.wk, e.sel [1, 2, 0], oi hG⟩)))))))))), trivial⟩)))), trivial⟩))
    ·refine h1 (cl 35 (zd F 7 _ hy_15) hT trivial (hk [1, 2, 3, 4, 5, 6] (ho [2, 8] ⟨?_, ?_, trivial⟩)))
     ·exact h1 (nw 30 (vs 2) [I 1, Sb g_1 1 1, I 2, Sb g_7 2 2] 53 fun g_12 => hk [2, 3, 4, 5, 6, 7] (ht [2, 3, 4, 5, 6, 7] [9, 10] [] f0 [(0, Sb g_12 2 2), (1, Sb g_13 2 2)] (ho [8] ⟨h1 (nw 36 (vs 2) [I v_14, I v_15] 3 fun g_16 => hk [3, 4, 5, 6, 7, 8] (ht [3, 4, 5, 6, 7, 8] [11] [] f0 [(2, Sb g_16 2 2)] (he (tN (sB 8 g_1 Kb.cells tr ([(⟨77, ⟨0, 0⟩⟩ : Kb)] : List Kb) tr_mv et (sB 5 g_7 Kb.cells tr ([(⟨v_6, ⟨0, 0⟩⟩ : Kb), (⟨88, ⟨0, 0⟩⟩ : Kb)] : List Kb) tr_mv et (sB 1 g_12 Ka.cells Ka.ok ([(⟨1, (some ⟨g_1, 0, none⟩), 1, ([(⟨77, ⟨0, 0⟩⟩ : Kb)] : List Kb)⟩ : Ka), (⟨2, (some ⟨g_7, 0, none⟩), 2, ([(⟨v_6, ⟨0, 0⟩⟩ : Kb), (⟨88, ⟨0, 0⟩⟩ : Kb)] : List Kb)⟩ : Ka)] : List Ka) Ka.mv (ec (((gd' (RowC (some ⟨g_1, 0, none⟩) 1 Kb.cells tr ([(⟨77, ⟨0, 0⟩⟩ : Kb)] : List Kb)) 8)).m fun _ _ h => ⟨h⟩) (ec (((gd' (RowC (some ⟨g_7, 0, none⟩) 2 Kb.cells tr ([(⟨v_6, ⟨0, 0⟩⟩ : Kb), (⟨88, ⟨0, 0⟩⟩ : Kb)] : List Kb)) 5)).m fun _ _ h => ⟨h⟩) e0)) (sB 2 g_13 Kc.cells tr ([v_3, v_9] : List Kc) tr_mv et (sB 0 g_16 c_i64 tr ([v_14, v_15] : List Int) tr_mv et (fun _ _ S k e => ⟨(some ⟨g_12, 0, none⟩), 2, (some ⟨g_13, 0, none⟩), 2, ([v_14, v_15] : List Int), (some ⟨g_16, 0, none⟩), 2, S, k.wk, e.sel [1, 2, 0], oi hG⟩)))))))))), trivial⟩)))
     ·exact h1 (nw 36 (vs 2) [I v_14, I v_15] 3 fun g_16 => hk [2, 3, 4, 5, 6, 7] (ho [2] ⟨h1 (nw 30 (vs 2) [I 1, Sb g_1 1 1, I 2, Sb g_7 2 2] 53 fun g_12 => hk [3, 4, 5, 6, 7, 8] (ht [3, 4, 5, 6, 7, 8] [9, 10, 11] [] f0 (ns 0 [Sb g_12 2 2, Sb g_13 2 2, Sb g_16 2 2]) (he (tN (sB 8 g_1 Kb.cells tr ([(⟨77, ⟨0, 0⟩⟩ : Kb)] : List Kb) tr_mv et (sB 5 g_7 Kb.cells tr ([(⟨v_6, ⟨0, 0⟩⟩ : Kb), (⟨88, ⟨0, 0⟩⟩ : Kb)] : List Kb) tr_mv et (sB 0 g_12 Ka.cells Ka.ok ([(⟨1, (some ⟨g_1, 0, none⟩), 1, ([(⟨77, ⟨0, 0⟩⟩ : Kb)] : List Kb)⟩ : Ka), (⟨2, (some ⟨g_7, 0, none⟩), 2, ([(⟨v_6, ⟨0, 0⟩⟩ : Kb), (⟨88, ⟨0, 0⟩⟩ : Kb)] : List Kb)⟩ : Ka)] : List Ka) Ka.mv (ec (((gd' (RowC (some ⟨g_1, 0, none⟩) 1 Kb.cells tr ([(⟨77, ⟨0, 0⟩⟩ : Kb)] : List Kb)) 8)).m fun _ _ h => ⟨h⟩) (ec (((gd' (RowC (some ⟨g_7, 0, none⟩) 2 Kb.cells tr ([(⟨v_6, ⟨0, 0⟩⟩ : Kb), (⟨88, ⟨0, 0⟩⟩ : Kb)] : List Kb)) 5)).m fun _ _ h => ⟨h⟩) e0)) (sB 2 g_13 Kc.cells tr ([v_3, v_9] : List Kc) tr_mv et (sB 1 g_16 c_i64 tr ([v_14, v_15] : List Int) tr_mv et (fun _ _ S k e => ⟨(some ⟨g_12, 0, none⟩), 2, (some ⟨g_13, 0, none⟩), 2, ([v_14, v_15] : List Int), (some ⟨g_16, 0, none⟩), 2, S, k.wk, e.sel [0, 2, 1], oi hG⟩)))))))))), trivial⟩))
  ·refine h1 (cl 34 (zd F 5 _ hy_14) hT trivial (hk [0, 1, 2, 3, 4, 5] (ho [2, 5, 7] ⟨?_, ?_, ?_, trivial⟩)))
   ·refine h1 (nw 30 (vs 2) [I 1, Sb g_1 1 1, I 2, Sb g_7 2 2] 53 fun g_12 => hk [1, 2, 3, 4, 5, 6] (ho [5, 7] ⟨?_, ?_, trivial⟩))
    ·exact h1 (nw 33 (vs 2) [I v_3.Office, I v_3.Size, U v_3.Root, I v_3.Sig.C, I v_3.Sig.S, I v_9.Office, I v_9.Size, U v_9.Root, I v_9.Sig.C, I v_9.Sig.S] 27 fun g_13 => hk [2, 3, 4, 5, 6, 7] (ho [7] ⟨h1 (cl 35 (zd F 7 _ hy_15) hT trivial (hk [2, 3, 4, 5, 6, 7] (ht [2, 3, 4, 5, 6, 7] [9, 10] [] f0 [(0, Sb g_12 2 2), (1, Sb g_13 2 2)] (ho [8] ⟨h1 (nw 36 (vs 2) [I v_14, I v_15] 3 fun g_16 => hk [3, 4, 5, 6, 7, 8] (ht [3, 4, 5, 6, 7, 8] [11] [] f0 [(2, Sb g_16 2 2)] (he (tN (sB 8 g_1 Kb.cells tr ([(⟨77, ⟨0, 0⟩⟩ : Kb)] : List Kb) tr_mv et (sB 5 g_7 Kb.cells tr ([(⟨v_6, ⟨0, 0⟩⟩ : Kb), (⟨88, ⟨0, 0⟩⟩ : Kb)] : List Kb) tr_mv et (sB 2 g_12 Ka.cells Ka.ok ([(⟨1, (some ⟨g_1, 0, none⟩), 1, ([(⟨77, ⟨0, 0⟩⟩ : Kb)] : List Kb)⟩ : Ka), (⟨2, (some ⟨g_7, 0, none⟩), 2, ([(⟨v_6, ⟨0, 0⟩⟩ : Kb), (⟨88, ⟨0, 0⟩⟩ : Kb)] : List Kb)⟩ : Ka)] : List Ka) Ka.mv (ec (((gd' (RowC (some ⟨g_1, 0, none⟩) 1 Kb.cells tr ([(⟨77, ⟨0, 0⟩⟩ : Kb)] : List Kb)) 8)).m fun _ _ h => ⟨h⟩) (ec (((gd' (RowC (some ⟨g_7, 0, none⟩) 2 Kb.cells tr ([(⟨v_6, ⟨0, 0⟩⟩ : Kb), (⟨88, ⟨0, 0⟩⟩ : Kb)] : List Kb)) 5)).m fun _ _ h => ⟨h⟩) e0)) (sB 1 g_13 Kc.cells tr ([v_3, v_9] : List Kc) tr_mv et (sB 0 g_16 c_i64 tr ([v_14, v_15] : List Int) tr_mv et (fun _ _ S k e => ⟨(some ⟨g_12, 0, none⟩), 2, (some ⟨g_13, 0, none⟩), 2, ([v_14, v_15] : List Int), (some ⟨g_16, 0, none⟩), 2, S, k.wk, e.sel [2, 1, 0], oi hG⟩)))))))))), trivial⟩)))), trivial⟩))
    ·refine h1 (cl 35 (zd F 7 _ hy_15) hT trivial (hk [1, 2, 3, 4, 5, 6] (ht [1, 2, 3, 4, 5, 6] [9] [] f0 [(0, Sb g_12 2 2)] (ho [5, 8] ⟨?_, ?_, trivial⟩))))
     ·exact h1 (nw 33 (vs 2) [I v_3.Office, I v_3.Size, U v_3.Root, I v_3.Sig.C, I v_3.Sig.S, I v_9.Office, I v_9.Size, U v_9.Root, I v_9.Sig.C, I v_9.Sig.S] 27 fun g_13 => hk [2, 3, 4, 5, 6, 7] (ht [2, 3, 4, 5, 6, 7] [10] [] f0 [(1, Sb g_13 2 2)] (ho [8] ⟨h1 (nw 36 (vs 2) [I v_14, I v_15] 3 fun g_16 => hk [3, 4, 5, 6, 7, 8] (ht [3, 4, 5, 6, 7, 8] [11] [] f0 [(2, Sb g_16 2 2)] (he (tN (sB 8 g_1 Kb.cells tr ([(⟨77, ⟨0, 0⟩⟩ : Kb)] : List Kb) tr_mv et (sB 5 g_7 Kb.cells tr ([(⟨v_6, ⟨0, 0⟩⟩ : Kb), (⟨88, ⟨0, 0⟩⟩ : Kb)] : List Kb) tr_mv et (sB 2 g_12 Ka.cells Ka.ok ([(⟨1, (some ⟨g_1, 0, none⟩), 1, ([(⟨77, ⟨0, 0⟩⟩ : Kb)] : List Kb)⟩ : Ka), (⟨2, (some ⟨g_7, 0, none⟩), 2, ([(⟨v_6, ⟨0, 0⟩⟩ : Kb), (⟨88, ⟨0, 0⟩⟩ : Kb)] : List Kb)⟩ : Ka)] : List Ka) Ka.mv (ec (((gd' (RowC (some ⟨g_1, 0, none⟩) 1 Kb.cells tr ([(⟨77, ⟨0, 0⟩⟩ : Kb)] : List Kb)) 8)).m fun _ _ h => ⟨h⟩) (ec (((gd' (RowC (some ⟨g_7, 0, none⟩) 2 Kb.cells tr ([(⟨v_6, ⟨0, 0⟩⟩ : Kb), (⟨88, ⟨0, 0⟩⟩ : Kb)] : List Kb)) 5)).m fun _ _ h => ⟨h⟩) e0)) (sB 1 g_13 Kc.cells tr ([v_3, v_9] : List Kc) tr_mv et (sB 0 g_16 c_i64 tr ([v_14, v_15] : List Int) tr_mv et (fun _ _ S k e => ⟨(some ⟨g_12, 0, none⟩), 2, (some ⟨g_13, 0, none⟩), 2, ([v_14, v_15] : List Int), (some ⟨g_16, 0, none⟩), 2, S, k.wk, e.sel [2, 1, 0], oi hG⟩)))))))))), trivial⟩)))
     ·exact h1 (nw 36 (vs 2) [I v_14, I v_15] 3 fun g_16 => hk [2, 3, 4, 5, 6, 7] (ho [5] ⟨h1 (nw 33 (vs 2) [I v_3.Office, I v_3.Size, U v_3.Root, I v_3.Sig.C, I v_3.Sig.S, I v_9.Office, I v_9.Size, U v_9.Root, I v_9.Sig.C, I v_9.Sig.S] 27 fun g_13 => hk [3, 4, 5, 6, 7, 8] (ht [3, 4, 5, 6, 7, 8] [10, 11] [] f0 [(1, Sb g_13 2 2), (2, Sb g_16 2 2)] (he (tN (sB 8 g_1 Kb.cells tr ([(⟨77, ⟨0, 0⟩⟩ : Kb)] : List Kb) tr_mv et (sB 5 g_7 Kb.cells tr ([(⟨v_6, ⟨0, 0⟩⟩ : Kb), (⟨88, ⟨0, 0⟩⟩ : Kb)] : List Kb) tr_mv et (sB 2 g_12 Ka.cells Ka.ok ([(⟨1, (some ⟨g_1, 0, none⟩), 1, ([(⟨77, ⟨0, 0⟩⟩ : Kb)] : List Kb)⟩ : Ka), (⟨2, (some ⟨g_7, 0, none⟩), 2, ([(⟨v_6, ⟨0, 0⟩⟩ : Kb), (⟨88, ⟨0, 0⟩⟩ : Kb)] : List Kb)⟩ : Ka)] : List Ka) Ka.mv (ec (((gd' (RowC (some ⟨g_1, 0, none⟩) 1 Kb.cells tr ([(⟨77, ⟨0, 0⟩⟩ : Kb)] : List Kb)) 8)).m fun _ _ h => ⟨h⟩) (ec (((gd' (RowC (some ⟨g_7, 0, none⟩) 2 Kb.cells tr ([(⟨v_6, ⟨0, 0⟩⟩ : Kb), (⟨88, ⟨0, 0⟩⟩ : Kb)] : List Kb)) 5)).m fun _ _ h => ⟨h⟩) e0)) (sB 0 g_13 Kc.cells tr ([v_3, v_9] : List Kc) tr_mv et (sB 1 g_16 c_i64 tr ([v_14, v_15] : List Int) tr_mv et (fun _ _ S k e => ⟨(some ⟨g_12, 0, none⟩), 2, (some ⟨g_13, 0, none⟩), 2, ([v_14, v_15] : List Int), (some ⟨g_16, 0, none⟩), 2, S, k.wk, e.sel [2, 0, 1], oi hG⟩)))))))))), trivial⟩))
   ·refine h1 (nw 33 (vs 2) [I v_3.Office, I v_3.Size, U v_3.Root, I v_3.Sig.C, I v_3.Sig.S, I v_9.Office, I v_9.Size, U v_9.Root, I v_9.Sig.C, I v_9.Sig.S] 27 fun g_13 => hk [1, 2, 3, 4, 5, 6] (ho [2, 7] ⟨?_, ?_, trivial⟩))
    ·exact h1 (nw 30 (vs 2) [I 1, Sb g_1 1 1, I 2, Sb g_7 2 2] 53 fun g_12 => hk [2, 3, 4, 5, 6, 7] (ho [7] ⟨h1 (cl 35 (zd F 7 _ hy_15) hT trivial (hk [2, 3, 4, 5, 6, 7] (ht [2, 3, 4, 5, 6, 7] [9, 10] [] f0 [(0, Sb g_12 2 2), (1, Sb g_13 2 2)] (ho [8] ⟨h1 (nw 36 (vs 2) [I v_14, I v_15] 3 fun g_16 => hk [3, 4, 5, 6, 7, 8] (ht [3, 4, 5, 6, 7, 8] [11] [] f0 [(2, Sb g_16 2 2)] (he (tN (sB 8 g_1 Kb.cells tr ([(⟨77, ⟨0, 0⟩⟩ : Kb)] : List Kb) tr_mv et (sB 5 g_7 Kb.cells tr ([(⟨v_6, ⟨0, 0⟩⟩ : Kb), (⟨88, ⟨0, 0⟩⟩ : Kb)] : List Kb) tr_mv et (sB 1 g_12 Ka.cells Ka.ok ([(⟨1, (some ⟨g_1, 0, none⟩), 1, ([(⟨77, ⟨0, 0⟩⟩ : Kb)] : List Kb)⟩ : Ka), (⟨2, (some ⟨g_7, 0, none⟩), 2, ([(⟨v_6, ⟨0, 0⟩⟩ : Kb), (⟨88, ⟨0, 0⟩⟩ : Kb)] : List Kb)⟩ : Ka)] : List Ka) Ka.mv (ec (((gd' (RowC (some ⟨g_1, 0, none⟩) 1 Kb.cells tr ([(⟨77, ⟨0, 0⟩⟩ : Kb)] : List Kb)) 8)).m fun _ _ h => ⟨h⟩) (ec (((gd' (RowC (some ⟨g_7, 0, none⟩) 2 Kb.cells tr ([(⟨v_6, ⟨0, 0⟩⟩ : Kb), (⟨88, ⟨0, 0⟩⟩ : Kb)] : List Kb)) 5)).m fun _ _ h => ⟨h⟩) e0)) (sB 2 g_13 Kc.cells tr ([v_3, v_9] : List Kc) tr_mv et (sB 0 g_16 c_i64 tr ([v_14, v_15] : List Int) tr_mv et (fun _ _ S k e => ⟨(some ⟨g_12, 0, none⟩), 2, (some ⟨g_13, 0, none⟩), 2, ([v_14, v_15] : List Int), (some ⟨g_16, 0, none⟩), 2, S, k.wk, e.sel [1, 2, 0], oi hG⟩)))))))))), trivial⟩)))), trivial⟩))
    ·refine h1 (cl 35 (zd F 7 _ hy_15) hT trivial (hk [1, 2, 3, 4, 5, 6] (ho [2, 8] ⟨?_, ?_, trivial⟩)))
     ·exact h1 (nw 30 (vs 2) [I 1, Sb g_1 1 1, I 2, Sb g_7 2 2] 53 fun g_12 => hk [2, 3, 4, 5, 6, 7] (ht [2, 3, 4, 5, 6, 7] [9, 10] [] f0 [(0, Sb g_12 2 2), (1, Sb g_13 2 2)] (ho [8] ⟨h1 (nw 36 (vs 2) [I v_14, I v_15] 3 fun g_16 => hk [3, 4, 5, 6, 7, 8] (ht [3, 4, 5, 6, 7, 8] [11] [] f0 [(2, Sb g_16 2 2)] (he (tN (sB 8 g_1 Kb.cells tr ([(⟨77, ⟨0, 0⟩⟩ : Kb)] : List Kb) tr_mv et (sB 5 g_7 Kb.cells tr ([(⟨v_6, ⟨0, 0⟩⟩ : Kb), (⟨88, ⟨0, 0⟩⟩ : Kb)] : List Kb) tr_mv et (sB 1 g_12 Ka.cells Ka.ok ([(⟨1, (some ⟨g_1, 0, none⟩), 1, ([(⟨77, ⟨0, 0⟩⟩ : Kb)] : List Kb)⟩ : Ka), (⟨2, (some ⟨g_7, 0, none⟩), 2, ([(⟨v_6, ⟨0, 0⟩⟩ : Kb), (⟨88, ⟨0, 0⟩⟩ : Kb)] : List Kb)⟩ : Ka)] : List Ka) Ka.mv (ec (((gd' (RowC (some ⟨g_1, 0, none⟩) 1 Kb.cells tr ([(⟨77, ⟨0, 0⟩⟩ : Kb)] : List Kb)) 8)).m fun _ _ h => ⟨h⟩) (ec (((gd' (RowC (some ⟨g_7, 0, none⟩) 2 Kb.cells tr ([(⟨v_6, ⟨0, 0⟩⟩ : Kb), (⟨88, ⟨0, 0⟩⟩ : Kb)] : List Kb)) 5)).m fun _ _ h => ⟨h⟩) e0)) (sB 2 g_13 Kc.cells tr ([v_3, v_9] : List Kc) tr_mv et (sB 0 g_16 c_i64 tr ([v_14, v_15] : List Int) tr_mv et (fun _ _ S k e => ⟨(some ⟨g_12, 0, none⟩), 2, (some ⟨g_13, 0, none⟩), 2, ([v_14, v_15] : List Int), (some ⟨g_16, 0, none⟩), 2, S, k.wk, e.sel [1, 2, 0], oi hG⟩)))))))))), trivial⟩)))
     ·exact h1 (nw 36 (vs 2) [I v_14, I v_15] 3 fun g_16 => hk [2, 3, 4, 5, 6, 7] (ho [2] ⟨h1 (nw 30 (vs 2) [I 1, Sb g_1 1 1, I 2, Sb g_7 2 2] 53 fun g_12 => hk [3, 4, 5, 6, 7, 8] (ht [3, 4, 5, 6, 7, 8] [9, 10, 11] [] f0 (ns 0 [Sb g_12 2 2, Sb g_13 2 2, Sb g_16 2 2]) (he (tN (sB 8 g_1 Kb.cells tr ([(⟨77, ⟨0, 0⟩⟩ : Kb)] : List Kb) tr_mv et (sB 5 g_7 Kb.cells tr ([(⟨v_6, ⟨0, 0⟩⟩ : Kb), (⟨88, ⟨0, 0⟩⟩ : Kb)] : List Kb) tr_mv et (sB 0 g_12 Ka.cells Ka.ok ([(⟨1, (some ⟨g_1, 0, none⟩), 1, ([(⟨77, ⟨0, 0⟩⟩ : Kb)] : List Kb)⟩ : Ka), (⟨2, (some ⟨g_7, 0, none⟩), 2, ([(⟨v_6, ⟨0, 0⟩⟩ : Kb), (⟨88, ⟨0, 0⟩⟩ : Kb)] : List Kb)⟩ : Ka)] : List Ka) Ka.mv (ec (((gd' (RowC (some ⟨g_1, 0, none⟩) 1 Kb.cells tr ([(⟨77, ⟨0, 0⟩⟩ : Kb)] : List Kb)) 8)).m fun _ _ h => ⟨h⟩) (ec (((gd' (RowC (some ⟨g_7, 0, none⟩) 2 Kb.cells tr ([(⟨v_6, ⟨0, 0⟩⟩ : Kb), (⟨88, ⟨0, 0⟩⟩ : Kb)] : List Kb)) 5)).m fun _ _ h => ⟨h⟩) e0)) (sB 2 g_13 Kc.cells tr ([v_3, v_9] : List Kc) tr_mv et (sB 1 g_16 c_i64 tr ([v_14, v_15] : List Int) tr_mv et (fun _ _ S k e => ⟨(some ⟨g_12, 0, none⟩), 2, (some ⟨g_13, 0, none⟩), 2, ([v_14, v_15] : List Int), (some ⟨g_16, 0, none⟩), 2, S, k.wk, e.sel [0, 2, 1], oi hG⟩)))))))))), trivial⟩))
   ·refine h1 (cl 35 (zd F 7 _ hy_15) hT trivial (hk [0, 1, 2, 3, 4, 5] (ho [2, 5, 8] ⟨?_, ?_, ?_, trivial⟩)))
    ·refine h1 (nw 30 (vs 2) [I 1, Sb g_1 1 1, I 2, Sb g_7 2 2] 53 fun g_12 => hk [1, 2, 3, 4, 5, 6] (ht [1, 2, 3, 4, 5, 6] [9] [] f0 [(0, Sb g_12 2 2)] (ho [5, 8] ⟨?_, ?_, trivial⟩)))
     ·exact h1 (nw 33 (vs 2) [I v_3.Office, I v_3.Size, U v_3.Root, I v_3.Sig.C, I v_3.Sig.S, I v_9.Office, I v_9.Size, U v_9.Root, I v_9.Sig.C, I v_9.Sig.S] 27 fun g_13 => hk [2, 3, 4, 5, 6, 7] (ht [2, 3, 4, 5, 6, 7] [10] [] f0 [(1, Sb g_13 2 2)] (ho [8] ⟨h1 (nw 36 (vs 2) [I v_14, I v_15] 3 fun g_16 => hk [3, 4, 5, 6, 7, 8] (ht [3, 4, 5, 6, 7, 8] [11] [] f0 [(2, Sb g_16 2 2)] (he (tN (sB 8 g_1 Kb.cells tr ([(⟨77, ⟨0, 0⟩⟩ : Kb)] : List Kb) tr_mv et (sB 5 g_7 Kb.cells tr ([(⟨v_6, ⟨0, 0⟩⟩ : Kb), (⟨88, ⟨0, 0⟩⟩ : Kb)] : List Kb) tr_mv et (sB 2 g_12 Ka.cells Ka.ok ([(⟨1, (some ⟨g_1, 0, none⟩), 1, ([(⟨77, ⟨0, 0⟩⟩ : Kb)] : List Kb)⟩ : Ka), (⟨2, (some ⟨g_7, 0, none⟩), 2, ([(⟨v_6, ⟨0, 0⟩⟩ : Kb), (⟨88, ⟨0, 0⟩⟩ : Kb)] : List Kb)⟩ : Ka)] : List Ka) Ka.mv (ec (((gd' (RowC (some ⟨g_1, 0, none⟩) 1 Kb.cells tr ([(⟨77, ⟨0, 0⟩⟩ : Kb)] : List Kb)) 8)).m fun _ _ h => ⟨h⟩) (ec (((gd' (RowC (some ⟨g_7, 0, none⟩) 2 Kb.cells tr ([(⟨v_6, ⟨0, 0⟩⟩ : Kb), (⟨88, ⟨0, 0⟩⟩ : Kb)] : List Kb)) 5)).m fun _ _ h => ⟨h⟩) e0)) (sB 1 g_13 Kc.cells tr ([v_3, v_9] : List Kc) tr_mv et (sB 0 g_16 c_i64 tr ([v_14, v_15] : List Int) tr_mv et (fun _ _ S k e => ⟨(some ⟨g_12, 0, none⟩), 2, (some ⟨g_13, 0, none⟩), 2, ([v_14, v_15] : List Int), (some ⟨g_16, 0, none⟩), 2, S, k.wk, e.sel [2, 1, 0], oi hG⟩)))))))))), trivial⟩)))
     ·exact h1 (nw 36 (vs 2) [I v_14, I v_15] 3 fun g_16 => hk [2, 3, 4, 5, 6, 7] (ho [5] ⟨h1 (nw 33 (vs 2) [I v_3.Office, I v_3.Size, U v_3.Root, I v_3.Sig.C, I v_3.Sig.S, I v_9.Office, I v_9.Size, U v_9.Root, I v_9.Sig.C, I v_9.Sig.S] 27 fun g_13 => hk [3, 4, 5, 6, 7, 8] (ht [3, 4, 5, 6, 7, 8] [10, 11] [] f0 [(1, Sb g_13 2 2), (2, Sb g_16 2 2)] (he (tN (sB 8 g_1 Kb.cells tr ([(⟨77, ⟨0, 0⟩⟩ : Kb)] : List Kb) tr_mv et (sB 5 g_7 Kb.cells tr ([(⟨v_6, ⟨0, 0⟩⟩ : Kb), (⟨88, ⟨0, 0⟩⟩ : Kb)] : List Kb) tr_mv et (sB 2 g_12 Ka.cells Ka.ok ([(⟨1, (some ⟨g_1, 0, none⟩), 1, ([(⟨77, ⟨0, 0⟩⟩ : Kb)] : List Kb)⟩ : Ka), (⟨2, (some ⟨g_7, 0, none⟩), 2, ([(⟨v_6, ⟨0, 0⟩⟩ : Kb), (⟨88, ⟨0, 0⟩⟩ : Kb)] : List Kb)⟩ : Ka)] : List Ka) Ka.mv (ec (((gd' (RowC (some ⟨g_1, 0, none⟩) 1 Kb.cells tr ([(⟨77, ⟨0, 0⟩⟩ : Kb)] : List Kb)) 8)).m fun _ _ h => ⟨h⟩) (ec (((gd' (RowC (some ⟨g_7, 0, none⟩) 2 Kb.cells tr ([(⟨v_6, ⟨0, 0⟩⟩ : Kb), (⟨88, ⟨0, 0⟩⟩ : Kb)] : List Kb)) 5)).m fun _ _ h => ⟨h⟩) e0)) (sB 0 g_13 Kc.cells tr ([v_3, v_9] : List Kc) tr_mv et (sB 1 g_16 c_i64 tr ([v_14, v_15] : List Int) tr_mv et (fun _ _ S k e => ⟨(some ⟨g_12, 0, none⟩), 2, (some ⟨g_13, 0, none⟩), 2, ([v_14, v_15] : List Int), (some ⟨g_16, 0, none⟩), 2, S, k.wk, e.sel [2, 0, 1], oi hG⟩)))))))))), trivial⟩))
    ·refine h1 (nw 33 (vs 2) [I v_3.Office, I v_3.Size, U v_3.Root, I v_3.Sig.C, I v_3.Sig.S, I v_9.Office, I v_9.Size, U v_9.Root, I v_9.Sig.C, I v_9.Sig.S] 27 fun g_13 => hk [1, 2, 3, 4, 5, 6] (ho [2, 8] ⟨?_, ?_, trivial⟩))
     ·exact h1 (nw 30 (vs 2) [I 1, Sb g_1 1 1, I 2, Sb g_7 2 2] 53 fun g_12 => hk [2, 3, 4, 5, 6, 7] (ht [2, 3, 4, 5, 6, 7] [9, 10] [] f0 [(0, Sb g_12 2 2), (1, Sb g_13 2 2)] (ho [8] ⟨h1 (nw 36 (vs 2) [I v_14, I v_15] 3 fun g_16 => hk [3, 4, 5, 6, 7, 8] (ht [3, 4, 5, 6, 7, 8] [11] [] f0 [(2, Sb g_16 2 2)] (he (tN (sB 8 g_1 Kb.cells tr ([(⟨77, ⟨0, 0⟩⟩ : Kb)] : List Kb) tr_mv et (sB 5 g_7 Kb.cells tr ([(⟨v_6, ⟨0, 0⟩⟩ : Kb), (⟨88, ⟨0, 0⟩⟩ : Kb)] : List Kb) tr_mv et (sB 1 g_12 Ka.cells Ka.ok ([(⟨1, (some ⟨g_1, 0, none⟩), 1, ([(⟨77, ⟨0, 0⟩⟩ : Kb)] : List Kb)⟩ : Ka), (⟨2, (some ⟨g_7, 0, none⟩), 2, ([(⟨v_6, ⟨0, 0⟩⟩ : Kb), (⟨88, ⟨0, 0⟩⟩ : Kb)] : List Kb)⟩ : Ka)] : List Ka) Ka.mv (ec (((gd' (RowC (some ⟨g_1, 0, none⟩) 1 Kb.cells tr ([(⟨77, ⟨0, 0⟩⟩ : Kb)] : List Kb)) 8)).m fun _ _ h => ⟨h⟩) (ec (((gd' (RowC (some ⟨g_7, 0, none⟩) 2 Kb.cells tr ([(⟨v_6, ⟨0, 0⟩⟩ : Kb), (⟨88, ⟨0, 0⟩⟩ : Kb)] : List Kb)) 5)).m fun _ _ h => ⟨h⟩) e0)) (sB 2 g_13 Kc.cells tr ([v_3, v_9] : List Kc) tr_mv et (sB 0 g_16 c_i64 tr ([v_14, v_15] : List Int) tr_mv et (fun _ _ S k e => ⟨(some ⟨g_12, 0, none⟩), 2, (some ⟨g_13, 0, none⟩), 2, ([v_14, v_15] : List Int), (some ⟨g_16, 0, none⟩), 2, S, k.wk, e.sel [1, 2, 0], oi hG⟩)))))))))), trivial⟩)))
     ·exact h1 (nw 36 (vs 2) [I v_14, I v_15] 3 fun g_16 => hk [2, 3, 4, 5, 6, 7] (ho [2] ⟨h1 (nw 30 (vs 2) [I 1, Sb g_1 1 1, I 2, Sb g_7 2 2] 53 fun g_12 => hk [3, 4, 5, 6, 7, 8] (ht [3, 4, 5, 6, 7, 8] [9, 10, 11] [] f0 (ns 0 [Sb g_12 2 2, Sb g_13 2 2, Sb g_16 2 2]) (he (tN (sB 8 g_1 Kb.cells tr ([(⟨77, ⟨0, 0⟩⟩ : Kb)] : List Kb) tr_mv et (sB 5 g_7 Kb.cells tr ([(⟨v_6, ⟨0, 0⟩⟩ : Kb), (⟨88, ⟨0, 0⟩⟩ : Kb)] : List Kb) tr_mv et (sB 0 g_12 Ka.cells Ka.ok ([(⟨1, (some ⟨g_1, 0, none⟩), 1, ([(⟨77, ⟨0, 0⟩⟩ : Kb)] : List Kb)⟩ : Ka), (⟨2, (some ⟨g_7, 0, none⟩), 2, ([(⟨v_6, ⟨0, 0⟩⟩ : Kb), (⟨88, ⟨0, 0⟩⟩ : Kb)] : List Kb)⟩ : Ka)] : List Ka) Ka.mv (ec (((gd' (RowC (some ⟨g_1, 0, none⟩) 1 Kb.cells tr ([(⟨77, ⟨0, 0⟩⟩ : Kb)] : List Kb)) 8)).m fun _ _ h => ⟨h⟩) (ec (((gd' (RowC (some ⟨g_7, 0, none⟩) 2 Kb.cells tr ([(⟨v_6, ⟨0, 0⟩⟩ : Kb), (⟨88, ⟨0, 0⟩⟩ : Kb)] : List Kb)) 5)).m fun _ _ h => ⟨h⟩) e0)) (sB 2 g_13 Kc.cells tr ([v_3, v_9] : List Kc) tr_mv et (sB 1 g_16 c_i64 tr ([v_14, v_15] : List Int) tr_mv et (fun _ _ S k e => ⟨(some ⟨g_12, 0, none⟩), 2, (some ⟨g_13, 0, none⟩), 2, ([v_14, v_15] : List Int), (some ⟨g_16, 0, none⟩), 2, S, k.wk, e.sel [0, 2, 1], oi hG⟩)))))))))), trivial⟩))
    ·refine h1 (nw 36 (vs 2) [I v_14, I v_15] 3 fun g_16 => hk [1, 2, 3, 4, 5, 6] (ho [2, 5] ⟨?_, ?_, trivial⟩))
     ·exact h1 (nw 30 (vs 2) [I 1, Sb g_1 1 1, I 2, Sb g_7 2 2] 53 fun g_12 => hk [2, 3, 4, 5, 6, 7] (ht [2, 3, 4, 5, 6, 7] [9] [] f0 [(0, Sb g_12 2 2)] (ho [5] ⟨h1 (nw 33 (vs 2) [I v_3.Office, I v_3.Size, U v_3.Root, I v_3.Sig.C, I v_3.Sig.S, I v_9.Office, I v_9.Size, U v_9.Root, I v_9.Sig.C, I v_9.Sig.S] 27 fun g_13 => hk [3, 4, 5, 6, 7, 8] (ht [3, 4, 5, 6, 7, 8] [10, 11] [] f0 [(1, Sb g_13 2 2), (2, Sb g_16 2 2)] (he (tN (sB 8 g_1 Kb.cells tr ([(⟨77, ⟨0, 0⟩⟩ : Kb)] : List Kb) tr_mv et (sB 5 g_7 Kb.cells tr ([(⟨v_6, ⟨0, 0⟩⟩ : Kb), (⟨88, ⟨0, 0⟩⟩ : Kb)] : List Kb) tr_mv et (sB 1 g_12 Ka.cells Ka.ok ([(⟨1, (some ⟨g_1, 0, none⟩), 1, ([(⟨77, ⟨0, 0⟩⟩ : Kb)] : List Kb)⟩ : Ka), (⟨2, (some ⟨g_7, 0, none⟩), 2, ([(⟨v_6, ⟨0, 0⟩⟩ : Kb), (⟨88, ⟨0, 0⟩⟩ : Kb)] : List Kb)⟩ : Ka)] : List Ka) Ka.mv (ec (((gd' (RowC (some ⟨g_1, 0, none⟩) 1 Kb.cells tr ([(⟨77, ⟨0, 0⟩⟩ : Kb)] : List Kb)) 8)).m fun _ _ h => ⟨h⟩) (ec (((gd' (RowC (some ⟨g_7, 0, none⟩) 2 Kb.cells tr ([(⟨v_6, ⟨0, 0⟩⟩ : Kb), (⟨88, ⟨0, 0⟩⟩ : Kb)] : List Kb)) 5)).m fun _ _ h => ⟨h⟩) e0)) (sB 0 g_13 Kc.cells tr ([v_3, v_9] : List Kc) tr_mv et (sB 2 g_16 c_i64 tr ([v_14, v_15] : List Int) tr_mv et (fun _ _ S k e => ⟨(some ⟨g_12, 0, none⟩), 2, (some ⟨g_13, 0, none⟩), 2, ([v_14, v_15] : List Int), (some ⟨g_16, 0, none⟩), 2, S, k.wk, e.sel [1, 0, 2], oi hG⟩)))))))))), trivial⟩)))
     ·exact h1 (nw 33 (vs 2) [I v_3.Office, I v_3.Size, U v_3.Root, I v_3.Sig.C, I v_3.Sig.S, I v_9.Office, I v_9.Size, U v_9.Root, I v_9.Sig.C, I v_9.Sig.S] 27 fun g_13 => hk [2, 3, 4, 5, 6, 7] (ho [2] ⟨h1 (nw 30 (vs 2) [I 1, Sb g_1 1 1, I 2, Sb g_7 2 2] 53 fun g_12 => hk [3, 4, 5, 6, 7, 8] (ht [3, 4, 5, 6, 7, 8] [9, 10, 11] [] f0 (ns 0 [Sb g_12 2 2, Sb g_13 2 2, Sb g_16 2 2]) (he (tN (sB 8 g_1 Kb.cells tr ([(⟨77, ⟨0, 0⟩⟩ : Kb)] : List Kb) tr_mv et (sB 5 g_7 Kb.cells tr ([(⟨v_6, ⟨0, 0⟩⟩ : Kb), (⟨88, ⟨0, 0⟩⟩ : Kb)] : List Kb) tr_mv et (sB 0 g_12 Ka.cells Ka.ok ([(⟨1, (some ⟨g_1, 0, none⟩), 1, ([(⟨77, ⟨0, 0⟩⟩ : Kb)] : List Kb)⟩ : Ka), (⟨2, (some ⟨g_7, 0, none⟩), 2, ([(⟨v_6, ⟨0, 0⟩⟩ : Kb), (⟨88, ⟨0, 0⟩⟩ : Kb)] : List Kb)⟩ : Ka)] : List Ka) Ka.mv (ec (((gd' (RowC (some ⟨g_1, 0, none⟩) 1 Kb.cells tr ([(⟨77, ⟨0, 0⟩⟩ : Kb)] : List Kb)) 8)).m fun _ _ h => ⟨h⟩) (ec (((gd' (RowC (some ⟨g_7, 0, none⟩) 2 Kb.cells tr ([(⟨v_6, ⟨0, 0⟩⟩ : Kb), (⟨88, ⟨0, 0⟩⟩ : Kb)] : List Kb)) 5)).m fun _ _ h => ⟨h⟩) e0)) (sB 1 g_13 Kc.cells tr ([v_3, v_9] : List Kc) tr_mv et (sB 2 g_16 c_i64 tr ([v_14, v_15] : List Int) tr_mv et (fun _ _ S k e => ⟨(some ⟨g_12, 0, none⟩), 2, (some ⟨g_13, 0, none⟩), 2, ([v_14, v_15] : List Int), (some ⟨g_16, 0, none⟩), 2, S, k.wk, e.sel [0, 1, 2], oi hG⟩)))))))))), trivial⟩))
 ·rintro a w ⟨v_18_A, v_19_c, v_20_A, v_21_c, v_22, v_23_A, v_24_c, hJ⟩; refine hJ.go ?_; clear hJ; rintro rfl; replace hG := hG_17; refine kR ?_; obtain rfl := oi hG; exact rtn [] (⟨v_18_A, v_19_c, ([(⟨1, (some ⟨g_1, 0, none⟩), 1, ([(⟨77, ⟨0, 0⟩⟩ : Kb)] : List Kb)⟩ : Ka), (⟨2, (some ⟨g_7, 0, none⟩), 2, ([(⟨v_6, ⟨0, 0⟩⟩ : Kb), (⟨88, ⟨0, 0⟩⟩ : Kb)] : List Kb)⟩ : Ka)] : List Ka)⟩, ⟨v_20_A, v_21_c, ([v_3, v_9] : List Kc)⟩, ⟨v_23_A, v_24_c, v_22⟩) ⟨rfl, rfl, rfl⟩ ⟨gi 0, gi 1, gi 2, trivial⟩
end Go.Proofs.YtggaodokkcoagaaGreatDoor
