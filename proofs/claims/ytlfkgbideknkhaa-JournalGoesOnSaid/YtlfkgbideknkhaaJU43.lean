/-
  Texts joined: Z5, Z6, Z7, Z8, Z9, Z10, Jn37, Jr37, Vr37, Ri37, Vi37, Jl37.
-/
import Derived.Test.YtlfkgbideknkhaaProg
import Derived.RangeFuncCalls
import Derived.OrdersIn
import Derived.RangeFuncLeaves
import Derived.Test.YtlfkgbideknkhaaJU41
import Derived.Test.YtlfkgbideknkhaaJU42
set_option linter.unusedSimpArgs false
set_option linter.unusedVariables false
namespace Go.Proofs.Ytlfkgbideknkhaa
open Go.RowKit Go.Maps
def G_codec_Frame (F : Nat) (p_0 : List Int) : Option ((List Int) × Int) :=
 Option.bind (G_codec_Put F p_0) (un2 fun v_1 v_2 =>
 ifB ((v_2 == 0))
  (Option.bind (apG 1 ([IntKind.u8.wrap (Int.fdiv ((v_1.length : Nat) : Int) (2 ^ 16)), IntKind.u8.wrap (Int.fdiv ((v_1.length : Nat) : Int) (2 ^ 8)), IntKind.u8.wrap ((v_1.length : Nat) : Int)] : List Int) v_1) (fun v_5 =>
  Option.bind (G_codec_sum F v_5) (fun v_6 =>
  Option.bind (apG 1 v_5 ([v_6.f0, v_6.f1, v_6.f2, v_6.f3, v_6.f4, v_6.f5, v_6.f6, v_6.f7] : List Int)) (fun v_8 =>
  some (v_8, 0)))))
  (some (([] : List Int), v_2)))
set_option maxRecDepth 100000 in
set_option maxHeartbeats 16000000 in
theorem z_codec_Frame (F : Nat) (p_0_A : Option Addr) (p_0_c : Nat) (p_0 : List Int) (r : (List Int) × Int) (hG : G_codec_Frame F p_0 = some r) :
  Cg Try.prog 28 [.slice p_0_A p_0.length p_0_c] [RowC p_0_A p_0_c c_i64 tr p_0] (fun q : KSuint8L => r.1 = q.l) (fun q => .tuple #[.slice q.A q.l.length q.c, I r.2]) (fun q => [RowC q.A q.c c_u8 tr q.l]) := by
 unfold G_codec_Frame at hG
 try simp only [List.length_map, KLeaderL.n_Open] at hG
 refine fing Try.func28 rfl rfl (mr tr_mv m0) fun S0 w0 hT => sq (rg (ra [] f0 [] (tN (sq ?_))))
 obtain ⟨v_1o, v_2, hy_1, hG⟩ := b2 hG; refine rg (rn 1 [] f0 [(9, .slice p_0_A p_0.length p_0_c)] (l1 (cgn 10 (z_codec_Put F p_0_A p_0_c p_0 _ hy_1) hT (fun _ => (mr tr_mv m0)) ⟨ga 0, trivial⟩ ?_))); rintro ⟨v_1_A, v_1_c, v_1⟩ hq_1; obtain rfl : v_1 = v_1o := hq_1.symm
 try simp only [List.length_map, KLeaderL.n_Open] at hG
 refine ra [] f0 [(4, .slice v_1_A v_1.length v_1_c), (5, I v_2)] (tN (sq (sq (rg (ra [] f0 [(14, B (!(v_2 == 0)))] (tN ?_)))))); rcases ic hG with ⟨h_3, hG⟩ | ⟨h_3, hG⟩
 ·refine sb 14 (nt h_3) (cf (kS (tN (sq ?_)))); obtain ⟨v_5, hy_5, hG⟩ := bs hG; refine rg (rn 11 [] f0 [(19, Y (IntKind.u8.wrap (Int.fdiv ((v_1.length : Nat) : Int) (2 ^ 16)))), (23, Y (IntKind.u8.wrap (Int.fdiv ((v_1.length : Nat) : Int) (2 ^ 8)))), (26, Y (IntKind.u8.wrap ((v_1.length : Nat) : Int)))] (l1 (nw 27 (vs 3) [Y (IntKind.u8.wrap (Int.fdiv ((v_1.length : Nat) : Int) (2 ^ 16))), Y (IntKind.u8.wrap (Int.fdiv ((v_1.length : Nat) : Int) (2 ^ 8))), Y (IntKind.u8.wrap ((v_1.length : Nat) : Int))] 5 fun g_4 => rn 1 [] f0 [(28, .slice v_1_A v_1.length v_1_c)] (bo 0 1 3 g_4 5 [Y (IntKind.u8.wrap (Int.fdiv ((v_1.length : Nat) : Int) (2 ^ 16))), Y (IntKind.u8.wrap (Int.fdiv ((v_1.length : Nat) : Int) (2 ^ 8))), Y (IntKind.u8.wrap ((v_1.length : Nat) : Int))] (l1 (ap 0 29 (some ⟨g_4, 0, none⟩) 3 ([IntKind.u8.wrap (Int.fdiv ((v_1.length : Nat) : Int) (2 ^ 16)), IntKind.u8.wrap (Int.fdiv ((v_1.length : Nat) : Int) (2 ^ 8)), IntKind.u8.wrap ((v_1.length : Nat) : Int)] : List Int) v_1 inf22 ((gd' (RowC v_1_A v_1_c c_u8 tr v_1) 2).a) hy_5 one_u8 fun v_5_A v_5_c _ => ra [] f0 [(6, .slice v_5_A v_5.length v_5_c)] (tN (sq ?_)))))))); obtain ⟨v_6, hy_6, hG⟩ := bs hG; refine rg (rn 1 [] f0 [(30, .slice v_5_A v_5.length v_5_c)] (l1 (cl 31 (z_codec_sum F v_5_A v_5_c v_5 _ hy_6) hT ⟨oa 0 et.a, trivial⟩ (l1 (nw 7 vp [Y 0, Y 0, Y 0, Y 0, Y 0, Y 0, Y 0, Y 0] 107 fun g_7 => l1 (sr 0 g_7 (ns 0 [Y v_6.f0, Y v_6.f1, Y v_6.f2, Y v_6.f3, Y v_6.f4, Y v_6.f5, Y v_6.f6, Y v_6.f7]) (nl (tN (sq ?_))))))))); obtain ⟨v_8, hy_8, hG⟩ := bs hG; refine rg (rn 2 [] f0 [(32, .slice v_5_A v_5.length v_5_c), (33, Sb g_7 8 8)] (l1 (ap 1 34 v_5_A v_5_c v_5 ([v_6.f0, v_6.f1, v_6.f2, v_6.f3, v_6.f4, v_6.f5, v_6.f6, v_6.f7] : List Int) inf22 (bA (f := c_u8) (ok := tr) (l := ([v_6.f0, v_6.f1, v_6.f2, v_6.f3, v_6.f4, v_6.f5, v_6.f6, v_6.f7] : List Int)) g_7 0 et.a) hy_8 one_u8 fun v_8_A v_8_c _ => ra [] f0 [(2, .slice v_8_A v_8.length v_8_c), (3, I 0)] (tN (kR ?_))))); obtain rfl := oi hG; exact rtg [] ⟨v_8_A, v_8_c, v_8⟩ rfl ⟨frO 1, trivial⟩
 ·refine sb 14 (nf h_3) (ct (sq (rg (ra [] f0 [(2, .slice none 0 0), (3, I v_2)] (tN (kR (tR ?_))))))); obtain rfl := oi hG; exact rtg [] ⟨none, 0, ([] : List Int)⟩ rfl ⟨frN, trivial⟩
def G_codec_Frames (F : Nat) (p_0 : List Int) : Option ((List (List Int)) × Int × Int) :=
  ifB (decide (((p_0.length : Nat) : Int) > 100000))
    (some (([] : List (List Int)), 0, 2))
    (Option.bind (Option.bind (G_codec_first F p_0) (un3 fun v_2 v_3 v_4 =>
      Option.bind (iter (σ := (List (List Int)) × Int × (List Int) × Int × Bool) (ρ := ((List (List Int)) × Int)) (un5 fun (v_28 : (List (List Int))) (v_31 : Int) (v_32 : (List Int)) (v_35 : Int) (v_36 : Bool) => 
          (ifB (v_36)
            (Option.bind (apG 24 v_28 ([v_32] : List (List Int))) (fun v_40 =>
            Option.bind (slI p_0 (IntKind.i64.wrap (v_31 + v_35)) ((p_0.length : Nat) : Int)) (fun v_41 =>
            Option.bind (G_codec_first F v_41) (un3 fun v_42 v_43 v_44 =>
            some (.inl (v_40, IntKind.i64.wrap (v_31 + v_35), v_42, v_43, v_44))))))
            (some (.inr (v_28, v_31))) : Option (((List (List Int)) × Int × (List Int) × Int × Bool) ⊕ ((List (List Int)) × Int)))) F (([] : List (List Int)), 0, v_2, v_3, v_4)) (un2 fun (v_45 : (List (List Int))) (v_48 : Int) => 
        some (v_45, v_48))) : Option (((List (List Int)) × Int))) (un2 fun (v_50 : (List (List Int))) (v_53 : Int) => 
      some (v_50, v_53, 0)))
set_option maxRecDepth 100000 in
set_option maxHeartbeats 16000000 in
theorem z_codec_Frames (F : Nat) (p_0_A : Option Addr) (p_0_c : Nat) (p_0 : List Int) (r : (List (List Int)) × Int × Int) (hG : G_codec_Frames F p_0 = some r) :
  Cn Try.prog 32 [.slice p_0_A p_0.length p_0_c] [RowC p_0_A p_0_c c_u8 tr p_0] (fun q : KS__intL => r.1 = (q.l.map KSintL.p)) (fun q => .tuple #[.slice q.A q.l.length q.c, I r.2.1, I r.2.2]) (fun q => [RowC q.A q.c KSintL.cells KSintL.ok q.l]) := by
 unfold G_codec_Frames at hG
 try simp only [List.length_map, KLeaderL.n_Open] at hG
 refine fin Try.func32 rfl rfl (mr tr_mv m0) fun S0 w0 hT => sq (rg (ra [] f0 [] (tN (sq (sq (rg (ra [] f0 [(12, B (decide (((p_0.length : Nat) : Int) > 100000)))] (tN ?_))))))))
 rcases ic hG with ⟨h_1, hG⟩ | ⟨h_1, hG⟩
 ·try simp only [List.length_map, KLeaderL.n_Open] at h_1
  refine sb 12 (bt h_1) (ct (sq (rg (ra [] f0 (ns 2 [.slice none 0 0, I 0, I 2]) (tN (kR (tR ?_))))))); obtain rfl := oi hG; exact rtn [] ⟨none, 0, ([] : List KSintL)⟩ rfl ⟨gn, trivial⟩
 ·try simp only [List.length_map, KLeaderL.n_Open] at h_1
  refine sb 12 (bf h_1) (cf (kS (tN (sq (rg (ra [] f0 [(5, .slice none 0 0)] (tN (sq (rg (ra [] f0 [(6, I 0)] (tN ?_))))))))))); obtain ⟨o_49, hG, hG_49⟩ := bs hG; refine jn (fun K E a w => ∃ (v_50 : List KSintL) (v_51_A : Option Addr) (v_52_c : Nat) (v_53 : Int), Js S0 w0 37 ([(5, .slice v_51_A v_50.length v_52_c), (6, I v_53)] ++ K) ([.own 45 1 (.slice v_51_A v_50.length v_52_c) v_50.length (v_50.flatMap KSintL.cells), .dat (Each KSintL.ok v_50)]) (((v_50.map KSintL.p), v_53) = o_49) a w) ?_ ?_
  ·refine sq ?_; obtain ⟨v_2o, v_3, v_4, hy_2, hG⟩ := b3 hG; refine rg (rn 1 [] f0 [(14, .slice p_0_A p_0.length p_0_c)] (l1 (cn 15 (z_codec_first F p_0_A p_0_c p_0 _ hy_2) hT (fun _ => (mr tr_mv m0)) ⟨gi 0, trivial⟩ ?_))); rintro ⟨v_2_A, v_2_c, v_2⟩ hq_2; obtain rfl : v_2 = v_2o := hq_2.symm
   try simp only [List.length_map, KLeaderL.n_Open] at hG
   refine ra [] f0 (ns 7 [.slice v_2_A v_2.length v_2_c, I v_3, B v_4]) (tN (bk ?_)); obtain ⟨e_37, hL, hG_37⟩ := bs hG; clear hG; obtain ⟨stp_37, hs_37, hL⟩ := iter_gen hL; refine lp (fun K E n_ a w => ∃ (v_28 : List KSintL) (v_29_A : Option Addr) (v_30_c : Nat) (v_31 : Int) (v_32 : List Int) (v_33_A : Option Addr) (v_34_c : Nat) (v_35 : Int) (v_36 : Bool), Js S0 w0 37 ((ns 5 [.slice v_29_A v_28.length v_30_c, I v_31, .slice v_33_A v_32.length v_34_c, I v_35, B v_36]) ++ K) ([.own 45 1 (.slice v_29_A v_28.length v_30_c) v_28.length (v_28.flatMap KSintL.cells), .dat (Each KSintL.ok v_28), .dat (RowC v_33_A v_34_c c_i64 tr v_32)] ++ se E [1]) (iter stp_37 n_ ((v_28.map KSintL.p), v_31, v_32, v_35, v_36) = some e_37) a w) F ?_ ?_
   ·exact on 45 1 (fm (Each KSintL.ok ([] : List KSintL)) e0 (fun _ _ S k e => ⟨([] : List KSintL), none, 0, 0, v_2, v_2_A, v_2_c, v_3, v_4, S, k.wk, e.sel [1, 0, 2, 3], hL⟩))
   ·clear hL; rintro n_37 a w ⟨v_28, v_29_A, v_30_c, v_31, v_32, v_33_A, v_34_c, v_35, v_36, hJ⟩; refine hJ.go fun hL => ?_
    clear hJ; obtain ⟨m_37, o_37, rfl, hG, hO1_37, hO2_37⟩ := iter_step hL; clear hL; rw [hs_37] at hG
    try simp only [List.length_map, KLeaderL.n_Open] at hG
    refine sq (sq (rg (ra [] f0 [(19, B v_36)] (tN ?_)))); rcases ic hG with ⟨h_38, hG⟩ | ⟨h_38, hG⟩
    ·refine sb 19 (bt h_38) (ct (kS (tN (sq (bk ?_))))); obtain ⟨v_40o, hy_40, hG⟩ := bs hG; refine rg (rn 2 [] f0 [(28, .slice v_29_A v_28.length v_30_c), (29, .slice v_33_A v_32.length v_34_c)] (l1 (nw 30 (vs 1) [.slice v_33_A v_32.length v_34_c] 45 fun g_39 => l1 (apn (p := KSintL.p) (ok := KSintL.ok) 1 31 v_29_A v_30_c v_28 ([(⟨v_33_A, v_34_c, v_32⟩ : KSintL)] : List KSintL) inf71 (bA (f := KSintL.cells) (ok := tr) (l := ([(⟨v_33_A, v_34_c, v_32⟩ : KSintL)] : List KSintL)) g_39 0 et.a) (gd' (Each KSintL.ok v_28) 2) (ec (((gd' (RowC v_33_A v_34_c c_i64 tr v_32) 3)).m fun _ _ h => ⟨h⟩) e0) hy_40 KSintL.one fun v_40 v_40_A v_40_c he_40 _ => ?_)))); subst he_40
     try simp only [List.length_map, KLeaderL.n_Open] at hG
     refine ra [] f0 [(5, .slice v_40_A v_40.length v_40_c), (6, I (IntKind.i64.wrap (v_31 + v_35)))] (hN (tN ?_)); obtain ⟨v_41, hy_41, hG⟩ := bs hG; obtain ⟨v_42o, v_43, v_44, hy_42, hG⟩ := b3 hG; refine rg (fp true false inf22 (gd' (RowC p_0_A p_0_c c_u8 tr p_0) 5) hy_41 fun v_41_A v_41_c hp_41 => rn 3 [(2, 0, 0, 0)] (fc (hp_41 .i64 .i64) f0) [(23, .slice v_41_A v_41.length v_41_c)] (l1 (cn 24 (z_codec_first F v_41_A v_41_c v_41 _ hy_42) hT (fun _ => (mr tr_mv m0)) ⟨gi 0, trivial⟩ ?_))); rintro ⟨v_42_A, v_42_c, v_42⟩ hq_42; obtain rfl : v_42 = v_42o := hq_42.symm
     try simp only [List.length_map, KLeaderL.n_Open] at hG
     exact ra [] f0 (ns 7 [.slice v_42_A v_42.length v_42_c, I v_43, B v_44]) (tN (fun a w S hK hE => ⟨m_37, ⟨v_40, v_40_A, v_40_c, IntKind.i64.wrap (v_31 + v_35), v_42, v_42_A, v_42_c, v_43, v_44, S, hK.wk, hE.sel [4, 2, 0, 7], hO1_37 _ (oi hG).symm⟩, Nat.lt_succ_self _⟩))
    ·refine sb 19 (bf h_38) (cf (kX (tX (tX ?_)))); have he_ := hO2_37 _ (oi hG).symm; subst he_; replace hG := hG_37
     try simp only [List.length_map, KLeaderL.n_Open] at hG
     exact hH (tN (fun _ _ S k e => ⟨v_28, v_29_A, v_30_c, v_31, S, k.wk, e.sel [0, 1], oi hG⟩))
  ·rintro a w ⟨v_50, v_51_A, v_52_c, v_53, hJ⟩; refine hJ.go fun ho_ => ?_
   clear hJ; subst ho_; replace hG := hG_49
   try simp only [List.length_map, KLeaderL.n_Open] at hG
   refine sq (rg (ra [] f0 (ns 2 [.slice v_51_A v_50.length v_52_c, I v_53, I 0]) (tN (kR ?_)))); obtain rfl := oi hG; exact so (A := v_51_A) (c := v_52_c) 0 KSintL.cells KSintL.ok v_50 KSintL.mv (gd' (Each KSintL.ok v_50) 1) (rtn [] ⟨v_51_A, v_52_c, v_50⟩ rfl ⟨gi 0, trivial⟩)
def G_versions_order (F : Nat) (p_0 : KVersion) (p_1 : KVersion) : Option (Int) :=
 Option.bind (G_cmp_Compare_int F p_0.Key p_1.Key) (fun v_3 =>
 Option.bind (G_cmp_Compare_int F p_0.Ts p_1.Ts) (fun v_4 =>
 Option.bind (G_cmp_Or_int F ([v_3, v_4] : List Int)) (fun v_6 =>
 some v_6)))
set_option maxRecDepth 100000 in
set_option maxHeartbeats 16000000 in
theorem z_versions_order (F : Nat) (p_0 : KVersion) (p_1 : KVersion) (r : Int) (hG : G_versions_order F p_0 p_1 = some r) :
  Cf Try.prog 72 [.agg #[I p_0.Key, I p_0.Ts, I p_0.Value, B p_0.Gone], .agg #[I p_1.Key, I p_1.Ts, I p_1.Value, B p_1.Gone]] [] (I r) := by
 unfold G_versions_order at hG; refine fi Try.func72 rfl rfl m0 fun S0 w0 hT => sq (rg (l1 (nw 2 vp [I p_0.Key, I p_0.Ts, I p_0.Value, B p_0.Gone] 61 fun g_1 => l1 (nw 3 vp [I p_1.Key, I p_1.Ts, I p_1.Value, B p_1.Gone] 61 fun g_2 => ra [] f0 [] (tN (sq ?_))))))
 obtain ⟨v_3, hy_3, hG⟩ := bs hG; obtain ⟨v_4, hy_4, hG⟩ := bs hG; obtain ⟨v_6, hy_6, hG⟩ := bs hG; refine hb [0, 1] (ht [0, 1] [0, 1, 2, 3, 5, 6, 7, 8] [(1, 1, 1, 0), (1, 1, 0, 0), (1, 1, 1, 1), (1, 1, 0, 1)] f0 [(6, I p_0.Key), (8, I p_1.Key), (11, I p_0.Ts), (13, I p_1.Ts)] (ho [4] ⟨h1 (cl 9 (z_cmp_Compare_int F p_0.Key p_1.Key _ hy_3) hT trivial (hk [0, 1] (ho [9] ⟨h1 (cl 14 (z_cmp_Compare_int F p_0.Ts p_1.Ts _ hy_4) hT trivial (hk [0, 1] (ho [10] ⟨h1 (nw 15 (vs 2) [I v_3, I v_4] 3 fun g_5 => hk [1, 2] (ho [11] ⟨h1 (cl 16 (z_cmp_Or_int F (some ⟨g_5, 0, none⟩) 2 ([v_3, v_4] : List Int) _ hy_6) hT ⟨ba 0 et.a, trivial⟩ (hk [1, 2] (ht [1, 2] [12] [] f0 [(4, I v_6)] (he (tN (kR ?_)))))), trivial⟩)), trivial⟩))), trivial⟩))), trivial⟩)); obtain rfl := oi hG; exact rt []
def G_versions_wellFormed (F : Nat) (p_0 : KVersion) : Option (Bool) :=
 Option.bind (Option.bind (G_versions_isKey F p_0.Key) (fun v_2 =>
  ifB (v_2)
   (Option.bind (G_versions_isStamp F p_0.Ts) (fun v_4 =>
   ifB (v_4)
    (Option.bind (G_versions_within F p_0.Value 0 1000000) (fun v_6 =>
    ifB (v_6)
     (ifB (p_0.Gone)
      (some (p_0.Value == 0))
      (some true))
     (some false)))
    (some false)))
   (some false)) : Option (Bool)) (fun (v_10 : Bool) =>
  some v_10)
set_option maxRecDepth 100000 in
set_option maxHeartbeats 16000000 in
theorem z_versions_wellFormed (F : Nat) (p_0 : KVersion) (r : Bool) (hG : G_versions_wellFormed F p_0 = some r) :
  Cf Try.prog 68 [.agg #[I p_0.Key, I p_0.Ts, I p_0.Value, B p_0.Gone]] [] (B r) := by
 unfold G_versions_wellFormed at hG; refine fi Try.func68 rfl rfl m0 fun S0 w0 hT => sq (rg (l1 (nw 1 vp [I p_0.Key, I p_0.Ts, I p_0.Value, B p_0.Gone] 61 fun g_1 => ra [] f0 [] (tN ?_))))
 obtain ⟨o_9, hG, hG_9⟩ := bs hG; refine jn (fun K E a w => ∃ v_10 : Bool, Js S0 w0 26 ([(2, B v_10)] ++ K) (se E []) (v_10 = o_9) a w) ?_ ?_
 ·obtain ⟨v_2, hy_2, hG⟩ := bs hG; rcases ic hG with ⟨h_3, hG⟩ | ⟨h_3, hG⟩
  ·obtain ⟨v_4, hy_4, hG⟩ := bs hG; rcases ic hG with ⟨h_5, hG⟩ | ⟨h_5, hG⟩
   ·obtain ⟨v_6, hy_6, hG⟩ := bs hG; rcases ic hG with ⟨h_7, hG⟩ | ⟨h_7, hG⟩
    ·rcases ic hG with ⟨h_8, hG⟩ | ⟨h_8, hG⟩
     ·exact rg (rn 2 [(1, 1, 0, 0)] f0 [(4, I p_0.Key)] (l1 (cl 5 (z_versions_isKey F p_0.Key _ hy_2) hT trivial (rn 1 [] f0 [(6, B v_2)] (sb 6 (bt h_3) (rn 2 [(1, 1, 0, 1)] f0 [(8, I p_0.Ts)] (l1 (cl 9 (z_versions_isStamp F p_0.Ts _ hy_4) hT trivial (rn 2 [] f0 [(11, B v_4)] (sb 11 (bt h_5) (rn 2 [(1, 1, 0, 2)] f0 [(13, I p_0.Value)] (l1 (cl 14 (z_versions_within F p_0.Value 0 1000000 _ hy_6) hT trivial (rn 2 [] f0 [(16, B v_6)] (sb 16 (bt h_7) (rn 4 [(1, 1, 0, 3)] f0 [(20, B (!p_0.Gone))] (sb 20 (nt h_8) (ra [(1, 1, 0, 2)] f0 [(2, B (p_0.Value == 0))] (tN (fun _ _ S k e => ⟨(p_0.Value == 0), S, k.wk, e.sel [], oi hG⟩))))))))))))))))))))
     ·exact rg (rn 2 [(1, 1, 0, 0)] f0 [(4, I p_0.Key)] (l1 (cl 5 (z_versions_isKey F p_0.Key _ hy_2) hT trivial (rn 1 [] f0 [(6, B v_2)] (sb 6 (bt h_3) (rn 2 [(1, 1, 0, 1)] f0 [(8, I p_0.Ts)] (l1 (cl 9 (z_versions_isStamp F p_0.Ts _ hy_4) hT trivial (rn 2 [] f0 [(11, B v_4)] (sb 11 (bt h_5) (rn 2 [(1, 1, 0, 2)] f0 [(13, I p_0.Value)] (l1 (cl 14 (z_versions_within F p_0.Value 0 1000000 _ hy_6) hT trivial (rn 2 [] f0 [(16, B v_6)] (sb 16 (bt h_7) (rn 4 [(1, 1, 0, 3)] f0 [(20, B (!p_0.Gone))] (sb 20 (nf h_8) (ra [] f0 [(2, B true)] (tN (fun _ _ S k e => ⟨true, S, k.wk, e.sel [], oi hG⟩))))))))))))))))))))
    ·exact rg (rn 2 [(1, 1, 0, 0)] f0 [(4, I p_0.Key)] (l1 (cl 5 (z_versions_isKey F p_0.Key _ hy_2) hT trivial (rn 1 [] f0 [(6, B v_2)] (sb 6 (bt h_3) (rn 2 [(1, 1, 0, 1)] f0 [(8, I p_0.Ts)] (l1 (cl 9 (z_versions_isStamp F p_0.Ts _ hy_4) hT trivial (rn 2 [] f0 [(11, B v_4)] (sb 11 (bt h_5) (rn 2 [(1, 1, 0, 2)] f0 [(13, I p_0.Value)] (l1 (cl 14 (z_versions_within F p_0.Value 0 1000000 _ hy_6) hT trivial (rn 2 [] f0 [(16, B v_6)] (sb 16 (bf h_7) (ra [] f0 [(2, B false)] (tN (fun _ _ S k e => ⟨false, S, k.wk, e.sel [], oi hG⟩))))))))))))))))))
   ·exact rg (rn 2 [(1, 1, 0, 0)] f0 [(4, I p_0.Key)] (l1 (cl 5 (z_versions_isKey F p_0.Key _ hy_2) hT trivial (rn 1 [] f0 [(6, B v_2)] (sb 6 (bt h_3) (rn 2 [(1, 1, 0, 1)] f0 [(8, I p_0.Ts)] (l1 (cl 9 (z_versions_isStamp F p_0.Ts _ hy_4) hT trivial (rn 2 [] f0 [(11, B v_4)] (sb 11 (bf h_5) (ra [] f0 [(2, B false)] (tN (fun _ _ S k e => ⟨false, S, k.wk, e.sel [], oi hG⟩)))))))))))))
  ·exact rg (rn 2 [(1, 1, 0, 0)] f0 [(4, I p_0.Key)] (l1 (cl 5 (z_versions_isKey F p_0.Key _ hy_2) hT trivial (rn 1 [] f0 [(6, B v_2)] (sb 6 (bf h_3) (ra [] f0 [(2, B false)] (tN (fun _ _ S k e => ⟨false, S, k.wk, e.sel [], oi hG⟩))))))))
 ·rintro a w ⟨v_10, hJ⟩; refine hJ.go fun ho_ => ?_
  clear hJ; subst ho_; replace hG := hG_9; refine kR ?_; obtain rfl := oi hG; exact rt []
def G_regulatorref34_Same (F : Nat) (p_0 : KLeader) (p_1 : KLeader) : Option (Bool) :=
  Option.bind (ifB ((p_0.Last == p_1.Last))
      (Option.bind (G_regulatorref33_Same F p_0.Store p_1.Store) (fun v_4 =>
      ifB (v_4)
        (Option.bind (G_regulatorref34_SameTxs F p_0.Open p_1.Open) (fun v_6 =>
        some v_6))
        (some false)))
      (some false) : Option (Bool)) (fun (v_8 : Bool) => 
    some v_8)
set_option maxRecDepth 100000 in
set_option maxHeartbeats 16000000 in
theorem z_regulatorref34_Same (F : Nat) (p_0 : KLeaderL) (p_1 : KLeaderL) (r : Bool) (hG : G_regulatorref34_Same F p_0.p p_1.p = some r) :
  Cf Try.prog 19 [.agg #[I p_0.Last, .slice p_0.Store_A p_0.Store.length p_0.Store_c, .slice p_0.Open_A p_0.Open.length p_0.Open_c], .agg #[I p_1.Last, .slice p_1.Store_A p_1.Store.length p_1.Store_c, .slice p_1.Open_A p_1.Open.length p_1.Open_c]] [KLeaderL.ok p_0, KLeaderL.ok p_1] (B r) := by
 unfold G_regulatorref34_Same at hG
 try simp only [List.length_map, KLeaderL.n_Open] at hG
 refine fi Try.func19 rfl rfl (mc KLeaderL.mv (mc KLeaderL.mv m0)) fun S0 w0 hT => sq (rg (l1 (nw 2 vp [I p_0.Last, .slice p_0.Store_A p_0.Store.length p_0.Store_c, .slice p_0.Open_A p_0.Open.length p_0.Open_c] 40 fun g_1 => l1 (nw 3 vp [I p_1.Last, .slice p_1.Store_A p_1.Store.length p_1.Store_c, .slice p_1.Open_A p_1.Open.length p_1.Open_c] 40 fun g_2 => ra [] f0 [] (tN ?_)))))
 obtain ⟨o_7, hG, hG_7⟩ := bs hG; refine jn (fun K E a w => ∃ v_8 : Bool, Js S0 w0 24 ([(4, B v_8)] ++ K) (se E []) (v_8 = o_7) a w) ?_ ?_
 ·rcases ic hG with ⟨h_3, hG⟩ | ⟨h_3, hG⟩
  ·obtain ⟨v_4, hy_4, hG⟩ := bs hG; rcases ic hG with ⟨h_5, hG⟩ | ⟨h_5, hG⟩
   ·obtain ⟨v_6, hy_6, hG⟩ := bs hG; exact rg (rn 6 [(1, 1, 1, 0), (1, 1, 0, 0)] f0 [(10, B (p_0.Last == p_1.Last))] (sb 10 (bt h_3) (rn 4 [(1, 1, 1, 1), (1, 1, 0, 1)] f0 [(12, .slice p_0.Store_A p_0.Store.length p_0.Store_c), (14, .slice p_1.Store_A p_1.Store.length p_1.Store_c)] (l1 (cl 15 (z_regulatorref33_Same F p_0.Store_A p_0.Store_c p_0.Store p_1.Store_A p_1.Store_c p_1.Store _ hy_4) hT ⟨(gm (KLeaderL.ok p_0) 2 fun _ _ h => h.f_Store).a, (gm (KLeaderL.ok p_1) 3 fun _ _ h => h.f_Store).a, trivial⟩ (rn 2 [] f0 [(17, B v_4)] (sb 17 (bt h_5) (rn 4 [(1, 1, 1, 2), (1, 1, 0, 2)] f0 [(19, .slice p_0.Open_A p_0.Open.length p_0.Open_c), (21, .slice p_1.Open_A p_1.Open.length p_1.Open_c)] (l1 (cl 22 (z_regulatorref34_SameTxs F p_0.Open_A p_0.Open_c p_0.Open p_1.Open_A p_1.Open_c p_1.Open _ hy_6) hT ⟨(gm (KLeaderL.ok p_0) 2 fun _ _ h => h.f_Open).a, (gm (KLeaderL.ok p_1) 3 fun _ _ h => h.f_Open).a, trivial⟩ (ra [] f0 [(4, B v_6)] (tN (fun _ _ S k e => ⟨v_6, S, k.wk, e.sel [], oi hG⟩)))))))))))))
   ·exact rg (rn 6 [(1, 1, 1, 0), (1, 1, 0, 0)] f0 [(10, B (p_0.Last == p_1.Last))] (sb 10 (bt h_3) (rn 4 [(1, 1, 1, 1), (1, 1, 0, 1)] f0 [(12, .slice p_0.Store_A p_0.Store.length p_0.Store_c), (14, .slice p_1.Store_A p_1.Store.length p_1.Store_c)] (l1 (cl 15 (z_regulatorref33_Same F p_0.Store_A p_0.Store_c p_0.Store p_1.Store_A p_1.Store_c p_1.Store _ hy_4) hT ⟨(gm (KLeaderL.ok p_0) 2 fun _ _ h => h.f_Store).a, (gm (KLeaderL.ok p_1) 3 fun _ _ h => h.f_Store).a, trivial⟩ (rn 2 [] f0 [(17, B v_4)] (sb 17 (bf h_5) (ra [] f0 [(4, B false)] (tN (fun _ _ S k e => ⟨false, S, k.wk, e.sel [], oi hG⟩))))))))))
  ·exact rg (rn 6 [(1, 1, 1, 0), (1, 1, 0, 0)] f0 [(10, B (p_0.Last == p_1.Last))] (sb 10 (bf h_3) (ra [] f0 [(4, B false)] (tN (fun _ _ S k e => ⟨false, S, k.wk, e.sel [], oi hG⟩)))))
 ·rintro a w ⟨v_8, hJ⟩; refine hJ.go fun ho_ => ?_
  clear hJ; subst ho_; replace hG := hG_7; refine kR ?_; obtain rfl := oi hG; exact rt []
end Go.Proofs.Ytlfkgbideknkhaa
namespace Go.Proofs.Ytlfkgbideknkhaa
open Go.RowKit Go.Maps
def G_versions_Valid (F : Nat) (p_0 : List KVersion) : Option (Bool) :=
  Option.bind (Option.bind (iter (σ := Int) (ρ := Unit ⊕ Unit) (fun (v_27 : Int) => 
        (ifB (decide (v_27 < ((p_0.length : Nat) : Int)))
          (Option.bind (ixI p_0 v_27) (fun v_30 =>
          Option.bind (Option.bind (G_versions_wellFormed F v_30) (fun v_34 =>
            ifB (v_34)
              (ifB (decide (v_27 > 0))
                (Option.bind (ixI p_0 (IntKind.i64.wrap (v_27 - 1))) (fun v_37 =>
                Option.bind (G_versions_order F v_37 v_30) (fun v_40 =>
                some (decide (v_40 ≥ 0)))))
                (some false))
              (some true)) : Option (Bool)) (fun (v_42 : Bool) => 
            ifB (v_42)
              (some (.inr (.inr ())))
              (some (.inl (IntKind.i64.wrap (v_27 + 1)))))))
          (some (.inr (.inl ()))) : Option (Int ⊕ (Unit ⊕ Unit)))) F 0) (Sum.elim (fun (_ : Unit) => 
      some (.inl ())) (fun (_ : Unit) => 
      some (.inr ()))) : Option (Unit ⊕ Unit)) (Sum.elim (fun (_ : Unit) => 
    some (decide (((p_0.length : Nat) : Int) ≤ 4000))) (fun (_ : Unit) => 
    some false))
set_option maxRecDepth 100000 in
set_option maxHeartbeats 16000000 in
theorem z_versions_Valid (F : Nat) (p_0_A : Option Addr) (p_0_c : Nat) (p_0 : List KVersion) (r : Bool) (hG : G_versions_Valid F p_0 = some r) :
  Cf Try.prog 40 [.slice p_0_A p_0.length p_0_c] [RowC p_0_A p_0_c KVersion.cells tr p_0] (B r) := by
 unfold G_versions_Valid at hG
 try simp only [List.length_map, KLeaderL.n_Open] at hG
 refine fi Try.func40 rfl rfl (mr tr_mv m0) fun S0 w0 hT => sq (rg (ra [] f0 [] (tN ?_)))
 obtain ⟨o_44, hG, hG_44⟩ := bs hG; refine jn (fun K E a w => Js S0 w0 33 (K) (se E [0]) (.inl () = o_44) a w) ?_ ?_
 ·refine sq (rg (ra [] f0 (ns 5 [.slice p_0_A p_0.length p_0_c, I ((p_0.length : Nat) : Int), I 0]) (tN (bk ?_)))); obtain ⟨e_28, hL, hG_28⟩ := bs hG; clear hG; obtain ⟨stp_28, hs_28, hL⟩ := iter_gen hL; refine lp (fun K E n_ a w => ∃ v_27 : Int, Js S0 w0 33 ([(7, I v_27)] ++ K) (se E [0]) (iter stp_28 n_ v_27 = some e_28) a w) F ?_ ?_
  ·exact fun _ _ S k e => ⟨0, S, k.wk, e.sel [0], hL⟩
  ·clear hL; rintro n_28 a w ⟨v_27, hJ⟩; refine hJ.go fun hL => ?_
   clear hJ; obtain ⟨m_28, o_28, rfl, hG, hO1_28, hO2_28⟩ := iter_step hL; clear hL; rw [hs_28] at hG; refine sq (rg (ra [] f0 [(8, B (decide (v_27 < ((p_0.length : Nat) : Int))))] (tN (sq ?_)))); rcases ic hG with ⟨h_29, hG⟩ | ⟨h_29, hG⟩
   ·try simp only [List.length_map, KLeaderL.n_Open] at h_29
    refine sb 8 (bt h_29) (ct (kS (tN (sq (bk (sq ?_)))))); obtain ⟨v_30, hy_30, hG⟩ := bs hG; refine rg (fx inf38 (gd' (RowC p_0_A p_0_c KVersion.cells tr p_0) 0) hy_30 fun b_31 o_32 hi_30 => rn 3 [(1, 0, 0, 0), (0, 4, 0, 0)] (fc (hi_30 .i64) f0) [(9, I v_27), (11, .agg #[I v_30.Key, I v_30.Ts, I v_30.Value, B v_30.Gone])] (l1 (nw 4 vp [I 0, I 0, I 0, B false] 61 fun g_33 => rn 1 [] f0 [(3, I v_27)] (l1 (sr 0 g_33 (ns 0 [I v_30.Key, I v_30.Ts, I v_30.Value, B v_30.Gone]) (nl (tN ?_))))))); obtain ⟨o_41, hG, hG_41⟩ := bs hG; refine jn (fun K E a w => ∃ v_42 : Bool, Js S0 w0 33 ([(28, B v_42)] ++ K) (se E [2]) (v_42 = o_41) a w) ?_ ?_
    ·obtain ⟨v_34, hy_34, hG⟩ := bs hG; rcases ic hG with ⟨h_35, hG⟩ | ⟨h_35, hG⟩
     ·rcases ic hG with ⟨h_36, hG⟩ | ⟨h_36, hG⟩
      ·obtain ⟨v_37, hy_37, hG⟩ := bs hG; obtain ⟨v_40, hy_40, hG⟩ := bs hG; exact qb (qn 1 [(0, 4, 0, 0)] f0 [(12, .agg #[I v_30.Key, I v_30.Ts, I v_30.Value, B v_30.Gone])] (qc 13 (z_versions_wellFormed F v_30 _ hy_34) hT trivial (qn 2 [] f0 [(15, B (!v_34))] (sb 15 (nt h_35) (qn 3 [] f0 [(18, B (decide (v_27 > 0)))] (sb 18 (bt h_36) (fx inf38 (gd' (RowC p_0_A p_0_c KVersion.cells tr p_0) 2) hy_37 fun b_38 o_39 hi_37 => qn 6 [(3, 0, 0, 0), (0, 4, 0, 0), (0, 4, 1, 0)] (fc (hi_37 .i64) f0) [(23, .agg #[I v_37.Key, I v_37.Ts, I v_37.Value, B v_37.Gone]), (24, .agg #[I v_30.Key, I v_30.Ts, I v_30.Value, B v_30.Gone])] (qc 25 (z_versions_order F v_37 v_30 _ hy_40) hT trivial (qa [] f0 [(28, B (decide (v_40 ≥ 0)))] (tN (fun _ _ S k e => ⟨decide (v_40 ≥ 0), S, k.wk, e.sel [3], oi hG⟩)))))))))))
      ·exact qb (qn 1 [(0, 4, 0, 0)] f0 [(12, .agg #[I v_30.Key, I v_30.Ts, I v_30.Value, B v_30.Gone])] (qc 13 (z_versions_wellFormed F v_30 _ hy_34) hT trivial (qn 2 [] f0 [(15, B (!v_34))] (sb 15 (nt h_35) (qn 3 [] f0 [(18, B (decide (v_27 > 0)))] (sb 18 (bf h_36) (qa [] f0 [(28, B false)] (tN (fun _ _ S k e => ⟨false, S, k.wk, e.sel [2], oi hG⟩)))))))))
     ·exact qb (qn 1 [(0, 4, 0, 0)] f0 [(12, .agg #[I v_30.Key, I v_30.Ts, I v_30.Value, B v_30.Gone])] (qc 13 (z_versions_wellFormed F v_30 _ hy_34) hT trivial (qn 2 [] f0 [(15, B (!v_34))] (sb 15 (nf h_35) (qa [] f0 [(28, B true)] (tN (fun _ _ S k e => ⟨true, S, k.wk, e.sel [2], oi hG⟩)))))))
    ·rintro a w ⟨v_42, hJ⟩; refine hJ.go fun ho_ => ?_
     clear hJ; subst ho_; replace hG := hG_41; rcases ic hG with ⟨h_43, hG⟩ | ⟨h_43, hG⟩
     ·refine sb 28 (bt h_43) (ct (sq (rg (ra [] f0 [(2, B false)] (tN (kR (hR (tR (tR ?_))))))))); have he_ := hO2_28 _ (oi hG).symm; subst he_; replace hG := hG_28; refine hR (tR ?_); obtain rfl := oi hG; replace hG := hG_44; obtain rfl := oi hG; exact rt []
     ·exact sb 28 (bf h_43) (cf (kS (hN (tN (rg (ra [] f0 [(7, I (IntKind.i64.wrap (v_27 + 1)))] (tN (fun a w S hK hE => ⟨m_28, ⟨IntKind.i64.wrap (v_27 + 1), S, hK.wk, hE.sel [0], hO1_28 _ (oi hG).symm⟩, Nat.lt_succ_self _⟩))))))))
   ·try simp only [List.length_map, KLeaderL.n_Open] at h_29
    refine sb 8 (bf h_29) (cf (kX (tX (tX ?_)))); have he_ := hO2_28 _ (oi hG).symm; subst he_; replace hG := hG_28; exact hH (tN (fun _ _ S k e => ⟨S, k.wk, e.sel [0], oi hG⟩))
 ·rintro a w hJ; refine hJ.go fun ho_ => ?_
  clear hJ; subst ho_; replace hG := el hG_44; refine sq (rg (ra [] f0 [(2, B (decide (((p_0.length : Nat) : Int) ≤ 4000)))] (tN (kR ?_)))); obtain rfl := oi hG; exact rt []
end Go.Proofs.Ytlfkgbideknkhaa
namespace Go.Proofs.Ytlfkgbideknkhaa
open Go.RowKit Go.Maps
def G_commit_Valid (F : Nat) (p_0 : KLeader) : Option (Bool) :=
  Option.bind (Option.bind (G_versions_Valid F p_0.Store) (fun v_2 =>
    ifB (v_2)
      (Option.bind (G_commit_between F p_0.Last 0 3000000000000000) (fun v_4 =>
      ifB (v_4)
        (ifB (decide (((p_0.Open.length : Nat) : Int) > 2000))
          (some true)
          (Option.bind (G_commit_size F p_0) (fun v_7 =>
          some (decide (v_7 > 4000)))))
        (some true)))
      (some true)) : Option (Bool)) (fun (v_9 : Bool) => 
    ifB (v_9)
      (some false)
      (Option.bind (Option.bind (iter (σ := Int × Int) (ρ := Int) (un2 fun (v_23 : Int) (v_24 : Int) => 
            (ifB (decide (v_24 < ((p_0.Store.length : Nat) : Int)))
              (Option.bind (ixI p_0.Store v_24) (fun v_27 =>
              some (.inl ((max v_23 v_27.Ts), IntKind.i64.wrap (v_24 + 1)))))
              (some (.inr v_23)) : Option ((Int × Int) ⊕ Int))) F (0, 0)) (fun (v_31 : Int) => 
          some v_31) : Option (Int)) (fun (v_33 : Int) => 
        Option.bind (Option.bind (iter (σ := Int × Int) (ρ := Int ⊕ Unit) (un2 fun (v_56 : Int) (v_57 : Int) => 
              (ifB (decide (v_57 < ((p_0.Open.length : Nat) : Int)))
                (Option.bind (ixI p_0.Open v_57) (fun v_60 =>
                Option.bind (Option.bind (G_commit_work_formed F (⟨v_60⟩ : Kcommit_work)) (fun v_64 =>
                  ifB (v_64)
                    (some (decide (v_60.Ts ≤ v_56)))
                    (some true)) : Option (Bool)) (fun (v_67 : Bool) => 
                  ifB (v_67)
                    (some (.inr (.inr ())))
                    (some (.inl (v_60.Ts, IntKind.i64.wrap (v_57 + 1)))))))
                (some (.inr (.inl v_56))) : Option ((Int × Int) ⊕ (Int ⊕ Unit)))) F (v_33, 0)) (Sum.elim (fun (v_69 : Int) => 
            some (.inl v_69)) (fun (_ : Unit) => 
            some (.inr ()))) : Option (Int ⊕ Unit)) (Sum.elim (fun (v_71 : Int) => 
          some (decide (v_71 ≤ p_0.Last))) (fun (_ : Unit) => 
          some false)))))
set_option maxRecDepth 100000 in
set_option maxHeartbeats 16000000 in
theorem z_commit_Valid (F : Nat) (p_0 : KLeaderL) (r : Bool) (hG : G_commit_Valid F p_0.p = some r) :
  Cf Try.prog 22 [.agg #[I p_0.Last, .slice p_0.Store_A p_0.Store.length p_0.Store_c, .slice p_0.Open_A p_0.Open.length p_0.Open_c]] [KLeaderL.ok p_0] (B r) := by
 unfold G_commit_Valid at hG
 try simp only [List.length_map, KLeaderL.n_Open] at hG
 refine fi Try.func22 rfl rfl (mc KLeaderL.mv m0) fun S0 w0 hT => sq (rg (l1 (nw 1 vp [I p_0.Last, .slice p_0.Store_A p_0.Store.length p_0.Store_c, .slice p_0.Open_A p_0.Open.length p_0.Open_c] 40 fun g_1 => ra [] f0 [] (tN (sq ?_)))))
 obtain ⟨o_8, hG, hG_8⟩ := bs hG; refine jn (fun K E a w => ∃ v_9 : Bool, Js S0 w0 65 ([(28, B v_9)] ++ K) ([.dat (RowC p_0.Store_A p_0.Store_c KVersion.cells tr p_0.Store), .dat (RowC p_0.Open_A p_0.Open_c KTxL.cells KTxL.ok p_0.Open)] ++ se E [0]) (v_9 = o_8) a w) ?_ ?_
 ·obtain ⟨v_2, hy_2, hG⟩ := bs hG; rcases ic hG with ⟨h_3, hG⟩ | ⟨h_3, hG⟩
  ·obtain ⟨v_4, hy_4, hG⟩ := bs hG; rcases ic hG with ⟨h_5, hG⟩ | ⟨h_5, hG⟩
   ·rcases ic hG with ⟨h_6, hG⟩ | ⟨h_6, hG⟩
    ·refine rg (rn 2 [(1, 1, 0, 1)] f0 [(9, .slice p_0.Store_A p_0.Store.length p_0.Store_c)] (l1 (cl 10 (z_versions_Valid F p_0.Store_A p_0.Store_c p_0.Store _ hy_2) hT ⟨(gm (KLeaderL.ok p_0) 1 fun _ _ h => h.f_Store).a, trivial⟩ (rn 2 [] f0 [(12, B (!v_2))] (sb 12 (nt h_3) (rn 2 [(1, 1, 0, 0)] f0 [(14, I p_0.Last)] (l1 (cl 15 (z_commit_between F p_0.Last 0 3000000000000000 _ hy_4) hT trivial (rn 3 [] f0 [(18, B (!v_4))] (sb 18 (nt h_5) (rn 6 [(1, 1, 0, 2)] f0 [(24, B (decide (((p_0.Open.length : Nat) : Int) > 2000)))] ?_)))))))))))
     try simp only [List.length_map, KLeaderL.n_Open] at h_6
     exact sb 24 (bt h_6) (ra [] f0 [(28, B true)] (tN (fg (KLeaderL.ok p_0) 1 (fun _ _ h => h.f_Store) (fg (KLeaderL.ok p_0) 2 (fun _ _ h => h.f_Open) (fun _ _ S k e => ⟨true, S, k.wk, e.sel [1, 0, 2], oi hG⟩)))))
    ·obtain ⟨v_7, hy_7, hG⟩ := bs hG; refine rg (rn 2 [(1, 1, 0, 1)] f0 [(9, .slice p_0.Store_A p_0.Store.length p_0.Store_c)] (l1 (cl 10 (z_versions_Valid F p_0.Store_A p_0.Store_c p_0.Store _ hy_2) hT ⟨(gm (KLeaderL.ok p_0) 1 fun _ _ h => h.f_Store).a, trivial⟩ (rn 2 [] f0 [(12, B (!v_2))] (sb 12 (nt h_3) (rn 2 [(1, 1, 0, 0)] f0 [(14, I p_0.Last)] (l1 (cl 15 (z_commit_between F p_0.Last 0 3000000000000000 _ hy_4) hT trivial (rn 3 [] f0 [(18, B (!v_4))] (sb 18 (nt h_5) (rn 6 [(1, 1, 0, 2)] f0 [(24, B (decide (((p_0.Open.length : Nat) : Int) > 2000)))] ?_)))))))))))
     try simp only [List.length_map, KLeaderL.n_Open] at h_6
     exact sb 24 (bf h_6) (rn 1 [(0, 3, 0, 0)] f0 [(25, .agg #[I p_0.Last, .slice p_0.Store_A p_0.Store.length p_0.Store_c, .slice p_0.Open_A p_0.Open.length p_0.Open_c])] (l1 (cl 26 (z_commit_size F p_0 _ hy_7) hT ⟨(gi 1).a, trivial⟩ (ra [] f0 [(28, B (decide (v_7 > 4000)))] (tN (fg (KLeaderL.ok p_0) 1 (fun _ _ h => h.f_Store) (fg (KLeaderL.ok p_0) 2 (fun _ _ h => h.f_Open) (fun _ _ S k e => ⟨decide (v_7 > 4000), S, k.wk, e.sel [1, 0, 2], oi hG⟩))))))))
   ·exact rg (rn 2 [(1, 1, 0, 1)] f0 [(9, .slice p_0.Store_A p_0.Store.length p_0.Store_c)] (l1 (cl 10 (z_versions_Valid F p_0.Store_A p_0.Store_c p_0.Store _ hy_2) hT ⟨(gm (KLeaderL.ok p_0) 1 fun _ _ h => h.f_Store).a, trivial⟩ (rn 2 [] f0 [(12, B (!v_2))] (sb 12 (nt h_3) (rn 2 [(1, 1, 0, 0)] f0 [(14, I p_0.Last)] (l1 (cl 15 (z_commit_between F p_0.Last 0 3000000000000000 _ hy_4) hT trivial (rn 3 [] f0 [(18, B (!v_4))] (sb 18 (nf h_5) (ra [] f0 [(28, B true)] (tN (fg (KLeaderL.ok p_0) 1 (fun _ _ h => h.f_Store) (fg (KLeaderL.ok p_0) 2 (fun _ _ h => h.f_Open) (fun _ _ S k e => ⟨true, S, k.wk, e.sel [1, 0, 2], oi hG⟩)))))))))))))))
  ·exact rg (rn 2 [(1, 1, 0, 1)] f0 [(9, .slice p_0.Store_A p_0.Store.length p_0.Store_c)] (l1 (cl 10 (z_versions_Valid F p_0.Store_A p_0.Store_c p_0.Store _ hy_2) hT ⟨(gm (KLeaderL.ok p_0) 1 fun _ _ h => h.f_Store).a, trivial⟩ (rn 2 [] f0 [(12, B (!v_2))] (sb 12 (nf h_3) (ra [] f0 [(28, B true)] (tN (fg (KLeaderL.ok p_0) 1 (fun _ _ h => h.f_Store) (fg (KLeaderL.ok p_0) 2 (fun _ _ h => h.f_Open) (fun _ _ S k e => ⟨true, S, k.wk, e.sel [1, 0, 2], oi hG⟩))))))))))
 ·rintro a w ⟨v_9, hJ⟩; refine hJ.go fun ho_ => ?_
  clear hJ; subst ho_; replace hG := hG_8; rcases ic hG with ⟨h_10, hG⟩ | ⟨h_10, hG⟩
  ·refine sb 28 (bt h_10) (ct (sq (rg (ra [] f0 [(2, B false)] (tN (kR (tR ?_))))))); obtain rfl := oi hG; exact rt []
  ·refine sb 28 (bf h_10) (cf (kS (tN (sq (rg (ra [] f0 [(3, I 0)] (tN ?_))))))); obtain ⟨o_32, hG, hG_32⟩ := bs hG; refine jn (fun K E a w => ∃ v_33 : Int, Js S0 w0 65 ([(3, I v_33)] ++ K) (se E [0, 1, 2]) (v_33 = o_32) a w) ?_ ?_
   ·refine sq (rg (ra [(1, 1, 2, 1)] f0 (ns 30 [.slice p_0.Store_A p_0.Store.length p_0.Store_c, I ((p_0.Store.length : Nat) : Int), I 0]) (tN (bk ?_)))); obtain ⟨e_25, hL, hG_25⟩ := bs hG; clear hG; obtain ⟨stp_25, hs_25, hL⟩ := iter_gen hL; refine lp (fun K E n_ a w => ∃ v_23 v_24 : Int, Js S0 w0 65 ([(3, I v_23), (32, I v_24)] ++ K) (se E [0, 1, 2]) (iter stp_25 n_ (v_23, v_24) = some e_25) a w) F ?_ ?_
    ·exact fun _ _ S k e => ⟨0, 0, S, k.wk, e.sel [0, 1, 2], hL⟩
    ·clear hL; rintro n_25 a w ⟨v_23, v_24, hJ⟩; refine hJ.go fun hL => ?_
     clear hJ; obtain ⟨m_25, o_25, rfl, hG, hO1_25, hO2_25⟩ := iter_step hL; clear hL; rw [hs_25] at hG; refine sq (rg (ra [] f0 [(33, B (decide (v_24 < ((p_0.Store.length : Nat) : Int))))] (tN (sq ?_)))); rcases ic hG with ⟨h_26, hG⟩ | ⟨h_26, hG⟩
     ·try simp only [List.length_map, KLeaderL.n_Open] at h_26
      refine sb 33 (bt h_26) (ct (kS (tN (sq (bk (sq ?_)))))); obtain ⟨v_27, hy_27, hG⟩ := bs hG; exact rg (fx inf38 (gd' (RowC p_0.Store_A p_0.Store_c KVersion.cells tr p_0.Store) 0) hy_27 fun b_28 o_29 hi_27 => rn 2 [(0, 0, 0, 0), (0, 4, 0, 0)] (fc (hi_27 .i64) f0) [(35, .agg #[I v_27.Key, I v_27.Ts, I v_27.Value, B v_27.Gone])] (l1 (nw 5 vp [I 0, I 0, I 0, B false] 61 fun g_30 => l1 (sr 0 g_30 (ns 0 [I v_27.Key, I v_27.Ts, I v_27.Value, B v_27.Gone]) (nl (tN (rg (rn 4 [(2, 1, 0, 1)] f0 [(39, I (if v_27.Ts > v_23 then v_27.Ts else v_23))] (sb 39 (v := I (if v_27.Ts > v_23 then v_27.Ts else v_23)) (v' := I (max v_23 v_27.Ts)) (congrArg (Value.int .i64) (by omega)) (ra [] f0 [(3, I (max v_23 v_27.Ts))] (hN (tN (rg (ra [] f0 [(32, I (IntKind.i64.wrap (v_24 + 1)))] (tN (fun a w S hK hE => ⟨m_25, ⟨(max v_23 v_27.Ts), IntKind.i64.wrap (v_24 + 1), S, hK.wk, hE.sel [2, 3, 4], hO1_25 _ (oi hG).symm⟩, Nat.lt_succ_self _⟩))))))))))))))))
     ·try simp only [List.length_map, KLeaderL.n_Open] at h_26
      refine sb 33 (bf h_26) (cf (kX (tX (tX ?_)))); have he_ := hO2_25 _ (oi hG).symm; subst he_; replace hG := hG_25; exact hH (tN (fun _ _ S k e => ⟨v_23, S, k.wk, e.sel [0, 1, 2], oi hG⟩))
   ·rintro a w ⟨v_33, hJ⟩; refine hJ.go fun ho_ => ?_
    clear hJ; subst ho_; replace hG := hG_32; obtain ⟨o_70, hG, hG_70⟩ := bs hG; refine jn (fun K E a w => ∃ v_71 : Int, Js S0 w0 65 ([(3, I v_71)] ++ K) (se E [0, 1, 2]) (.inl v_71 = o_70) a w) ?_ ?_
    ·refine sq (rg (ra [(1, 1, 2, 2)] f0 (ns 42 [.slice p_0.Open_A p_0.Open.length p_0.Open_c, I ((p_0.Open.length : Nat) : Int), I 0]) (tN (bk ?_)))); obtain ⟨e_58, hL, hG_58⟩ := bs hG; clear hG; obtain ⟨stp_58, hs_58, hL⟩ := iter_gen hL; refine lp (fun K E n_ a w => ∃ v_56 v_57 : Int, Js S0 w0 65 ([(3, I v_56), (44, I v_57)] ++ K) (se E [0, 1, 2]) (iter stp_58 n_ (v_56, v_57) = some e_58) a w) F ?_ ?_
     ·exact fun _ _ S k e => ⟨v_33, 0, S, k.wk, e.sel [0, 1, 2], hL⟩
     ·clear hL; rintro n_58 a w ⟨v_56, v_57, hJ⟩; refine hJ.go fun hL => ?_
      clear hJ; obtain ⟨m_58, o_58, rfl, hG, hO1_58, hO2_58⟩ := iter_step hL; clear hL; rw [hs_58] at hG; refine sq (rg (ra [] f0 [(45, B (decide (v_57 < ((p_0.Open.length : Nat) : Int))))] (tN (sq ?_)))); rcases ic hG with ⟨h_59, hG⟩ | ⟨h_59, hG⟩
      ·try simp only [List.length_map, KLeaderL.n_Open] at h_59
       refine sb 45 (bt h_59) (ct (kS (tN (sq (bk (sq ?_)))))); obtain ⟨v_60o, hy_60, hG⟩ := bs hG; refine rg (fxn (p := KTxL.p) inf30 (gd' (RowC p_0.Open_A p_0.Open_c KTxL.cells KTxL.ok p_0.Open) 1) hy_60 fun v_60 b_61 o_62 he_60 hi_60 => ?_); subst he_60
       try simp only [List.length_map, KLeaderL.n_Open] at hG
       refine rn 2 [(0, 0, 0, 0), (0, 4, 0, 0)] (fc (hi_60 .i64) f0) [(47, .agg #[I v_60.ID, I v_60.Ts, .slice v_60.Reads_A v_60.Reads.length v_60.Reads_c, .slice v_60.Writes_A v_60.Writes.length v_60.Writes_c])] (l1 (nw 7 vp (KTxL.cells KTxL.z) 26 fun g_63 => l1 (sr 0 g_63 (ns 0 [I v_60.ID, I v_60.Ts, .slice v_60.Reads_A v_60.Reads.length v_60.Reads_c, .slice v_60.Writes_A v_60.Writes.length v_60.Writes_c]) (nl (tN (sq ?_)))))); obtain ⟨o_66, hG, hG_66⟩ := bs hG; refine jn (fun K E a w => ∃ v_67 : Bool, Js S0 w0 65 ([(57, B v_67)] ++ K) ([.dat (RowC v_60.Reads_A v_60.Reads_c KSeen.cells tr v_60.Reads), .dat (RowC v_60.Writes_A v_60.Writes_c KWrite.cells tr v_60.Writes)] ++ se E [0, 3, 4, 5]) (v_67 = o_66) a w) ?_ ?_
       ·obtain ⟨v_64, hy_64, hG⟩ := bs hG; rcases ic hG with ⟨h_65, hG⟩ | ⟨h_65, hG⟩
        ·exact rg (rn 2 [(0, 4, 0, 0)] f0 [(49, .agg #[I v_60.ID, I v_60.Ts, .slice v_60.Reads_A v_60.Reads.length v_60.Reads_c, .slice v_60.Writes_A v_60.Writes.length v_60.Writes_c])] (l1 (cl 50 (z_commit_work_formed F (⟨v_60⟩ : Kcommit_workL) _ hy_64) hT ⟨(((gm (KTxL.ok v_60) 2 fun _ _ h => h)).m fun _ _ h => ⟨h⟩).a, trivial⟩ (rn 2 [] f0 [(52, B (!v_64))] (sb 52 (nt h_65) (ra [(1, 1, 0, 1)] f0 [(57, B (decide (v_60.Ts ≤ v_56)))] (tN (fg (KTxL.ok v_60) 2 (fun _ _ h => h.f_Reads) (fg (KTxL.ok v_60) 3 (fun _ _ h => h.f_Writes) (fun _ _ S k e => ⟨decide (v_60.Ts ≤ v_56), S, k.wk, e.sel [1, 0, 2, 5, 6, 7], oi hG⟩))))))))))
        ·exact rg (rn 2 [(0, 4, 0, 0)] f0 [(49, .agg #[I v_60.ID, I v_60.Ts, .slice v_60.Reads_A v_60.Reads.length v_60.Reads_c, .slice v_60.Writes_A v_60.Writes.length v_60.Writes_c])] (l1 (cl 50 (z_commit_work_formed F (⟨v_60⟩ : Kcommit_workL) _ hy_64) hT ⟨(((gm (KTxL.ok v_60) 2 fun _ _ h => h)).m fun _ _ h => ⟨h⟩).a, trivial⟩ (rn 2 [] f0 [(52, B (!v_64))] (sb 52 (nf h_65) (ra [] f0 [(57, B true)] (tN (fg (KTxL.ok v_60) 2 (fun _ _ h => h.f_Reads) (fg (KTxL.ok v_60) 3 (fun _ _ h => h.f_Writes) (fun _ _ S k e => ⟨true, S, k.wk, e.sel [1, 0, 2, 5, 6, 7], oi hG⟩))))))))))
       ·rintro a w ⟨v_67, hJ⟩; refine hJ.go fun ho_ => ?_
        clear hJ; subst ho_; replace hG := hG_66; rcases ic hG with ⟨h_68, hG⟩ | ⟨h_68, hG⟩
        ·refine sb 57 (bt h_68) (ct (sq (rg (ra [] f0 [(2, B false)] (tN (kR (tR (hR (tR (tR ?_)))))))))); have he_ := hO2_58 _ (oi hG).symm; subst he_; replace hG := hG_58; refine hR (tR ?_); obtain rfl := oi hG; replace hG := hG_70; obtain rfl := oi hG; exact rt []
        ·exact sb 57 (bf h_68) (cf (kS (tN (rg (ra [(1, 1, 2, 1)] f0 [(3, I v_60.Ts)] (hN (tN (rg (ra [] f0 [(44, I (IntKind.i64.wrap (v_57 + 1)))] (tN (fun a w S hK hE => ⟨m_58, ⟨v_60.Ts, IntKind.i64.wrap (v_57 + 1), S, hK.wk, hE.sel [3, 4, 5], hO1_58 _ (oi hG).symm⟩, Nat.lt_succ_self _⟩)))))))))))
      ·try simp only [List.length_map, KLeaderL.n_Open] at h_59
       refine sb 45 (bf h_59) (cf (kX (tX (tX ?_)))); have he_ := hO2_58 _ (oi hG).symm; subst he_; replace hG := hG_58; exact hH (tN (fun _ _ S k e => ⟨v_56, S, k.wk, e.sel [0, 1, 2], oi hG⟩))
    ·rintro a w ⟨v_71, hJ⟩; refine hJ.go fun ho_ => ?_
     clear hJ; subst ho_; replace hG := el hG_70; refine sq (rg (ra [(2, 1, 2, 0)] f0 [(2, B (decide (v_71 ≤ p_0.Last)))] (tN (kR ?_)))); obtain rfl := oi hG; exact rt []
end Go.Proofs.Ytlfkgbideknkhaa
namespace Go.Proofs.Ytlfkgbideknkhaa
open Go.RowKit Go.Maps
def G_journal_formed (F : Nat) (p_0 : KTx) : Option (Bool) :=
  Option.bind (ifB (decide (p_0.Ts > 0))
      (Option.bind (G_commit_Valid F (⟨p_0.Ts, ([] : List KVersion), ([p_0] : List KTx)⟩ : KLeader)) (fun v_4 =>
      some v_4))
      (some false) : Option (Bool)) (fun (v_6 : Bool) => 
    some v_6)
set_option maxRecDepth 100000 in
set_option maxHeartbeats 16000000 in
theorem z_journal_formed (F : Nat) (p_0 : KTxL) (r : Bool) (hG : G_journal_formed F p_0.p = some r) :
  Cf Try.prog 27 [.agg #[I p_0.ID, I p_0.Ts, .slice p_0.Reads_A p_0.Reads.length p_0.Reads_c, .slice p_0.Writes_A p_0.Writes.length p_0.Writes_c]] [KTxL.ok p_0] (B r) := by
 unfold G_journal_formed at hG
 try simp only [List.length_map, KLeaderL.n_Open] at hG
 refine fi Try.func27 rfl rfl (mc KTxL.mv m0) fun S0 w0 hT => sq (rg (l1 (nw 1 vp [I p_0.ID, I p_0.Ts, .slice p_0.Reads_A p_0.Reads.length p_0.Reads_c, .slice p_0.Writes_A p_0.Writes.length p_0.Writes_c] 26 fun g_1 => ra [] f0 [] (tN ?_))))
 obtain ⟨o_5, hG, hG_5⟩ := bs hG; refine jn (fun K E a w => ∃ v_6 : Bool, Js S0 w0 14 ([(2, B v_6)] ++ K) (se E []) (v_6 = o_5) a w) ?_ ?_
 ·rcases ic hG with ⟨h_2, hG⟩ | ⟨h_2, hG⟩
  ·obtain ⟨v_4, hy_4, hG⟩ := bs hG; exact rg (rn 4 [(1, 1, 0, 1)] f0 [(6, B (decide (p_0.Ts > 0)))] (sb 6 (bt h_2) (rn 3 [(1, 1, 0, 1), (0, 4, 0, 0)] f0 [(8, I p_0.Ts), (9, .agg #[I p_0.ID, I p_0.Ts, .slice p_0.Reads_A p_0.Reads.length p_0.Reads_c, .slice p_0.Writes_A p_0.Writes.length p_0.Writes_c])] (l1 (nw 10 (vs 1) [I p_0.ID, I p_0.Ts, .slice p_0.Reads_A p_0.Reads.length p_0.Reads_c, .slice p_0.Writes_A p_0.Writes.length p_0.Writes_c] 26 fun g_3 => rn 1 [] f0 [(11, .agg #[I p_0.Ts, .slice none 0 0, Sb g_3 1 1])] (l1 (cl 12 (z_commit_Valid F (⟨p_0.Ts, none, 0, ([] : List KVersion), (some ⟨g_3, 0, none⟩), 1, ([p_0] : List KTxL)⟩ : KLeaderL) _ hy_4) hT ⟨Fa.m (Fa.two ((gn : Fd _ (RowC none 0 KVersion.cells tr ([] : List KVersion))).a) (bA (f := KTxL.cells) (ok := KTxL.ok) (l := ([p_0] : List KTxL)) g_3 0 ((ec (gi 2) e0).a))) fun _ _ h => ⟨h.1, h.2⟩, trivial⟩ (ra [] f0 [(2, B v_4)] (tN (fun _ _ S k e => ⟨v_4, S, k.wk, e.sel [], oi hG⟩))))))))))
  ·exact rg (rn 4 [(1, 1, 0, 1)] f0 [(6, B (decide (p_0.Ts > 0)))] (sb 6 (bf h_2) (ra [] f0 [(2, B false)] (tN (fun _ _ S k e => ⟨false, S, k.wk, e.sel [], oi hG⟩)))))
 ·rintro a w ⟨v_6, hJ⟩; refine hJ.go fun ho_ => ?_
  clear hJ; subst ho_; replace hG := hG_5; refine kR ?_; obtain rfl := oi hG; exact rt []
def G_commit_Show (F : Nat) (p_0 : KLeader) (p_1 : KInterval) : Option (KLeader × (List KTx) × Int) :=
  Option.bind (Option.bind (G_commit_Valid F p_0) (fun v_4 =>
    ifB (v_4)
      (Option.bind (G_interval_Valid F p_1) (fun v_6 =>
      some (!v_6)))
      (some true)) : Option (Bool)) (fun (v_8 : Bool) => 
    ifB (v_8)
      (some ((⟨0, ([] : List KVersion), ([] : List KTx)⟩ : KLeader), ([] : List KTx), 1))
      (Option.bind (G_commit_past F p_0 p_1.Lo) (fun v_10 =>
      Option.bind (apG 32 ([] : List KVersion) p_0.Store) (fun v_11 =>
      Option.bind (Option.bind (slI p_0.Open 0 v_10) (fun v_12 =>
        Option.bind (iter (σ := Int × (List KVersion)) (ρ := (List KVersion) ⊕ Int) (un2 fun (v_113 : Int) (v_114 : (List KVersion)) => 
            (ifB (decide (v_113 < ((v_12.length : Nat) : Int)))
              (Option.bind (Option.bind (ixI v_12 v_113) (fun v_119 =>
                Option.bind (G_commit_work_versions F (⟨v_119⟩ : Kcommit_work)) (fun v_123 =>
                Option.bind (iter (σ := Int × (List KVersion)) (ρ := (List KVersion) ⊕ Int) (un2 fun (v_144 : Int) (v_145 : (List KVersion)) => 
                    (ifB (decide (v_144 < ((v_123.length : Nat) : Int)))
                      (Option.bind (ixI v_123 v_144) (fun v_150 =>
                      Option.bind (G_versions_Put F v_145 v_150) (un2 fun v_154 v_155 =>
                      ifB ((v_155 == 0))
                        (some (.inl (IntKind.i64.wrap (v_144 + 1), v_154)))
                        (some (.inr (.inr v_155))))))
                      (some (.inr (.inl v_145))) : Option ((Int × (List KVersion)) ⊕ ((List KVersion) ⊕ Int)))) F (0, v_114)) (Sum.elim (fun (v_157 : (List KVersion)) => 
                  some (.inl v_157)) (fun (v_160 : Int) => 
                  some (.inr v_160))))) : Option ((List KVersion) ⊕ Int)) (Sum.elim (fun (v_162 : (List KVersion)) => 
                some (.inl (IntKind.i64.wrap (v_113 + 1), v_162))) (fun (v_165 : Int) => 
                some (.inr (.inr v_165)))))
              (some (.inr (.inl v_114))) : Option ((Int × (List KVersion)) ⊕ ((List KVersion) ⊕ Int)))) F (0, p_0.Store)) (Sum.elim (fun (v_166 : (List KVersion)) => 
          some (.inl v_166)) (fun (v_169 : Int) => 
          some (.inr v_169)))) : Option ((List KVersion) ⊕ Int)) (Sum.elim (fun (v_171 : (List KVersion)) => 
        Option.bind (slI p_0.Open v_10 ((p_0.Open.length : Nat) : Int)) (fun v_175 =>
        Option.bind (G_commit_copies F v_175) (fun v_176 =>
        Option.bind (slI p_0.Open 0 v_10) (fun v_177 =>
        Option.bind (G_commit_copies F v_177) (fun v_178 =>
        some ((⟨p_0.Last, v_171, v_176⟩ : KLeader), v_178, 0)))))) (fun (v_174 : Int) => 
        some ((⟨0, ([] : List KVersion), ([] : List KTx)⟩ : KLeader), ([] : List KTx), v_174)))))))
set_option maxRecDepth 100000 in
set_option maxHeartbeats 16000000 in
theorem z_commit_Show (F : Nat) (p_0 : KLeaderL) (p_1 : KInterval) (r : KLeader × (List KTx) × Int) (hG : G_commit_Show F p_0.p p_1 = some r) :
  Cn Try.prog 24 [.agg #[I p_0.Last, .slice p_0.Store_A p_0.Store.length p_0.Store_c, .slice p_0.Open_A p_0.Open.length p_0.Open_c], .agg #[I p_1.Lo, I p_1.Hi]] [KLeaderL.ok p_0] (fun q : KLeaderL × KSapi_TxL => r.1 = q.1.p ∧ r.2.1 = (q.2.l.map KTxL.p)) (fun q => .tuple #[.agg #[I q.1.Last, .slice q.1.Store_A q.1.Store.length q.1.Store_c, .slice q.1.Open_A q.1.Open.length q.1.Open_c], .slice q.2.A q.2.l.length q.2.c, I r.2.2]) (fun q => [KLeaderL.ok q.1, RowC q.2.A q.2.c KTxL.cells KTxL.ok q.2.l]) := by
 unfold G_commit_Show at hG
 try simp only [List.length_map, KLeaderL.n_Open] at hG
 refine fin Try.func24 rfl rfl (mc KLeaderL.mv m0) fun S0 w0 hT => sq (rg (l1 (nw 2 vp [I p_0.Last, .slice p_0.Store_A p_0.Store.length p_0.Store_c, .slice p_0.Open_A p_0.Open.length p_0.Open_c] 40 fun g_1 => l1 (nw 3 vp [I p_1.Lo, I p_1.Hi] 50 fun g_2 => l1 (nw 4 vp [I 0, .slice none 0 0, .slice none 0 0] 40 fun g_3 => ra [] f0 [] (tN (sq ?_)))))))
 obtain ⟨o_7, hG, hG_7⟩ := bs hG; refine jn (fun K E a w => ∃ v_8 : Bool, Js S0 w0 75 ([(22, B v_8)] ++ K) ([.dat (RowC p_0.Store_A p_0.Store_c KVersion.cells tr p_0.Store), .dat (RowC p_0.Open_A p_0.Open_c KTxL.cells KTxL.ok p_0.Open)] ++ se E [0, 1, 2]) (v_8 = o_7) a w) ?_ ?_
 ·obtain ⟨v_4, hy_4, hG⟩ := bs hG; rcases ic hG with ⟨h_5, hG⟩ | ⟨h_5, hG⟩
  ·obtain ⟨v_6, hy_6, hG⟩ := bs hG; exact rg (rn 1 [(0, 3, 2, 0)] f0 [(15, .agg #[I p_0.Last, .slice p_0.Store_A p_0.Store.length p_0.Store_c, .slice p_0.Open_A p_0.Open.length p_0.Open_c])] (l1 (cl 16 (z_commit_Valid F p_0 _ hy_4) hT ⟨(gi 3).a, trivial⟩ (rn 2 [] f0 [(18, B (!v_4))] (sb 18 (nt h_5) (rn 1 [(0, 2, 1, 0)] f0 [(19, .agg #[I p_1.Lo, I p_1.Hi])] (l1 (cl 20 (z_interval_Valid F p_1 _ hy_6) hT trivial (ra [] f0 [(22, B (!v_6))] (tN (fg (KLeaderL.ok p_0) 3 (fun _ _ h => h.f_Store) (fg (KLeaderL.ok p_0) 4 (fun _ _ h => h.f_Open) (fun _ _ S k e => ⟨!v_6, S, k.wk, e.sel [1, 0, 2, 3, 4], oi hG⟩)))))))))))))
  ·exact rg (rn 1 [(0, 3, 2, 0)] f0 [(15, .agg #[I p_0.Last, .slice p_0.Store_A p_0.Store.length p_0.Store_c, .slice p_0.Open_A p_0.Open.length p_0.Open_c])] (l1 (cl 16 (z_commit_Valid F p_0 _ hy_4) hT ⟨(gi 3).a, trivial⟩ (rn 2 [] f0 [(18, B (!v_4))] (sb 18 (nf h_5) (ra [] f0 [(22, B true)] (tN (fg (KLeaderL.ok p_0) 3 (fun _ _ h => h.f_Store) (fg (KLeaderL.ok p_0) 4 (fun _ _ h => h.f_Open) (fun _ _ S k e => ⟨true, S, k.wk, e.sel [1, 0, 2, 3, 4], oi hG⟩))))))))))
 ·rintro a w ⟨v_8, hJ⟩; refine hJ.go fun ho_ => ?_
  clear hJ; subst ho_; replace hG := hG_7; rcases ic hG with ⟨h_9, hG⟩ | ⟨h_9, hG⟩
  ·refine sb 22 (bt h_9) (ct (sq (rg (rn 1 [] f0 [(23, .agg #[I 0, .slice none 0 0, .slice none 0 0])] (l1 (sr 2 g_3 (ns 0 [I 0, .slice none 0 0, .slice none 0 0]) (ra [] f0 [(5, .slice none 0 0), (6, I 1)] (tN (kR (tR ?_)))))))))); obtain rfl := oi hG; exact rtn [(2, 0, 3)] ((⟨0, none, 0, ([] : List KVersion), none, 0, ([] : List KTxL)⟩ : KLeaderL), ⟨none, 0, ([] : List KTxL)⟩) ⟨rfl, rfl⟩ ⟨((Fd.two ((gn : Fd _ (RowC none 0 KVersion.cells tr ([] : List KVersion)))) ((gn : Fd _ (RowC none 0 KTxL.cells KTxL.ok ([] : List KTxL))))).m fun _ _ h => ⟨h.1, h.2⟩), gn, trivial⟩
  ·refine sb 22 (bf h_9) (cf (kS (tN (sq ?_)))); obtain ⟨v_10, hy_10, hG⟩ := bs hG; refine rg (rn 3 [(0, 3, 4, 0), (1, 1, 3, 0)] f0 [(24, .agg #[I p_0.Last, .slice p_0.Store_A p_0.Store.length p_0.Store_c, .slice p_0.Open_A p_0.Open.length p_0.Open_c]), (26, I p_1.Lo)] (l1 (cl 27 (z_commit_past F p_0 p_1.Lo _ hy_10) hT ⟨((Fd.two ((gd' (RowC p_0.Store_A p_0.Store_c KVersion.cells tr p_0.Store) 0)) ((gd' (RowC p_0.Open_A p_0.Open_c KTxL.cells KTxL.ok p_0.Open) 1))).m fun _ _ h => ⟨h.1, h.2⟩).a, trivial⟩ (ra [] f0 [(7, I v_10)] (tN (sq ?_)))))); obtain ⟨v_11, hy_11, hG⟩ := bs hG; refine rg (rn 2 [(1, 1, 4, 1)] f0 [(29, .slice p_0.Store_A p_0.Store.length p_0.Store_c)] (l1 (cln_KSapi_Version 30 p_0.Store_A p_0.Store_c p_0.Store (gd' (RowC p_0.Store_A p_0.Store_c KVersion.cells tr p_0.Store) 0).a (by first | simpa using (apG_some hy_11).1 | (have hh_ := (apG_some hy_11).1; rw [List.length_nil, Nat.zero_add] at hh_; exact hh_)) fun v_11_A v_11_c => ra [] f0 [(8, .slice v_11_A p_0.Store.length v_11_c)] (tN ?_)))); obtain ⟨o_170, hG, hG_170⟩ := bs hG; refine jn (fun K E a w => ∃ (v_171 : List KVersion) (v_172_A : Option Addr) (v_173_c : Nat), Js S0 w0 75 ([(8, .slice v_172_A v_171.length v_173_c)] ++ K) ([.dat (RowC v_172_A v_173_c KVersion.cells tr v_171)] ++ se E [1, 2, 3, 5]) (.inl v_171 = o_170) a w) ?_ ?_
   ·refine sq ?_; obtain ⟨v_12o, hy_12, hG⟩ := bs hG; refine rg (fpn (p := KTxL.p) false true inf30 (gd' (RowC p_0.Open_A p_0.Open_c KTxL.cells KTxL.ok p_0.Open) 2) hy_12 fun v_12 v_12_A v_12_c he_12 hp_12 => ?_); subst he_12
    try simp only [List.length_map, KLeaderL.n_Open] at hG
    refine ra [(1, 1, 6, 2), (1, 0, 0, 0)] (fc (hp_12 .i64 .i64) f0) (ns 34 [.slice v_12_A v_12.length v_12_c, I ((v_12.length : Nat) : Int), I 0]) (tN (bk ?_)); obtain ⟨e_117, hL, hG_117⟩ := bs hG; clear hG; obtain ⟨stp_117, hs_117, hL⟩ := iter_gen hL; refine lp (fun K E n_ a w => ∃ (v_113 : Int) (v_114 : List KVersion) (v_115_A : Option Addr) (v_116_c : Nat), Js S0 w0 75 ([(8, .slice v_115_A v_114.length v_116_c), (36, I v_113)] ++ K) ([.dat (RowC v_115_A v_116_c KVersion.cells tr v_114)] ++ se E [0, 2, 3, 4, 6]) (iter stp_117 n_ (v_113, v_114) = some e_117) a w) F ?_ ?_
    ·exact so (A := v_11_A) (c := v_11_c) 1 KVersion.cells tr p_0.Store tr_mv et (fun _ _ S k e => ⟨0, p_0.Store, v_11_A, v_11_c, S, k.wk, e.sel [1, 0, 2, 3, 4, 6], hL⟩)
    ·clear hL; rintro n_117 a w ⟨v_113, v_114, v_115_A, v_116_c, hJ⟩; refine hJ.go fun hL => ?_
     clear hJ; obtain ⟨m_117, o_117, rfl, hG, hO1_117, hO2_117⟩ := iter_step hL; clear hL; rw [hs_117] at hG; refine sq (rg (ra [] f0 [(37, B (decide (v_113 < ((v_12.length : Nat) : Int))))] (tN (sq ?_)))); rcases ic hG with ⟨h_118, hG⟩ | ⟨h_118, hG⟩
     ·try simp only [List.length_map, KLeaderL.n_Open] at h_118
      refine sb 37 (bt h_118) (ct (kS (tN ?_))); obtain ⟨o_161, hG, hG_161⟩ := bs hG; refine jn (fun K E a w => ∃ (v_162 : List KVersion) (v_163_A : Option Addr) (v_164_c : Nat), Js S0 w0 75 ([(8, .slice v_163_A v_162.length v_164_c)] ++ K) ([.dat (RowC v_163_A v_164_c KVersion.cells tr v_162)] ++ se E [1, 2, 3, 4, 5]) (.inl v_162 = o_161) a w) ?_ ?_
      ·refine bk (sq ?_); obtain ⟨v_119o, hy_119, hG⟩ := bs hG; refine rg (fxn (p := KTxL.p) inf30 (gd' (RowC v_12_A v_12_c KTxL.cells KTxL.ok v_12) 1) hy_119 fun v_119 b_120 o_121 he_119 hi_119 => ?_); subst he_119
       try simp only [List.length_map, KLeaderL.n_Open] at hG
       refine rn 2 [(0, 0, 0, 0), (0, 4, 0, 0)] (fc (hi_119 .i64) f0) [(39, .agg #[I v_119.ID, I v_119.Ts, .slice v_119.Reads_A v_119.Reads.length v_119.Reads_c, .slice v_119.Writes_A v_119.Writes.length v_119.Writes_c])] (l1 (nw 10 vp (KTxL.cells KTxL.z) 26 fun g_122 => l1 (sr 0 g_122 (ns 0 [I v_119.ID, I v_119.Ts, .slice v_119.Reads_A v_119.Reads.length v_119.Reads_c, .slice v_119.Writes_A v_119.Writes.length v_119.Writes_c]) (nl (tN (sq ?_)))))); obtain ⟨v_123o, hy_123, hG⟩ := bs hG; refine rg (rn 2 [(0, 4, 0, 0)] f0 [(41, .agg #[I v_119.ID, I v_119.Ts, .slice v_119.Reads_A v_119.Reads.length v_119.Reads_c, .slice v_119.Writes_A v_119.Writes.length v_119.Writes_c])] (l1 (cn 42 (z_commit_work_versions F (⟨v_119⟩ : Kcommit_workL) _ hy_123) hT (fun _ => (mr tr_mv m0)) ⟨(((gm (KTxL.ok v_119) 2 fun _ _ h => h)).m fun _ _ h => ⟨h⟩), trivial⟩ ?_))); rintro ⟨v_123_A, v_123_c, v_123⟩ hq_123; obtain rfl : v_123 = v_123o := hq_123.symm
       try simp only [List.length_map, KLeaderL.n_Open] at hG
       refine ra [] f0 [(43, I ((v_123.length : Nat) : Int)), (44, I 0)] (tN (bk ?_)); obtain ⟨e_148, hL, hG_148⟩ := bs hG; clear hG; obtain ⟨stp_148, hs_148, hL⟩ := iter_gen hL; refine lp (fun K E n_ a w => ∃ (v_144 : Int) (v_145 : List KVersion) (v_146_A : Option Addr) (v_147_c : Nat), Js S0 w0 75 ([(8, .slice v_146_A v_145.length v_147_c), (44, I v_144)] ++ K) ([.dat (RowC v_146_A v_147_c KVersion.cells tr v_145)] ++ se E [0, 5, 6, 7, 8, 9]) (iter stp_148 n_ (v_144, v_145) = some e_148) a w) F ?_ ?_
       ·exact fun _ _ S k e => ⟨0, v_114, v_115_A, v_116_c, S, k.wk, e.sel [4, 0, 5, 6, 7, 8, 9], hL⟩
       ·clear hL; rintro n_148 a w ⟨v_144, v_145, v_146_A, v_147_c, hJ⟩; refine hJ.go fun hL => ?_
        clear hJ; obtain ⟨m_148, o_148, rfl, hG, hO1_148, hO2_148⟩ := iter_step hL; clear hL; rw [hs_148] at hG; refine sq (rg (ra [] f0 [(45, B (decide (v_144 < ((v_123.length : Nat) : Int))))] (tN (sq ?_)))); rcases ic hG with ⟨h_149, hG⟩ | ⟨h_149, hG⟩
        ·try simp only [List.length_map, KLeaderL.n_Open] at h_149
         refine sb 45 (bt h_149) (ct (kS (tN (sq (bk (sq ?_)))))); obtain ⟨v_150, hy_150, hG⟩ := bs hG; refine rg (fx inf38 (gd' (RowC v_123_A v_123_c KVersion.cells tr v_123) 1) hy_150 fun b_151 o_152 hi_150 => rn 2 [(0, 0, 0, 0), (0, 4, 0, 0)] (fc (hi_150 .i64) f0) [(47, .agg #[I v_150.Key, I v_150.Ts, I v_150.Value, B v_150.Gone])] (l1 (nw 12 vp [I 0, I 0, I 0, B false] 61 fun g_153 => l1 (sr 0 g_153 (ns 0 [I v_150.Key, I v_150.Ts, I v_150.Value, B v_150.Gone]) (nl (tN (sq ?_))))))); obtain ⟨v_154o, v_155, hy_154, hG⟩ := b2 hG; refine rg (rn 2 [(1, 4, 0, 0)] f0 [(49, .slice v_146_A v_145.length v_147_c), (50, .agg #[I v_150.Key, I v_150.Ts, I v_150.Value, B v_150.Gone])] (l1 (cn 51 (z_versions_Put F v_146_A v_147_c v_145 v_150 _ hy_154) hT (fun _ => (mr tr_mv m0)) ⟨gi 2, trivial⟩ ?_))); rintro ⟨v_154_A, v_154_c, v_154⟩ hq_154; obtain rfl : v_154 = v_154o := hq_154.symm
         try simp only [List.length_map, KLeaderL.n_Open] at hG
         refine ra [] f0 [(13, .slice v_154_A v_154.length v_154_c), (14, I v_155)] (tN (sq (sq (rg (ra [] f0 [(55, B (!(v_155 == 0)))] (tN ?_)))))); rcases ic hG with ⟨h_156, hG⟩ | ⟨h_156, hG⟩
         ·exact sb 55 (nt h_156) (cf (kS (tN (rg (ra [] f0 [(8, .slice v_154_A v_154.length v_154_c)] (hN (tN (rg (ra [] f0 [(44, I (IntKind.i64.wrap (v_144 + 1)))] (tN (fun a w S hK hE => ⟨m_148, ⟨IntKind.i64.wrap (v_144 + 1), v_154, v_154_A, v_154_c, S, hK.wk, hE.sel [0, 4, 5, 6, 7, 8, 9], hO1_148 _ (oi hG).symm⟩, Nat.lt_succ_self _⟩)))))))))))
         ·refine sb 55 (nf h_156) (ct (sq (rg (rn 2 [] f0 [(56, .agg #[I 0, .slice none 0 0, .slice none 0 0]), (57, I v_155)] (l1 (sr 8 g_3 (ns 0 [I 0, .slice none 0 0, .slice none 0 0]) (ra [] f0 [(5, .slice none 0 0), (6, I v_155)] (tN (kR (tR (hR (tR (tR ?_))))))))))))); have he_ := hO2_148 _ (oi hG).symm; subst he_; replace hG := hG_148; refine hR (hR (tR ?_)); obtain rfl := oi hG; replace hG := hG_161; refine tR ?_; have he_ := hO2_117 _ (oi hG).symm; subst he_; replace hG := hG_117; refine hR (tR ?_); obtain rfl := oi hG; replace hG := hG_170; obtain rfl := oi hG; exact rtn [(8, 0, 3)] ((⟨0, none, 0, ([] : List KVersion), none, 0, ([] : List KTxL)⟩ : KLeaderL), ⟨none, 0, ([] : List KTxL)⟩) ⟨rfl, rfl⟩ ⟨((Fd.two ((gn : Fd _ (RowC none 0 KVersion.cells tr ([] : List KVersion)))) ((gn : Fd _ (RowC none 0 KTxL.cells KTxL.ok ([] : List KTxL))))).m fun _ _ h => ⟨h.1, h.2⟩), gn, trivial⟩
        ·try simp only [List.length_map, KLeaderL.n_Open] at h_149
         refine sb 45 (bf h_149) (cf (kX (tX (tX ?_)))); have he_ := hO2_148 _ (oi hG).symm; subst he_; replace hG := hG_148; exact hH (hN (tN (fun _ _ S k e => ⟨v_145, v_146_A, v_147_c, S, k.wk, e.sel [0, 2, 3, 4, 5, 6], oi hG⟩)))
      ·rintro a w ⟨v_162, v_163_A, v_164_c, hJ⟩; refine hJ.go fun ho_ => ?_
       clear hJ; subst ho_; replace hG := el hG_161; exact rg (ra [] f0 [(36, I (IntKind.i64.wrap (v_113 + 1)))] (tN (fun a w S hK hE => ⟨m_117, ⟨IntKind.i64.wrap (v_113 + 1), v_162, v_163_A, v_164_c, S, hK.wk, hE.sel [0, 1, 2, 3, 4, 5], hO1_117 _ (oi hG).symm⟩, Nat.lt_succ_self _⟩)))
     ·try simp only [List.length_map, KLeaderL.n_Open] at h_118
      refine sb 37 (bf h_118) (cf (kX (tX (tX ?_)))); have he_ := hO2_117 _ (oi hG).symm; subst he_; replace hG := hG_117; exact hH (tN (fun _ _ S k e => ⟨v_114, v_115_A, v_116_c, S, k.wk, e.sel [0, 2, 3, 4, 5], oi hG⟩))
   ·rintro a w ⟨v_171, v_172_A, v_173_c, hJ⟩; refine hJ.go fun ho_ => ?_
    clear hJ; subst ho_; replace hG := el hG_170; refine sq ?_; obtain ⟨v_175o, hy_175, hG⟩ := bs hG; replace hG := bs hG; obtain ⟨v_176o, hy_176, hG⟩ := hG; replace hG := bs hG; obtain ⟨v_177o, hy_177, hG⟩ := hG; replace hG := bs hG; obtain ⟨v_178o, hy_178, hG⟩ := hG; refine fpn (p := KTxL.p) true false inf30 (gd' (RowC p_0.Open_A p_0.Open_c KTxL.cells KTxL.ok p_0.Open) 2) hy_175 fun v_175 v_175_A v_175_c he_175 hp_175 => ?_
    subst he_175
    try simp only [List.length_map, KLeaderL.n_Open] at hG
    refine fpn (p := KTxL.p) false true inf30 (gd' (RowC p_0.Open_A p_0.Open_c KTxL.cells KTxL.ok p_0.Open) 3) hy_177 fun v_177 v_177_A v_177_c he_177 hp_177 => ?_
    subst he_177
    try simp only [List.length_map, KLeaderL.n_Open] at hG
    refine hb [0, 1, 2, 3, 4, 6] (ht [0, 1, 2, 3, 4, 6] [0, 1, 2, 3, 4, 5, 6, 9, 10, 11, 12] [(1, 1, 5, 0), (2, 1, 5, 2), (1, 0, 0, 0), (1, 1, 5, 2), (1, 0, 0, 0)] (fc (hp_175 .i64 .i64) (fc (hp_177 .i64 .i64) f0)) [(62, I p_0.Last), (63, .slice v_172_A v_171.length v_173_c), (67, .slice v_175_A v_175.length v_175_c), (73, .slice v_177_A v_177.length v_177_c)] (ho [7] ⟨h1 (cn 68 (z_commit_copies F v_175_A v_175_c v_175 _ hy_176) hT (fun _ => (mr KTxL.mv m0)) ⟨gi 1, trivial⟩ ?_), trivial⟩)); rintro ⟨v_176_A, v_176_c, v_176⟩ hq_176; obtain rfl : (v_176.map KTxL.p) = v_176o := hq_176.symm
    try simp only [List.length_map, KLeaderL.n_Open] at hG
    refine hk [1, 2, 3, 4, 5, 7] (ht [1, 2, 3, 4, 5, 7] [8] [] f0 [(69, .agg #[I p_0.Last, .slice v_172_A v_171.length v_173_c, .slice v_176_A v_176.length v_176_c])] (ho [13] ⟨h1 (cn 74 (z_commit_copies F v_177_A v_177_c v_177 _ hy_178) hT (fun _ => (mr KTxL.mv m0)) ⟨gi 1, trivial⟩ ?_), trivial⟩)); rintro ⟨v_178_A, v_178_c, v_178⟩ hq_178; obtain rfl : (v_178.map KTxL.p) = v_178o := hq_178.symm
    try simp only [List.length_map, KLeaderL.n_Open] at hG
    refine hk [2, 3, 4, 5, 6, 8] (ho [14] ⟨h1 (sr 7 g_3 (ns 0 [I p_0.Last, .slice v_172_A v_171.length v_173_c, .slice v_176_A v_176.length v_176_c]) (hk [2, 3, 4, 5, 6, 8] (ht [2, 3, 4, 5, 6, 8] [15, 16] [] f0 [(5, .slice v_178_A v_178.length v_178_c), (6, I 0)] (he (tN (kR ?_)))))), trivial⟩); obtain rfl := oi hG; exact rtn [(7, 0, 3)] ((⟨p_0.Last, v_172_A, v_173_c, v_171, v_176_A, v_176_c, v_176⟩ : KLeaderL), ⟨v_178_A, v_178_c, v_178⟩) ⟨rfl, rfl⟩ ⟨((Fd.two ((gd' (RowC v_172_A v_173_c KVersion.cells tr v_171) 4)) ((gd' (RowC v_176_A v_176_c KTxL.cells KTxL.ok v_176) 1))).m fun _ _ h => ⟨h.1, h.2⟩), gi 0, trivial⟩
end Go.Proofs.Ytlfkgbideknkhaa
namespace Go.Proofs.Ytlfkgbideknkhaa
open Go.RowKit Go.Maps
def G_commit_Stamp (F : Nat) (p_0 : KLeader) (p_1 : KTx) (p_2 : KInterval) : Option (KLeader × KTx × Int) :=
  Option.bind (Option.bind (G_commit_Valid F p_0) (fun v_6 =>
    ifB (v_6)
      (Option.bind (G_interval_Valid F p_2) (fun v_8 =>
      ifB (v_8)
        (Option.bind (G_commit_work_formed F (⟨p_1⟩ : Kcommit_work)) (fun v_10 =>
        ifB (v_10)
          (some (!(p_1.Ts == 0)))
          (some true)))
        (some true)))
      (some true)) : Option (Bool)) (fun (v_13 : Bool) => 
    ifB (v_13)
      (Option.bind (G_commit_Stamp_1 F 1) (un3 fun v_15 v_16 v_17 =>
      some (v_15, v_16, v_17)))
      (Option.bind (Option.bind (Option.bind (iter (σ := Int × (List (Int × Int))) (ρ := (List (Int × Int))) (un2 fun (v_34 : Int) (v_35 : (List (Int × Int))) => 
              (ifB (decide (v_34 < ((p_0.Store.length : Nat) : Int)))
                (Option.bind (ixI p_0.Store v_34) (fun v_38 =>
                Option.bind (some (mpS v_35 v_38.Key (max (mpG v_35 v_38.Key 0) v_38.Ts))) (fun v_42 =>
                some (.inl (IntKind.i64.wrap (v_34 + 1), v_42)))))
                (some (.inr v_35)) : Option ((Int × (List (Int × Int))) ⊕ (List (Int × Int))))) F (0, ([] : List (Int × Int)))) (fun (v_43 : (List (Int × Int))) => 
            some v_43) : Option ((List (Int × Int)))) (fun (v_45 : (List (Int × Int))) => 
          Option.bind (Option.bind (iter (σ := (List (Int × Int)) × Int) (ρ := (List (Int × Int))) (un2 fun (v_110 : (List (Int × Int))) (v_111 : Int) => 
                (ifB (decide (v_111 < ((p_0.Open.length : Nat) : Int)))
                  (Option.bind (Option.bind (ixI p_0.Open v_111) (fun v_114 =>
                    Option.bind (iter (σ := (List (Int × Int)) × Int) (ρ := (List (Int × Int))) (un2 fun (v_132 : (List (Int × Int))) (v_133 : Int) => 
                        (ifB (decide (v_133 < ((v_114.Writes.length : Nat) : Int)))
                          (Option.bind (ixI v_114.Writes v_133) (fun v_136 =>
                          Option.bind (some (mpS v_132 v_136.Key v_114.Ts)) (fun v_140 =>
                          some (.inl (v_140, IntKind.i64.wrap (v_133 + 1))))))
                          (some (.inr v_132)) : Option (((List (Int × Int)) × Int) ⊕ (List (Int × Int))))) F (v_110, 0)) (fun (v_141 : (List (Int × Int))) => 
                      some v_141)) : Option ((List (Int × Int)))) (fun (v_143 : (List (Int × Int))) => 
                    some (.inl (v_143, IntKind.i64.wrap (v_111 + 1)))))
                  (some (.inr v_110)) : Option (((List (Int × Int)) × Int) ⊕ (List (Int × Int))))) F (v_45, 0)) (fun (v_144 : (List (Int × Int))) => 
              some v_144) : Option ((List (Int × Int)))) (fun (v_146 : (List (Int × Int))) => 
            some v_146)) : Option ((List (Int × Int)))) (fun (v_148 : (List (Int × Int))) => 
        Option.bind (Option.bind (Option.bind (Option.bind (iter (σ := Int) (ρ := Unit ⊕ Int) (fun (v_297 : Int) => 
                  (ifB (decide (v_297 < ((p_1.Reads.length : Nat) : Int)))
                    (Option.bind (ixI p_1.Reads v_297) (fun v_300 =>
                    Option.bind (some () : Option (Unit)) (fun (_ : Unit) => 
                      ifB (((mpG v_148 v_300.Key 0) == v_300.Ts))
                        (some (.inl (IntKind.i64.wrap (v_297 + 1))))
                        (some (.inr (.inr v_297))))))
                    (some (.inr (.inl ()))) : Option (Int ⊕ (Unit ⊕ Int)))) F 0) (Sum.elim (fun (_ : Unit) => 
                some (.inl ())) (fun (v_307 : Int) => 
                some (.inr v_307))) : Option (Unit ⊕ Int)) (Sum.elim (fun (_ : Unit) => 
              some (-1)) (fun (v_309 : Int) => 
              some v_309)) : Option (Int)) (fun (v_310 : Int) => 
            some (decide (v_310 ≥ 0))) : Option (Bool)) (fun (v_342 : Bool) => 
          ifB (v_342)
            (Option.bind (G_commit_Stamp_1 F 60) (un3 fun v_407 v_408 v_409 =>
            some (v_407, v_408, v_409)))
            (Option.bind (ifB ((((p_0.Open.length : Nat) : Int) == 2000))
                (some true)
                (Option.bind (G_commit_size F p_0) (fun v_411 =>
                some (decide ((IntKind.i64.wrap (v_411 + ((p_1.Writes.length : Nat) : Int))) > 4000)))) : Option (Bool)) (fun (v_413 : Bool) => 
              ifB (v_413)
                (Option.bind (G_commit_Stamp_1 F 2) (un3 fun v_415 v_416 v_417 =>
                some (v_415, v_416, v_417)))
                (Option.bind (G_commit_copied F p_1) (fun v_418 =>
                ifB (decide ((max (IntKind.i64.wrap (p_0.Last + 1)) p_2.Hi) > 3000000000000000))
                  (Option.bind (G_commit_Stamp_1 F 3) (un3 fun v_420 v_421 v_422 =>
                  some (v_420, v_421, v_422)))
                  (Option.bind (apG 32 ([] : List KVersion) p_0.Store) (fun v_423 =>
                  Option.bind (Option.bind (Option.bind (iter (σ := (List KTx) × Int) (ρ := (List KTx)) (un2 fun (v_444 : (List KTx)) (v_447 : Int) => 
                          (ifB (decide (v_447 < ((p_0.Open.length : Nat) : Int)))
                            (Option.bind (ixI p_0.Open v_447) (fun v_450 =>
                            Option.bind (G_commit_copied F v_450) (fun v_454 =>
                            Option.bind (apG 64 v_444 ([v_454] : List KTx)) (fun v_456 =>
                            some (.inl (v_456, IntKind.i64.wrap (v_447 + 1)))))))
                            (some (.inr v_444)) : Option (((List KTx) × Int) ⊕ (List KTx)))) F (([] : List KTx), 0)) (fun (v_457 : (List KTx)) => 
                        some v_457) : Option ((List KTx))) (fun (v_461 : (List KTx)) => 
                      some v_461) : Option ((List KTx))) (fun (v_464 : (List KTx)) => 
                    Option.bind (G_commit_copied F (⟨v_418.ID, (max (IntKind.i64.wrap (p_0.Last + 1)) p_2.Hi), v_418.Reads, v_418.Writes⟩ : KTx)) (fun v_468 =>
                    Option.bind (apG 64 v_464 ([v_468] : List KTx)) (fun v_470 =>
                    some ((⟨(max (IntKind.i64.wrap (p_0.Last + 1)) p_2.Hi), p_0.Store, v_470⟩ : KLeader), (⟨v_418.ID, (max (IntKind.i64.wrap (p_0.Last + 1)) p_2.Hi), v_418.Reads, v_418.Writes⟩ : KTx), 0))))))))))))))
set_option maxRecDepth 100000 in
set_option maxHeartbeats 16000000 in
theorem z_commit_Stamp (F : Nat) (p_0 : KLeaderL) (p_1 : KTxL) (p_2 : KInterval) (r : KLeader × KTx × Int) (hG : G_commit_Stamp F p_0.p p_1.p p_2 = some r) :
  Cn Try.prog 23 [.agg #[I p_0.Last, .slice p_0.Store_A p_0.Store.length p_0.Store_c, .slice p_0.Open_A p_0.Open.length p_0.Open_c], .agg #[I p_1.ID, I p_1.Ts, .slice p_1.Reads_A p_1.Reads.length p_1.Reads_c, .slice p_1.Writes_A p_1.Writes.length p_1.Writes_c], .agg #[I p_2.Lo, I p_2.Hi]] [KLeaderL.ok p_0, KTxL.ok p_1] (fun q : KLeaderL × KTxL => r.1 = q.1.p ∧ r.2.1 = q.2.p) (fun q => .tuple #[.agg #[I q.1.Last, .slice q.1.Store_A q.1.Store.length q.1.Store_c, .slice q.1.Open_A q.1.Open.length q.1.Open_c], .agg #[I q.2.ID, I q.2.Ts, .slice q.2.Reads_A q.2.Reads.length q.2.Reads_c, .slice q.2.Writes_A q.2.Writes.length q.2.Writes_c], I r.2.2]) (fun q => [KLeaderL.ok q.1, KTxL.ok q.2]) := by
 unfold G_commit_Stamp at hG
 try simp only [List.length_map, KLeaderL.n_Open] at hG
 refine fin Try.func23 rfl rfl (mc KLeaderL.mv (mc KTxL.mv m0)) fun S0 w0 hT => sq (rg (l1 (nw 3 vp [I p_0.Last, .slice p_0.Store_A p_0.Store.length p_0.Store_c, .slice p_0.Open_A p_0.Open.length p_0.Open_c] 40 fun g_1 => l1 (nw 4 vp [I p_1.ID, I p_1.Ts, .slice p_1.Reads_A p_1.Reads.length p_1.Reads_c, .slice p_1.Writes_A p_1.Writes.length p_1.Writes_c] 26 fun g_2 => l1 (nw 5 vp [I p_2.Lo, I p_2.Hi] 50 fun g_3 => l1 (nw 6 vp [I 0, .slice none 0 0, .slice none 0 0] 40 fun g_4 => l1 (nw 7 vp (KTxL.cells KTxL.z) 26 fun g_5 => ra [] f0 [] (tN (sq (rg (ra [] f0 [(9, .func (.func 44) #[] #[])] (tN (sq ?_)))))))))))))
 obtain ⟨o_12, hG, hG_12⟩ := bs hG; refine jn (fun K E a w => ∃ v_13 : Bool, Js S0 w0 95 ([(29, B v_13)] ++ K) ([.dat (RowC p_0.Store_A p_0.Store_c KVersion.cells tr p_0.Store), .dat (RowC p_0.Open_A p_0.Open_c KTxL.cells KTxL.ok p_0.Open), .dat (RowC p_1.Reads_A p_1.Reads_c KSeen.cells tr p_1.Reads), .dat (RowC p_1.Writes_A p_1.Writes_c KWrite.cells tr p_1.Writes)] ++ se E [0, 1, 2, 3, 4]) (v_13 = o_12) a w) ?_ ?_
 ·obtain ⟨v_6, hy_6, hG⟩ := bs hG; rcases ic hG with ⟨h_7, hG⟩ | ⟨h_7, hG⟩
  ·obtain ⟨v_8, hy_8, hG⟩ := bs hG; rcases ic hG with ⟨h_9, hG⟩ | ⟨h_9, hG⟩
   ·obtain ⟨v_10, hy_10, hG⟩ := bs hG; rcases ic hG with ⟨h_11, hG⟩ | ⟨h_11, hG⟩
    ·exact rg (rn 1 [(0, 3, 4, 0)] f0 [(11, .agg #[I p_0.Last, .slice p_0.Store_A p_0.Store.length p_0.Store_c, .slice p_0.Open_A p_0.Open.length p_0.Open_c])] (l1 (cl 12 (z_commit_Valid F p_0 _ hy_6) hT ⟨(gi 5).a, trivial⟩ (rn 2 [] f0 [(14, B (!v_6))] (sb 14 (nt h_7) (rn 1 [(0, 2, 2, 0)] f0 [(15, .agg #[I p_2.Lo, I p_2.Hi])] (l1 (cl 16 (z_interval_Valid F p_2 _ hy_8) hT trivial (rn 3 [] f0 [(19, B (!v_8))] (sb 19 (nt h_9) (rn 2 [(0, 4, 3, 0)] f0 [(21, .agg #[I p_1.ID, I p_1.Ts, .slice p_1.Reads_A p_1.Reads.length p_1.Reads_c, .slice p_1.Writes_A p_1.Writes.length p_1.Writes_c])] (l1 (cl 22 (z_commit_work_formed F (⟨p_1⟩ : Kcommit_workL) _ hy_10) hT ⟨(((gm (KTxL.ok p_1) 6 fun _ _ h => h)).m fun _ _ h => ⟨h⟩).a, trivial⟩ (rn 3 [] f0 [(25, B (!v_10))] (sb 25 (nt h_11) (ra [(1, 1, 3, 1)] f0 [(29, B (!(p_1.Ts == 0)))] (tN (fg (KLeaderL.ok p_0) 5 (fun _ _ h => h.f_Store) (fg (KLeaderL.ok p_0) 6 (fun _ _ h => h.f_Open) (fg (KTxL.ok p_1) 8 (fun _ _ h => h.f_Reads) (fg (KTxL.ok p_1) 9 (fun _ _ h => h.f_Writes) (fun _ _ S k e => ⟨!(p_1.Ts == 0), S, k.wk, e.sel [3, 2, 1, 0, 4, 5, 6, 7, 8], oi hG⟩))))))))))))))))))))))
    ·exact rg (rn 1 [(0, 3, 4, 0)] f0 [(11, .agg #[I p_0.Last, .slice p_0.Store_A p_0.Store.length p_0.Store_c, .slice p_0.Open_A p_0.Open.length p_0.Open_c])] (l1 (cl 12 (z_commit_Valid F p_0 _ hy_6) hT ⟨(gi 5).a, trivial⟩ (rn 2 [] f0 [(14, B (!v_6))] (sb 14 (nt h_7) (rn 1 [(0, 2, 2, 0)] f0 [(15, .agg #[I p_2.Lo, I p_2.Hi])] (l1 (cl 16 (z_interval_Valid F p_2 _ hy_8) hT trivial (rn 3 [] f0 [(19, B (!v_8))] (sb 19 (nt h_9) (rn 2 [(0, 4, 3, 0)] f0 [(21, .agg #[I p_1.ID, I p_1.Ts, .slice p_1.Reads_A p_1.Reads.length p_1.Reads_c, .slice p_1.Writes_A p_1.Writes.length p_1.Writes_c])] (l1 (cl 22 (z_commit_work_formed F (⟨p_1⟩ : Kcommit_workL) _ hy_10) hT ⟨(((gm (KTxL.ok p_1) 6 fun _ _ h => h)).m fun _ _ h => ⟨h⟩).a, trivial⟩ (rn 3 [] f0 [(25, B (!v_10))] (sb 25 (nf h_11) (ra [] f0 [(29, B true)] (tN (fg (KLeaderL.ok p_0) 5 (fun _ _ h => h.f_Store) (fg (KLeaderL.ok p_0) 6 (fun _ _ h => h.f_Open) (fg (KTxL.ok p_1) 8 (fun _ _ h => h.f_Reads) (fg (KTxL.ok p_1) 9 (fun _ _ h => h.f_Writes) (fun _ _ S k e => ⟨true, S, k.wk, e.sel [3, 2, 1, 0, 4, 5, 6, 7, 8], oi hG⟩))))))))))))))))))))))
   ·exact rg (rn 1 [(0, 3, 4, 0)] f0 [(11, .agg #[I p_0.Last, .slice p_0.Store_A p_0.Store.length p_0.Store_c, .slice p_0.Open_A p_0.Open.length p_0.Open_c])] (l1 (cl 12 (z_commit_Valid F p_0 _ hy_6) hT ⟨(gi 5).a, trivial⟩ (rn 2 [] f0 [(14, B (!v_6))] (sb 14 (nt h_7) (rn 1 [(0, 2, 2, 0)] f0 [(15, .agg #[I p_2.Lo, I p_2.Hi])] (l1 (cl 16 (z_interval_Valid F p_2 _ hy_8) hT trivial (rn 3 [] f0 [(19, B (!v_8))] (sb 19 (nf h_9) (ra [] f0 [(29, B true)] (tN (fg (KLeaderL.ok p_0) 5 (fun _ _ h => h.f_Store) (fg (KLeaderL.ok p_0) 6 (fun _ _ h => h.f_Open) (fg (KTxL.ok p_1) 8 (fun _ _ h => h.f_Reads) (fg (KTxL.ok p_1) 9 (fun _ _ h => h.f_Writes) (fun _ _ S k e => ⟨true, S, k.wk, e.sel [3, 2, 1, 0, 4, 5, 6, 7, 8], oi hG⟩)))))))))))))))))
  ·exact rg (rn 1 [(0, 3, 4, 0)] f0 [(11, .agg #[I p_0.Last, .slice p_0.Store_A p_0.Store.length p_0.Store_c, .slice p_0.Open_A p_0.Open.length p_0.Open_c])] (l1 (cl 12 (z_commit_Valid F p_0 _ hy_6) hT ⟨(gi 5).a, trivial⟩ (rn 2 [] f0 [(14, B (!v_6))] (sb 14 (nf h_7) (ra [] f0 [(29, B true)] (tN (fg (KLeaderL.ok p_0) 5 (fun _ _ h => h.f_Store) (fg (KLeaderL.ok p_0) 6 (fun _ _ h => h.f_Open) (fg (KTxL.ok p_1) 8 (fun _ _ h => h.f_Reads) (fg (KTxL.ok p_1) 9 (fun _ _ h => h.f_Writes) (fun _ _ S k e => ⟨true, S, k.wk, e.sel [3, 2, 1, 0, 4, 5, 6, 7, 8], oi hG⟩))))))))))))
 ·rintro a w ⟨v_13, hJ⟩; refine hJ.go fun ho_ => ?_
  clear hJ; subst ho_; replace hG := hG_12; rcases ic hG with ⟨h_14, hG⟩ | ⟨h_14, hG⟩
  ·refine sb 29 (bt h_14) (ct (sq ?_)); obtain ⟨v_15o, v_16o, v_17, hy_15, hG⟩ := b3 hG; refine rg (rn 1 [] f0 [(30, .func (.func 44) #[] #[])] (l1 (cn 31 (z_commit_Stamp_1 F 1 _ hy_15) hT (fun _ => (mc KLeaderL.mv (mc KTxL.mv m0))) trivial ?_))); rintro ⟨v_15, v_16⟩ ⟨hq_15, hq_16⟩; obtain rfl : v_15.p = v_15o := hq_15.symm; obtain rfl : v_16.p = v_16o := hq_16.symm
   try simp only [List.length_map, KLeaderL.n_Open] at hG
   refine rn 3 [] f0 (ns 32 [.agg #[I v_15.Last, .slice v_15.Store_A v_15.Store.length v_15.Store_c, .slice v_15.Open_A v_15.Open.length v_15.Open_c], .agg #[I v_16.ID, I v_16.Ts, .slice v_16.Reads_A v_16.Reads.length v_16.Reads_c, .slice v_16.Writes_A v_16.Writes.length v_16.Writes_c], I v_17]) (l1 (sr 7 g_4 (ns 0 [I v_15.Last, .slice v_15.Store_A v_15.Store.length v_15.Store_c, .slice v_15.Open_A v_15.Open.length v_15.Open_c]) (l1 (sr 6 g_5 (ns 0 [I v_16.ID, I v_16.Ts, .slice v_16.Reads_A v_16.Reads.length v_16.Reads_c, .slice v_16.Writes_A v_16.Writes.length v_16.Writes_c]) (ra [] f0 [(8, I v_17)] (tN (kR (tR ?_)))))))); obtain rfl := oi hG; exact rtn [(7, 0, 3), (6, 0, 4)] (v_15, v_16) ⟨rfl, rfl⟩ ⟨(gi 0), (gi 1), trivial⟩
  ·refine sb 29 (bf h_14) (cf (kS (tN (sq ?_)))); obtain ⟨v_148o, hy_149, hG⟩ := bs hG; refine rg (rn 1 [(0, 3, 8, 0)] f0 [(35, .agg #[I p_0.Last, .slice p_0.Store_A p_0.Store.length p_0.Store_c, .slice p_0.Open_A p_0.Open.length p_0.Open_c])] (l1 (ci 36 (args := [.agg #[I p_0.Last, .slice p_0.Store_A p_0.Store.length p_0.Store_c, .slice p_0.Open_A p_0.Open.length p_0.Open_c]]) (fun E e w => ∃ (g_147 : Nat) (v_148 : List (Int × Int)), Rs S0 w0 (.map (some g_147)) ([.mp g_147 (mpM (Value.int .i64) v_148)] ++ se E [0, 1, 2, 3, 4, 5, 6, 7, 8]) (v_148 = v_148o) e w) Try.func46 rfl rfl ?_ ?_)))
   ·replace hG := hy_149
    try simp only [List.length_map, KLeaderL.n_Open] at hG
    refine sq (rg (l1 (nw 1 vp [I p_0.Last, .slice p_0.Store_A p_0.Store.length p_0.Store_c, .slice p_0.Open_A p_0.Open.length p_0.Open_c] 40 fun g_151 => ra [] f0 [] (tN (sq (rg (l1 (mm 10 fun g_152 => ra [] f0 [(3, .map (some g_152))] (tN ?_))))))))); replace hG := bs hG; obtain ⟨o_177, hG, hG_177⟩ := hG; refine jn (fun K E a w => ∃ v_178 : List (Int × Int), Js S0 w0 51 (K) ([.mp g_152 (mpM (Value.int .i64) v_178)] ++ se E [1, 2, 3, 4, 5, 6, 7, 8, 9, 10]) (v_178 = o_177) a w) ?_ ?_
    ·refine sq (rg (ra [(1, 1, 1, 1)] f0 (ns 12 [.slice p_0.Store_A p_0.Store.length p_0.Store_c, I ((p_0.Store.length : Nat) : Int), I 0]) (tN (bk ?_)))); obtain ⟨e_169, hL, hG_169⟩ := bs hG; clear hG; obtain ⟨stp_169, hs_169, hL⟩ := iter_gen hL; refine lp (fun K E n_ a w => ∃ (v_167 : Int) (v_168 : List (Int × Int)), Js S0 w0 51 ([(14, I v_167)] ++ K) ([.mp g_152 (mpM (Value.int .i64) v_168)] ++ se E [1, 2, 3, 4, 5, 6, 7, 8, 9, 10]) (iter stp_169 n_ (v_167, v_168) = some e_169) a w) F ?_ ?_
     ·exact fun _ _ S k e => ⟨0, ([] : List (Int × Int)), S, k.wk, e.sel [0, 1, 2, 3, 4, 5, 6, 7, 8, 9, 10], hL⟩
     ·clear hL; rintro n_169 a w ⟨v_167, v_168, hJ⟩; refine hJ.go fun hL => ?_
      clear hJ; obtain ⟨m_169, o_169, rfl, hG, hO1_169, hO2_169⟩ := iter_step hL; clear hL; rw [hs_169] at hG
      try simp only [List.length_map, KLeaderL.n_Open] at hG
      refine sq (rg (ra [] f0 [(15, B (decide (v_167 < ((p_0.Store.length : Nat) : Int))))] (tN (sq ?_)))); replace hG := ic hG; rcases hG with ⟨h_170, hG⟩ | ⟨h_170, hG⟩
      ·try simp only [List.length_map, KLeaderL.n_Open] at h_170
       refine sb 15 (bt h_170) (ct (kS (tN (sq (bk (sq ?_)))))); replace hG := bs hG; obtain ⟨v_171, hy_171, hG⟩ := hG; refine rg (fx inf38 (gd' (RowC p_0.Store_A p_0.Store_c KVersion.cells tr p_0.Store) 2) hy_171 fun b_172 o_173 hi_171 => rn 2 [(0, 0, 0, 0), (0, 4, 0, 0)] (fc (hi_171 .i64) f0) [(17, .agg #[I v_171.Key, I v_171.Ts, I v_171.Value, B v_171.Gone])] (l1 (nw 5 vp [I 0, I 0, I 0, B false] 61 fun g_174 => l1 (sr 0 g_174 (ns 0 [I v_171.Key, I v_171.Ts, I v_171.Value, B v_171.Gone]) (nl (tN ?_)))))); replace hG := bs hG; obtain ⟨v_175, hy_175, hG⟩ := hG; exact rg (rn 6 [(2, 1, 0, 0), (2, 1, 0, 0)] f0 [(18, .map (some g_152)), (20, I v_171.Key), (21, .map (some g_152)), (23, I v_171.Key)] (l1 (mo (f := (Value.int .i64)) 24 2 g_152 v_168 v_171.Key 0 Try.underlying91 Try.underlying3 (fun w => by kernel_rfl) (rn 3 [(1, 1, 0, 1)] f0 [(27, I (if v_171.Ts > (mpG v_168 v_171.Key 0) then v_171.Ts else (mpG v_168 v_171.Key 0)))] (sb 27 (v := I (if v_171.Ts > (mpG v_168 v_171.Key 0) then v_171.Ts else (mpG v_168 v_171.Key 0))) (v' := I (max (mpG v_168 v_171.Key 0) v_171.Ts)) (congrArg (Value.int .i64) (by omega)) (l1 (mur (f := (Value.int .i64)) 2 g_152 v_168 v_171.Key (max (mpG v_168 v_171.Key 0) v_171.Ts) hy_175 Try.underlying91 Try.underlying3 (nl (hN (tN (rg (ra [] f0 [(14, I (IntKind.i64.wrap (v_167 + 1)))] (tN (fun a w S hK hE => ⟨m_169, ⟨IntKind.i64.wrap (v_167 + 1), v_175, S, hK.wk, hE.sel [2, 3, 4, 5, 6, 7, 8, 9, 10, 11, 12], hO1_169 _ (oi hG).symm⟩, Nat.lt_succ_self _⟩))))))))))))))
      ·try simp only [List.length_map, KLeaderL.n_Open] at h_170
       refine sb 15 (bf h_170) (cf (kX (tX (tX ?_)))); have he_ := hO2_169 _ (oi hG).symm; subst he_; replace hG := hG_169
       try simp only [List.length_map, KLeaderL.n_Open] at hG
       exact hH (tN (fun _ _ S k e => ⟨v_168, S, k.wk, e.sel [0, 1, 2, 3, 4, 5, 6, 7, 8, 9, 10], oi hG⟩))
    ·rintro a w ⟨v_178, hJ⟩; refine hJ.go fun ho_ => ?_
     clear hJ; subst ho_; replace hG := hG_177
     try simp only [List.length_map, KLeaderL.n_Open] at hG
     replace hG := bs hG; obtain ⟨o_278, hG, hG_278⟩ := hG; refine jn (fun K E a w => ∃ v_279 : List (Int × Int), Js S0 w0 51 (K) ([.mp g_152 (mpM (Value.int .i64) v_279)] ++ se E [2, 3, 4, 5, 6, 7, 8, 9, 10]) (v_279 = o_278) a w) ?_ ?_
     ·refine sq (rg (ra [(1, 1, 1, 2)] f0 (ns 30 [.slice p_0.Open_A p_0.Open.length p_0.Open_c, I ((p_0.Open.length : Nat) : Int), I 0]) (tN (bk ?_)))); obtain ⟨e_245, hL, hG_245⟩ := bs hG; clear hG; obtain ⟨stp_245, hs_245, hL⟩ := iter_gen hL; refine lp (fun K E n_ a w => ∃ (v_243 : List (Int × Int)) (v_244 : Int), Js S0 w0 51 ([(32, I v_244)] ++ K) ([.mp g_152 (mpM (Value.int .i64) v_243)] ++ se E [2, 3, 4, 5, 6, 7, 8, 9, 10]) (iter stp_245 n_ (v_243, v_244) = some e_245) a w) F ?_ ?_
      ·exact fun _ _ S k e => ⟨v_178, 0, S, k.wk, e.sel [0, 2, 3, 4, 5, 6, 7, 8, 9, 10], hL⟩
      ·clear hL; rintro n_245 a w ⟨v_243, v_244, hJ⟩; refine hJ.go fun hL => ?_
       clear hJ; obtain ⟨m_245, o_245, rfl, hG, hO1_245, hO2_245⟩ := iter_step hL; clear hL; rw [hs_245] at hG
       try simp only [List.length_map, KLeaderL.n_Open] at hG
       refine sq (rg (ra [] f0 [(33, B (decide (v_244 < ((p_0.Open.length : Nat) : Int))))] (tN (sq ?_)))); replace hG := ic hG; rcases hG with ⟨h_246, hG⟩ | ⟨h_246, hG⟩
       ·try simp only [List.length_map, KLeaderL.n_Open] at h_246
        refine sb 33 (bt h_246) (ct (kS (tN ?_))); replace hG := bs hG; obtain ⟨o_275, hG, hG_275⟩ := hG; refine jn (fun K E a w => ∃ v_276 : List (Int × Int), Js S0 w0 51 (K) ([.mp g_152 (mpM (Value.int .i64) v_276)] ++ se E [1, 2, 3, 4, 5, 6, 7, 8, 9]) (v_276 = o_275) a w) ?_ ?_
        ·refine bk (sq ?_); replace hG := bs hG; obtain ⟨v_247o, hy_247, hG⟩ := hG; refine rg (fxn (p := KTxL.p) inf30 (gd' (RowC p_0.Open_A p_0.Open_c KTxL.cells KTxL.ok p_0.Open) 2) hy_247 fun v_247 b_248 o_249 he_247 hi_247 => ?_); subst he_247
         try simp only [List.length_map, KLeaderL.n_Open] at hG
         refine rn 2 [(0, 0, 0, 0), (0, 4, 0, 0)] (fc (hi_247 .i64) f0) [(35, .agg #[I v_247.ID, I v_247.Ts, .slice v_247.Reads_A v_247.Reads.length v_247.Reads_c, .slice v_247.Writes_A v_247.Writes.length v_247.Writes_c])] (l1 (nw 7 vp (KTxL.cells KTxL.z) 26 fun g_250 => l1 (sr 0 g_250 (ns 0 [I v_247.ID, I v_247.Ts, .slice v_247.Reads_A v_247.Reads.length v_247.Reads_c, .slice v_247.Writes_A v_247.Writes.length v_247.Writes_c]) (nl (tN (sq (rg (ra [(1, 1, 0, 3)] f0 (ns 37 [.slice v_247.Writes_A v_247.Writes.length v_247.Writes_c, I ((v_247.Writes.length : Nat) : Int), I 0]) (tN (bk ?_)))))))))); obtain ⟨e_267, hL, hG_267⟩ := bs hG; clear hG; obtain ⟨stp_267, hs_267, hL⟩ := iter_gen hL; refine lp (fun K E n_ a w => ∃ (v_265 : List (Int × Int)) (v_266 : Int), Js S0 w0 51 ([(39, I v_266)] ++ K) ([.mp g_152 (mpM (Value.int .i64) v_265), .dat (RowC v_247.Writes_A v_247.Writes_c KWrite.cells tr v_247.Writes), .dat (RowC v_247.Reads_A v_247.Reads_c KSeen.cells tr v_247.Reads)] ++ se E [0, 4, 5, 6, 7, 8, 9, 10, 11, 12]) (iter stp_267 n_ (v_265, v_266) = some e_267) a w) F ?_ ?_
         ·exact fg (KTxL.ok v_247) 2 (fun _ _ h => h.f_Writes) (fg (KTxL.ok v_247) 3 (fun _ _ h => h.f_Reads) (fun _ _ S k e => ⟨v_243, 0, S, k.wk, e.sel [5, 1, 0, 2, 6, 7, 8, 9, 10, 11, 12, 13, 14], hL⟩))
         ·clear hL; rintro n_267 a w ⟨v_265, v_266, hJ⟩; refine hJ.go fun hL => ?_
          clear hJ; obtain ⟨m_267, o_267, rfl, hG, hO1_267, hO2_267⟩ := iter_step hL; clear hL; rw [hs_267] at hG
          try simp only [List.length_map, KLeaderL.n_Open] at hG
          refine sq (rg (ra [] f0 [(40, B (decide (v_266 < ((v_247.Writes.length : Nat) : Int))))] (tN (sq ?_)))); replace hG := ic hG; rcases hG with ⟨h_268, hG⟩ | ⟨h_268, hG⟩
          ·try simp only [List.length_map, KLeaderL.n_Open] at h_268
           refine sb 40 (bt h_268) (ct (kS (tN (sq (bk (sq ?_)))))); replace hG := bs hG; obtain ⟨v_269, hy_269, hG⟩ := hG; refine rg (fx inf24 (gd' (RowC v_247.Writes_A v_247.Writes_c KWrite.cells tr v_247.Writes) 1) hy_269 fun b_270 o_271 hi_269 => rn 2 [(0, 0, 0, 0), (0, 3, 0, 0)] (fc (hi_269 .i64) f0) [(42, .agg #[I v_269.Key, I v_269.Value, B v_269.Gone])] (l1 (nw 9 vp [I 0, I 0, B false] 66 fun g_272 => l1 (sr 0 g_272 (ns 0 [I v_269.Key, I v_269.Value, B v_269.Gone]) (nl (tN ?_)))))); replace hG := bs hG; obtain ⟨v_273, hy_273, hG⟩ := hG; exact rg (rn 5 [(2, 1, 0, 0), (1, 1, 5, 1)] f0 [(43, .map (some g_152)), (45, I v_269.Key), (47, I v_247.Ts)] (l1 (mur (f := (Value.int .i64)) 2 g_152 v_265 v_269.Key v_247.Ts hy_273 Try.underlying91 Try.underlying3 (nl (hN (tN (rg (ra [] f0 [(39, I (IntKind.i64.wrap (v_266 + 1)))] (tN (fun a w S hK hE => ⟨m_267, ⟨v_273, IntKind.i64.wrap (v_266 + 1), S, hK.wk, hE.sel [2, 3, 4, 5, 6, 7, 8, 9, 10, 11, 12, 13, 14], hO1_267 _ (oi hG).symm⟩, Nat.lt_succ_self _⟩))))))))))
          ·try simp only [List.length_map, KLeaderL.n_Open] at h_268
           refine sb 40 (bf h_268) (cf (kX (tX (tX ?_)))); have he_ := hO2_267 _ (oi hG).symm; subst he_; replace hG := hG_267
           try simp only [List.length_map, KLeaderL.n_Open] at hG
           exact hH (hN (tN (fun _ _ S k e => ⟨v_265, S, k.wk, e.sel [0, 4, 5, 6, 7, 8, 9, 10, 11, 12], oi hG⟩)))
        ·rintro a w ⟨v_276, hJ⟩; refine hJ.go fun ho_ => ?_
         clear hJ; subst ho_; replace hG := hG_275
         try simp only [List.length_map, KLeaderL.n_Open] at hG
         exact rg (ra [] f0 [(32, I (IntKind.i64.wrap (v_244 + 1)))] (tN (fun a w S hK hE => ⟨m_245, ⟨v_276, IntKind.i64.wrap (v_244 + 1), S, hK.wk, hE.sel [0, 1, 2, 3, 4, 5, 6, 7, 8, 9], hO1_245 _ (oi hG).symm⟩, Nat.lt_succ_self _⟩)))
       ·try simp only [List.length_map, KLeaderL.n_Open] at h_246
        refine sb 33 (bf h_246) (cf (kX (tX (tX ?_)))); have he_ := hO2_245 _ (oi hG).symm; subst he_; replace hG := hG_245
        try simp only [List.length_map, KLeaderL.n_Open] at hG
        exact hH (tN (fun _ _ S k e => ⟨v_243, S, k.wk, e.sel [0, 1, 2, 3, 4, 5, 6, 7, 8, 9], oi hG⟩))
     ·rintro a w ⟨v_279, hJ⟩; refine hJ.go fun ho_ => ?_
      clear hJ; subst ho_; replace hG := hG_278
      try simp only [List.length_map, KLeaderL.n_Open] at hG
      exact sq (rg (ra [] f0 [(2, .map (some g_152))] (tN (kR (ri [] (.map (some g_152)) (fun a w S hK hE => ⟨g_152, v_279, rfl, ⟨S, hE.sel [0, 1, 2, 3, 4, 5, 6, 7, 8, 9]⟩, oi hG⟩))))))
   ·rintro e w ⟨g_147, v_148, hJ⟩; refine hJ.go fun ho_ => ?_
    clear hJ; subst ho_; refine l1 (nw 10 vp [.map none] 91 fun g_150 => l1 (sr 0 g_150 [(0, .map (some g_147))] (nl (tN (sq (sq ?_)))))); replace hG := bs hG; obtain ⟨v_342o, hy_343, hG⟩ := hG; refine rg (rn 3 [(1, 1, 9, 2)] f0 [(38, .slice p_1.Reads_A p_1.Reads.length p_1.Reads_c), (39, .func (.func 48) #[] #[Pt g_150 0])] (l1 (ci 40 (args := [.slice p_1.Reads_A p_1.Reads.length p_1.Reads_c, .func (.func 48) #[] #[Pt g_150 0]]) (fun E e w => ∃ v_342 : Bool, Rs S0 w0 (B v_342) (se E [0, 1, 2, 3, 4, 5, 6, 7, 8, 9, 10]) (v_342 = v_342o) e w) Try.func47 rfl rfl ?_ ?_)))
    ·replace hG := hy_343
     try simp only [List.length_map, KLeaderL.n_Open] at hG
     refine sq (rg (ra [] f0 [] (tN (sq ?_)))); replace hG := bs hG; obtain ⟨v_374o, hy_375, hG⟩ := hG; refine rg (rn 2 [] f0 [(5, .slice p_1.Reads_A p_1.Reads.length p_1.Reads_c), (6, .func (.func 48) #[] #[Pt g_150 0])] (l1 (ci 7 (args := [.slice p_1.Reads_A p_1.Reads.length p_1.Reads_c, .func (.func 48) #[] #[Pt g_150 0]]) (fun E e w => ∃ v_374 : Int, Rs S0 w0 (I v_374) (se E [0, 1, 2, 3, 4, 5, 6, 7, 8, 9, 10]) (v_374 = v_374o) e w) Try.func73 rfl rfl ?_ ?_)))
     ·replace hG := hy_375
      try simp only [List.length_map, KLeaderL.n_Open] at hG
      refine sq (rg (ra [] f0 [] (tN ?_))); replace hG := bs hG; obtain ⟨o_404, hG, hG_404⟩ := hG; refine jn (fun K E a w => Js S0 w0 19 (K) (se E [0, 1, 2, 3, 4, 5, 6, 7, 8, 9, 10]) (.inl () = o_404) a w) ?_ ?_
      ·refine sq (rg (ra [] f0 [(7, I ((p_1.Reads.length : Nat) : Int)), (8, I 0)] (tN (bk ?_)))); obtain ⟨e_394, hL, hG_394⟩ := bs hG; clear hG; obtain ⟨stp_394, hs_394, hL⟩ := iter_gen hL; refine lp (fun K E n_ a w => ∃ v_393 : Int, Js S0 w0 19 ([(8, I v_393)] ++ K) (se E [0, 1, 2, 3, 4, 5, 6, 7, 8, 9, 10]) (iter stp_394 n_ v_393 = some e_394) a w) F ?_ ?_
       ·exact fun _ _ S k e => ⟨0, S, k.wk, e.sel [0, 1, 2, 3, 4, 5, 6, 7, 8, 9, 10], hL⟩
       ·clear hL; rintro n_394 a w ⟨v_393, hJ⟩; refine hJ.go fun hL => ?_
        clear hJ; obtain ⟨m_394, o_394, rfl, hG, hO1_394, hO2_394⟩ := iter_step hL; clear hL; rw [hs_394] at hG; refine sq (rg (ra [] f0 [(9, B (decide (v_393 < ((p_1.Reads.length : Nat) : Int))))] (tN (sq ?_)))); replace hG := ic hG; rcases hG with ⟨h_395, hG⟩ | ⟨h_395, hG⟩
        ·try simp only [List.length_map, KLeaderL.n_Open] at h_395
         refine sb 9 (bt h_395) (ct (kS (tN (sq (bk (sq (rg (ra [] f0 [(5, I v_393)] (tN (sq ?_)))))))))); replace hG := bs hG; obtain ⟨v_396, hy_396, hG⟩ := hG; replace hG := bs hG; obtain ⟨⟨⟩, hy_400, hG⟩ := hG; refine rg (fx inf23 (gd' (RowC p_1.Reads_A p_1.Reads_c KSeen.cells tr p_1.Reads) 4) hy_396 fun b_397 o_398 hi_396 => rn 5 [(3, 0, 0, 0), (0, 2, 0, 0)] (fc (hi_396 .i64) f0) [(11, .func (.func 48) #[] #[Pt g_150 0]), (15, .agg #[I v_396.Key, I v_396.Ts])] (l1 (ci 16 (args := [.agg #[I v_396.Key, I v_396.Ts], Pt g_150 0]) (fun E e w => Rs S0 w0 (B (!((mpG v_148 v_396.Key 0) == v_396.Ts))) (se E [0, 1, 2, 3, 4, 5, 6, 7, 8, 9, 10, 11]) (() = ()) e w) Try.func48 rfl rfl ?_ ?_)))
         ·replace hG := hy_400
          try (simp only [List.length_map, KLeaderL.n_Open] at hG; replace hG : _ = _ := hG)
          exact sq (rg (l1 (nw 2 vp [I v_396.Key, I v_396.Ts] 95 fun g_401 => ra [] f0 [] (tN (sq (rg (rn 3 [(0, 1, 2, 0), (1, 1, 0, 0)] f0 [(4, .map (some g_147)), (6, I v_396.Key)] (l1 (mo (f := (Value.int .i64)) 7 3 g_147 v_148 v_396.Key 0 Try.underlying91 Try.underlying3 (fun w => by kernel_rfl) (ra [(1, 1, 0, 1)] f0 [(3, B (!((mpG v_148 v_396.Key 0) == v_396.Ts)))] (tN (kR (ri [] (B (!((mpG v_148 v_396.Key 0) == v_396.Ts))) (fun a w S hK hE => ⟨rfl, ⟨S, hE.sel [1, 2, 3, 4, 5, 6, 7, 8, 9, 10, 11, 12]⟩, oi hG⟩))))))))))))))
         ·rintro e w hJ; refine hJ.go fun ho_ => ?_
          clear hJ; refine nl (tN ?_); replace hG := ic hG; rcases hG with ⟨h_402, hG⟩ | ⟨h_402, hG⟩
          ·exact sb 16 (nt h_402) (cf (kS (hN (tN (rg (ra [] f0 [(8, I (IntKind.i64.wrap (v_393 + 1)))] (tN (fun a w S hK hE => ⟨m_394, ⟨IntKind.i64.wrap (v_393 + 1), S, hK.wk, hE.sel [1, 2, 3, 4, 5, 6, 7, 8, 9, 10, 11], hO1_394 _ (oi hG).symm⟩, Nat.lt_succ_self _⟩))))))))
          ·refine sb 16 (nf h_402) (ct (sq (rg (ra [] f0 [(4, I v_393)] (tN (kR (hR (tR (tR ?_))))))))); have he_ := hO2_394 _ (oi hG).symm; subst he_; replace hG := hG_394; refine hR (tR ?_); obtain rfl := oi hG; replace hG := hG_404; exact ri [] (I v_393) (fun a w S hK hE => ⟨v_393, rfl, ⟨S, hE.sel [1, 2, 3, 4, 5, 6, 7, 8, 9, 10, 11]⟩, oi hG⟩)
        ·try simp only [List.length_map, KLeaderL.n_Open] at h_395
         refine sb 9 (bf h_395) (cf (kX (tX (tX ?_)))); have he_ := hO2_394 _ (oi hG).symm; subst he_; replace hG := hG_394; exact hH (tN (fun _ _ S k e => ⟨S, k.wk, e.sel [0, 1, 2, 3, 4, 5, 6, 7, 8, 9, 10], oi hG⟩))
      ·rintro a w hJ; refine hJ.go fun ho_ => ?_
       clear hJ; subst ho_; replace hG := el hG_404; exact sq (rg (ra [] f0 [(4, I (-1))] (tN (kR (ri [] (I (-1)) (fun a w S hK hE => ⟨(-1), rfl, ⟨S, hE.sel [0, 1, 2, 3, 4, 5, 6, 7, 8, 9, 10]⟩, oi hG⟩))))))
     ·rintro e w ⟨v_374, hJ⟩; refine hJ.go fun ho_ => ?_
      clear hJ; subst ho_; exact ra [] f0 [(4, B (decide (v_374 ≥ 0)))] (tN (kR (ri [] (B (decide (v_374 ≥ 0))) (fun a w S hK hE => ⟨decide (v_374 ≥ 0), rfl, ⟨S, hE.sel [0, 1, 2, 3, 4, 5, 6, 7, 8, 9, 10]⟩, oi hG⟩))))
    ·rintro e w ⟨v_342, hJ⟩; refine hJ.go fun ho_ => ?_
     clear hJ; subst ho_; refine nl (tN ?_); replace hG := ic hG; rcases hG with ⟨h_406, hG⟩ | ⟨h_406, hG⟩
     ·refine sb 40 (bt h_406) (ct (sq ?_)); replace hG := b3 hG; obtain ⟨v_407o, v_408o, v_409, hy_407, hG⟩ := hG; refine rg (rn 1 [] f0 [(41, .func (.func 44) #[] #[])] (l1 (cn 42 (z_commit_Stamp_1 F 60 _ hy_407) hT (fun _ => (mc KLeaderL.mv (mc KTxL.mv m0))) trivial ?_))); rintro ⟨v_407, v_408⟩ ⟨hq_407, hq_408⟩; obtain rfl : v_407.p = v_407o := hq_407.symm; obtain rfl : v_408.p = v_408o := hq_408.symm
      try simp only [List.length_map, KLeaderL.n_Open] at hG
      refine rn 3 [] f0 (ns 43 [.agg #[I v_407.Last, .slice v_407.Store_A v_407.Store.length v_407.Store_c, .slice v_407.Open_A v_407.Open.length v_407.Open_c], .agg #[I v_408.ID, I v_408.Ts, .slice v_408.Reads_A v_408.Reads.length v_408.Reads_c, .slice v_408.Writes_A v_408.Writes.length v_408.Writes_c], I v_409]) (l1 (sr 9 g_4 (ns 0 [I v_407.Last, .slice v_407.Store_A v_407.Store.length v_407.Store_c, .slice v_407.Open_A v_407.Open.length v_407.Open_c]) (l1 (sr 8 g_5 (ns 0 [I v_408.ID, I v_408.Ts, .slice v_408.Reads_A v_408.Reads.length v_408.Reads_c, .slice v_408.Writes_A v_408.Writes.length v_408.Writes_c]) (ra [] f0 [(8, I v_409)] (tN (kR (tR ?_)))))))); obtain rfl := oi hG; exact rtn [(9, 0, 3), (8, 0, 4)] (v_407, v_408) ⟨rfl, rfl⟩ ⟨(gi 0), (gi 1), trivial⟩
     ·refine sb 40 (bf h_406) (cf (kS (tN (sq ?_)))); replace hG := bs hG; obtain ⟨o_412, hG, hG_412⟩ := hG; refine jn (fun K E a w => ∃ v_413 : Bool, Js S0 w0 95 ([(58, B v_413)] ++ K) (se E [2, 3, 4, 5, 6, 7, 8, 9, 10]) (v_413 = o_412) a w) ?_ ?_
      ·replace hG := ic hG; rcases hG with ⟨h_410, hG⟩ | ⟨h_410, hG⟩
       ·refine qb (qn 5 [(1, 1, 10, 2)] f0 [(50, B (((p_0.Open.length : Nat) : Int) == 2000))] ?_)
        try simp only [List.length_map, KLeaderL.n_Open] at h_410
        exact sb 50 (bt h_410) (qa [] f0 [(58, B true)] (tN (fun _ _ S k e => ⟨true, S, k.wk, e.sel [2, 3, 4, 5, 6, 7, 8, 9, 10], oi hG⟩)))
       ·replace hG := bs hG; obtain ⟨v_411, hy_411, hG⟩ := hG; refine qb (qn 5 [(1, 1, 10, 2)] f0 [(50, B (((p_0.Open.length : Nat) : Int) == 2000))] ?_)
        try simp only [List.length_map, KLeaderL.n_Open] at h_410
        exact sb 50 (bf h_410) (qn 1 [(0, 3, 10, 0)] f0 [(51, .agg #[I p_0.Last, .slice p_0.Store_A p_0.Store.length p_0.Store_c, .slice p_0.Open_A p_0.Open.length p_0.Open_c])] (qc 52 (z_commit_size F p_0 _ hy_411) hT ⟨((Fd.two ((gd' (RowC p_0.Store_A p_0.Store_c KVersion.cells tr p_0.Store) 2)) ((gd' (RowC p_0.Open_A p_0.Open_c KTxL.cells KTxL.ok p_0.Open) 3))).m fun _ _ h => ⟨h.1, h.2⟩).a, trivial⟩ (qa [(1, 1, 9, 3)] f0 [(58, B (decide ((IntKind.i64.wrap (v_411 + ((p_1.Writes.length : Nat) : Int))) > 4000)))] (tN (fun _ _ S k e => ⟨decide ((IntKind.i64.wrap (v_411 + ((p_1.Writes.length : Nat) : Int))) > 4000), S, k.wk, e.sel [2, 3, 4, 5, 6, 7, 8, 9, 10], oi hG⟩)))))
      ·rintro a w ⟨v_413, hJ⟩; refine hJ.go fun ho_ => ?_
       clear hJ; subst ho_; replace hG := hG_412; replace hG := ic hG; rcases hG with ⟨h_414, hG⟩ | ⟨h_414, hG⟩
       ·refine sb 58 (bt h_414) (ct (sq ?_)); replace hG := b3 hG; obtain ⟨v_415o, v_416o, v_417, hy_415, hG⟩ := hG; refine rg (rn 1 [] f0 [(59, .func (.func 44) #[] #[])] (l1 (cn 60 (z_commit_Stamp_1 F 2 _ hy_415) hT (fun _ => (mc KLeaderL.mv (mc KTxL.mv m0))) trivial ?_))); rintro ⟨v_415, v_416⟩ ⟨hq_415, hq_416⟩; obtain rfl : v_415.p = v_415o := hq_415.symm; obtain rfl : v_416.p = v_416o := hq_416.symm
        try simp only [List.length_map, KLeaderL.n_Open] at hG
        refine rn 3 [] f0 (ns 61 [.agg #[I v_415.Last, .slice v_415.Store_A v_415.Store.length v_415.Store_c, .slice v_415.Open_A v_415.Open.length v_415.Open_c], .agg #[I v_416.ID, I v_416.Ts, .slice v_416.Reads_A v_416.Reads.length v_416.Reads_c, .slice v_416.Writes_A v_416.Writes.length v_416.Writes_c], I v_417]) (l1 (sr 7 g_4 (ns 0 [I v_415.Last, .slice v_415.Store_A v_415.Store.length v_415.Store_c, .slice v_415.Open_A v_415.Open.length v_415.Open_c]) (l1 (sr 6 g_5 (ns 0 [I v_416.ID, I v_416.Ts, .slice v_416.Reads_A v_416.Reads.length v_416.Reads_c, .slice v_416.Writes_A v_416.Writes.length v_416.Writes_c]) (ra [] f0 [(8, I v_417)] (tN (kR (tR ?_)))))))); obtain rfl := oi hG; exact rtn [(7, 0, 3), (6, 0, 4)] (v_415, v_416) ⟨rfl, rfl⟩ ⟨(gi 0), (gi 1), trivial⟩
       ·refine sb 58 (bf h_414) (cf (kS (tN (sq ?_)))); replace hG := bs hG; obtain ⟨v_418o, hy_418, hG⟩ := hG; refine rg (rn 1 [(0, 4, 7, 0)] f0 [(64, .agg #[I p_1.ID, I p_1.Ts, .slice p_1.Reads_A p_1.Reads.length p_1.Reads_c, .slice p_1.Writes_A p_1.Writes.length p_1.Writes_c])] (l1 (cn 65 (z_commit_copied F p_1 _ hy_418) hT (fun _ => (mc KTxL.mv m0)) ⟨((Fd.two ((gd' (RowC p_1.Reads_A p_1.Reads_c KSeen.cells tr p_1.Reads) 2)) ((gd' (RowC p_1.Writes_A p_1.Writes_c KWrite.cells tr p_1.Writes) 3))).m fun _ _ h => ⟨h.1, h.2⟩), trivial⟩ ?_))); rintro v_418 hq_418; obtain rfl : v_418.p = v_418o := hq_418.symm
        try simp only [List.length_map, KLeaderL.n_Open] at hG
        refine l1 (sr 8 g_2 (ns 0 [I v_418.ID, I v_418.Ts, .slice v_418.Reads_A v_418.Reads.length v_418.Reads_c, .slice v_418.Writes_A v_418.Writes.length v_418.Writes_c]) (nl (tN (sq (rg (rn 6 [(1, 1, 9, 0), (2, 1, 7, 1)] f0 [(71, I (if p_2.Hi > (IntKind.i64.wrap (p_0.Last + 1)) then p_2.Hi else (IntKind.i64.wrap (p_0.Last + 1))))] (sb 71 (v := I (if p_2.Hi > (IntKind.i64.wrap (p_0.Last + 1)) then p_2.Hi else (IntKind.i64.wrap (p_0.Last + 1)))) (v' := I (max (IntKind.i64.wrap (p_0.Last + 1)) p_2.Hi)) (congrArg (Value.int .i64) (by omega)) (rn 1 [] f0 [(72, Pt g_2 1)] (l1 (sr 8 g_2 [(1, I (max (IntKind.i64.wrap (p_0.Last + 1)) p_2.Hi))] (nl (tN (sq (sq (rg (ra [(1, 1, 8, 1)] f0 [(75, B (decide ((max (IntKind.i64.wrap (p_0.Last + 1)) p_2.Hi) > 3000000000000000)))] (tN ?_))))))))))))))))); replace hG := ic hG; rcases hG with ⟨h_419, hG⟩ | ⟨h_419, hG⟩
        ·refine sb 75 (bt h_419) (ct (sq ?_)); replace hG := b3 hG; obtain ⟨v_420o, v_421o, v_422, hy_420, hG⟩ := hG; refine rg (rn 1 [] f0 [(76, .func (.func 44) #[] #[])] (l1 (cn 77 (z_commit_Stamp_1 F 3 _ hy_420) hT (fun _ => (mc KLeaderL.mv (mc KTxL.mv m0))) trivial ?_))); rintro ⟨v_420, v_421⟩ ⟨hq_420, hq_421⟩; obtain rfl : v_420.p = v_420o := hq_420.symm; obtain rfl : v_421.p = v_421o := hq_421.symm
         try simp only [List.length_map, KLeaderL.n_Open] at hG
         refine rn 3 [] f0 (ns 78 [.agg #[I v_420.Last, .slice v_420.Store_A v_420.Store.length v_420.Store_c, .slice v_420.Open_A v_420.Open.length v_420.Open_c], .agg #[I v_421.ID, I v_421.Ts, .slice v_421.Reads_A v_421.Reads.length v_421.Reads_c, .slice v_421.Writes_A v_421.Writes.length v_421.Writes_c], I v_422]) (l1 (sr 8 g_4 (ns 0 [I v_420.Last, .slice v_420.Store_A v_420.Store.length v_420.Store_c, .slice v_420.Open_A v_420.Open.length v_420.Open_c]) (l1 (sr 7 g_5 (ns 0 [I v_421.ID, I v_421.Ts, .slice v_421.Reads_A v_421.Reads.length v_421.Reads_c, .slice v_421.Writes_A v_421.Writes.length v_421.Writes_c]) (ra [] f0 [(8, I v_422)] (tN (kR (tR ?_)))))))); obtain rfl := oi hG; exact rtn [(8, 0, 3), (7, 0, 4)] (v_420, v_421) ⟨rfl, rfl⟩ ⟨(gi 0), (gi 1), trivial⟩
        ·refine sb 75 (bf h_419) (cf (kS (tN (sq ?_)))); replace hG := bs hG; obtain ⟨v_423, hy_423, hG⟩ := hG; replace hG := bs hG; obtain ⟨v_464o, hy_467, hG⟩ := hG; replace hG := bs hG; obtain ⟨v_468o, hy_468, hG⟩ := hG; replace hG := bs hG; obtain ⟨v_470o, hy_470, hG⟩ := hG; refine hb [1, 2, 3, 4, 7, 8, 9] (ht [1, 2, 3, 4, 7, 8, 9] [0, 1, 2, 3, 5, 6, 8, 13] [(1, 1, 5, 1), (1, 1, 6, 1), (1, 1, 6, 2), (0, 4, 5, 0), (0, 4, 5, 0)] f0 [(82, I (max (IntKind.i64.wrap (p_0.Last + 1)) p_2.Hi)), (84, .slice p_0.Store_A p_0.Store.length p_0.Store_c), (87, .slice p_0.Open_A p_0.Open.length p_0.Open_c), (89, .agg #[I v_418.ID, I (max (IntKind.i64.wrap (p_0.Last + 1)) p_2.Hi), .slice v_418.Reads_A v_418.Reads.length v_418.Reads_c, .slice v_418.Writes_A v_418.Writes.length v_418.Writes_c]), (94, .agg #[I v_418.ID, I (max (IntKind.i64.wrap (p_0.Last + 1)) p_2.Hi), .slice v_418.Reads_A v_418.Reads.length v_418.Reads_c, .slice v_418.Writes_A v_418.Writes.length v_418.Writes_c])] (ho [4] ⟨h1 (cln_KSapi_Version 85 p_0.Store_A p_0.Store_c p_0.Store (gd' (RowC p_0.Store_A p_0.Store_c KVersion.cells tr p_0.Store) 1).a (by first | simpa using (apG_some hy_423).1 | (have hh_ := (apG_some hy_423).1; rw [List.length_nil, Nat.zero_add] at hh_; exact hh_)) fun v_423_A v_423_c => hk [2, 3, 4, 5, 8, 9, 10] (ho [7] ⟨h1 (ci 88 (args := [.slice p_0.Open_A p_0.Open.length p_0.Open_c]) (fun E e w => ∃ (v_464 : List KTxL) (v_465_A : Option Addr) (v_466_c : Nat), Rs S0 w0 (.slice v_465_A v_464.length v_466_c) ([.dat (RowC v_418.Reads_A v_418.Reads_c KSeen.cells tr v_418.Reads), .dat (RowC v_418.Writes_A v_418.Writes_c KWrite.cells tr v_418.Writes), .own 26 4 (.slice v_465_A v_464.length v_466_c) v_464.length (v_464.flatMap KTxL.cells), .dat (Each KTxL.ok v_464)] ++ se E [0, 2, 3, 4, 5, 6, 7, 8, 9, 10]) ((v_464.map KTxL.p) = v_464o) e w) Try.func51 rfl rfl ?_ ?_), trivial⟩)), trivial⟩))
         ·replace hG := hy_467
          try simp only [List.length_map, KLeaderL.n_Open] at hG
          refine sq (rg (ra [] f0 [] (tN (sq (rg (ra [] f0 [(3, .slice none 0 0)] (tN ?_))))))); replace hG := bs hG; obtain ⟨o_507, hG, hG_507⟩ := hG; refine jn (fun K E a w => ∃ (v_508 : List KTxL) (v_509_A : Option Addr) (v_510_c : Nat), Js S0 w0 19 ([(3, .slice v_509_A v_508.length v_510_c)] ++ K) ([.dat (RowC v_418.Reads_A v_418.Reads_c KSeen.cells tr v_418.Reads), .dat (RowC v_418.Writes_A v_418.Writes_c KWrite.cells tr v_418.Writes), .own 26 4 (.slice v_509_A v_508.length v_510_c) v_508.length (v_508.flatMap KTxL.cells), .dat (Each KTxL.ok v_508)] ++ se E [0, 2, 3, 4, 5, 6, 7, 8, 9, 10]) ((v_508.map KTxL.p) = o_507) a w) ?_ ?_
          ·refine sq (rg (ra [] f0 (ns 6 [.slice p_0.Open_A p_0.Open.length p_0.Open_c, I ((p_0.Open.length : Nat) : Int), I 0]) (tN (bk ?_)))); obtain ⟨e_495, hL, hG_495⟩ := bs hG; clear hG; obtain ⟨stp_495, hs_495, hL⟩ := iter_gen hL; refine lp (fun K E n_ a w => ∃ (v_491 : List KTxL) (v_492_A : Option Addr) (v_493_c : Nat) (v_494 : Int), Js S0 w0 19 ([(3, .slice v_492_A v_491.length v_493_c), (8, I v_494)] ++ K) ([.dat (RowC v_418.Reads_A v_418.Reads_c KSeen.cells tr v_418.Reads), .dat (RowC v_418.Writes_A v_418.Writes_c KWrite.cells tr v_418.Writes), .own 26 4 (.slice v_492_A v_491.length v_493_c) v_491.length (v_491.flatMap KTxL.cells), .dat (Each KTxL.ok v_491)] ++ se E [0, 2, 3, 4, 5, 6, 7, 8, 9, 10]) (iter stp_495 n_ ((v_491.map KTxL.p), v_494) = some e_495) a w) F ?_ ?_
           ·exact fg (KTxL.ok v_418) 1 (fun _ _ h => h.f_Reads) (fg (KTxL.ok v_418) 2 (fun _ _ h => h.f_Writes) (on 26 4 (fm (Each KTxL.ok ([] : List KTxL)) e0 (fun _ _ S k e => ⟨([] : List KTxL), none, 0, 0, S, k.wk, e.sel [3, 2, 1, 0, 4, 6, 7, 8, 9, 10, 11, 12, 13, 14], hL⟩))))
           ·clear hL; rintro n_495 a w ⟨v_491, v_492_A, v_493_c, v_494, hJ⟩; refine hJ.go fun hL => ?_
            clear hJ; obtain ⟨m_495, o_495, rfl, hG, hO1_495, hO2_495⟩ := iter_step hL; clear hL; rw [hs_495] at hG
            try simp only [List.length_map, KLeaderL.n_Open] at hG
            refine sq (rg (ra [] f0 [(9, B (decide (v_494 < ((p_0.Open.length : Nat) : Int))))] (tN (sq ?_)))); replace hG := ic hG; rcases hG with ⟨h_496, hG⟩ | ⟨h_496, hG⟩
            ·try simp only [List.length_map, KLeaderL.n_Open] at h_496
             refine sb 9 (bt h_496) (ct (kS (tN (sq (bk (sq ?_)))))); replace hG := bs hG; obtain ⟨v_497o, hy_497, hG⟩ := hG; refine rg (fxn (p := KTxL.p) inf30 (gd' (RowC p_0.Open_A p_0.Open_c KTxL.cells KTxL.ok p_0.Open) 6) hy_497 fun v_497 b_498 o_499 he_497 hi_497 => ?_); subst he_497
             try simp only [List.length_map, KLeaderL.n_Open] at hG
             refine rn 2 [(0, 0, 0, 0), (0, 4, 0, 0)] (fc (hi_497 .i64) f0) [(11, .agg #[I v_497.ID, I v_497.Ts, .slice v_497.Reads_A v_497.Reads.length v_497.Reads_c, .slice v_497.Writes_A v_497.Writes.length v_497.Writes_c])] (l1 (nw 5 vp (KTxL.cells KTxL.z) 26 fun g_500 => l1 (sr 0 g_500 (ns 0 [I v_497.ID, I v_497.Ts, .slice v_497.Reads_A v_497.Reads.length v_497.Reads_c, .slice v_497.Writes_A v_497.Writes.length v_497.Writes_c]) (nl (tN ?_))))); replace hG := bs hG; obtain ⟨v_501o, hy_501, hG⟩ := hG; replace hG := bs hG; obtain ⟨v_503o, hy_503, hG⟩ := hG; refine rg (rn 2 [(1, 4, 0, 0)] f0 [(12, .slice v_492_A v_491.length v_493_c), (13, .agg #[I v_497.ID, I v_497.Ts, .slice v_497.Reads_A v_497.Reads.length v_497.Reads_c, .slice v_497.Writes_A v_497.Writes.length v_497.Writes_c])] (l1 (cn 14 (z_commit_copied F v_497 _ hy_501) hT (fun _ => (mc KTxL.mv m0)) ⟨(gi 2), trivial⟩ ?_))); rintro v_501 hq_501; obtain rfl : v_501.p = v_501o := hq_501.symm
             try simp only [List.length_map, KLeaderL.n_Open] at hG
             refine l1 (nw 15 (vs 1) [I v_501.ID, I v_501.Ts, .slice v_501.Reads_A v_501.Reads.length v_501.Reads_c, .slice v_501.Writes_A v_501.Writes.length v_501.Writes_c] 26 fun g_502 => l1 (apn (p := KTxL.p) (ok := KTxL.ok) 7 16 v_492_A v_493_c v_491 ([v_501] : List KTxL) inf30 (bA (f := KTxL.cells) (ok := tr) (l := ([v_501] : List KTxL)) g_502 0 et.a) (gd' (Each KTxL.ok v_491) 8) (ec (gi 1) e0) hy_503 KTxL.one fun v_503 v_503_A v_503_c he_503 _ => ?_)); subst he_503
             try simp only [List.length_map, KLeaderL.n_Open] at hG
             exact ra [] f0 [(3, .slice v_503_A v_503.length v_503_c)] (hN (tN (rg (ra [] f0 [(8, I (IntKind.i64.wrap (v_494 + 1)))] (tN (fun a w S hK hE => ⟨m_495, ⟨v_503, v_503_A, v_503_c, IntKind.i64.wrap (v_494 + 1), S, hK.wk, hE.sel [6, 7, 8, 0, 10, 11, 12, 13, 14, 15, 16, 17, 18, 19], hO1_495 _ (oi hG).symm⟩, Nat.lt_succ_self _⟩))))))
            ·try simp only [List.length_map, KLeaderL.n_Open] at h_496
             refine sb 9 (bf h_496) (cf (kX (tX (tX ?_)))); have he_ := hO2_495 _ (oi hG).symm; subst he_; replace hG := hG_495
             try simp only [List.length_map, KLeaderL.n_Open] at hG
             exact hH (tN (fun _ _ S k e => ⟨v_491, v_492_A, v_493_c, S, k.wk, e.sel [0, 1, 2, 3, 4, 5, 6, 7, 8, 9, 10, 11, 12, 13], oi hG⟩))
          ·rintro a w ⟨v_508, v_509_A, v_510_c, hJ⟩; refine hJ.go fun ho_ => ?_
           clear hJ; subst ho_; replace hG := hG_507
           try simp only [List.length_map, KLeaderL.n_Open] at hG
           exact sq (rg (ra [] f0 [(2, .slice v_509_A v_508.length v_510_c)] (tN (kR (ri [] (.slice v_509_A v_508.length v_510_c) (fun a w S hK hE => ⟨v_508, v_509_A, v_510_c, rfl, ⟨S, hE.sel [0, 1, 2, 3, 4, 5, 6, 7, 8, 9, 10, 11, 12, 13]⟩, oi hG⟩))))))
         ·rintro e w ⟨v_464, v_465_A, v_466_c, hJ⟩; refine hJ.go fun ho_ => ?_
          clear hJ; subst ho_; refine hk [5, 6, 7, 8, 11, 12, 13] (ho [9] ⟨h1 (cn 90 (z_commit_copied F (⟨v_418.ID, (max (IntKind.i64.wrap (p_0.Last + 1)) p_2.Hi), v_418.Reads_A, v_418.Reads_c, v_418.Reads, v_418.Writes_A, v_418.Writes_c, v_418.Writes⟩ : KTxL) _ hy_468) hT (fun _ => (mc KTxL.mv m0)) ⟨((Fd.two ((gd' (RowC v_418.Reads_A v_418.Reads_c KSeen.cells tr v_418.Reads) 0)) ((gd' (RowC v_418.Writes_A v_418.Writes_c KWrite.cells tr v_418.Writes) 1))).m fun _ _ h => ⟨h.1, h.2⟩), trivial⟩ ?_), trivial⟩); rintro v_468 hq_468; obtain rfl : v_468.p = v_468o := hq_468.symm
          try simp only [List.length_map, KLeaderL.n_Open] at hG
          refine hk [6, 7, 8, 9, 12, 13, 14] (ho [10] ⟨h1 (nw 91 (vs 1) [I v_468.ID, I v_468.Ts, .slice v_468.Reads_A v_468.Reads.length v_468.Reads_c, .slice v_468.Writes_A v_468.Writes.length v_468.Writes_c] 26 fun g_469 => hk [7, 8, 9, 10, 13, 14, 15] (ho [11] ⟨h1 (apn (p := KTxL.p) (ok := KTxL.ok) 4 92 v_465_A v_466_c v_464 ([v_468] : List KTxL) inf30 (bA (f := KTxL.cells) (ok := tr) (l := ([v_468] : List KTxL)) g_469 0 et.a) (gd' (Each KTxL.ok v_464) 5) (ec (gi 1) e0) hy_470 KTxL.one fun v_470 v_470_A v_470_c he_470 _ => ?_), trivial⟩)), trivial⟩); subst he_470
          try simp only [List.length_map, KLeaderL.n_Open] at hG
          refine hk [8, 9, 10, 11, 14, 15, 16] (ht [8, 9, 10, 11, 14, 15, 16] [12] [] f0 [(93, .agg #[I (max (IntKind.i64.wrap (p_0.Last + 1)) p_2.Hi), .slice v_423_A p_0.Store.length v_423_c, .slice v_470_A v_470.length v_470_c])] (ho [14] ⟨h1 (sr 13 g_4 (ns 0 [I (max (IntKind.i64.wrap (p_0.Last + 1)) p_2.Hi), .slice v_423_A p_0.Store.length v_423_c, .slice v_470_A v_470.length v_470_c]) (hk [8, 9, 10, 11, 14, 15, 16] (ho [15] ⟨h1 (sr 12 g_5 (ns 0 [I v_418.ID, I (max (IntKind.i64.wrap (p_0.Last + 1)) p_2.Hi), .slice v_418.Reads_A v_418.Reads.length v_418.Reads_c, .slice v_418.Writes_A v_418.Writes.length v_418.Writes_c]) (hk [8, 9, 10, 11, 14, 15, 16] (ht [8, 9, 10, 11, 14, 15, 16] [16] [] f0 [(8, I 0)] (he (tN (kR ?_)))))), trivial⟩))), trivial⟩)); obtain rfl := oi hG; exact so (A := v_423_A) (c := v_423_c) 7 KVersion.cells tr p_0.Store tr_mv et (so (A := v_470_A) (c := v_470_c) 5 KTxL.cells KTxL.ok v_470 KTxL.mv (gd' (Each KTxL.ok v_470) 0) (rtn [(13, 0, 3), (12, 0, 4)] ((⟨(max (IntKind.i64.wrap (p_0.Last + 1)) p_2.Hi), v_423_A, v_423_c, p_0.Store, v_470_A, v_470_c, v_470⟩ : KLeaderL), (⟨v_418.ID, (max (IntKind.i64.wrap (p_0.Last + 1)) p_2.Hi), v_418.Reads_A, v_418.Reads_c, v_418.Reads, v_418.Writes_A, v_418.Writes_c, v_418.Writes⟩ : KTxL)) ⟨rfl, rfl⟩ ⟨((Fd.two ((gd' (RowC v_423_A v_423_c KVersion.cells tr p_0.Store) 7)) ((gd' (RowC v_470_A v_470_c KTxL.cells KTxL.ok v_470) 5))).m fun _ _ h => ⟨h.1, h.2⟩), ((Fd.two ((gd' (RowC v_418.Reads_A v_418.Reads_c KSeen.cells tr v_418.Reads) 3)) ((gd' (RowC v_418.Writes_A v_418.Writes_c KWrite.cells tr v_418.Writes) 4))).m fun _ _ h => ⟨h.1, h.2⟩), trivial⟩))
end Go.Proofs.Ytlfkgbideknkhaa
namespace Go.Proofs.Ytlfkgbideknkhaa
open Go.RowKit Go.Maps
end Go.Proofs.Ytlfkgbideknkhaa
namespace Go.Proofs.Ytlfkgbideknkhaa
open Go.RowKit Go.Maps
section
variable {S0 S : Nat → Prop} {w0 w w' : World} {n : Nat} {K : List (Nat × Value)} {E E' : List Iz} {Q : Exit → Act → World → Prop} {o : Oper} {Kx X : Act → World → Prop}
theorem Ez.prm (h : Ez S0 w0 w S E) (hp : E.Perm E') : Ez S0 w0 w S E' := ⟨Es.b h, Es.e h, Es.lt h, fun y hy => Es.k h y ((hp.map Iz.ik).mem_iff.2 hy), ((hp.map Iz.ik).pairwise_iff (fun h => h.symm)).1 (Es.p h)⟩
theorem Ez.sub' (h : Ez S0 w0 w S E) (hp : E'.Sublist E) : Ez S0 w0 w S E' := Es.drop h (hp.map Iz.ik)
end
theorem jneed_bad (w : World) : Calls Try.prog 89 [B false].toArray w fun e w' => e = .panicked chE ∧ w' = w := by
 go_enter Try.func89, Try.ntmps89
 go_wp2
 exact ⟨rfl, rfl, rfl⟩
theorem jneed_ok : Cf Try.prog 89 [B true] [] (.tuple #[]) := z_journal_need 0 true () rfl
set_option maxRecDepth 100000 in
set_option maxHeartbeats 4000000 in
theorem next_c (S0 : Nat → Prop) (w0 w : World) (S : Nat → Prop) (E : List Iz) (g : Nat) (A : Option Addr) (c : Nat) (l : List Int) (hT : Tb w0)
  (hE : Ez S0 w0 w S (.blk g 127 [.slice A l.length c] :: .dat (RowC A c c_i64 tr l) :: E)) :
  Calls Try.prog 86 [Pt g 0].toArray w fun e w' =>
   (∃ v rest A' c' S, l = v :: rest ∧ e = .returned (I v) ∧ Ez S0 w0 w' S (.blk g 127 [.slice A' rest.length c'] :: .dat (RowC A' c' c_i64 tr rest) :: E)) ∨
   (l = [] ∧ e = .panicked chE ∧ ∃ x S, Ez S0 w0 w' S (.blk g 127 [x] :: E)) := by
 refine vc_enter Try.func86 rfl rfl (by kernel_rfl) fun a hK => ?_
 refine (?_ : Ge S0 w0 26 _ (.blk g 127 [.slice A l.length c] :: .dat (RowC A c c_i64 tr l) :: E) _) a w S hK hE; clear hK hE a w S; refine sq (rg (ra [] f0 [(2, I 0)] (tN (sq ?_)))); refine rg (rn 6 [(3, 1, 0, 0)] f0 [(9, B (decide (((l.length : Nat) : Int) > 0)))] ?_); cases l with
 | nil => exact sb 9 (bf (b := decide ((([] : List Int).length : Int) > 0)) rfl) (l1 (pn jneed_bad (fun a w S k e => ⟨k.d, .inr ⟨rfl, rfl, _, S, Ez.sub' e (.cons_cons _ (.cons _ (.refl _)))⟩⟩)))
 | cons v rest =>
  refine sb 9 (bt (b := decide (((v :: rest).length : Int) > 0)) (decide_eq_true (by simp only [List.length_cons]; omega))) (l1 (cl 10 jneed_ok hT trivial (nl (tN (sq ?_))))); have hy : ixI (v :: rest) 0 = some v := rfl; have hs : slI (v :: rest) 1 (((v :: rest).length : Nat) : Int) = some rest := by unfold slI; rw [if_pos (by simp; omega)]; simp
  refine rg (fx inf45 (gd' (RowC A c c_i64 tr (v :: rest)) 1) hy fun b o hi => ra [(3, 1, 1, 0), (0, 0, 0, 0), (0, 1, 0, 0)] (fc (hi .i64) f0) [(3, I v)] (tN (sq ?_))); refine rg (fp true false inf45 (gd' (RowC A c c_i64 tr (v :: rest)) 2) hs fun A' c' hi => rn 8 [(4, 1, 2, 0), (0, 0, 0, 0)] (fc (hi .i64 .i64) f0) [(22, .slice A' rest.length c'), (24, Pt g 0)] (l1 (sr 2 g [(0, .slice A' rest.length c')] (nl (tN (sq ?_)))))); refine rg (ra [] f0 [(2, I v)] (tN (kR ?_))); refine ri [] (I v) ?_; exact fun a w S k' e => .inl ⟨v, rest, A', c', S, rfl, rfl, Ez.prm (Ez.sub' e (.cons_cons _ (.cons _ (.cons_cons _ (.cons _ (.refl _)))))) (.swap _ _ _)⟩
def RdJ (f : FuncId) (p : Int → Prop) (rv : Int → Value) : Prop := ∀ (S0 : Nat → Prop) (w0 w : World) (S : Nat → Prop) (E : List Iz) (g : Nat) (A : Option Addr) (c : Nat) (l : List Int), Tb w0 →
  Ez S0 w0 w S (.blk g 127 [.slice A l.length c] :: .dat (RowC A c c_i64 tr l) :: E) → Calls Try.prog f [Pt g 0].toArray w fun e w' =>
      (∃ v rest A' c' S, l = v :: rest ∧ p v ∧ e = .returned (rv v) ∧ Ez S0 w0 w' S (.blk g 127 [.slice A' rest.length c'] :: .dat (RowC A' c' c_i64 tr rest) :: E)) ∨
      ((∀ v rest, l = v :: rest → ¬ p v) ∧ e = .panicked chE ∧ ∃ x S, Ez S0 w0 w' S (.blk g 127 [x] :: E))
section
variable {S0 S : Nat → Prop} {w0 w w' : World} {n : Nat} {K : List (Nat × Value)} {E : List Iz} {Q : Exit → Act → World → Prop} {o : Oper} {Kx X : Act → World → Prop}
theorem jI [DSc] {f : FuncId} {p : Int → Prop} {rv : Int → Value} (E' : List Iz) (d g : Nat) (A : Option Addr) (c : Nat) (l : List Int) (hc : RdJ f p rv) (hT : Tb w0)
  (hw : ∀ w S, Ez S0 w0 w S E → Ez S0 w0 w S (.blk g 127 [.slice A l.length c] :: .dat (RowC A c c_i64 tr l) :: E'))
  (hok : ∀ v rest A' c', l = v :: rest → p v → Ge S0 w0 n ((d, rv v) :: K) (.blk g 127 [.slice A' rest.length c'] :: .dat (RowC A' c' c_i64 tr rest) :: E') Kx)
  (hbad : (∀ v rest, l = v :: rest → ¬ p v) → ∀ x, Ge S0 w0 n K (.blk g 127 [x] :: E') (Q (.panic chE)))
  (he : ∀ J, sx Try.prog (execOp (rho K J) o) [] = some (.enter f #[Pt g 0], []) := by intro J; kernel_rfl) (hd : o.dst = some d := by kernel_rfl) (hn : Nat.blt d n = true := by kernel_rfl) :
  Ge S0 w0 n K E (oW Try.prog o Q Kx) := fun a w S hK hE => by
 unfold oW Oper.wp Oper.upon; rw [hK.eval, sx_run _ (he _) trivial, hd]; refine (hc S0 w0 w S E' g A c l hT (hw _ _ hE)).mono fun e w' hr => ?_
 rcases hr with ⟨v, rest, A', c', S', h1, h2, rfl, h4⟩ | ⟨h1, rfl, x, S', h4⟩
 ·exact hok v rest A' c' h1 h2 _ _ _ (hK.put hn _) h4
 ·exact hbad h1 x _ _ _ hK h4
end
theorem rd_next : RdJ 86 (fun _ => True) (fun v => I v) := fun S0 w0 w S E g A c l hT hE => (next_c S0 w0 w S E g A c l hT hE).mono fun e w' hr => by
 rcases hr with ⟨v, rest, A', c', S', h1, h2, h4⟩ | ⟨h1, h2, x, S', h4⟩
 ·exact .inl ⟨v, rest, A', c', S', h1, trivial, h2, h4⟩
 ·exact .inr ⟨fun v rest h => (by rw [h1] at h; cases h), h2, x, S', h4⟩
set_option maxRecDepth 100000 in
set_option maxHeartbeats 4000000 in
theorem rd_count : RdJ 87 (fun v => 0 ≤ v ∧ v ≤ 8) (fun v => I v) := fun S0 w0 w S E g A c l hT hE => by
 refine vc_enter Try.func87 rfl rfl (by kernel_rfl) fun a hK => ?_
 refine (?_ : Ge S0 w0 14 _ (.blk g 127 [.slice A l.length c] :: .dat (RowC A c c_i64 tr l) :: E) _) a w S hK hE; clear hK hE a w S; refine sq (rg (ra [] f0 [(2, I 0)] (tN (sq ?_)))); refine rg (rn 1 [] f0 [(4, Pt g 0)] (l1 (jI E 5 g A c l rd_next hT (fun _ _ h => h) (fun v rest A' c' hl _ => ?_) (fun h x => ?_))))
 ·refine ra [] f0 [(3, I v)] (tN (sq ?_)); have hn : ¬ (0 ≤ v ∧ v ≤ 8) → ∀ v rest, l = v :: rest → ¬ (0 ≤ v ∧ v ≤ 8) := fun h v' r' e => by rw [hl] at e; cases e; exact h
  refine rg (rn 3 [] f0 [(8, B (decide (0 ≤ v)))] ?_)
  by_cases h0 : 0 ≤ v
  ·refine sb 8 (bt (decide_eq_true h0)) (rn 3 [] f0 [(11, B (decide (v ≤ 8)))] ?_)
   by_cases h8 : v ≤ 8
   ·refine sb 11 (bt (decide_eq_true h8)) (l1 (cl 12 jneed_ok hT trivial (nl (tN (sq ?_))))); refine rg (ra [] f0 [(2, I v)] (tN (kR ?_))); refine ri [] (I v) ?_; exact fun a w S k' e => .inl ⟨v, rest, A', c', S, hl, ⟨h0, h8⟩, rfl, e⟩
   ·exact sb 11 (bf (decide_eq_false h8)) (l1 (pn jneed_bad (fun a w S k e => ⟨k.d, .inr ⟨hn fun h => h8 h.2, rfl, _, S, Ez.sub' e (.cons_cons _ (.cons _ (.refl _)))⟩⟩)))
  ·exact sb 8 (bf (decide_eq_false h0)) (rn 3 [] f0 [(11, B false)] (l1 (pn jneed_bad (fun a w S k e => ⟨k.d, .inr ⟨hn fun h => h0 h.1, rfl, _, S, Ez.sub' e (.cons_cons _ (.cons _ (.refl _)))⟩⟩))))
 ·exact fun a w S k e => ⟨k.d, .inr ⟨fun v rest hl => absurd trivial (h v rest hl), rfl, _, S, e⟩⟩
set_option maxRecDepth 100000 in
set_option maxHeartbeats 4000000 in
theorem rd_flag : RdJ 88 (fun v => v = 0 ∨ v = 1) (fun v => B (v == 1)) := fun S0 w0 w S E g A c l hT hE => by
 refine vc_enter Try.func88 rfl rfl (by kernel_rfl) fun a hK => ?_
 refine (?_ : Ge S0 w0 15 _ (.blk g 127 [.slice A l.length c] :: .dat (RowC A c c_i64 tr l) :: E) _) a w S hK hE; clear hK hE a w S; refine sq (rg (ra [] f0 [(2, B false)] (tN (sq ?_)))); refine rg (rn 1 [] f0 [(4, Pt g 0)] (l1 (jI E 5 g A c l rd_next hT (fun _ _ h => h) (fun v rest A' c' hl _ => ?_) (fun h x => ?_))))
 ·refine ra [] f0 [(3, I v)] (tN (sq ?_)); have hn : ¬ (v = 0 ∨ v = 1) → ∀ v rest, l = v :: rest → ¬ (v = 0 ∨ v = 1) := fun h v' r' e => by rw [hl] at e; cases e; exact h
  refine rg (rn 3 [] f0 [(8, B (v == 0))] ?_)
  by_cases h0 : v = 0
  ·refine sb 8 (bt (b := v == 0) (by simp [h0])) (rn 3 [] f0 [(11, B true)] (l1 (cl 12 jneed_ok hT trivial (nl (tN (sq ?_)))))); refine rg (ra [] f0 [(2, B (v == 1))] (tN (kR ?_))); refine ri [] (B (v == 1)) ?_; exact fun a w S k' e => .inl ⟨v, rest, A', c', S, hl, .inl h0, rfl, e⟩
  ·refine sb 8 (bf (b := v == 0) (by simp [h0])) (rn 3 [] f0 [(11, B (v == 1))] ?_)
   by_cases h8 : v = 1
   ·refine sb 11 (bt (b := v == 1) (by simp [h8])) (l1 (cl 12 jneed_ok hT trivial (nl (tN (sq ?_))))); refine rg (ra [] f0 [(2, B (v == 1))] (tN (kR ?_))); refine ri [] (B (v == 1)) ?_; exact fun a w S k' e => .inl ⟨v, rest, A', c', S, hl, .inr h8, rfl, e⟩
   ·exact sb 11 (bf (b := v == 1) (by simp [h8])) (l1 (pn jneed_bad (fun a w S k e => ⟨k.d, .inr ⟨hn fun h => h.elim h0 h8, rfl, _, S, Ez.sub' e (.cons_cons _ (.cons _ (.refl _)))⟩⟩)))
 ·exact fun a w S k e => ⟨k.d, .inr ⟨fun v rest hl => absurd trivial (h v rest hl), rfl, _, S, e⟩⟩
end Go.Proofs.Ytlfkgbideknkhaa
namespace Go.Proofs.Ytlfkgbideknkhaa
open Go.RowKit Go.Maps
section
variable {S0 S : Nat → Prop} {w0 w w' : World} {n : Nat} {K K' : List (Nat × Value)} {E E' : List Iz} {X : Act → World → Prop} {P : Program} {ops : Array Oper} {Q : Exit → Act → World → Prop} {o : Oper} {L : List Oper} {v v' : Value} {Kx : Act → World → Prop}
variable {lk : List Iz} {li : List Nat}
def okI (ops : Array Oper) (okd : Nat → Bool) : List Nat → Bool
 | [] => true
 | i :: is => (match (ops[i]?).bind (·.dst) with | some d => okd d | none => true) && okI ops okd is
theorem runh_goD [DSc] {J : Nat → Value} (okd : Nat → Bool) (hns : Region.noSelect ops = true) (hQ : ∀ (d : Nat), okd d = true → ∀ v c a w, Q (.panic c) (Act.put a (some d) v) w → Q (.panic c) a w) (hW : Wz S0 w0 lk w) :
  ∀ {is li : List Nat} {hs : List (Nat × Nat × Nat × Nat)} {fs : List Fct} {K : List (Nat × Value)} {x : List (Addr × Value)} {u : List Fct} {r} {a : Act}, okI ops okd is = true → runh P n ops E J is li hs fs K x u = some r → KnJ n K J a → (∀ w, Wz S0 w0 lk w → Obs w r.2.2.1) → AllF P r.2.2.2 → (∀ a', KnJ n r.2.1 J a' → wH P ops Q S0 w0 lk r.1 a' w) → wH P ops Q S0 w0 lk li a w := by
 intro is
 induction is with
 | nil => intro li hs fs K x u r a _ h hK _ _ hk; unfold runh at h; cases h; exact hk a hK
 | cons i is ih =>
  intro li hs fs K x u r a hok h hK ho hf hk; simp only [okI, Bool.and_eq_true] at hok; obtain ⟨hok1, hok2⟩ := hok; have fuel : ∀ l, l.length < ops.size → ops.size - l.length = (ops.size - (i :: l).length) + 1 := fun l hl => by rw [List.length_cons]; omega
  unfold runh at h
  split at h
  ·cases h
  ·next hfre =>
   obtain ⟨f1, f2, f3⟩ := fre_spec hfre
   split at h
   ·cases h
   ·next o ho' =>
    split at h
    ·next hd =>
     split at h
     ·next hg =>
      unfold wH; rw [fuel _ f3]; exact wpAnyH_take (v := undef) ho' hns f1 f2 (by rw [hd]; exact fun _ _ _ h => h) (.inr ⟨hK.k.wanted hg, rfl⟩) hW (by rw [hd]; exact ih hok2 h hK ho hf hk)
     ·cases h
    ·next d hd =>
     split at h
     ·cases h
     ·next hn =>
      split at h
      ·cases h
      ·next v hs' fs' ob us h1 =>
       obtain ⟨⟨x', hx⟩, ⟨u', hu⟩⟩ := runh_grow h; have hf' : AllF P us := by have h2 := hf; rw [hu] at h2; exact h2.right.left
       unfold wH; rw [fuel _ f3]; refine wpAnyH_take (v := v) ho' hns f1 f2 (fun c a w => by rw [hd]; exact hQ d (by rw [ho'] at hok1; simpa [hd] using hok1) _ c a w) ?_ hW (by rw [hd]; exact ih hok2 h (hK.put hn v) ho hf hk); rcases one_run h1 hK hf' with ⟨hw, hr⟩ | ⟨hw, e⟩
       ·refine .inl ⟨hw, fun W hWW => hr W ?_⟩; have h2 := ho W hWW; rw [hx] at h2; exact h2.right.left
       ·exact .inr ⟨hw, e⟩
theorem htD [DSc] (okd : Nat → Bool) (il is : List Nat) (hs : List (Nat × Nat × Nat × Nat)) {fs : List Fct} (hF : AllF P fs) (new : List (Nat × Value)) (h : Ge S0 w0 n (new ++ K) E (wH P ops Q S0 w0 lk (is.reverse ++ li)))
  (he : ∀ J, (runh P n ops lk J is li hs fs K [] []).map (fun r => (r.1, new.map fun p => look r.2.1 p.1, r.2.2.1, r.2.2.2)) = some (is.reverse ++ li, new.map fun p => some p.2, gvl lk hs [], rvf fs []) := by intro J; kernel_rfl) (hc : clashh new K ops is = true := by kernel_rfl) (hns : Region.noSelect ops = true := by kernel_rfl) (hQ : ∀ (d : Nat), okd d = true → ∀ v c a w, Q (.panic c) (Act.put a (some d) v) w → Q (.panic c) a w) (hokd : okI ops okd is = true := by kernel_rfl)
  (hw : selz E il = some lk := by kernel_rfl) (hn : ndB il = true := by kernel_rfl) : Ge S0 w0 n K E (wH P ops Q S0 w0 lk li) := fun a w S hK hE => by
 have h1 := he (fun t => a.tmps.getD t undef); rw [Option.map_eq_some_iff] at h1; obtain ⟨r, h1, h2⟩ := h1; simp only [Prod.mk.injEq] at h2; refine runh_goD okd hns hQ ⟨S, hE.sel il hw hn⟩ hokd h1 hK.toJ (fun w hw => ?_) (by rw [h2.2.2.2]; exact rvf_all hF trivial) (fun a' ha' => ?_)
 ·obtain ⟨S, hW⟩ := hw; rw [h2.2.2.1]; exact gvl_obs hW trivial
 ·rw [h2.1]; refine h a' w S ⟨ha'.k.d, ha'.k.s, fun i u hu => ha'.k.k i u ?_⟩ hE; rw [look_app] at hu
  split at hu
  ·next v hv => cases hu; exact look_map h2.2.1 i _ hv
  ·next hv =>
   have : hasK K i = true := by
    cases hk : hasK K i with
    | true => rfl
    | false => rw [hasK_none hk] at hu; cases hu
   rw [runh_keep h1 hc i hv this]; exact hu
end
theorem leaves_put {P : Program} {fn : Func} {R : Ending → World → Prop} {t t' : Array Value} (hr : results fn t = results fn t') : ∀ (ds : List Deferred) (u : FrameMode) (w : World), Leaves P fn t R ds u w → Leaves P fn t' R ds u w
 | [], u, w, h => by
  cases u with
  | returning => obtain ⟨v, h1, h2⟩ := h; exact ⟨v, hr ▸ h1, h2⟩
  | panicking c => exact h
  | run => exact h
 | d :: ds, u, w, h => by
  obtain ⟨h0, fv, cap, f, args, h1, h2, h3⟩ := h; refine ⟨h0, fv, cap, f, args, h1, h2, h3.mono fun e u' w' he => ?_⟩; cases e with
  | returned v => exact leaves_put hr ds _ _ he
  | panicked c => exact leaves_put hr ds _ _ he
  | outgrown => exact he
theorem read_put {R : Ending → World → Prop} (d : Nat) (h : (!Nat.beq d 2 && !Nat.beq d 3) = true) (v : Value) (c : List PanicEntry) (a : Act) (w : World) : bodyPostD Try.prog Try.f66 R (.panic c) (Act.put a (some d) v) w → bodyPostD Try.prog Try.f66 R (.panic c) a w := by
 have hne2 : d ≠ 2 := fun e => by subst e; cases h
 have hne3 : d ≠ 3 := fun e => by subst e; cases h
 have e : ∀ k, d ≠ k → (a.tmps.setIfInBounds d v).getD k undef = a.tmps.getD k undef := fun k hk => by
  simp [Array.getElem?_setIfInBounds_ne hk]
 refine leaves_put ?_ _ _ _
 show results _ (a.tmps.setIfInBounds d v) = results _ a.tmps
 simp only [results, Try.results66]; have e2 := e 2 hne2; have e3 := e 3 hne3
 simp_all
def rdSeen : Nat → List Int → Option (List KSeen × List Int)
 | 0, l => some ([], l)
 | k + 1, a :: b :: l => match rdSeen k l with
  | some (s, r) => some (⟨a, b⟩ :: s, r)
  | none => none
 | _ + 1, _ => none
def rdWr : Nat → List Int → Option (List KWrite × List Int)
  | 0, l => some ([], l)
  | k + 1, a :: b :: v :: l => if v = 0 ∨ v = 1 then match rdWr k l with
      | some (s, r) => some (⟨a, b, v == 1⟩ :: s, r)
      | none => none
    else none
  | _ + 1, _ => none
def fnW (x y : Int) (s : List KSeen) (u : List KWrite) : Option (List KWrite × List Int) → Option KTx
 | some (u', []) => some ⟨x, y, s, u ++ u'⟩
 | _ => none
def rdM (x y : Int) (s : List KSeen) : List Int → Option KTx
 | m :: l => if 0 ≤ m ∧ m ≤ 8 then fnW x y s [] (rdWr m.toNat l) else none
 | [] => none
def fnS (x y : Int) (s : List KSeen) : Option (List KSeen × List Int) → Option KTx
 | some (s', l) => rdM x y (s ++ s') l
 | none => none
def readT : List Int → Option KTx
 | x :: y :: n :: l => if 0 ≤ n ∧ n ≤ 8 then fnS x y [] (rdSeen n.toNat l) else none
 | _ => none
def readB (F : Nat) : Option KTx → Option (KTx × Bool)
 | none => some (⟨0, 0, [], []⟩, false)
 | some t => Option.bind (G_journal_formed F t) fun b => some (if b then (t, true) else (⟨0, 0, [], []⟩, false))
def G_journal_read (F : Nat) (l : List Int) : Option (KTx × Bool) := readB F (readT l)
theorem fnS_step (x y a b : Int) (s : List KSeen) (k : Nat) (r : List Int) : fnS x y s (rdSeen (k + 1) (a :: b :: r)) = fnS x y (s ++ [⟨a, b⟩]) (rdSeen k r) := by
  have e : rdSeen (k + 1) (a :: b :: r) = match rdSeen k r with
      | some (s, r) => some (⟨a, b⟩ :: s, r)
      | none => none := by conv => lhs; unfold rdSeen
  rw [e]
  cases rdSeen k r with
  | none => rfl
  | some q => simp [fnS]
theorem fnW_step (x y a b v : Int) (s : List KSeen) (u : List KWrite) (k : Nat) (r : List Int) (hv : v = 0 ∨ v = 1) : fnW x y s u (rdWr (k + 1) (a :: b :: v :: r)) = fnW x y s (u ++ [⟨a, b, v == 1⟩]) (rdWr k r) := by
  have e : rdWr (k + 1) (a :: b :: v :: r) = match rdWr k r with
      | some (s, r) => some (⟨a, b, v == 1⟩ :: s, r)
      | none => none := by conv => lhs; unfold rdWr; rw [if_pos hv]
  rw [e]
  cases rdWr k r with
  | none => rfl
  | some q =>
    obtain ⟨q1, q2⟩ := q
    cases q2 with
    | nil => simp [fnW]
    | cons _ _ => rfl
abbrev deR (g2 g3 : Nat) : Deferred := { target := .fn (.func 85) #[Pt g2 0, Pt g3 0], args := #[] }
abbrev dR (g2 g3 : Nat) : DSc := ⟨[deR g2 g3]⟩
def okR (d : Nat) : Bool := !Nat.beq d 2 && !Nat.beq d 3
theorem read_bad {S0 : Nat → Prop} {w0 : World} {K : List (Nat × Value)} {E : List Iz} {g2 g3 : Nat} {R : Ending → World → Prop} (hE2 : ∀ w S, Ez S0 w0 w S E → ∃ x0 x1 x2 x3 y E', Ez S0 w0 w S (.blk g2 26 [x0, x1, x2, x3] :: .blk g3 4 [y] :: E')) (hK2 : ∀ a, @Kn (dR g2 g3) 59 K a → @Kn (dR g2 g3) 59 [(2, Pt g2 0), (3, Pt g3 0)] a)
  (hR : ∀ S w E, Ez S0 w0 w S (.blk g2 26 [I 0, I 0, .slice none 0 0, .slice none 0 0] :: .blk g3 4 [B false] :: E) → R (.returned (.tuple #[.agg #[I 0, I 0, .slice none 0 0, .slice none 0 0], B false])) w) :
  @Ge (dR g2 g3) S0 w0 59 K E (bodyPostD Try.prog Try.f66 R (.panic chE)) := fun a w S hK hE => by
 letI : DSc := dR g2 g3
 obtain ⟨x0, x1, x2, x3, y, E', hE⟩ := hE2 w S hE; have hK' := hK2 a hK
 show Leaves _ _ _ _ a.defers _ _
 rw [hK'.d]; refine leaves_cons (f := 85) (args := #[Pt g2 0, Pt g3 0]) (by simp) (by simp [go_sem]) ?_; refine (read1_catch S0 w0 w S E' g2 g3 x0 x1 x2 x3 y hE).mono ?_; rintro e u' w' ⟨rfl, rfl, S', hE'⟩; exact ⟨_, res_run hK' hE' [(0, 0, 4), (1, 0, 1)], hR _ _ _ hE'⟩
theorem read_end {S0 : Nat → Prop} {w0 : World} {K : List (Nat × Value)} {E : List Iz} {g2 g3 : Nat} {x0 x1 x2 x3 y : Value} {R : Ending → World → Prop} (hK2 : ∀ a, @Kn (dR g2 g3) 59 K a → @Kn (dR g2 g3) 59 [(2, Pt g2 0), (3, Pt g3 0)] a)
  (hR : ∀ S w, Ez S0 w0 w S (.blk g2 26 [x0, x1, x2, x3] :: .blk g3 4 [y] :: E) → R (.returned (.tuple #[.agg #[x0, x1, x2, x3], y])) w) :
  @Ge (dR g2 g3) S0 w0 59 K (.blk g2 26 [x0, x1, x2, x3] :: .blk g3 4 [y] :: E) (bodyPostD Try.prog Try.f66 R .ret) := fun a w S hK hE => by
 letI : DSc := dR g2 g3
 have hK' := hK2 a hK
 show Leaves _ _ _ _ a.defers _ _
 rw [hK'.d]; refine leaves_cons (f := 85) (args := #[Pt g2 0, Pt g3 0]) (by simp) (by simp [go_sem]) ?_; refine (read1_idle _ _ w).mono ?_; rintro e u' w' ⟨rfl, rfl, rfl⟩; exact ⟨_, res_run hK' hE [(0, 0, 4), (1, 0, 1)], hR _ _ hE⟩
set_option maxRecDepth 100000 in
set_option maxHeartbeats 8000000 in
theorem z_journal_read (F : Nat) (A : Option Addr) (c : Nat) (l : List Int) (r : KTx × Bool) (hG : G_journal_read F l = some r) :
  Cn Try.prog 66 [.slice A l.length c] [RowC A c c_i64 tr l] (fun q : KTxL => r.1 = q.p) (fun q => .tuple #[.agg #[I q.ID, I q.Ts, .slice q.Reads_A q.Reads.length q.Reads_c, .slice q.Writes_A q.Writes.length q.Writes_c], B r.2]) (fun q => [KTxL.ok q]) := by
 unfold G_journal_read at hG; obtain ⟨tg, htg⟩ : ∃ tg, readT l = tg := ⟨_, rfl⟩; rw [htg] at hG; intro S0 w0 hS hT hH; refine vcD_enter Try.func66 rfl rfl (by kernel_rfl) fun a hK => ?_
 refine (?_ : Ge S0 w0 59 _ ([RowC A c c_i64 tr l].map .dat) _) a w0 S0 hK (hH.ez hS (mr tr_mv m0)); clear hK a hS hH; refine sq (rg (l1 (nw 2 vp [I 0, I 0, .slice none 0 0, .slice none 0 0] 26 fun g2 => l1 (nw 3 vp [B false] 4 fun g3 => nl (tN ?_))))); refine sq (rg (rn 1 [] f0 [(5, .func (.func 85) #[] #[Pt g2 0, Pt g3 0])] (df (deR g2 g3) ?_ (by intro J W; first | kernel_rfl | simp [execOp, resolve, go_sem, rho, look]))))
 letI : DSc := dR g2 g3
 refine nl (tN ?_); have bad0 : r = (⟨0, 0, [], []⟩, false) → ∀ K E, (∀ w S, Ez S0 w0 w S E → ∃ x0 x1 x2 x3 y E', Ez S0 w0 w S (.blk g2 26 [x0, x1, x2, x3] :: .blk g3 4 [y] :: E')) → (∀ a, Kn 59 K a → Kn 59 [(2, Pt g2 0), (3, Pt g3 0)] a) → Ge S0 w0 59 K E (bodyPostD Try.prog Try.f66 (fun e w' => ∃ x : KTxL, r.1 = x.p ∧ e = .returned (.tuple #[.agg #[I x.ID, I x.Ts, .slice x.Reads_A x.Reads.length x.Reads_c, .slice x.Writes_A x.Writes.length x.Writes_c], B r.2]) ∧ Below w0.heap.size w0 w' ∧ AllH (ext S0 w0 w') w' [KTxL.ok x]) (.panic chE)) := fun hn K E hw hk => by
  subst hn; exact read_bad hw hk fun S w E e => ⟨⟨0, 0, none, 0, [], none, 0, []⟩, rfl, rfl, Es.b e, ⟨⟨RowS.nil _ _ _, Nat.le_refl _, fun _ h => absurd h List.not_mem_nil⟩, ⟨RowS.nil _ _ _, Nat.le_refl _, fun _ h => absurd h List.not_mem_nil⟩⟩, trivial⟩
 have bad : tg = none → ∀ K E, (∀ w S, Ez S0 w0 w S E → ∃ x0 x1 x2 x3 y E', Ez S0 w0 w S (.blk g2 26 [x0, x1, x2, x3] :: .blk g3 4 [y] :: E')) → (∀ a, Kn 59 K a → Kn 59 [(2, Pt g2 0), (3, Pt g3 0)] a) → Ge S0 w0 59 K E (bodyPostD Try.prog Try.f66 (fun e w' => ∃ x : KTxL, r.1 = x.p ∧ e = .returned (.tuple #[.agg #[I x.ID, I x.Ts, .slice x.Reads_A x.Reads.length x.Reads_c, .slice x.Writes_A x.Writes.length x.Writes_c], B r.2]) ∧ Below w0.heap.size w0 w' ∧ AllH (ext S0 w0 w') w' [KTxL.ok x]) (.panic chE)) := fun hn => bad0 (by subst hn; exact (oi hG).symm)
 refine sq (rg (rn 2 [] f0 [(7, .agg #[.slice A l.length c])] (l1 (nw 8 vp [.slice A l.length c] 127 fun g9 => ra [] f0 [(4, Pt g9 0)] (tN ?_))))); refine sq (rg (rn 1 [] f0 [(9, Pt g9 0)] (l1 (jI [.blk g3 4 [B false], .blk g2 26 [I 0, I 0, .slice none 0 0, .slice none 0 0]] 10 g9 A c l rd_next hT (fun _ _ e => e.sel [0, 3, 1, 2]) (fun v1 l1' A1 c1 hl1 _ => ?_) (fun hb x => ?_)))))
 ·refine rn 1 [] f0 [(11, Pt g9 0)] (l1 (jI [.blk g3 4 [B false], .blk g2 26 [I 0, I 0, .slice none 0 0, .slice none 0 0]] 12 g9 A1 c1 l1' rd_next hT (fun _ _ e => e) (fun v2 l2' A2 c2 hl2 _ => ?_) (fun hb x => ?_)))
  ·refine rn 1 [] f0 [(13, Pt g2 0)] (l1 (sr 3 g2 [(0, I v1)] (rn 1 [] f0 [(14, Pt g2 1)] (l1 (sr 3 g2 [(1, I v2)] (nl (tN ?_))))))); refine jn (fun K E a w => ∃ (s : List KSeen) (A3 : Option Addr) (c3 : Nat) (rest : List Int) (Ar : Option Addr) (cr : Nat), Js S0 w0 59 [(4, Pt g9 0), (2, Pt g2 0), (3, Pt g3 0)] [.blk g2 26 [I v1, I v2, .slice A3 s.length c3, .slice none 0 0], .own 95 2 (.slice A3 s.length c3) s.length (s.flatMap KSeen.cells), .blk g9 127 [.slice Ar rest.length cr], .dat (RowC Ar cr c_i64 tr rest), .blk g3 4 [B false]] (tg = rdM v1 v2 s rest) a w) ?_ ?_
   ·refine sq (rg (rn 1 [] f0 [(15, Pt g9 0)] (l1 (jI [.blk g3 4 [B false], .blk g2 26 [I v1, I v2, .slice none 0 0, .slice none 0 0]] 16 g9 A2 c2 l2' rd_count hT (fun _ _ e => e) (fun n l3 A6 c6 hl3 hn => ?_) (fun hb x => ?_)))))
    ·have hn2 : tg = fnS v1 v2 [] (rdSeen n.toNat l3) := by rw [← htg, hl1, hl2, hl3]; exact if_pos hn
     refine ra [] f0 [(17, I 0)] (tN (bk ?_)); refine lp (fun K E m a w => ∃ (k : Nat) (s : List KSeen) (A3 : Option Addr) (c3 : Nat) (rest : List Int) (Ar : Option Addr) (cr : Nat), Js S0 w0 59 [(16, I n), (17, I (s.length : Nat)), (4, Pt g9 0), (2, Pt g2 0), (3, Pt g3 0)] [.blk g2 26 [I v1, I v2, .slice A3 s.length c3, .slice none 0 0], .own 95 2 (.slice A3 s.length c3) s.length (s.flatMap KSeen.cells), .blk g9 127 [.slice Ar rest.length cr], .dat (RowC Ar cr c_i64 tr rest), .blk g3 4 [B false]] (tg = fnS v1 v2 s (rdSeen k rest) ∧ (s.length : Int) + k = n ∧ m = k) a w) n.toNat ?_ ?_
     ·exact on 95 2 (fun a w S k e => ⟨n.toNat, [], none, 0, l3, A6, c6, S, k.wk, e.sel [4, 0, 1, 2, 3], hn2, by simp; omega, rfl⟩)
     ·rintro m a w ⟨k, s, A3, c3, rest, Ar, cr, hJ⟩; refine hJ.go fun ⟨hg, hk0, hm⟩ => ?_
      clear hJ; refine sq (rg (ra [] f0 [(18, B (decide (((s.length : Nat) : Int) < n)))] (tN (sq ?_))))
      by_cases hlt : ((s.length : Nat) : Int) < n
      ·refine sb 18 (bt (decide_eq_true hlt)) (ct (kS (tN (sq (bk ?_))))); obtain ⟨k, rfl⟩ : ∃ k', k = k' + 1 := ⟨k - 1, by omega⟩; have hwl : IntKind.i64.wrap (((s.length : Nat) : Int) + 1) = ((s.length : Nat) : Int) + 1 := by unfold IntKind.wrap; simp [IntKind.signed, IntKind.bits]; omega
       have hap : ∀ x, apG 16 s ([x] : List KSeen) = some (s ++ [x]) := fun x => by unfold apG; rw [if_pos (by simp; omega)]
       have hbad : rdSeen (k + 1) rest = none → tg = none := fun h => by rw [hg, h]; rfl
       have noS0 : (∀ v r, rest = v :: r → ¬ True) → rdSeen (k + 1) rest = none := fun h => by
        cases rest with
        | nil => rfl
        | cons x y => exact absurd trivial (h _ _ rfl)
       have noS1 : ∀ {a : Int} {r1 : List Int}, (∀ v r, r1 = v :: r → ¬ True) → rdSeen (k + 1) (a :: r1) = none := fun {a r1} h => by
        cases r1 with
        | nil => rfl
        | cons x y => exact absurd trivial (h _ _ rfl)
       refine hb [] (htD okR [] [0, 2, 4] [] f0 [(19, Pt g2 2), (21, Pt g9 0), (23, Pt g9 0)] (ho [1, 3] ⟨h1 (po 20 (.slice A3 s.length c3) [(0, 1, 0, 2)] f0 (hk [] (ho [3] ⟨h1 (jI [.blk g2 26 [I v1, I v2, .slice A3 s.length c3, .slice none 0 0], .own 95 2 (.slice A3 s.length c3) s.length (s.flatMap KSeen.cells), .blk g3 4 [B false]] 22 g9 Ar cr rest rd_next hT (fun _ _ e => e.sel [2, 3, 0, 1, 4]) (fun a r1 A4 c4 hr0 hp0 => hk [] (ho [5] ⟨h1 (jI [.blk g2 26 [I v1, I v2, .slice A3 s.length c3, .slice none 0 0], .own 95 2 (.slice A3 s.length c3) s.length (s.flatMap KSeen.cells), .blk g3 4 [B false]] 24 g9 A4 c4 r1 rd_next hT (fun _ _ e => e) (fun b r2 A5 c5 hr1 hp1 => hk [] (htD okR [] [6] [] f0 [(25, .agg #[I a, I b])] (ho [7] ⟨h1 (nw 26 (vs 1) [I a, I b] 95 fun g => hk [] (ho [8] ⟨h1 (ap 4 27 A3 c3 s ([(⟨a, b⟩ : KSeen)] : List KSeen) inf23 (bA (f := KSeen.cells) (ok := tr) (l := ([(⟨a, b⟩ : KSeen)] : List KSeen)) g 0 et.a) (hap _) KSeen.one fun A6 c6 _ => hk [] (ho [9] ⟨h1 (po 28 (Pt g2 2) [] f0 (hk [] (ho [10] ⟨h1 (sr 3 g2 [(2, .slice A6 (s ++ [(⟨a, b⟩ : KSeen)]).length c6)] (hk [] (he (hN (tN ?_))))), trivial⟩))), trivial⟩)), trivial⟩)), trivial⟩) (hQ := by intro d h v c a w; exact read_put d h v c a w))) (fun hb1 x => bad (hbad (by rw [hr0]; exact noS1 hb1)) _ _ (fun w S e => ⟨_, _, _, _, _, _, e.sel [1, 3, 0, 2] rfl⟩) fun a k => k.wk)), trivial⟩)) (fun hb0 x => bad (hbad (by exact noS0 hb0)) _ _ (fun w S e => ⟨_, _, _, _, _, _, e.sel [1, 3, 0, 2] rfl⟩) fun a k => k.wk)), trivial⟩))), h1 (jI [.blk g2 26 [I v1, I v2, .slice A3 s.length c3, .slice none 0 0], .own 95 2 (.slice A3 s.length c3) s.length (s.flatMap KSeen.cells), .blk g3 4 [B false]] 22 g9 Ar cr rest rd_next hT (fun _ _ e => e.sel [2, 3, 0, 1, 4]) (fun a r1 A4 c4 hr0 hp0 => hk [] (ho [1, 5] ⟨h1 (po 20 (.slice A3 s.length c3) [(0, 1, 2, 2)] f0 (hk [] (ho [5] ⟨h1 (jI [.blk g2 26 [I v1, I v2, .slice A3 s.length c3, .slice none 0 0], .own 95 2 (.slice A3 s.length c3) s.length (s.flatMap KSeen.cells), .blk g3 4 [B false]] 24 g9 A4 c4 r1 rd_next hT (fun _ _ e => e) (fun b r2 A5 c5 hr1 hp1 => hk [] (htD okR [] [6] [] f0 [(25, .agg #[I a, I b])] (ho [7] ⟨h1 (nw 26 (vs 1) [I a, I b] 95 fun g => hk [] (ho [8] ⟨h1 (ap 4 27 A3 c3 s ([(⟨a, b⟩ : KSeen)] : List KSeen) inf23 (bA (f := KSeen.cells) (ok := tr) (l := ([(⟨a, b⟩ : KSeen)] : List KSeen)) g 0 et.a) (hap _) KSeen.one fun A6 c6 _ => hk [] (ho [9] ⟨h1 (po 28 (Pt g2 2) [] f0 (hk [] (ho [10] ⟨h1 (sr 3 g2 [(2, .slice A6 (s ++ [(⟨a, b⟩ : KSeen)]).length c6)] (hk [] (he (hN (tN ?_))))), trivial⟩))), trivial⟩)), trivial⟩)), trivial⟩) (hQ := by intro d h v c a w; exact read_put d h v c a w))) (fun hb1 x => bad (hbad (by rw [hr0]; exact noS1 hb1)) _ _ (fun w S e => ⟨_, _, _, _, _, _, e.sel [1, 3, 0, 2] rfl⟩) fun a k => k.wk)), trivial⟩))), h1 (jI [.blk g2 26 [I v1, I v2, .slice A3 s.length c3, .slice none 0 0], .own 95 2 (.slice A3 s.length c3) s.length (s.flatMap KSeen.cells), .blk g3 4 [B false]] 24 g9 A4 c4 r1 rd_next hT (fun _ _ e => e) (fun b r2 A5 c5 hr1 hp1 => hk [] (htD okR [] [6] [] f0 [(25, .agg #[I a, I b])] (ho [1, 7] ⟨h1 (po 20 (.slice A3 s.length c3) [(0, 1, 2, 2)] f0 (hk [] (ho [7] ⟨h1 (nw 26 (vs 1) [I a, I b] 95 fun g => hk [] (ho [8] ⟨h1 (ap 4 27 A3 c3 s ([(⟨a, b⟩ : KSeen)] : List KSeen) inf23 (bA (f := KSeen.cells) (ok := tr) (l := ([(⟨a, b⟩ : KSeen)] : List KSeen)) g 0 et.a) (hap _) KSeen.one fun A6 c6 _ => hk [] (ho [9] ⟨h1 (po 28 (Pt g2 2) [] f0 (hk [] (ho [10] ⟨h1 (sr 3 g2 [(2, .slice A6 (s ++ [(⟨a, b⟩ : KSeen)]).length c6)] (hk [] (he (hN (tN ?_))))), trivial⟩))), trivial⟩)), trivial⟩)), trivial⟩))), h1 (nw 26 (vs 1) [I a, I b] 95 fun g => hk [] (ho [1] ⟨h1 (po 20 (.slice A3 s.length c3) [(0, 1, 3, 2)] f0 (hk [] (ho [8] ⟨h1 (ap 4 27 A3 c3 s ([(⟨a, b⟩ : KSeen)] : List KSeen) inf23 (bA (f := KSeen.cells) (ok := tr) (l := ([(⟨a, b⟩ : KSeen)] : List KSeen)) g 0 et.a) (hap _) KSeen.one fun A6 c6 _ => hk [] (ho [9] ⟨h1 (po 28 (Pt g2 2) [] f0 (hk [] (ho [10] ⟨h1 (sr 3 g2 [(2, .slice A6 (s ++ [(⟨a, b⟩ : KSeen)]).length c6)] (hk [] (he (hN (tN ?_))))), trivial⟩))), trivial⟩)), trivial⟩))), trivial⟩)), trivial⟩) (hQ := by intro d h v c a w; exact read_put d h v c a w))) (fun hb1 x => bad (hbad (by rw [hr0]; exact noS1 hb1)) _ _ (fun w S e => ⟨_, _, _, _, _, _, e.sel [1, 3, 0, 2] rfl⟩) fun a k => k.wk)), trivial⟩)) (fun hb0 x => bad (hbad (by exact noS0 hb0)) _ _ (fun w S e => ⟨_, _, _, _, _, _, e.sel [1, 3, 0, 2] rfl⟩) fun a k => k.wk)), trivial⟩) (hQ := by intro d h v c a w; exact read_put d h v c a w))
       all_goals
        refine rg (ra [] f0 [(17, I (IntKind.i64.wrap (((s.length : Nat) : Int) + 1)))] (tN ?_)); refine sb 17 (congrArg I (hwl.trans (by simp : ((s.length : Nat) : Int) + 1 = (((s ++ [(⟨a, b⟩ : KSeen)]).length : Nat) : Int)))) ?_; exact fun a' w S k' e => ⟨k, ⟨k, s ++ [⟨a, b⟩], A6, c6, r2, A5, c5, S, k'.wk, e.sel [3, 4, 1, 2, 5], by rw [hg, hr0, hr1]; exact fnS_step _ _ _ _ _ _ _, by simp; omega, rfl⟩, by omega⟩
      ·refine sb 18 (bf (decide_eq_false hlt)) (cf (kX (tX (tX ?_)))); obtain rfl : k = 0 := by omega
       refine hH (tN ?_); exact fun a w S k e => ⟨s, A3, c3, rest, Ar, cr, S, k.wk, e, by rw [hg]; simp [rdSeen, fnS]⟩
    ·refine bad ?_ _ _ (fun w S e => ⟨_, _, _, _, _, _, e.sel [2, 1, 0] rfl⟩) fun a k => k.wk
     rw [← htg, hl1, hl2]; cases l2' with
     | nil => rfl
     | cons n y => exact if_neg (hb _ _ rfl)
   ·rintro a w ⟨s, A3, c3, rest, Ar, cr, hJ⟩; refine hJ.go fun hg => ?_
    clear hJ; refine jn (fun K E a w => ∃ (u : List KWrite) (B3 : Option Addr) (d3 : Nat) (rest : List Int) (Ar : Option Addr) (cr : Nat), Js S0 w0 59 [(4, Pt g9 0), (2, Pt g2 0), (3, Pt g3 0)] [.blk g2 26 [I v1, I v2, .slice A3 s.length c3, .slice B3 u.length d3], .own 66 3 (.slice B3 u.length d3) u.length (u.flatMap KWrite.cells), .blk g9 127 [.slice Ar rest.length cr], .dat (RowC Ar cr c_i64 tr rest), .blk g3 4 [B false], .own 95 2 (.slice A3 s.length c3) s.length (s.flatMap KSeen.cells)] (tg = fnW v1 v2 s u (some ([], rest))) a w) ?_ ?_
    ·refine sq (rg (rn 1 [] f0 [(30, Pt g9 0)] (l1 (jI [.blk g2 26 [I v1, I v2, .slice A3 s.length c3, .slice none 0 0], .own 95 2 (.slice A3 s.length c3) s.length (s.flatMap KSeen.cells), .blk g3 4 [B false]] 31 g9 Ar cr rest rd_count hT (fun _ _ e => e.sel [2, 3, 0, 1, 4]) (fun n l3 A6 c6 hl3 hn => ?_) (fun hb x => ?_)))))
     ·have hn2 : tg = fnW v1 v2 s [] (rdWr n.toNat l3) := by rw [hg, hl3]; exact if_pos hn
      refine ra [] f0 [(32, I 0)] (tN (bk ?_)); refine lp (fun K E m a w => ∃ (k : Nat) (u : List KWrite) (B3 : Option Addr) (d3 : Nat) (rest : List Int) (Ar : Option Addr) (cr : Nat), Js S0 w0 59 [(31, I n), (32, I (u.length : Nat)), (4, Pt g9 0), (2, Pt g2 0), (3, Pt g3 0)] [.blk g2 26 [I v1, I v2, .slice A3 s.length c3, .slice B3 u.length d3], .own 66 3 (.slice B3 u.length d3) u.length (u.flatMap KWrite.cells), .blk g9 127 [.slice Ar rest.length cr], .dat (RowC Ar cr c_i64 tr rest), .blk g3 4 [B false], .own 95 2 (.slice A3 s.length c3) s.length (s.flatMap KSeen.cells)] (tg = fnW v1 v2 s u (rdWr k rest) ∧ (u.length : Int) + k = n ∧ m = k) a w) n.toNat ?_ ?_
      ·exact on 66 3 (fun a w S k e => ⟨n.toNat, [], none, 0, l3, A6, c6, S, k.wk, e.sel [3, 0, 1, 2, 5, 4], hn2, by simp; omega, rfl⟩)
      ·clear hg hl3 hn2; rintro m a w ⟨k, u, B3, d3, rest, Ar, cr, hJ⟩; refine hJ.go fun ⟨hg, hk0, hm⟩ => ?_
       clear hJ; refine sq (rg (ra [] f0 [(33, B (decide (((u.length : Nat) : Int) < n)))] (tN (sq ?_))))
       by_cases hlt : ((u.length : Nat) : Int) < n
       ·refine sb 33 (bt (decide_eq_true hlt)) (ct (kS (tN (sq (bk ?_))))); obtain ⟨k, rfl⟩ : ∃ k', k = k' + 1 := ⟨k - 1, by omega⟩; have hwl : IntKind.i64.wrap (((u.length : Nat) : Int) + 1) = ((u.length : Nat) : Int) + 1 := by unfold IntKind.wrap; simp [IntKind.signed, IntKind.bits]; omega
        have hap : ∀ x, apG 24 u ([x] : List KWrite) = some (u ++ [x]) := fun x => by unfold apG; rw [if_pos (by simp; omega)]
        have hbad : rdWr (k + 1) rest = none → tg = none := fun h => by rw [hg, h]; rfl
        have noW0 : (∀ v r, rest = v :: r → ¬ True) → rdWr (k + 1) rest = none := fun h => by
         cases rest with
         | nil => rfl
         | cons x y => exact absurd trivial (h _ _ rfl)
        have noW1 : ∀ {a : Int} {r1 : List Int}, (∀ v r, r1 = v :: r → ¬ True) → rdWr (k + 1) (a :: r1) = none := fun {a r1} h => by
         cases r1 with
         | nil => rfl
         | cons x y => exact absurd trivial (h _ _ rfl)
        have noW2 : ∀ {a b : Int} {r1 : List Int}, (∀ v r, r1 = v :: r → ¬ (v = 0 ∨ v = 1)) → rdWr (k + 1) (a :: b :: r1) = none := fun {a b r1} h => by
         cases r1 with
         | nil => rfl
         | cons x y => exact if_neg (h _ _ rfl)
        refine hb [] (htD okR [] [0, 2, 4, 6] [] f0 [(34, Pt g2 3), (36, Pt g9 0), (38, Pt g9 0), (40, Pt g9 0)] (ho [1, 3] ⟨h1 (po 35 (.slice B3 u.length d3) [(0, 1, 0, 3)] f0 (hk [] (ho [3] ⟨h1 (jI [.blk g2 26 [I v1, I v2, .slice A3 s.length c3, .slice B3 u.length d3], .own 66 3 (.slice B3 u.length d3) u.length (u.flatMap KWrite.cells), .blk g3 4 [B false], .own 95 2 (.slice A3 s.length c3) s.length (s.flatMap KSeen.cells)] 37 g9 Ar cr rest rd_next hT (fun _ _ e => e.sel [2, 3, 0, 1, 4, 5]) (fun a r1 A4 c4 hr0 hp0 => hk [] (ho [5] ⟨h1 (jI [.blk g2 26 [I v1, I v2, .slice A3 s.length c3, .slice B3 u.length d3], .own 66 3 (.slice B3 u.length d3) u.length (u.flatMap KWrite.cells), .blk g3 4 [B false], .own 95 2 (.slice A3 s.length c3) s.length (s.flatMap KSeen.cells)] 39 g9 A4 c4 r1 rd_next hT (fun _ _ e => e) (fun b r2 A5 c5 hr1 hp1 => hk [] (ho [7] ⟨h1 (jI [.blk g2 26 [I v1, I v2, .slice A3 s.length c3, .slice B3 u.length d3], .own 66 3 (.slice B3 u.length d3) u.length (u.flatMap KWrite.cells), .blk g3 4 [B false], .own 95 2 (.slice A3 s.length c3) s.length (s.flatMap KSeen.cells)] 41 g9 A5 c5 r2 rd_flag hT (fun _ _ e => e) (fun v r3 A7 c7 hr2 hp2 => hk [] (htD okR [] [8] [] f0 [(42, .agg #[I a, I b, B (v == 1)])] (ho [9] ⟨h1 (nw 43 (vs 1) [I a, I b, B (v == 1)] 66 fun g => hk [] (ho [10] ⟨h1 (ap 4 44 B3 d3 u ([(⟨a, b, v == 1⟩ : KWrite)] : List KWrite) inf24 (bA (f := KWrite.cells) (ok := tr) (l := ([(⟨a, b, v == 1⟩ : KWrite)] : List KWrite)) g 0 et.a) (hap _) KWrite.one fun A6 c6 _ => hk [] (ho [11] ⟨h1 (po 45 (Pt g2 3) [] f0 (hk [] (ho [12] ⟨h1 (sr 3 g2 [(3, .slice A6 (u ++ [(⟨a, b, v == 1⟩ : KWrite)]).length c6)] (hk [] (he (hN (tN ?_))))), trivial⟩))), trivial⟩)), trivial⟩)), trivial⟩) (hQ := by intro d h v c a w; exact read_put d h v c a w))) (fun hb2 x => bad (hbad (by rw [hr0, hr1]; exact noW2 hb2)) _ _ (fun w S e => ⟨_, _, _, _, _, _, e.sel [1, 3, 0, 2, 4] rfl⟩) fun a k => k.wk)), trivial⟩)) (fun hb1 x => bad (hbad (by rw [hr0]; exact noW1 hb1)) _ _ (fun w S e => ⟨_, _, _, _, _, _, e.sel [1, 3, 0, 2, 4] rfl⟩) fun a k => k.wk)), trivial⟩)) (fun hb0 x => bad (hbad (by exact noW0 hb0)) _ _ (fun w S e => ⟨_, _, _, _, _, _, e.sel [1, 3, 0, 2, 4] rfl⟩) fun a k => k.wk)), trivial⟩))), h1 (jI [.blk g2 26 [I v1, I v2, .slice A3 s.length c3, .slice B3 u.length d3], .own 66 3 (.slice B3 u.length d3) u.length (u.flatMap KWrite.cells), .blk g3 4 [B false], .own 95 2 (.slice A3 s.length c3) s.length (s.flatMap KSeen.cells)] 37 g9 Ar cr rest rd_next hT (fun _ _ e => e.sel [2, 3, 0, 1, 4, 5]) (fun a r1 A4 c4 hr0 hp0 => hk [] (ho [1, 5] ⟨h1 (po 35 (.slice B3 u.length d3) [(0, 1, 2, 3)] f0 (hk [] (ho [5] ⟨h1 (jI [.blk g2 26 [I v1, I v2, .slice A3 s.length c3, .slice B3 u.length d3], .own 66 3 (.slice B3 u.length d3) u.length (u.flatMap KWrite.cells), .blk g3 4 [B false], .own 95 2 (.slice A3 s.length c3) s.length (s.flatMap KSeen.cells)] 39 g9 A4 c4 r1 rd_next hT (fun _ _ e => e) (fun b r2 A5 c5 hr1 hp1 => hk [] (ho [7] ⟨h1 (jI [.blk g2 26 [I v1, I v2, .slice A3 s.length c3, .slice B3 u.length d3], .own 66 3 (.slice B3 u.length d3) u.length (u.flatMap KWrite.cells), .blk g3 4 [B false], .own 95 2 (.slice A3 s.length c3) s.length (s.flatMap KSeen.cells)] 41 g9 A5 c5 r2 rd_flag hT (fun _ _ e => e) (fun v r3 A7 c7 hr2 hp2 => hk [] (htD okR [] [8] [] f0 [(42, .agg #[I a, I b, B (v == 1)])] (ho [9] ⟨h1 (nw 43 (vs 1) [I a, I b, B (v == 1)] 66 fun g => hk [] (ho [10] ⟨h1 (ap 4 44 B3 d3 u ([(⟨a, b, v == 1⟩ : KWrite)] : List KWrite) inf24 (bA (f := KWrite.cells) (ok := tr) (l := ([(⟨a, b, v == 1⟩ : KWrite)] : List KWrite)) g 0 et.a) (hap _) KWrite.one fun A6 c6 _ => hk [] (ho [11] ⟨h1 (po 45 (Pt g2 3) [] f0 (hk [] (ho [12] ⟨h1 (sr 3 g2 [(3, .slice A6 (u ++ [(⟨a, b, v == 1⟩ : KWrite)]).length c6)] (hk [] (he (hN (tN ?_))))), trivial⟩))), trivial⟩)), trivial⟩)), trivial⟩) (hQ := by intro d h v c a w; exact read_put d h v c a w))) (fun hb2 x => bad (hbad (by rw [hr0, hr1]; exact noW2 hb2)) _ _ (fun w S e => ⟨_, _, _, _, _, _, e.sel [1, 3, 0, 2, 4] rfl⟩) fun a k => k.wk)), trivial⟩)) (fun hb1 x => bad (hbad (by rw [hr0]; exact noW1 hb1)) _ _ (fun w S e => ⟨_, _, _, _, _, _, e.sel [1, 3, 0, 2, 4] rfl⟩) fun a k => k.wk)), trivial⟩))), h1 (jI [.blk g2 26 [I v1, I v2, .slice A3 s.length c3, .slice B3 u.length d3], .own 66 3 (.slice B3 u.length d3) u.length (u.flatMap KWrite.cells), .blk g3 4 [B false], .own 95 2 (.slice A3 s.length c3) s.length (s.flatMap KSeen.cells)] 39 g9 A4 c4 r1 rd_next hT (fun _ _ e => e) (fun b r2 A5 c5 hr1 hp1 => hk [] (ho [1, 7] ⟨h1 (po 35 (.slice B3 u.length d3) [(0, 1, 2, 3)] f0 (hk [] (ho [7] ⟨h1 (jI [.blk g2 26 [I v1, I v2, .slice A3 s.length c3, .slice B3 u.length d3], .own 66 3 (.slice B3 u.length d3) u.length (u.flatMap KWrite.cells), .blk g3 4 [B false], .own 95 2 (.slice A3 s.length c3) s.length (s.flatMap KSeen.cells)] 41 g9 A5 c5 r2 rd_flag hT (fun _ _ e => e) (fun v r3 A7 c7 hr2 hp2 => hk [] (htD okR [] [8] [] f0 [(42, .agg #[I a, I b, B (v == 1)])] (ho [9] ⟨h1 (nw 43 (vs 1) [I a, I b, B (v == 1)] 66 fun g => hk [] (ho [10] ⟨h1 (ap 4 44 B3 d3 u ([(⟨a, b, v == 1⟩ : KWrite)] : List KWrite) inf24 (bA (f := KWrite.cells) (ok := tr) (l := ([(⟨a, b, v == 1⟩ : KWrite)] : List KWrite)) g 0 et.a) (hap _) KWrite.one fun A6 c6 _ => hk [] (ho [11] ⟨h1 (po 45 (Pt g2 3) [] f0 (hk [] (ho [12] ⟨h1 (sr 3 g2 [(3, .slice A6 (u ++ [(⟨a, b, v == 1⟩ : KWrite)]).length c6)] (hk [] (he (hN (tN ?_))))), trivial⟩))), trivial⟩)), trivial⟩)), trivial⟩) (hQ := by intro d h v c a w; exact read_put d h v c a w))) (fun hb2 x => bad (hbad (by rw [hr0, hr1]; exact noW2 hb2)) _ _ (fun w S e => ⟨_, _, _, _, _, _, e.sel [1, 3, 0, 2, 4] rfl⟩) fun a k => k.wk)), trivial⟩))), h1 (jI [.blk g2 26 [I v1, I v2, .slice A3 s.length c3, .slice B3 u.length d3], .own 66 3 (.slice B3 u.length d3) u.length (u.flatMap KWrite.cells), .blk g3 4 [B false], .own 95 2 (.slice A3 s.length c3) s.length (s.flatMap KSeen.cells)] 41 g9 A5 c5 r2 rd_flag hT (fun _ _ e => e) (fun v r3 A7 c7 hr2 hp2 => hk [] (htD okR [] [8] [] f0 [(42, .agg #[I a, I b, B (v == 1)])] (ho [1, 9] ⟨h1 (po 35 (.slice B3 u.length d3) [(0, 1, 2, 3)] f0 (hk [] (ho [9] ⟨h1 (nw 43 (vs 1) [I a, I b, B (v == 1)] 66 fun g => hk [] (ho [10] ⟨h1 (ap 4 44 B3 d3 u ([(⟨a, b, v == 1⟩ : KWrite)] : List KWrite) inf24 (bA (f := KWrite.cells) (ok := tr) (l := ([(⟨a, b, v == 1⟩ : KWrite)] : List KWrite)) g 0 et.a) (hap _) KWrite.one fun A6 c6 _ => hk [] (ho [11] ⟨h1 (po 45 (Pt g2 3) [] f0 (hk [] (ho [12] ⟨h1 (sr 3 g2 [(3, .slice A6 (u ++ [(⟨a, b, v == 1⟩ : KWrite)]).length c6)] (hk [] (he (hN (tN ?_))))), trivial⟩))), trivial⟩)), trivial⟩)), trivial⟩))), h1 (nw 43 (vs 1) [I a, I b, B (v == 1)] 66 fun g => hk [] (ho [1] ⟨h1 (po 35 (.slice B3 u.length d3) [(0, 1, 3, 3)] f0 (hk [] (ho [10] ⟨h1 (ap 4 44 B3 d3 u ([(⟨a, b, v == 1⟩ : KWrite)] : List KWrite) inf24 (bA (f := KWrite.cells) (ok := tr) (l := ([(⟨a, b, v == 1⟩ : KWrite)] : List KWrite)) g 0 et.a) (hap _) KWrite.one fun A6 c6 _ => hk [] (ho [11] ⟨h1 (po 45 (Pt g2 3) [] f0 (hk [] (ho [12] ⟨h1 (sr 3 g2 [(3, .slice A6 (u ++ [(⟨a, b, v == 1⟩ : KWrite)]).length c6)] (hk [] (he (hN (tN ?_))))), trivial⟩))), trivial⟩)), trivial⟩))), trivial⟩)), trivial⟩) (hQ := by intro d h v c a w; exact read_put d h v c a w))) (fun hb2 x => bad (hbad (by rw [hr0, hr1]; exact noW2 hb2)) _ _ (fun w S e => ⟨_, _, _, _, _, _, e.sel [1, 3, 0, 2, 4] rfl⟩) fun a k => k.wk)), trivial⟩)) (fun hb1 x => bad (hbad (by rw [hr0]; exact noW1 hb1)) _ _ (fun w S e => ⟨_, _, _, _, _, _, e.sel [1, 3, 0, 2, 4] rfl⟩) fun a k => k.wk)), trivial⟩)) (fun hb0 x => bad (hbad (by exact noW0 hb0)) _ _ (fun w S e => ⟨_, _, _, _, _, _, e.sel [1, 3, 0, 2, 4] rfl⟩) fun a k => k.wk)), trivial⟩) (hQ := by intro d h v c a w; exact read_put d h v c a w))
        all_goals
         refine rg (ra [] f0 [(32, I (IntKind.i64.wrap (((u.length : Nat) : Int) + 1)))] (tN ?_)); refine sb 32 (congrArg I (hwl.trans (by simp : ((u.length : Nat) : Int) + 1 = (((u ++ [(⟨a, b, v == 1⟩ : KWrite)]).length : Nat) : Int)))) ?_; exact fun a' w S k' e => ⟨k, ⟨k, u ++ [⟨a, b, v == 1⟩], A6, c6, r3, A7, c7, S, k'.wk, e.sel [3, 4, 1, 2, 5, 6], by rw [hg, hr0, hr1, hr2]; exact fnW_step _ _ _ _ _ _ _ _ _ hp2, by simp; omega, rfl⟩, by omega⟩
       ·refine sb 33 (bf (decide_eq_false hlt)) (cf (kX (tX (tX ?_)))); obtain rfl : k = 0 := by omega
        refine hH (tN ?_); exact fun a w S k e => ⟨u, B3, d3, rest, Ar, cr, S, k.wk, e, by rw [hg]; rfl⟩
     ·refine bad ?_ _ _ (fun w S e => ⟨_, _, _, _, _, _, e.sel [1, 3, 0, 2] rfl⟩) fun a k => k.wk
      rw [hg]; cases rest with
      | nil => rfl
      | cons n y => exact if_neg (hb _ _ rfl)
    ·clear hg; rintro a w ⟨u, B3, d3, rest, Ar, cr, hJ⟩; refine hJ.go fun hg => ?_
     clear hJ; refine so (A := B3) (c := d3) 1 KWrite.cells tr u tr_mv et ?_; refine so (A := A3) (c := c3) 5 KSeen.cells tr s tr_mv et ?_; refine pm (E' := [.blk g2 26 [I v1, I v2, .slice A3 s.length c3, .slice B3 u.length d3], .blk g3 4 [B false], .blk g9 127 [.slice Ar rest.length cr], .dat (RowC Ar cr c_i64 tr rest), .dat (RowC A3 c3 KSeen.cells tr s), .dat (RowC B3 d3 KWrite.cells tr u)]) [0, 4, 2, 3, 5, 1] ?_; refine sq (rg (rn 7 [(3, 1, 2, 0)] f0 [(53, B (((rest.length : Nat) : Int) == 0))] ?_)); have sel : ∀ w S, Ez S0 w0 w S [.blk g2 26 [I v1, I v2, .slice A3 s.length c3, .slice B3 u.length d3], .blk g3 4 [B false], .blk g9 127 [.slice Ar rest.length cr], .dat (RowC Ar cr c_i64 tr rest), .dat (RowC A3 c3 KSeen.cells tr s), .dat (RowC B3 d3 KWrite.cells tr u)] → ∃ x0 x1 x2 x3 y E', Ez S0 w0 w S (.blk g2 26 [x0, x1, x2, x3] :: .blk g3 4 [y] :: E') := fun w S e => ⟨_, _, _, _, _, _, e⟩
     by_cases hr : rest = []
     ·subst hr; have hg : tg = some ⟨v1, v2, s, u⟩ := by rw [hg]; simp [fnW]
      rw [hg] at hG; obtain ⟨bf, hbf, hG⟩ := bs hG; refine sb 53 (bt (b := ((([] : List Int).length : Nat) : Int) == 0) rfl) (rn 1 [(0, 4, 0, 0)] f0 [(54, .agg #[I v1, I v2, .slice A3 s.length c3, .slice B3 u.length d3])] ?_); refine fm (KTxL.ok ⟨v1, v2, A3, c3, s, B3, d3, u⟩) (fun a b c d h S' W h1 h2 => ⟨gd' (RowC A3 c3 KSeen.cells tr s) 4 rfl a b c d h S' W h1 h2, gd' (RowC B3 d3 KWrite.cells tr u) 5 rfl a b c d h S' W h1 h2⟩) ?_; refine l1 (cl 55 (z_journal_formed F ⟨v1, v2, A3, c3, s, B3, d3, u⟩ bf hbf) hT ⟨(gd' (KTxL.ok ⟨v1, v2, A3, c3, s, B3, d3, u⟩) 0).a, trivial⟩ (rn 1 [] f0 [(56, B bf)] ?_)); cases bf with
      | false => exact l1 (pn jneed_bad (bad0 (oi hG).symm _ _ (fun w S e => sel w S (Es.drop e (List.sublist_cons_self _ _))) fun a k => k.wk))
      | true =>
       obtain rfl := oi hG; refine l1 (cl 57 jneed_ok hT trivial (nl (tN (sq ?_)))); refine rg (rn 1 [(0, 4, 1, 0)] f0 [(58, .agg #[I v1, I v2, .slice A3 s.length c3, .slice B3 u.length d3])] (l1 (sr 1 g2 (ns 0 [I v1, I v2, .slice A3 s.length c3, .slice B3 u.length d3]) (l1 (sr 2 g3 [(0, B true)] (nl (tN (kR ?_)))))))); refine pm (E' := .blk g2 26 [I v1, I v2, .slice A3 s.length c3, .slice B3 u.length d3] :: .blk g3 4 [B true] :: [.dat (KTxL.ok ⟨v1, v2, A3, c3, s, B3, d3, u⟩)]) [1, 2, 0] ?_; exact read_end (fun a k => k.wk) fun S w e => ⟨⟨v1, v2, A3, c3, s, B3, d3, u⟩, rfl, rfl, Es.b e, KTxL.mv _ _ _ _ _ (Ez.get e (i := 2) rfl) (Es.sub e) (Ag.refl _ _), trivial⟩
     ·have hg : tg = none := by
       rw [hg]; cases rest with
       | nil => exact absurd rfl hr
       | cons x y => rfl
      refine sb 53 (bf (b := ((rest.length : Nat) : Int) == 0) (by cases rest with | nil => exact absurd rfl hr | cons x y => simp; omega)) (rn 3 [] f0 [(56, B false)] ?_); exact l1 (pn jneed_bad (bad hg _ _ sel fun a k => k.wk))
  ·exact bad (by rw [← htg, hl1]; cases l1' with | nil => rfl | cons a b => exact absurd trivial (hb _ _ rfl)) _ _ (fun w S e => ⟨_, _, _, _, _, _, e.sel [2, 1, 0] rfl⟩) fun a k => k.wk
 ·exact bad (by rw [← htg]; cases l with | nil => rfl | cons a b => exact absurd trivial (hb _ _ rfl)) _ _ (fun w S e => ⟨_, _, _, _, _, _, e.sel [2, 1, 0] rfl⟩) fun a k => k.wk
end Go.Proofs.Ytlfkgbideknkhaa
namespace Go.Proofs.Ytlfkgbideknkhaa
open Go.RowKit Go.Maps
section
variable {S0 S : Nat → Prop} {w0 w w' : World} {n : Nat} {K : List (Nat × Value)} {E : List Iz} {P : Program} {ops : Array Oper} {Q : Exit → Act → World → Prop} {o : Oper} {L : List Oper} {X : Act → World → Prop}
def wY (P : Program) (ops : Array Oper) (Q : Exit → Act → World → Prop) (L : List Oper) : Act → World → Prop := wpListIn Fence.wide 40 P ops Q L
theorem rgY [DSc] {id : Nat} (h : Ge S0 w0 n K E (wY P L.toArray Q L)) : Ge S0 w0 n K E ((Code.region id L.toArray false).wp P Q) := fun a w S hK hE => wpIn_wide.1 (wpIn_region_lit (h a w S hK hE))
theorem rnY [DSc] (m : Nat) (hs : List (Nat × Nat × Nat × Nat)) {fs : List Fct} (hF : AllF P fs) (new : List (Nat × Value)) (h : Ge S0 w0 n (new ++ K) E (wY P ops Q (L.drop m))) (he : Rck P n ops E K L m hs fs new := by intro J; kernel_rfl) (hc : clash new K m L = true := by kernel_rfl) :
  Ge S0 w0 n K E (wY P ops Q L) := fun a w S hK hE => by
 refine run_all (C := fun w' => w' = w) (W := fun L a => wY P ops Q L a w) (fun o L a v d hd hw hr hk => ?_) (fun o L a hw hk => ?_) hF he hc hK (fun w' e => ⟨S0, w0, S, e ▸ hE⟩) (fun a' ha' => h a' w S ha' hE)
 ·refine wpListIn_step fun Kx hx => ?_
  rw [if_pos hw]; refine ⟨fun _ _ => trivial, ?_⟩; rw [show o.semAt Fence.wide.round a.eval = execOp a.eval o from rfl, hr w rfl, Oper.uponIn_value, hd]; exact hx _ _ hk
 ·refine wpListIn_step fun Kx hx => ?_
  rw [if_neg (by rw [hw]; simp)]; exact ⟨fun _ _ => trivial, hx _ _ hk⟩
theorem raY [DSc] (hs : List (Nat × Nat × Nat × Nat)) {fs : List Fct} (hF : AllF P fs) (new : List (Nat × Value)) (h : Ge S0 w0 n (new ++ K) E (Q .normal)) (he : Rck P n ops E K L L.length hs fs new := by intro J; kernel_rfl) (hc : clash new K L.length L = true := by kernel_rfl) :
  Ge S0 w0 n K E (wY P ops Q L) := rnY L.length hs hF new (by rw [List.drop_length]; exact h) he hc
theorem yY [DSc] {Y : World → Prop} (d l : Nat) (args : List Value) (hY : ∀ w S, Ez S0 w0 w S E → YieldAt Fence.wide 39 P l args.toArray w fun e w' => e = .returned (.bool true) ∧ Y w')
  (h : ∀ w', Y w' → ∃ S E', Ez S0 w0 w' S E' ∧ Ge S0 w0 n ((d, .bool true) :: K) E' (wY P ops Q L)) (hg : gd ops K o = some true := by kernel_rfl)
  (he : ∀ J W, (execOp (rho K J) o).run P W = (Instr.yield l args.toArray).run P W) (hd : o.dst = some d := by kernel_rfl) (hn : Nat.blt d n = true := by kernel_rfl) :
  Ge S0 w0 n K E (wY P ops Q (o :: L)) := fun a w S hK hE => by
 refine wpListIn_step fun Kx hx => ?_
 rw [if_pos (hK.wanted hg)]; refine ⟨fun _ _ => trivial, ?_⟩; rw [show o.semAt Fence.wide.round a.eval = execOp a.eval o from rfl, hK.eval, he]; obtain ⟨fn, tmps, asg, body, h1, h2⟩ := hY w S hE; rw [h1, Oper.uponIn_round]; refine ⟨fun h => (by cases h), h2.mono ?_⟩; rintro e w' ⟨rfl, hY'⟩; obtain ⟨S', E', hE', hGe⟩ := h w' hY'; rw [hd]; exact hx _ _ (hGe _ _ _ (hK.put hn _) hE')
end
end Go.Proofs.Ytlfkgbideknkhaa
namespace Go.Proofs.Ytlfkgbideknkhaa
open Go.RowKit Go.Maps
def recG (F : Nat) : List (List Int) → Int → Option (List KTx)
 | [], _ => some []
 | f :: fs, last => Option.bind (G_journal_read F f) (un2 fun t ok => ifB (!ok || decide (t.Ts ≤ last)) (some []) (Option.bind (recG F fs t.Ts) fun r => some (t :: r)))
set_option maxRecDepth 100000 in
set_option maxHeartbeats 8000000 in
theorem records1_c (F : Nat) (S0 : Nat → Prop) (w0 w : World) (S : Nat → Prop) (E0 : List Iz) (JE : List KTx → List Iz → Prop) (N : Nat) (hT : Tb w0) (l Bs : Nat) (Af : Option Addr) (cF : Nat) (fs : List KSintL) (rs : List KTx) (hrs : recG F (fs.map KSintL.p) 0 = some rs) (hlen : fs.length < N) (hNb : N ≤ 4611686018427387904)
  (hJ0 : JE [] E0) (hE : Ez S0 w0 w S (.blk Bs 71 [.slice Af fs.length cF] :: .dat (RowC Af cF KSintL.cells KSintL.ok fs) :: E0))
  (hY : ∀ (pre : List KTx) (t : KTxL) (Ex E' : List Iz) (w : World) (S : Nat → Prop), JE pre E' → pre.length < N → (∃ r', pre ++ t.p :: r' = rs) → Ez S0 w0 w S (.dat (KTxL.ok t) :: (Ex ++ E')) →
   YieldAt Fence.wide 39 Try.prog l [(.agg #[I t.ID, I t.Ts, .slice t.Reads_A t.Reads.length t.Reads_c, .slice t.Writes_A t.Writes.length t.Writes_c] : Value)].toArray w fun e w' => e = .returned (.bool true) ∧ ∃ S E'', JE (pre ++ [t.p]) E'' ∧ Ez S0 w0 w' S (Ex ++ E'')) :
  Calls Try.prog 65 [.func (.yield l) #[] #[], Pt Bs 0].toArray w fun e w' => (∃ v, e = .returned v) ∧ ∃ S E'', JE rs E'' ∧ Ez S0 w0 w' S E'' := by
 refine vc_enter Try.func65 rfl rfl (by kernel_rfl) fun a hK => ?_
 refine (?_ : Ge S0 w0 36 _ (.blk Bs 71 [.slice Af fs.length cF] :: .dat (RowC Af cF KSintL.cells KSintL.ok fs) :: E0) _) a w S hK hE; clear hK hE a w S; refine sq (rg (ra [] f0 [(3, I 0)] (tN (sq ?_)))); refine rg (ra [(0, 1, 0, 0)] f0 [(8, .slice Af fs.length cF), (9, I ((fs.length : Nat) : Int)), (10, I 0)] (tN (bk ?_))); refine lp (fun K E m a w => ∃ (i : Nat) (last : Int) (pre post : List KTx) (E' : List Iz), Js S0 w0 36 [(3, I last), (8, .slice Af fs.length cF), (9, I ((fs.length : Nat) : Int)), (10, I (i : Nat)), (0, .func (.yield l) #[] #[]), (1, Pt Bs 0)] (.blk Bs 71 [.slice Af fs.length cF] :: .dat (RowC Af cF KSintL.cells KSintL.ok fs) :: E') (JE pre E' ∧ recG F ((fs.drop i).map KSintL.p) last = some post ∧ pre ++ post = rs ∧ pre.length = i ∧ i ≤ fs.length ∧ m + i = fs.length) a w) fs.length ?_ ?_
 ·exact fun a w S k e => ⟨0, 0, [], rs, E0, S, k.wk, e, hJ0, hrs, rfl, rfl, Nat.zero_le _, by omega⟩
 ·rintro m a w ⟨i, last, pre, post, E', hJ⟩; refine hJ.go fun ⟨hje, hpo, hpp, hpi, hi, hm⟩ => ?_
  clear hJ; refine sq (rg (ra [] f0 [(11, B (decide (((i : Nat) : Int) < ((fs.length : Nat) : Int))))] (tN (sq ?_))))
  by_cases hlt : i < fs.length
  ·refine sb 11 (bt (b := decide (((i : Nat) : Int) < ((fs.length : Nat) : Int))) (decide_eq_true (by omega))) (ct (kS (tN (sq (bk (sq ?_)))))); have hdr : fs.drop i = fs[i] :: fs.drop (i + 1) := List.drop_eq_getElem_cons hlt; rw [hdr, List.map_cons] at hpo; have hy : ixI (fs.map KSintL.p) ((i : Nat) : Int) = some (fs[i]).p := by unfold ixI; rw [if_pos (by omega)]; simp [hlt]
   obtain ⟨x, hx⟩ : ∃ x, (fs[i]).p = x := ⟨_, rfl⟩; rw [hx] at hpo hy; refine rg (fxn (p := KSintL.p) inf71 (gd' (RowC Af cF KSintL.cells KSintL.ok fs) 1) hy fun v b o he hi2 => ra [(0, 0, 0, 0), (0, 1, 0, 0)] (fc (hi2 .i64) f0) [(5, .slice v.A v.l.length v.c)] (tN (sq ?_))); subst he; obtain ⟨t0, ok, hrd, hpo⟩ := b2 hpo; refine rg (rn 1 [] f0 [(15, .slice v.A v.l.length v.c)] (l1 (cn 16 (z_journal_read F v.A v.c v.l _ hrd) hT (fun _ => (mc KTxL.mv m0)) ⟨gm (KSintL.ok v) 1 fun _ _ h => h.f_l, trivial⟩ ?_))); rintro t ht; obtain rfl : t0 = t.p := ht; refine rn 3 [] f0 [(17, .agg #[I t.ID, I t.Ts, .slice t.Reads_A t.Reads.length t.Reads_c, .slice t.Writes_A t.Writes.length t.Writes_c]), (18, B ok)] (l1 (nw 6 vp [I 0, I 0, .slice none 0 0, .slice none 0 0] 26 fun g6 => l1 (sr 0 g6 (ns 0 [I t.ID, I t.Ts, .slice t.Reads_A t.Reads.length t.Reads_c, .slice t.Writes_A t.Writes.length t.Writes_c]) (ra [] f0 [(7, B ok)] (tN (sq ?_)))))); have hfin : ∀ K E2, post = [] → (∀ w S, Ez S0 w0 w S E2 → Ez S0 w0 w S E') → Ge S0 w0 36 K E2 (bodyPost Try.prog Try.f65 (fun e w' => (∃ v, e = .returned v) ∧ ∃ S E'', JE rs E'' ∧ Ez S0 w0 w' S E'') .ret) := fun K E2 hp hs => by
    subst hp; rw [List.append_nil] at hpp; subst hpp; exact ri [] (.tuple #[]) (fun a w S k e => ⟨⟨_, rfl⟩, S, E', hje, hs w S e⟩)
   have hsub : ∀ w S, Ez S0 w0 w S (.blk g6 26 [I t.ID, I t.Ts, .slice t.Reads_A t.Reads.length t.Reads_c, .slice t.Writes_A t.Writes.length t.Writes_c] :: .dat (KTxL.ok t) :: .rc b o [.slice v.A v.l.length v.c] :: .dat (KSintL.ok v) :: .blk Bs 71 [.slice Af fs.length cF] :: .dat (RowC Af cF KSintL.cells KSintL.ok fs) :: E') → Ez S0 w0 w S E' := fun w S e => Ez.sub' e (.cons _ (.cons _ (.cons _ (.cons _ (.cons _ (.cons _ (.refl _)))))))
   rcases ic hpo with ⟨h5, hpo2⟩ | ⟨h5, hpo2⟩
   ·have hp0 := (oi hpo2).symm; cases ok with
    | false =>
     refine sq (rg (ra [] f0 [(32, B true)] (tN (ct (kR ?_)))))
     repeat (first | refine tR ?_ | refine hR ?_)
     exact hfin _ _ hp0 hsub
    | true =>
     refine sq (rg (rn 8 [(4, 1, 0, 1)] f0 [(26, B (decide (t.Ts ≤ last)))] (sb 26 (bt (b := decide (t.Ts ≤ last)) (decide_eq_true (p := t.Ts ≤ last) (show t.p.Ts ≤ last from by simpa using h5))) (ra [] f0 [(32, B true)] (tN (ct (kR ?_)))))))
     repeat (first | refine tR ?_ | refine hR ?_)
     exact hfin _ _ hp0 hsub
   ·have hok : ok = true ∧ last < t.p.Ts := by simpa using h5
    obtain ⟨rfl, hts⟩ := hok; obtain ⟨r', hr', hpo3⟩ := bs hpo2; have hp0 : post = t.p :: r' := (oi hpo3).symm; subst hp0
    change Ge S0 w0 36 _ (.blk g6 26 [I t.ID, I t.Ts, .slice t.Reads_A t.Reads.length t.Reads_c, .slice t.Writes_A t.Writes.length t.Writes_c] :: .dat (KTxL.ok t) :: .rc b o [.slice v.A v.l.length v.c] :: .dat (KSintL.ok v) :: .blk Bs 71 [.slice Af fs.length cF] :: .dat (RowC Af cF KSintL.cells KSintL.ok fs) :: E') _
    refine sq (rgY (rnY 8 [(4, 1, 0, 1)] f0 [(26, B (decide (t.Ts ≤ last)))] (sb 26 (bf (b := decide (t.Ts ≤ last)) (decide_eq_false (p := t.Ts ≤ last) (show ¬ t.p.Ts ≤ last by omega))) (rnY 3 [(2, 4, 0, 0)] f0 [(27, B false), (28, .func (.yield l) #[] #[]), (29, .agg #[I t.ID, I t.Ts, .slice t.Reads_A t.Reads.length t.Reads_c, .slice t.Writes_A t.Writes.length t.Writes_c])] ?_)))); refine yY (Y := fun w' => ∃ S E'', JE (pre ++ [t.p]) E'' ∧ Ez S0 w0 w' S ([.blk g6 26 [I t.ID, I t.Ts, .slice t.Reads_A t.Reads.length t.Reads_c, .slice t.Writes_A t.Writes.length t.Writes_c], .rc b o [.slice v.A v.l.length v.c], .dat (KSintL.ok v), .blk Bs 71 [.slice Af fs.length cF], .dat (RowC Af cF KSintL.cells KSintL.ok fs)] ++ E'')) 30 l [.agg #[I t.ID, I t.Ts, .slice t.Reads_A t.Reads.length t.Reads_c, .slice t.Writes_A t.Writes.length t.Writes_c]] (fun w S e => hY pre t _ E' w S hje (by omega) ⟨r', hpp⟩ (Ez.prm e (.swap _ _ _))) ?_ (he := by intro J W; simp [execOp, resolve, invoke, go_sem, rho, look]); rintro w' ⟨S', E'', hj2, hE2⟩; refine ⟨S', _, hE2, ?_⟩; have hwl : IntKind.i64.wrap (((i : Nat) : Int) + 1) = ((i + 1 : Nat) : Int) := by unfold IntKind.wrap; simp [IntKind.signed, IntKind.bits]; omega
    refine raY [] f0 [(32, B false)] (tN (cf (kS (tN ?_)))); refine rg (ra [(1, 1, 0, 1)] f0 [(3, I t.Ts)] (hN (tN ?_))); refine rg (ra [] f0 [(10, I (IntKind.i64.wrap (((i : Nat) : Int) + 1)))] (tN ?_)); refine sb 10 (congrArg I hwl) ?_; exact fun a w S k e => ⟨m - 1, ⟨i + 1, t.Ts, pre ++ [t.p], r', E'', S, k.wk, Ez.sub' e (.cons _ (.cons _ (.cons _ (.refl _)))), hj2, hr', by rw [List.append_assoc]; exact hpp, by simp [hpi], hlt, by omega⟩, by omega⟩
  ·have hdr : fs.drop i = [] := List.drop_eq_nil_of_le (by omega); rw [hdr] at hpo; have hp0 : post = [] := (oi hpo).symm; subst hp0; rw [List.append_nil] at hpp; subst hpp; refine sb 11 (bf (b := decide (((i : Nat) : Int) < ((fs.length : Nat) : Int))) (decide_eq_false (by omega))) (cf (kX (tX (tX ?_)))); refine hH (fall ?_); exact ri [] (.tuple #[]) (fun a w S k e => ⟨⟨_, rfl⟩, S, E', hje, Ez.sub' e (.cons _ (.cons _ (.refl _)))⟩)
end Go.Proofs.Ytlfkgbideknkhaa
namespace Go.Proofs.Ytlfkgbideknkhaa
open Go.RowKit Go.Maps
abbrev Gi (l : Nat) : Fence := Fence.wide.inRound l
section
variable {S0 S : Nat → Prop} {w0 w w' : World} {n : Nat} {K : List (Nat × Value)} {E : List Iz} {P : Program} {ops : Array Oper} {Q : Exit → Act → World → Prop} {o : Oper} {L : List Oper} {X : Act → World → Prop} {a : Act} {l k : Nat} {x y c : Code} {id : Nat}
theorem upon_in {Kx : Act → World → Prop} : ∀ {r : Result Next}, o.upon P a Kx Q r → o.uponIn (Gi l) k P a Kx Q r
 | .ok (.value _) _, h => h
 | .ok .skip _, h => h
 | .ok (.defer _) _, h => h
 | .ok (.enter _ _) _, h => ⟨fun h => (by cases h), CallsIn.inRound l (callsIn_wide.2 h)⟩
 | .ok (.row _ _) _, h => ⟨fun h => (by cases h), fun c cs _ => let ⟨v, w', r, s⟩ := h c cs; ⟨v, w', r, stepsIn_wide.2 s⟩⟩
 | .halt (.panic _) _, h => h
def nodB (o : Oper) : Bool := match o.op with | .defer _ => false | _ => true
theorem nodB_ne (h : nodB o = true) : ∀ c, o.op ≠ .defer c := fun c e => by unfold nodB at h; rw [e] at h; cases h
theorem wpOps_in (hlo : ¬ LetsOut Q) (hnd : ∀ (i : Nat) (o : Oper), ops[i]? = some o → nodB o = true) : ∀ (is : List Nat) (a : Act) (w : World), wpOps P ops Q is a w → wpOpsIn (Gi l) k P ops Q is a w
 | [], _, _, h => h
 | i :: is, a, w, h => by
  unfold wpOps at h; unfold wpOpsIn; cases ho : ops[i]? with
  | none => rw [ho] at h; exact wpOps_in hlo hnd is a w h
  | some o =>
   rw [ho] at h; simp only at h ⊢
   split
   ·next hw =>
    rw [if_pos hw] at h; rcases h with h | ⟨_, h⟩
    ·refine ⟨fun _ _ => trivial, ?_⟩; rw [Oper.semAt_eq _ _ _ (nodB_ne (hnd i o ho))]; exact upon_in (Oper.wp_mono (fun a w => wpOps_in hlo hnd is a w) h)
    ·exact absurd h hlo
   ·next hw =>
    rw [if_neg hw] at h; exact ⟨fun _ _ => trivial, wpOps_in hlo hnd is _ w h⟩
theorem sqI [DSc] (h : Ge S0 w0 n K E (x.wpIn (Gi l) k P (Exit.then (y.wpIn (Gi l) k P Q) Q))) : Ge S0 w0 n K E ((Code.seq x y).wpIn (Gi l) k P Q) := fun a w S hK hE => wpIn_seq (h a w S hK hE)
theorem bkI [DSc] (h : Ge S0 w0 n K E (c.wpIn (Gi l) k P (Exit.inBlock id Q))) : Ge S0 w0 n K E ((Code.block id c).wpIn (Gi l) k P Q) := fun a w S hK hE => wpIn_block (h a w S hK hE)
theorem kSI [DSc] (h : Ge S0 w0 n K E (Q .normal)) : Ge S0 w0 n K E (Code.skip.wpIn (Gi l) k P Q) := fun a w S hK hE => wpIn_skip (h a w S hK hE)
theorem nodL (hnd : L.all nodB = true) : ∀ (i : Nat) (o : Oper), L.toArray[i]? = some o → nodB o = true := fun i o h => List.all_eq_true.1 hnd o (List.mem_of_getElem? (by simpa using h))
theorem rgI [DSc] (h : Ge S0 w0 n K E (wpList P L.toArray Q L)) (hlo : ¬ LetsOut Q) (hnd : L.all nodB = true := by kernel_rfl) : Ge S0 w0 n K E ((Code.region id L.toArray false).wpIn (Gi l) k P Q) := fun a w S hK hE => by
 refine wpIn_region (wpOps_in hlo (nodL hnd) _ _ _ ?_); have h1 := h a w S hK hE; rw [List.range_eq_range', show L.toArray.size = L.length by simp, wpOps_eq_wpList L 0 (by simp)]; exact h1
theorem hbI [DSc] (il : List Nat) (h : Ge S0 w0 n K E (wH P L.toArray Q S0 w0 (se E il) [])) (hlo : ¬ LetsOut Q) (hm : P.follows .mixedOrders = true := by kernel_rfl) (hnd : L.all nodB = true := by kernel_rfl) : Ge S0 w0 n K E ((Code.region id L.toArray true).wpIn (Gi l) k P Q) := fun a w S hK hE => by
 refine wpIn_region_draw fun t => ?_
 simp only [Region.schedule, hm, Bool.true_or, if_true]; have h2 : Ez S0 w0 w.drew S E := Es.drew hE; exact wpOps_in hlo (nodL hnd) _ _ _ (wpAny_sound L.toArray.size t _ a _ (wpAny_of_held _ _ _ _ (h a _ S hK h2)))
theorem cfI [DSc] {t : Operand} (h : Ge S0 w0 n K E (y.wpIn (Gi l) k P Q)) (hc : ∀ J, rho K J t = .bool false := by intro J; kernel_rfl) : Ge S0 w0 n K E ((Code.cond t x y).wpIn (Gi l) k P Q) := fun a w S hK hE => wpIn_cond_false (by rw [hK.eval]; exact hc _) (h a w S hK hE)
theorem Ez.obj (h : Ez S0 w0 w S E) (o : Obj) : Ez S0 w0 (w.alloc o) S (.ob w.heap.size o :: E) := by
 have hb : Below w.heap.size w (w.alloc o) := (Below.refl _ _).alloc (Nat.le_refl _) _; have h' := Es.same h hb; refine ⟨h'.b, h'.e, h'.lt, fun y hy => ?_, List.pairwise_cons.2 ⟨fun y hy g hg hg' => ?_, Es.p h⟩⟩
 ·rcases List.mem_cons.1 hy with rfl | hy
  ·exact ⟨(Es.b h).size, fun hs => Nat.lt_irrefl _ (Es.lt h _ hs), World.alloc_heap_new w o⟩
  ·exact h'.k y hy
 ·have hg : w.heap.size = g := by simpa [Iz.ik, Ik.at] using hg
  subst hg; have := ((Es.k h y hy).lt hg').2; omega
theorem Ez.putOb {g : Nat} {ob ob' : Obj} (h : Ez S0 w0 w S E) (i : Nat) (hi : E[i]? = some (.ob g ob)) : Ez S0 w0 (w.putObj g ob') S (E.set i (.ob g ob')) := by
 have hi' := Ez.at h hi
 have hok := Es.k h _ (List.mem_of_getElem? hi'); have hlt := (Array.getElem?_eq_some_iff.1 hok.2.2).1; have h1 := Es.put (w' := w.putObj g ob') (y := .ob g ob') h i hi' ((Es.b h).grown (grownBy_putObj' w g ob') (Es.b h).size (fun k e => by cases e; exact hok.1)) (fun _ h => h) (fun _ h => .inl h) (by simp) ⟨hok.1, hok.2.1, World.putObj_heap_same hlt⟩ (fun _ h => .inl h) (fun k _ hne => World.putObj_heap_other (fun e => hne (by simp [Iz.ik, Ik.at, e])))
 show Es S0 w0 _ S ((E.set i (.ob g ob')).map Iz.ik)
 rw [List.map_set]; exact h1
end
end Go.Proofs.Ytlfkgbideknkhaa
namespace Go.Proofs.Ytlfkgbideknkhaa
open Go.RowKit Go.Maps Go.Shelf
theorem post_M {F : Fence} {n : Nat} {P : Program} {fn : Func} {R : Ending → World → Prop} {a : Act} {w : World} (h : bodyPost P fn R .ret a w) : bodyPostM F n P fn R .ret a w := by
 obtain ⟨hd, v, hr, hR⟩ := h
 show LeavesInM F n P fn a.tmps R a.defers .returning w
 rw [hd]
 show LeavesIn F n P fn a.tmps R [] .returning w
 unfold LeavesIn
 first | exact .inl ⟨_, _, rfl, hr, hR⟩ | exact ⟨_, hr, hR⟩ | exact .inl ⟨v, hr, hR⟩ | trace_state
theorem fiM {P : Program} {f : FuncId} {fn : Func} {c : Code} {args : List Value} {n' : Nat} {R : Ending → World → Prop} {w : World} (hf : P.funcs[f]? = some fn) (hb : fn.body = some c) (hn : fn.ntmps = n') (hs : Nat.ble args.length n' = true)
  (h : ∀ a, Kn n' (argK args 0) a → c.wp P (bodyPostM Fence.wide 40 P fn R) a w) : Calls P f args.toArray w R := by
 refine (callsIn_wide (n := 40)).1 ?_; refine callsIn_of_wp_marks hf hb trivial ?_ rfl; refine wpIn_wide.2 ?_; refine h _ ⟨rfl, ?_, fun i v hv => ?_⟩
 ·have : args.length ≤ n' := Nat.le_of_ble_eq_true hs
  simp [hn]; omega
 ·obtain ⟨_, h2⟩ := argK_look args 0 i v hv; have hi : i < args.length := by
   have := (List.getElem?_eq_some_iff.1 h2).1; omega
  have : (args.toArray ++ Array.replicate (fn.ntmps - args.toArray.size) undef)[i]? = args[i]? := by
   rw [Array.getElem?_append_left (by simpa using hi)]; simp
  rw [this]
  simpa using h2
section
variable {S0 S : Nat → Prop} {w0 w w' : World} {n : Nat} {K : List (Nat × Value)} {E : List Iz} {P : Program}
theorem goM {F : Fence} {k : Nat} {fn : Func} {R : Ending → World → Prop} (h : Ge S0 w0 n K E (bodyPost P fn R .ret)) : Ge S0 w0 n K E (bodyPostM F k P fn R .ret) := fun a w S hK hE => post_M (h a w S hK hE)
theorem finM {f : FuncId} {fn : Func} {c : Code} {args : List Value} {Hs : List Pr} {β : Type} {q : β → Prop} {vf : β → Value} {ok : β → List Pr} (hf : P.funcs[f]? = some fn) (hb : fn.body = some c) (hn : fn.ntmps = n) (m : Mvs Hs)
  (h : ∀ S0 w0, Tb w0 → Ge S0 w0 n (argK args 0) (Hs.map .dat) (c.wp P (bodyPostM Fence.wide 40 P fn fun e w' => ∃ x, q x ∧ e = .returned (vf x) ∧ Below w0.heap.size w0 w' ∧ AllH (ext S0 w0 w') w' (ok x)))) (hs : Nat.ble args.length n = true := by kernel_rfl) : Cn P f args Hs q vf ok :=
 fun S0 w0 hS hT hH => fiM hf hb hn hs fun a hK => h S0 w0 hT a w0 S0 hK (hH.ez hS m)
end
def offG (F : Nat) : List KTx → Int → Option Int
 | [], off => some off
 | t :: ts, off => Option.bind (G_journal_ints F t) fun is => Option.bind (G_codec_Frame F is) (un2 fun bs e => ifB (e == 0) (offG F ts (IntKind.i64.wrap (off + ((bs.length : Nat) : Int)))) none)
theorem offG_step {F : Nat} {t : KTx} {r : List KTx} : ∀ {pre : List KTx} {o0 o off : Int}, offG F (pre ++ t :: r) o0 = some off → offG F pre o0 = some o → ∃ is bs, G_journal_ints F t = some is ∧ G_codec_Frame F is = some (bs, 0) ∧ offG F (pre ++ [t]) o0 = some (IntKind.i64.wrap (o + ((bs.length : Nat) : Int)))
 | [], o0, o, off, h, h0 => by
  obtain rfl := oi h0; have h' := h; rw [List.nil_append] at h'; unfold offG at h'; obtain ⟨is, h1, h'⟩ := bs h'; obtain ⟨b, e, h2, h'⟩ := b2 h'; rcases ic h' with ⟨h3, h'⟩ | ⟨h3, h'⟩
  ·obtain rfl : e = 0 := by simpa using h3
   refine ⟨is, b, h1, h2, ?_⟩; rw [List.nil_append, offG, h1, Option.bind_some, h2]; rfl
  ·cases h'
 | x :: pre, o0, o, off, h, h0 => by
  rw [List.cons_append, offG] at h; rw [offG] at h0; obtain ⟨is, h1, h'⟩ := bs h; obtain ⟨b, e, h2, h'⟩ := b2 h'; rw [h1, Option.bind_some, h2] at h0; rcases ic h' with ⟨h3, h'⟩ | ⟨h3, h'⟩
  ·obtain rfl : e = 0 := by simpa using h3
   obtain ⟨is2, bs2, k1, k2, k3⟩ := offG_step h' h0; refine ⟨is2, bs2, k1, k2, ?_⟩; rw [List.cons_append, offG, h1, Option.bind_some, h2]; exact k3
  ·cases h'
def G_journal_Load (F : Nat) (b : List Int) : Option (List KTx × Int × Int) :=
 Option.bind (G_codec_Frames F b) (un3 fun fr _ e => ifB (!(e == 0)) (some (([] : List KTx), 0, e))
  (ifB (decide (fr.length ≤ 1000000)) (Option.bind (recG F fr 0) fun ts => Option.bind (offG F ts 0) fun off => some (ts, off, 0)) none))
set_option maxRecDepth 100000 in
set_option maxHeartbeats 8000000 in
theorem z_journal_Load (F : Nat) (A : Option Addr) (c : Nat) (b : List Int) (r : List KTx × Int × Int) (hG : G_journal_Load F b = some r) :
  Cn Try.prog 14 [.slice A b.length c] [RowC A c c_u8 tr b] (fun q : KSapi_TxL => r.1 = q.l.map KTxL.p) (fun q => .tuple #[.slice q.A q.l.length q.c, I r.2.1, I r.2.2]) (fun q => [RowC q.A q.c KTxL.cells KTxL.ok q.l]) := by
 unfold G_journal_Load at hG; refine finM Try.func14 rfl rfl (mr tr_mv m0) fun S0 w0 hT => ?_
 refine sq (rg (l1 (nw 2 vp [.slice none 0 0] 30 fun g2 => l1 (nw 3 vp [I 0] 3 fun g3 => l1 (nw 4 vp [I 0] 31 fun g4 => nl (tN (sq ?_))))))); obtain ⟨fr0, n, e, hfr, hG⟩ := b3 hG; refine rg (rn 1 [] f0 [(14, .slice A b.length c)] (l1 (cn 15 (z_codec_Frames F A c b _ hfr) hT (fun _ => (mr KSintL.mv m0)) ⟨gi 3, trivial⟩ ?_))); rintro ⟨fA, fc', fr⟩ hq; obtain rfl : fr.map KSintL.p = fr0 := hq.symm; refine ra [] f0 [(5, .slice fA fr.length fc'), (6, I n), (7, I e)] (tN (sq (sq (rg (ra [] f0 [(20, B (!(e == 0)))] (tN ?_)))))); rcases ic hG with ⟨he0, hG1⟩ | ⟨he0, hG1⟩
 ·refine sb 20 (bt he0) (ct (sq (rg ?_))); refine rn 1 [] f0 [(21, I e)] (l1 (sr 3 g2 [(0, .slice none 0 0)] (l1 (sr 2 g3 [(0, I 0)] (l1 (sr 1 g4 [(0, I e)] (nl (tN (kR (tR (goM ?_))))))))))); obtain rfl := oi hG1; exact rtn [(3, 0, 1), (2, 0, 1), (1, 0, 1)] ⟨none, 0, ([] : List KTxL)⟩ rfl ⟨gn, trivial⟩
 ·obtain rfl : e = 0 := by simpa using he0
  rcases ic hG1 with ⟨h2, hG2⟩ | ⟨_, hG2⟩
  ·have hfl : fr.length ≤ 1000000 := by simpa using h2
   obtain ⟨ts, hts, hG3⟩ := bs hG2; obtain ⟨off, hoff, hG4⟩ := bs hG3; obtain rfl := oi hG4; refine sb 20 (bf he0) (cf (kS (tN (sq ?_)))); refine rg (l1 (nw 8 vp [.slice none 0 0] 30 fun g8 => nl (tN (sq ?_)))); refine rg (l1 (nw 9 vp [I 0] 3 fun g9 => l1 (sr 0 g9 [(0, I 0)] (nl (tN (sq ?_)))))); refine sq (rg (rn 1 [] f0 [(22, .slice fA fr.length fc')] (l1 ?_))); refine ci 23 (fun E e w => ∃ gB S, e = .returned (.func (.func 65) #[] #[Pt gB 0]) ∧ Ez S0 w0 w S (.blk gB 71 [.slice fA fr.length fc'] :: E)) Try.func33 rfl rfl (args := [.slice fA fr.length fc']) ?_ ?_
   ·refine sq (rg (l1 (nw 1 vp [.slice fA fr.length fc'] 71 fun gB => ra [] f0 [] (tN (sq (rg (ra [] f0 [(2, .func (.func 65) #[] #[Pt gB 0])] (tN (kR (ri [] (.func (.func 65) #[] #[Pt gB 0]) ?_)))))))))); exact fun a w S k e => ⟨gB, S, rfl, e⟩
   ·rintro e w ⟨gB, S, rfl, hE⟩; refine ⟨_, rfl, S, _, _, rfl, hE, ?_⟩; clear hE; refine nl (tN (bk ?_)); intro a w S hK hE; refine (wpIn_wide (n := 40)).1 ?_; refine range_once rfl (by omega) (gf := 65) (lb := #[Pt gB 0]) (by rw [hK.eval]; kernel_rfl) trivial (enters_of Try.func65 (by kernel_rfl) rfl) ?_; intro fn r hfn hr; have hE2 := Ez.obj (Ez.obj hE (.deferred (some []))) (.loop r); rw [World.size_alloc] at hE2; obtain ⟨D, hD⟩ : ∃ D, D = w.heap.size := ⟨_, rfl⟩; rw [← hD] at hE2 ⊢; generalize ((w.alloc (.deferred (some []))).alloc (.loop r)) = V at hE2 ⊢
    change Ez S0 w0 V S (.ob (D + 1) (.loop r) :: .ob D (.deferred (some [])) :: .blk gB 71 [.slice fA fr.length fc'] :: .blk g9 3 [I 0] :: .blk g8 30 [.slice none 0 0] :: .dat (RowC fA fc' KSintL.cells KSintL.ok fr) :: .blk g4 31 [I 0] :: .blk g3 3 [I 0] :: .blk g2 30 [.slice none 0 0] :: [.dat (RowC A c c_u8 tr b)]) at hE2
    obtain ⟨JE, hJE⟩ : ∃ JE : List KTx → List Iz → Prop, ∀ pre E', JE pre E' ↔ ∃ (A' : Option Addr) (c' : Nat) (q : List KTxL) (o : Int), q.map KTxL.p = pre ∧ offG F pre 0 = some o ∧ E' = [.blk g8 30 [.slice A' q.length c'], .own 26 4 (.slice A' q.length c') q.length (q.flatMap KTxL.cells), .dat (Each KTxL.ok q), .blk g9 3 [I o], .ob (D + 1) (.loop r), .ob D (.deferred (some [])), .blk g4 31 [I 0], .blk g3 3 [I 0], .blk g2 30 [.slice none 0 0], .dat (RowC A c c_u8 tr b)] := ⟨_, fun _ _ => Iff.rfl⟩; have hJ0 := (hJE [] _).2 ⟨none, 0, [], 0, rfl, rfl, rfl⟩; have hE3 : Ez S0 w0 V S (.blk gB 71 [.slice fA fr.length fc'] :: .dat (RowC fA fc' KSintL.cells KSintL.ok fr) :: [.blk g8 30 [.slice none 0 0], .own 26 4 (.slice none 0 0) 0 [], .dat (Each KTxL.ok []), .blk g9 3 [I 0], .ob (D + 1) (.loop r), .ob D (.deferred (some [])), .blk g4 31 [I 0], .blk g3 3 [I 0], .blk g2 30 [.slice none 0 0], .dat (RowC A c c_u8 tr b)]) := by
     have h4 := Es.dat (Es.own0 hE2 26 4) (p := Each KTxL.ok []) (fun S' W _ _ y hy => absurd hy List.not_mem_nil)
     change Ez S0 w0 V S (.dat (Each KTxL.ok []) :: .own 26 4 (.slice none 0 0) 0 [] :: .ob (D + 1) (.loop r) :: .ob D (.deferred (some [])) :: .blk gB 71 [.slice fA fr.length fc'] :: .blk g9 3 [I 0] :: .blk g8 30 [.slice none 0 0] :: .dat (RowC fA fc' KSintL.cells KSintL.ok fr) :: .blk g4 31 [I 0] :: .blk g3 3 [I 0] :: .blk g2 30 [.slice none 0 0] :: [.dat (RowC A c c_u8 tr b)]) at h4
     exact h4.sel [4, 7, 6, 1, 0, 5, 2, 3, 8, 9, 10, 11]
    refine ((callsIn_wide (n := 40 - 1)).2 (records1_c F S0 w0 V S _ JE 1000001 hT (D + 1) gB fA fc' fr ts hts (by omega) (by omega) hJ0 hE3 ?_)).mono ?_
    ·-- a round
     intro pre t Ex E' V1 S1 hj hlen hpre hE4; obtain ⟨A', c', q, o, hq2, hof, rfl⟩ := (hJE _ _).1 hj; have hE5 := Ez.prm hE4 (List.perm_append_comm (l₁ := Iz.dat (KTxL.ok t) :: Ex)); clear hE4; have o1 : V1.heap[D + 1]? = some (.loop r) := (Es.k hE5 _ (List.mem_of_getElem? (Ez.at hE5 (i := 4) rfl))).2.2; have hy := run_yield (P := Try.prog) (args := #[.agg #[I t.ID, I t.Ts, .slice t.Reads_A t.Reads.length t.Reads_c, .slice t.Writes_A t.Writes.length t.Writes_c]]) o1 (by rw [hr]; rfl); rw [show r.fn = fn by rw [hr], show r.tmps = a.tmps by rw [hr], show r.params = #[24] by rw [hr], show r.assign = _ by rw [hr], show r.body = _ by rw [hr]] at hy; refine ⟨fn, (a.put (some 24) (.agg #[I t.ID, I t.Ts, .slice t.Reads_A t.Reads.length t.Reads_c, .slice t.Writes_A t.Writes.length t.Writes_c])).tmps, _, _, hy.trans (congrArg (fun x => Result.ok (Next.round (D + 1) fn x _ _) V1) (by simp [Act.put])), roundIn_of_wpIn hfn ?_⟩; have hKp := hK.put (d := 24) rfl (.agg #[I t.ID, I t.Ts, .slice t.Reads_A t.Reads.length t.Reads_c, .slice t.Writes_A t.Writes.length t.Writes_c]); refine (?_ : @Ge DS0 S0 w0 44 [(24, .agg #[I t.ID, I t.Ts, .slice t.Reads_A t.Reads.length t.Reads_c, .slice t.Writes_A t.Writes.length t.Writes_c]), (2, Pt g2 0), (3, Pt g3 0), (4, Pt g4 0), (8, Pt g8 0), (9, Pt g9 0)] _ _) _ V1 S1 (@Kn.mk DS0 44 _ _ rfl hKp.s (Kn.wk (K' := [(24, .agg #[I t.ID, I t.Ts, .slice t.Reads_A t.Reads.length t.Reads_c, .slice t.Writes_A t.Writes.length t.Writes_c]), (2, Pt g2 0), (3, Pt g3 0), (4, Pt g4 0), (8, Pt g8 0), (9, Pt g9 0)]) hKp).k) hE5; refine rgI (l1 (nw 10 vp [I 0, I 0, .slice none 0 0, .slice none 0 0] 26 fun g10 => l1 (sr 0 g10 (ns 0 [I t.ID, I t.Ts, .slice t.Reads_A t.Reads.length t.Reads_c, .slice t.Writes_A t.Writes.length t.Writes_c]) (nl (tN ?_))))) (fun ⟨_, _, h⟩ => h); intro a1 w1 S2 k1 e1; have o2 : w1.heap[D + 1]? = some (.loop r) := (Es.k e1 _ (List.mem_of_getElem? (Ez.at e1 (i := 5) rfl))).2.2; refine ⟨_, run_beginRound o2 (by rw [hr]), ?_⟩; have e2 := Ez.putOb (ob' := .loop { r with state := .busy }) e1 5 rfl; refine (?_ : @Ge DS0 S0 w0 44 _ _ _) a1 _ S2 k1 e2; clear k1 e1 e2 o2 hE5; obtain ⟨r', hpre⟩ := hpre; rw [← hpre] at hoff; obtain ⟨is, bs', hi1, hf1, ho2⟩ := offG_step hoff hof; refine bkI (sqI ?_); refine rgI (rn 1 [(0, 4, 0, 0)] f0 [(26, .agg #[I t.ID, I t.Ts, .slice t.Reads_A t.Reads.length t.Reads_c, .slice t.Writes_A t.Writes.length t.Writes_c])] (l1 (cgn 27 (z_journal_ints F t is hi1) hT (fun _ => (mr tr_mv m0)) ⟨ga 11, trivial⟩ ?_))) (fun ⟨_, _, h⟩ => h); rintro ⟨iA, ic', il⟩ hqi; obtain rfl : il = is := hqi.symm; refine l1 (cgn 28 (z_codec_Frame F iA ic' il _ hf1) hT (fun _ => (mr tr_mv m0)) ⟨ga 1, trivial⟩ ?_); rintro ⟨uA, bc, bl⟩ hqb; obtain rfl : bl = bs' := hqb.symm; refine ra [] f0 [(11, .slice uA bl.length bc), (12, I 0)] (tN (sqI (sqI ?_))); refine rgI (ra [] f0 [(32, B false)] (tN (cfI (kSI (tN ?_))))) (fun ⟨_, _, h⟩ => h); have hyv : apG 64 (q.map KTxL.p) (([t] : List KTxL).map KTxL.p) = some (pre ++ [t.p]) := by
      rw [hq2]; exact if_pos (by simp only [List.length_map, List.length_cons, List.length_nil]; omega)
     have hlast : ∀ (K : List (Nat × Value)) (g36 : Nat) (v : List KTxL) (A2 : Option Addr) (c2 : Nat), v.map KTxL.p = pre ++ [t.p] → @Ge DS0 S0 w0 44 K (.dat (Each KTxL.ok v) :: .blk g36 26 [I t.ID, I t.Ts, .slice t.Reads_A t.Reads.length t.Reads_c, .slice t.Writes_A t.Writes.length t.Writes_c] :: .dat (Nw w0.heap.size (RowC uA bc c_u8 tr bl)) :: .dat (RowC uA bc c_u8 tr bl) :: .dat (Nw w0.heap.size (RowC iA ic' c_i64 tr il)) :: .dat (RowC iA ic' c_i64 tr il) :: .blk g10 26 [I t.ID, I t.Ts, .slice t.Reads_A t.Reads.length t.Reads_c, .slice t.Writes_A t.Writes.length t.Writes_c] :: .blk g8 30 [.slice A2 v.length c2] :: .own 26 4 (.slice A2 v.length c2) v.length (v.flatMap KTxL.cells) :: .dat (Each KTxL.ok q) :: .blk g9 3 [I (IntKind.i64.wrap (o + ((bl.length : Nat) : Int)))] :: .ob (D + 1) (.loop { r with state := .busy }) :: .ob D (.deferred (some [])) :: .blk g4 31 [I 0] :: .blk g3 3 [I 0] :: .blk g2 30 [.slice none 0 0] :: .dat (RowC A c c_u8 tr b) :: .dat (KTxL.ok t) :: Ex) (roundPost Try.prog (D + 1) (fun e w' => e = .returned (.bool true) ∧ ∃ S E'', JE (pre ++ [t.p]) E'' ∧ Ez S0 w0 w' S (Ex ++ E'')) .normal) := by
      intro K g36 v A2 c2 hv a5 w5 S5 k5 e5; have o5 : w5.heap[D + 1]? = some (.loop { r with state := .busy }) := (Es.k e5 _ (List.mem_of_getElem? (Ez.at e5 (i := 11) rfl))).2.2; have hre : ({ ({ r with state := .busy } : Loop) with state := .ready, pending := none } : Loop) = r := by rw [hr]
      have hend := run_endRound (P := Try.prog) none o5; rw [show (Option.isNone (none : Option Code)) = true from rfl, if_pos rfl, hre] at hend; have e6 := Ez.putOb (ob' := .loop r) e5 11 rfl; refine ⟨_, _, hend, rfl, S5, _, (hJE _ _).2 ⟨A2, c2, v, _, hv, ho2, rfl⟩, ?_⟩; refine Ez.prm (E := [.blk g8 30 [.slice A2 v.length c2], .own 26 4 (.slice A2 v.length c2) v.length (v.flatMap KTxL.cells), .dat (Each KTxL.ok v), .blk g9 3 [I (IntKind.i64.wrap (o + ((bl.length : Nat) : Int)))], .ob (D + 1) (.loop r), .ob D (.deferred (some [])), .blk g4 31 [I 0], .blk g3 3 [I 0], .blk g2 30 [.slice none 0 0], .dat (RowC A c c_u8 tr b)] ++ Ex) ?_ List.perm_append_comm; refine Ez.prm (E := .dat (Each KTxL.ok v) :: .blk g8 30 [.slice A2 v.length c2] :: .own 26 4 (.slice A2 v.length c2) v.length (v.flatMap KTxL.cells) :: _) ?_ ((List.Perm.swap _ _ _).trans (.cons _ (.swap _ _ _))); exact Ez.sub' e6 (.cons_cons _ (.cons _ (.cons _ (.cons _ (.cons _ (.cons _ (.cons _ (.cons_cons _ (.cons_cons _ (.cons _ (.cons_cons _ (.cons_cons _ (.cons_cons _ (.cons_cons _ (.cons_cons _ (.cons_cons _ (.cons_cons _ (.cons _ (.refl _)))))))))))))))))))
     refine hbI [4] (ht [4] [1, 5, 6] [(0, 4, 0, 0)] f0 [(35, .agg #[I t.ID, I t.Ts, .slice t.Reads_A t.Reads.length t.Reads_c, .slice t.Writes_A t.Writes.length t.Writes_c]), (40, I ((bl.length : Nat) : Int))] (ho [0, 2, 4] ⟨h1 (po 34 (.slice A' q.length c') [(0, 1, 5, 0)] f0 (hk [4] (ho [2, 4] ⟨h1 (nw 36 (vs 1) [I t.ID, I t.Ts, .slice t.Reads_A t.Reads.length t.Reads_c, .slice t.Writes_A t.Writes.length t.Writes_c] 26 fun g36 => hk [5] (ho [3, 4] ⟨h1 (apn (p := KTxL.p) (ok := KTxL.ok) 7 37 A' c' q ([t] : List KTxL) inf30 (bA (f := KTxL.cells) (ok := tr) (l := ([t] : List KTxL)) g36 0 et.a) (gd' (Each KTxL.ok q) 8) (ec (gi 16) e0) hyv KTxL.one fun v A2 c2 hv _ => hk [6] (ho [4, 8] ⟨h1 (po 38 (I o) [(0, 1, 10, 0)] f0 (hk [6] (ht [6] [7] [] f0 [(41, I (IntKind.i64.wrap (o + ((bl.length : Nat) : Int))))] (ho [8] ⟨h1 (sr 7 g8 [(0, .slice A2 v.length c2)] (hk [6] (ho [9] ⟨h1 (sr 10 g9 [(0, I (IntKind.i64.wrap (o + ((bl.length : Nat) : Int))))] (hk [6] (he (hN (hlast _ _ _ _ _ hv))))), trivial⟩))), trivial⟩)))), h1 (sr 7 g8 [(0, .slice A2 v.length c2)] (hk [6] (ho [4] ⟨h1 (po 38 (I o) [(0, 1, 10, 0)] f0 (hk [6] (ht [6] [7] [] f0 [(41, I (IntKind.i64.wrap (o + ((bl.length : Nat) : Int))))] (ho [9] ⟨h1 (sr 10 g9 [(0, I (IntKind.i64.wrap (o + ((bl.length : Nat) : Int))))] (hk [6] (he (hN (hlast _ _ _ _ _ hv))))), trivial⟩)))), trivial⟩))), trivial⟩)), h1 (po 38 (I o) [(0, 1, 9, 0)] f0 (hk [5] (ht [5] [7] [] f0 [(41, I (IntKind.i64.wrap (o + ((bl.length : Nat) : Int))))] (ho [3] ⟨h1 (apn (p := KTxL.p) (ok := KTxL.ok) 7 37 A' c' q ([t] : List KTxL) inf30 (bA (f := KTxL.cells) (ok := tr) (l := ([t] : List KTxL)) g36 0 et.a) (gd' (Each KTxL.ok q) 8) (ec (gi 16) e0) hyv KTxL.one fun v A2 c2 hv _ => hk [6] (ho [8] ⟨h1 (sr 7 g8 [(0, .slice A2 v.length c2)] (hk [6] (ho [9] ⟨h1 (sr 10 g9 [(0, I (IntKind.i64.wrap (o + ((bl.length : Nat) : Int))))] (hk [6] (he (hN (hlast _ _ _ _ _ hv))))), trivial⟩))), trivial⟩)), trivial⟩)))), trivial⟩)), h1 (po 38 (I o) [(0, 1, 8, 0)] f0 (hk [4] (ht [4] [7] [] f0 [(41, I (IntKind.i64.wrap (o + ((bl.length : Nat) : Int))))] (ho [2] ⟨h1 (nw 36 (vs 1) [I t.ID, I t.Ts, .slice t.Reads_A t.Reads.length t.Reads_c, .slice t.Writes_A t.Writes.length t.Writes_c] 26 fun g36 => hk [5] (ho [3] ⟨h1 (apn (p := KTxL.p) (ok := KTxL.ok) 7 37 A' c' q ([t] : List KTxL) inf30 (bA (f := KTxL.cells) (ok := tr) (l := ([t] : List KTxL)) g36 0 et.a) (gd' (Each KTxL.ok q) 8) (ec (gi 16) e0) hyv KTxL.one fun v A2 c2 hv _ => hk [6] (ho [8] ⟨h1 (sr 7 g8 [(0, .slice A2 v.length c2)] (hk [6] (ho [9] ⟨h1 (sr 10 g9 [(0, I (IntKind.i64.wrap (o + ((bl.length : Nat) : Int))))] (hk [6] (he (hN (hlast _ _ _ _ _ hv))))), trivial⟩))), trivial⟩)), trivial⟩)), trivial⟩)))), trivial⟩))), h1 (nw 36 (vs 1) [I t.ID, I t.Ts, .slice t.Reads_A t.Reads.length t.Reads_c, .slice t.Writes_A t.Writes.length t.Writes_c] 26 fun g36 => hk [5] (ho [0, 4] ⟨h1 (po 34 (.slice A' q.length c') [(0, 1, 6, 0)] f0 (hk [5] (ho [3, 4] ⟨h1 (apn (p := KTxL.p) (ok := KTxL.ok) 7 37 A' c' q ([t] : List KTxL) inf30 (bA (f := KTxL.cells) (ok := tr) (l := ([t] : List KTxL)) g36 0 et.a) (gd' (Each KTxL.ok q) 8) (ec (gi 16) e0) hyv KTxL.one fun v A2 c2 hv _ => hk [6] (ho [4, 8] ⟨h1 (po 38 (I o) [(0, 1, 10, 0)] f0 (hk [6] (ht [6] [7] [] f0 [(41, I (IntKind.i64.wrap (o + ((bl.length : Nat) : Int))))] (ho [8] ⟨h1 (sr 7 g8 [(0, .slice A2 v.length c2)] (hk [6] (ho [9] ⟨h1 (sr 10 g9 [(0, I (IntKind.i64.wrap (o + ((bl.length : Nat) : Int))))] (hk [6] (he (hN (hlast _ _ _ _ _ hv))))), trivial⟩))), trivial⟩)))), h1 (sr 7 g8 [(0, .slice A2 v.length c2)] (hk [6] (ho [4] ⟨h1 (po 38 (I o) [(0, 1, 10, 0)] f0 (hk [6] (ht [6] [7] [] f0 [(41, I (IntKind.i64.wrap (o + ((bl.length : Nat) : Int))))] (ho [9] ⟨h1 (sr 10 g9 [(0, I (IntKind.i64.wrap (o + ((bl.length : Nat) : Int))))] (hk [6] (he (hN (hlast _ _ _ _ _ hv))))), trivial⟩)))), trivial⟩))), trivial⟩)), h1 (po 38 (I o) [(0, 1, 9, 0)] f0 (hk [5] (ht [5] [7] [] f0 [(41, I (IntKind.i64.wrap (o + ((bl.length : Nat) : Int))))] (ho [3] ⟨h1 (apn (p := KTxL.p) (ok := KTxL.ok) 7 37 A' c' q ([t] : List KTxL) inf30 (bA (f := KTxL.cells) (ok := tr) (l := ([t] : List KTxL)) g36 0 et.a) (gd' (Each KTxL.ok q) 8) (ec (gi 16) e0) hyv KTxL.one fun v A2 c2 hv _ => hk [6] (ho [8] ⟨h1 (sr 7 g8 [(0, .slice A2 v.length c2)] (hk [6] (ho [9] ⟨h1 (sr 10 g9 [(0, I (IntKind.i64.wrap (o + ((bl.length : Nat) : Int))))] (hk [6] (he (hN (hlast _ _ _ _ _ hv))))), trivial⟩))), trivial⟩)), trivial⟩)))), trivial⟩))), h1 (po 38 (I o) [(0, 1, 9, 0)] f0 (hk [5] (ht [5] [7] [] f0 [(41, I (IntKind.i64.wrap (o + ((bl.length : Nat) : Int))))] (ho [0] ⟨h1 (po 34 (.slice A' q.length c') [(0, 1, 6, 0)] f0 (hk [5] (ho [3] ⟨h1 (apn (p := KTxL.p) (ok := KTxL.ok) 7 37 A' c' q ([t] : List KTxL) inf30 (bA (f := KTxL.cells) (ok := tr) (l := ([t] : List KTxL)) g36 0 et.a) (gd' (Each KTxL.ok q) 8) (ec (gi 16) e0) hyv KTxL.one fun v A2 c2 hv _ => hk [6] (ho [8] ⟨h1 (sr 7 g8 [(0, .slice A2 v.length c2)] (hk [6] (ho [9] ⟨h1 (sr 10 g9 [(0, I (IntKind.i64.wrap (o + ((bl.length : Nat) : Int))))] (hk [6] (he (hN (hlast _ _ _ _ _ hv))))), trivial⟩))), trivial⟩)), trivial⟩))), trivial⟩)))), trivial⟩)), h1 (po 38 (I o) [(0, 1, 8, 0)] f0 (hk [4] (ht [4] [7] [] f0 [(41, I (IntKind.i64.wrap (o + ((bl.length : Nat) : Int))))] (ho [0, 2] ⟨h1 (po 34 (.slice A' q.length c') [(0, 1, 5, 0)] f0 (hk [4] (ho [2] ⟨h1 (nw 36 (vs 1) [I t.ID, I t.Ts, .slice t.Reads_A t.Reads.length t.Reads_c, .slice t.Writes_A t.Writes.length t.Writes_c] 26 fun g36 => hk [5] (ho [3] ⟨h1 (apn (p := KTxL.p) (ok := KTxL.ok) 7 37 A' c' q ([t] : List KTxL) inf30 (bA (f := KTxL.cells) (ok := tr) (l := ([t] : List KTxL)) g36 0 et.a) (gd' (Each KTxL.ok q) 8) (ec (gi 16) e0) hyv KTxL.one fun v A2 c2 hv _ => hk [6] (ho [8] ⟨h1 (sr 7 g8 [(0, .slice A2 v.length c2)] (hk [6] (ho [9] ⟨h1 (sr 10 g9 [(0, I (IntKind.i64.wrap (o + ((bl.length : Nat) : Int))))] (hk [6] (he (hN (hlast _ _ _ _ _ hv))))), trivial⟩))), trivial⟩)), trivial⟩)), trivial⟩))), h1 (nw 36 (vs 1) [I t.ID, I t.Ts, .slice t.Reads_A t.Reads.length t.Reads_c, .slice t.Writes_A t.Writes.length t.Writes_c] 26 fun g36 => hk [5] (ho [0] ⟨h1 (po 34 (.slice A' q.length c') [(0, 1, 6, 0)] f0 (hk [5] (ho [3] ⟨h1 (apn (p := KTxL.p) (ok := KTxL.ok) 7 37 A' c' q ([t] : List KTxL) inf30 (bA (f := KTxL.cells) (ok := tr) (l := ([t] : List KTxL)) g36 0 et.a) (gd' (Each KTxL.ok q) 8) (ec (gi 16) e0) hyv KTxL.one fun v A2 c2 hv _ => hk [6] (ho [8] ⟨h1 (sr 7 g8 [(0, .slice A2 v.length c2)] (hk [6] (ho [9] ⟨h1 (sr 10 g9 [(0, I (IntKind.i64.wrap (o + ((bl.length : Nat) : Int))))] (hk [6] (he (hN (hlast _ _ _ _ _ hv))))), trivial⟩))), trivial⟩)), trivial⟩))), trivial⟩)), trivial⟩)))), trivial⟩)) (fun ⟨_, _, h⟩ => h)
    ·-- behind the range
     rintro e2 W ⟨⟨v, rfl⟩, S2, E2, hj, hE4⟩; obtain ⟨A', c', q, o, hq2, hof, rfl⟩ := (hJE _ _).1 hj; have o1 : W.heap[D + 1]? = some (.loop r) := (Es.k hE4 _ (List.mem_of_getElem? (Ez.at hE4 (i := 4) rfl))).2.2; have hrs : r.state ≠ .busy := by rw [hr]; simp
     have hrp : r.pending = none := by rw [hr]
     refine ⟨none, W.putObj (D + 1) (.loop { r with state := .exhausted }), (run_endLoop (P := Try.prog) o1 hrs).trans (congrArg (fun p => Result.ok p _) hrp), ?_⟩; have hE5 := Ez.putOb (ob' := .loop { r with state := .exhausted }) hE4 4 rfl; clear hE4 o1; have hoff : off = o := by
      rw [hoff] at hof; exact (oi hof)
     subst hoff
     dsimp only
     refine (?_ : @Ge ⟨[{ target := .collected D, args := #[] }]⟩ S0 w0 44 [(2, Pt g2 0), (3, Pt g3 0), (4, Pt g4 0), (8, Pt g8 0), (9, Pt g9 0)] _ _) ({ a with defers := [{ target := .collected D, args := #[] }] ++ a.defers } : Act) _ S2 (@Kn.mk ⟨[{ target := .collected D, args := #[] }]⟩ 44 _ _ (by show [_] ++ a.defers = _; rw [hK.d]; rfl) hK.s (Kn.wk (K' := [(2, Pt g2 0), (3, Pt g3 0), (4, Pt g4 0), (8, Pt g8 0), (9, Pt g9 0)]) hK).k) hE5
     letI : DSc := ⟨[{ target := .collected D, args := #[] }]⟩
     refine so (A := A') (c := c') 1 KTxL.cells KTxL.ok q KTxL.mv (gd' (Each KTxL.ok q) 2) ?_; refine hN (tN (sq ?_)); refine hb [] (ho [0, 1] ⟨h1 (po 42 (.slice A' q.length c') [(0, 1, 0, 0)] f0 (hk [] (ho [1, 2] ⟨h1 (po 43 (I off) [(0, 1, 3, 0)] f0 (hk [] (ho [2] ⟨h1 (sr 8 g2 [(0, .slice A' q.length c')] (hk [] (ho [3] ⟨h1 (sr 7 g3 [(0, I off)] (hk [] (ho [4] ⟨h1 (sr 6 g4 [(0, I 0)] (hk [] (he (tN (kR ?_))))), trivial⟩))), trivial⟩))), trivial⟩))), h1 (sr 8 g2 [(0, .slice A' q.length c')] (hk [] (ho [1] ⟨h1 (po 43 (I off) [(0, 1, 3, 0)] f0 (hk [] (ho [3] ⟨h1 (sr 7 g3 [(0, I off)] (hk [] (ho [4] ⟨h1 (sr 6 g4 [(0, I 0)] (hk [] (he (tN (kR ?_))))), trivial⟩))), trivial⟩))), trivial⟩))), trivial⟩))), h1 (po 43 (I off) [(0, 1, 3, 0)] f0 (hk [] (ho [0] ⟨h1 (po 42 (.slice A' q.length c') [(0, 1, 0, 0)] f0 (hk [] (ho [2] ⟨h1 (sr 8 g2 [(0, .slice A' q.length c')] (hk [] (ho [3] ⟨h1 (sr 7 g3 [(0, I off)] (hk [] (ho [4] ⟨h1 (sr 6 g4 [(0, I 0)] (hk [] (he (tN (kR ?_))))), trivial⟩))), trivial⟩))), trivial⟩))), trivial⟩))), trivial⟩)
     all_goals
      intro a2 w2 S3 k5 e5
      show LeavesInM Fence.wide 40 Try.prog _ a2.tmps _ a2.defers .returning w2
      rw [show a2.defers = [{ target := .collected D, args := #[] }] from k5.d]; have o5 : w2.heap[D]? = some (.deferred (some [])) := (Es.k e5 _ (List.mem_of_getElem? (Ez.at e5 (i := 5) rfl))).2.2; have e6 := Ez.putOb (ob' := .deferred none) e5 5 rfl; refine ⟨by simp, .inl ⟨D, _, rfl, run_takeDeferred o5, ?_⟩⟩; refine ⟨.tuple #[.slice A' q.length c', I off, I 0], res_run k5 e6 [(8, 0, 1), (7, 0, 1), (6, 0, 1)], ⟨A', c', q⟩, hq2.symm, rfl, Es.b e6, RowC.to KTxL.mv (Ez.get e6 (i := 1) rfl) (Es.sub e6) (Ag.refl _ _), trivial⟩
  ·cases hG2
end Go.Proofs.Ytlfkgbideknkhaa
