/-
  Texts joined: Z11, Z12, Z13, Z14, Z15, Z16, Za, Sb37, Sc37, Wa37, Wb37, Wc37, Wd37, We37, Wf37, Sd37, Se37, Sf37, Sg37, Hh37, OpA, OpR, OpZ, Sh37, Si37, Sj37.
-/
import Derived.Test.YtlfkgbideknkhaaProg
import Derived.Laws.BitsAllLaws
import Derived.Test.YtlfkgbideknkhaaRows
import Derived.ProofKit
import Derived.OpenShut
import Derived.Carry
import Derived.ChangeSame
import Derived.Deep.Slices
import Derived.Lib.SmallJoins
import Derived.Test.YtlfkgbideknkhaaJU40
import Derived.Test.YtlfkgbideknkhaaJU41
import Derived.Test.YtlfkgbideknkhaaJU42
import Derived.Test.YtlfkgbideknkhaaJU43
set_option linter.unusedSimpArgs false
set_option linter.unusedVariables false
namespace Go.Proofs.Ytlfkgbideknkhaa
open Go.RowKit Go.Maps
def G_journal_Append (F : Nat) (p_0 : List Int) (p_1 : KTx) : Option ((List Int) × Int) :=
  Option.bind (G_journal_Load F p_0) (un3 fun v_2 v_3 v_4 =>
  ifB ((v_4 == 0))
    (Option.bind (G_journal_formed F p_1) (fun v_6 =>
    ifB (v_6)
      (ifB ((v_3 == ((p_0.length : Nat) : Int)))
        (Option.bind (ifB (decide (((v_2.length : Nat) : Int) > 0))
            (Option.bind (ixI v_2 (IntKind.i64.wrap (((v_2.length : Nat) : Int) - 1))) (fun v_10 =>
            some (decide (v_10.Ts ≥ p_1.Ts))))
            (some false) : Option (Bool)) (fun (v_14 : Bool) => 
          ifB (v_14)
            (some (([] : List Int), 30))
            (Option.bind (G_journal_ints F p_1) (fun v_16 =>
            Option.bind (G_codec_Frame F v_16) (un2 fun v_17 v_18 =>
            ifB ((v_18 == 0))
              (ifB (decide ((IntKind.i64.wrap (((p_0.length : Nat) : Int) + ((v_17.length : Nat) : Int))) > 100000))
                (some (([] : List Int), 2))
                (Option.bind (G_slices_Concat_byte_byte F ([p_0, v_17] : List (List Int))) (fun v_22 =>
                some (v_22, 0))))
              (some (([] : List Int), v_18)))))))
        (some (([] : List Int), 6)))
      (some (([] : List Int), 1))))
    (some (([] : List Int), v_4)))
set_option maxRecDepth 100000 in
set_option maxHeartbeats 16000000 in
theorem z_journal_Append (F : Nat) (p_0_A : Option Addr) (p_0_c : Nat) (p_0 : List Int) (p_1 : KTxL) (r : (List Int) × Int) (hG : G_journal_Append F p_0 p_1.p = some r) :
  Cg Try.prog 11 [.slice p_0_A p_0.length p_0_c, .agg #[I p_1.ID, I p_1.Ts, .slice p_1.Reads_A p_1.Reads.length p_1.Reads_c, .slice p_1.Writes_A p_1.Writes.length p_1.Writes_c]] [RowC p_0_A p_0_c c_u8 tr p_0, KTxL.ok p_1] (fun q : KSuint8L => r.1 = q.l) (fun q => .tuple #[.slice q.A q.l.length q.c, I r.2]) (fun q => [RowC q.A q.c c_u8 tr q.l]) := by
 unfold G_journal_Append at hG
 try simp only [List.length_map, KLeaderL.n_Open] at hG
 refine fing Try.func11 rfl rfl (mr tr_mv (mc KTxL.mv m0)) fun S0 w0 hT => sq (rg (l1 (nw 3 vp [I p_1.ID, I p_1.Ts, .slice p_1.Reads_A p_1.Reads.length p_1.Reads_c, .slice p_1.Writes_A p_1.Writes.length p_1.Writes_c] 26 fun g_1 => ra [] f0 [] (tN (sq ?_)))))
 obtain ⟨v_2o, v_3, v_4, hy_2, hG⟩ := b3 hG; refine rg (rn 1 [] f0 [(11, .slice p_0_A p_0.length p_0_c)] (l1 (cn 12 (z_journal_Load F p_0_A p_0_c p_0 _ hy_2) hT (fun _ => (mr KTxL.mv m0)) ⟨gi 1, trivial⟩ ?_))); rintro ⟨v_2_A, v_2_c, v_2⟩ hq_2; obtain rfl : (v_2.map KTxL.p) = v_2o := hq_2.symm
 try simp only [List.length_map, KLeaderL.n_Open] at hG
 refine ra [] f0 (ns 6 [.slice v_2_A v_2.length v_2_c, I v_3, I v_4]) (tN (sq (bk (sq (rg (ra [] f0 [(16, B (!(v_4 == 0)))] (tN ?_))))))); rcases ic hG with ⟨h_5, hG⟩ | ⟨h_5, hG⟩
 ·refine sb 16 (nt h_5) (cf (sq ?_)); obtain ⟨v_6, hy_6, hG⟩ := bs hG; refine rg (rn 1 [(0, 4, 1, 0)] f0 [(21, .agg #[I p_1.ID, I p_1.Ts, .slice p_1.Reads_A p_1.Reads.length p_1.Reads_c, .slice p_1.Writes_A p_1.Writes.length p_1.Writes_c])] (l1 (cl 22 (z_journal_formed F p_1 _ hy_6) hT ⟨(gi 3).a, trivial⟩ (ra [] f0 [(20, B (!v_6))] (tN ?_))))); rcases ic hG with ⟨h_7, hG⟩ | ⟨h_7, hG⟩
  ·refine sb 20 (nt h_7) (cf (sq (rg (ra [] f0 [(24, B (!(v_3 == ((p_0.length : Nat) : Int))))] (tN ?_))))); rcases ic hG with ⟨h_8, hG⟩ | ⟨h_8, hG⟩
   ·try simp only [List.length_map, KLeaderL.n_Open] at h_8
    refine sb 24 (nt h_8) (cf ?_); obtain ⟨o_13, hG, hG_13⟩ := bs hG; refine jn (fun K E a w => ∃ v_14 : Bool, Js S0 w0 64 ([(29, B v_14)] ++ K) ([.dat (RowC p_1.Reads_A p_1.Reads_c KSeen.cells tr p_1.Reads), .dat (RowC p_1.Writes_A p_1.Writes_c KWrite.cells tr p_1.Writes)] ++ se E [1, 2]) (v_14 = o_13) a w) ?_ ?_
    ·rcases ic hG with ⟨h_9, hG⟩ | ⟨h_9, hG⟩
     ·obtain ⟨v_10o, hy_10, hG⟩ := bs hG; refine qb (qn 4 [] f0 [(33, B (decide (((v_2.length : Nat) : Int) > 0)))] ?_)
      try simp only [List.length_map, KLeaderL.n_Open] at h_9
      refine sb 33 (bt h_9) (fxn (p := KTxL.p) inf30 (gd' (RowC v_2_A v_2_c KTxL.cells KTxL.ok v_2) 0) hy_10 fun v_10 b_11 o_12 he_10 hi_10 => ?_); subst he_10
      try simp only [List.length_map, KLeaderL.n_Open] at hG
      exact qa [(4, 0, 0, 0), (1, 1, 0, 1), (1, 1, 3, 1)] (fc (hi_10 .i64) f0) [(29, B (decide (v_10.Ts ≥ p_1.Ts)))] (tN (fg (KTxL.ok p_1) 5 (fun _ _ h => h.f_Reads) (fg (KTxL.ok p_1) 6 (fun _ _ h => h.f_Writes) (fun _ _ S k e => ⟨decide (v_10.Ts ≥ p_1.Ts), S, k.wk, e.sel [1, 0, 5, 6], oi hG⟩))))
     ·refine qb (qn 4 [] f0 [(33, B (decide (((v_2.length : Nat) : Int) > 0)))] ?_)
      try simp only [List.length_map, KLeaderL.n_Open] at h_9
      exact sb 33 (bf h_9) (qa [] f0 [(29, B false)] (tN (fg (KTxL.ok p_1) 3 (fun _ _ h => h.f_Reads) (fg (KTxL.ok p_1) 4 (fun _ _ h => h.f_Writes) (fun _ _ S k e => ⟨false, S, k.wk, e.sel [1, 0, 3, 4], oi hG⟩)))))
    ·rintro a w ⟨v_14, hJ⟩; refine hJ.go fun ho_ => ?_
     clear hJ; subst ho_; replace hG := hG_13; rcases ic hG with ⟨h_15, hG⟩ | ⟨h_15, hG⟩
     ·refine sb 29 (bt h_15) (ct (sq (rg (ra [] f0 [(4, .slice none 0 0), (5, I 30)] (tN (kR (hR (tR ?_)))))))); obtain rfl := oi hG; exact rtg [] ⟨none, 0, ([] : List Int)⟩ rfl ⟨frN, trivial⟩
     ·refine sb 29 (bf h_15) (cf (kS (hN (tN (sq ?_))))); obtain ⟨v_16o, hy_16, hG⟩ := bs hG; replace hG := b2 hG; obtain ⟨v_17o, v_18, hy_17, hG⟩ := hG; refine rg (rn 1 [(0, 4, 2, 0)] f0 [(46, .agg #[I p_1.ID, I p_1.Ts, .slice p_1.Reads_A p_1.Reads.length p_1.Reads_c, .slice p_1.Writes_A p_1.Writes.length p_1.Writes_c])] (l1 (cgn 47 (z_journal_ints F p_1 _ hy_16) hT (fun _ => (mr tr_mv m0)) ⟨((Fd.two ((gd' (RowC p_1.Reads_A p_1.Reads_c KSeen.cells tr p_1.Reads) 0)) ((gd' (RowC p_1.Writes_A p_1.Writes_c KWrite.cells tr p_1.Writes) 1))).m fun _ _ h => ⟨h.1, h.2⟩).a, trivial⟩ ?_))); rintro ⟨v_16_A, v_16_c, v_16⟩ hq_16; obtain rfl : v_16 = v_16o := hq_16.symm
      try simp only [List.length_map, KLeaderL.n_Open] at hG
      refine l1 (cgn 48 (z_codec_Frame F v_16_A v_16_c v_16 _ hy_17) hT (fun _ => (mr tr_mv m0)) ⟨ga 1, trivial⟩ ?_); rintro ⟨v_17_A, v_17_c, v_17⟩ hq_17; obtain rfl : v_17 = v_17o := hq_17.symm
      try simp only [List.length_map, KLeaderL.n_Open] at hG
      refine ra [] f0 [(9, .slice v_17_A v_17.length v_17_c), (8, I v_18)] (tN (sq (sq (rg (ra [] f0 [(52, B (!(v_18 == 0)))] (tN ?_)))))); rcases ic hG with ⟨h_19, hG⟩ | ⟨h_19, hG⟩
      ·refine sb 52 (nt h_19) (cf (kS (tN (sq (sq (rg (ra [] f0 [(59, B (decide ((IntKind.i64.wrap (((p_0.length : Nat) : Int) + ((v_17.length : Nat) : Int))) > 100000)))] (tN ?_)))))))); rcases ic hG with ⟨h_20, hG⟩ | ⟨h_20, hG⟩
       ·try simp only [List.length_map, KLeaderL.n_Open] at h_20
        refine sb 59 (bt h_20) (ct (sq (rg (ra [] f0 [(4, .slice none 0 0), (5, I 2)] (tN (kR (tR ?_))))))); obtain rfl := oi hG; exact rtg [] ⟨none, 0, ([] : List Int)⟩ rfl ⟨frN, trivial⟩
       ·try simp only [List.length_map, KLeaderL.n_Open] at h_20
        refine sb 59 (bf h_20) (cf (kS (tN (sq ?_)))); obtain ⟨v_22o, hy_22, hG⟩ := bs hG; refine rg (rn 2 [] f0 [(60, .slice p_0_A p_0.length p_0_c), (61, .slice v_17_A v_17.length v_17_c)] (l1 (nw 62 (vs 2) [.slice p_0_A p_0.length p_0_c, .slice v_17_A v_17.length v_17_c] 22 fun g_21 => l1 (cgn 63 (z_slices_Concat_byte_byte F (some ⟨g_21, 0, none⟩) 2 ([(⟨p_0_A, p_0_c, p_0⟩ : KSuint8L), (⟨v_17_A, v_17_c, v_17⟩ : KSuint8L)] : List KSuint8L) _ hy_22) hT (fun _ => (mr tr_mv m0)) ⟨ba 0 (ec (((gd' (RowC p_0_A p_0_c c_u8 tr p_0) 8)).m fun _ _ h => ⟨h⟩) (ec (((gd' (RowC v_17_A v_17_c c_u8 tr v_17) 2)).m fun _ _ h => ⟨h⟩) e0)).a, trivial⟩ ?_)))); rintro ⟨v_22_A, v_22_c, v_22⟩ hq_22; obtain rfl : v_22 = v_22o := hq_22.symm
        try simp only [List.length_map, KLeaderL.n_Open] at hG
        refine ra [] f0 [(4, .slice v_22_A v_22.length v_22_c), (5, I 0)] (tN (kR ?_)); obtain rfl := oi hG; exact rtg [] ⟨v_22_A, v_22_c, v_22⟩ rfl ⟨frD tr_mv 0, trivial⟩
      ·refine sb 52 (nf h_19) (ct (sq (rg (ra [] f0 [(4, .slice none 0 0), (5, I v_18)] (tN (kR (tR ?_))))))); obtain rfl := oi hG; exact rtg [] ⟨none, 0, ([] : List Int)⟩ rfl ⟨frN, trivial⟩
   ·try simp only [List.length_map, KLeaderL.n_Open] at h_8
    refine sb 24 (nf h_8) (ct (sq (rg (ra [] f0 [(4, .slice none 0 0), (5, I 6)] (tN (kR (hR (tR ?_)))))))); obtain rfl := oi hG; exact rtg [] ⟨none, 0, ([] : List Int)⟩ rfl ⟨frN, trivial⟩
  ·refine sb 20 (nf h_7) (ct (sq (rg (ra [] f0 [(4, .slice none 0 0), (5, I 1)] (tN (kR (hR (tR ?_)))))))); obtain rfl := oi hG; exact rtg [] ⟨none, 0, ([] : List Int)⟩ rfl ⟨frN, trivial⟩
 ·refine sb 16 (nf h_5) (ct (sq (rg (ra [] f0 [(4, .slice none 0 0), (5, I v_4)] (tN (kR (hR (tR ?_)))))))); obtain rfl := oi hG; exact rtg [] ⟨none, 0, ([] : List Int)⟩ rfl ⟨frN, trivial⟩
def G_journal_Recover (F : Nat) (p_0 : List Int) : Option (KLeader × Int × Int) :=
  Option.bind (G_journal_Load F p_0) (un3 fun v_2 v_3 v_4 =>
  ifB ((v_4 == 0))
    (Option.bind (Option.bind (iter (σ := Int × Int × (List KVersion)) (ρ := (Int × (List KVersion)) ⊕ Int) (un3 fun (v_106 : Int) (v_107 : Int) (v_108 : (List KVersion)) => 
          (ifB (decide (v_106 < ((v_2.length : Nat) : Int)))
            (Option.bind (ixI v_2 v_106) (fun v_113 =>
            Option.bind (Option.bind (iter (σ := Int × (List KVersion)) (ρ := (List KVersion) ⊕ Int) (un2 fun (v_137 : Int) (v_138 : (List KVersion)) => 
                  (ifB (decide (v_137 < ((v_113.Writes.length : Nat) : Int)))
                    (Option.bind (ixI v_113.Writes v_137) (fun v_143 =>
                    Option.bind (G_versions_Put F v_138 (⟨v_143.Key, v_113.Ts, v_143.Value, v_143.Gone⟩ : KVersion)) (un2 fun v_147 v_148 =>
                    ifB ((v_148 == 0))
                      (some (.inl (IntKind.i64.wrap (v_137 + 1), v_147)))
                      (some (.inr (.inr v_148))))))
                    (some (.inr (.inl v_138))) : Option ((Int × (List KVersion)) ⊕ ((List KVersion) ⊕ Int)))) F (0, v_108)) (Sum.elim (fun (v_150 : (List KVersion)) => 
                some (.inl v_150)) (fun (v_153 : Int) => 
                some (.inr v_153))) : Option ((List KVersion) ⊕ Int)) (Sum.elim (fun (v_155 : (List KVersion)) => 
              some (.inl (IntKind.i64.wrap (v_106 + 1), v_113.Ts, v_155))) (fun (v_158 : Int) => 
              some (.inr (.inr v_158))))))
            (some (.inr (.inl (v_107, v_108)))) : Option ((Int × Int × (List KVersion)) ⊕ ((Int × (List KVersion)) ⊕ Int)))) F (0, 0, ([] : List KVersion))) (Sum.elim (un2 fun (v_159 : Int) (v_160 : (List KVersion)) => 
        some (.inl (v_159, v_160))) (fun (v_163 : Int) => 
        some (.inr v_163))) : Option ((Int × (List KVersion)) ⊕ Int)) (Sum.elim (un2 fun (v_165 : Int) (v_166 : (List KVersion)) => 
      some ((⟨v_165, v_166, ([] : List KTx)⟩ : KLeader), v_3, 0)) (fun (v_169 : Int) => 
      some ((⟨0, ([] : List KVersion), ([] : List KTx)⟩ : KLeader), 0, v_169))))
    (some ((⟨0, ([] : List KVersion), ([] : List KTx)⟩ : KLeader), 0, v_4)))
set_option maxRecDepth 100000 in
set_option maxHeartbeats 16000000 in
theorem z_journal_Recover (F : Nat) (p_0_A : Option Addr) (p_0_c : Nat) (p_0 : List Int) (r : KLeader × Int × Int) (hG : G_journal_Recover F p_0 = some r) :
  Cn Try.prog 17 [.slice p_0_A p_0.length p_0_c] [RowC p_0_A p_0_c c_u8 tr p_0] (fun q : KLeaderL => r.1 = q.p) (fun q => .tuple #[.agg #[I q.Last, .slice q.Store_A q.Store.length q.Store_c, .slice q.Open_A q.Open.length q.Open_c], I r.2.1, I r.2.2]) (fun q => [KLeaderL.ok q]) := by
 unfold G_journal_Recover at hG
 try simp only [List.length_map, KLeaderL.n_Open] at hG
 refine fin Try.func17 rfl rfl (mr tr_mv m0) fun S0 w0 hT => sq (rg (l1 (nw 2 vp [I 0, .slice none 0 0, .slice none 0 0] 40 fun g_1 => ra [] f0 [] (tN (sq ?_)))))
 obtain ⟨v_2o, v_3, v_4, hy_2, hG⟩ := b3 hG; refine rg (rn 1 [] f0 [(16, .slice p_0_A p_0.length p_0_c)] (l1 (cn 17 (z_journal_Load F p_0_A p_0_c p_0 _ hy_2) hT (fun _ => (mr KTxL.mv m0)) ⟨gi 1, trivial⟩ ?_))); rintro ⟨v_2_A, v_2_c, v_2⟩ hq_2; obtain rfl : (v_2.map KTxL.p) = v_2o := hq_2.symm
 try simp only [List.length_map, KLeaderL.n_Open] at hG
 refine ra [] f0 (ns 5 [.slice v_2_A v_2.length v_2_c, I v_3, I v_4]) (tN (sq (sq (rg (ra [] f0 [(22, B (!(v_4 == 0)))] (tN ?_)))))); rcases ic hG with ⟨h_5, hG⟩ | ⟨h_5, hG⟩
 ·refine sb 22 (nt h_5) (cf (kS (tN (sq (rg (l1 (nw 8 vp [I 0, .slice none 0 0, .slice none 0 0] 40 fun g_6 => nl (tN ?_)))))))); obtain ⟨o_164, hG, hG_164⟩ := bs hG; refine jn (fun K E a w => ∃ (v_165 : Int) (v_166 : List KVersion) (v_167_A : Option Addr) (v_168_c : Nat), Js S0 w0 66 (K) ([.blk g_6 40 [I v_165, .slice v_167_A v_166.length v_168_c, .slice none 0 0], .dat (RowC v_167_A v_168_c KVersion.cells tr v_166)] ++ se E [2]) (.inl (v_165, v_166) = o_164) a w) ?_ ?_
  ·refine sq (rg (ra [] f0 (ns 25 [.slice v_2_A v_2.length v_2_c, I ((v_2.length : Nat) : Int), I 0]) (tN (bk ?_)))); obtain ⟨e_111, hL, hG_111⟩ := bs hG; clear hG; obtain ⟨stp_111, hs_111, hL⟩ := iter_gen hL; refine lp (fun K E n_ a w => ∃ (v_106 v_107 : Int) (v_108 : List KVersion) (v_109_A : Option Addr) (v_110_c : Nat), Js S0 w0 66 ([(27, I v_106)] ++ K) ([.blk g_6 40 [I v_107, .slice v_109_A v_108.length v_110_c, .slice none 0 0], .dat (RowC v_109_A v_110_c KVersion.cells tr v_108)] ++ se E [1, 2]) (iter stp_111 n_ (v_106, v_107, v_108) = some e_111) a w) F ?_ ?_
   ·exact fm (RowC none 0 KVersion.cells tr ([] : List KVersion)) gn (fun _ _ S k e => ⟨0, 0, ([] : List KVersion), none, 0, S, k.wk, e.sel [1, 0, 2, 3], hL⟩)
   ·clear hL; rintro n_111 a w ⟨v_106, v_107, v_108, v_109_A, v_110_c, hJ⟩; refine hJ.go fun hL => ?_
    clear hJ; obtain ⟨m_111, o_111, rfl, hG, hO1_111, hO2_111⟩ := iter_step hL; clear hL; rw [hs_111] at hG; refine sq (rg (ra [] f0 [(28, B (decide (v_106 < ((v_2.length : Nat) : Int))))] (tN (sq ?_)))); rcases ic hG with ⟨h_112, hG⟩ | ⟨h_112, hG⟩
    ·try simp only [List.length_map, KLeaderL.n_Open] at h_112
     refine sb 28 (bt h_112) (ct (kS (tN (sq (bk (sq ?_)))))); obtain ⟨v_113o, hy_113, hG⟩ := bs hG; refine rg (fxn (p := KTxL.p) inf30 (gd' (RowC v_2_A v_2_c KTxL.cells KTxL.ok v_2) 2) hy_113 fun v_113 b_114 o_115 he_113 hi_113 => ?_); subst he_113
     try simp only [List.length_map, KLeaderL.n_Open] at hG
     refine rn 2 [(0, 0, 0, 0), (0, 4, 0, 0)] (fc (hi_113 .i64) f0) [(30, .agg #[I v_113.ID, I v_113.Ts, .slice v_113.Reads_A v_113.Reads.length v_113.Reads_c, .slice v_113.Writes_A v_113.Writes.length v_113.Writes_c])] (l1 (nw 10 vp (KTxL.cells KTxL.z) 26 fun g_116 => l1 (sr 0 g_116 (ns 0 [I v_113.ID, I v_113.Ts, .slice v_113.Reads_A v_113.Reads.length v_113.Reads_c, .slice v_113.Writes_A v_113.Writes.length v_113.Writes_c]) (nl (tN ?_))))); obtain ⟨o_154, hG, hG_154⟩ := bs hG; refine jn (fun K E a w => ∃ (v_155 : List KVersion) (v_156_A : Option Addr) (v_157_c : Nat), Js S0 w0 66 (K) ([.dat (RowC v_113.Reads_A v_113.Reads_c KSeen.cells tr v_113.Reads), .dat (RowC v_113.Writes_A v_113.Writes_c KWrite.cells tr v_113.Writes), .blk g_6 40 [I v_107, .slice v_156_A v_155.length v_157_c, .slice none 0 0], .dat (RowC v_156_A v_157_c KVersion.cells tr v_155)] ++ se E [0, 5, 6]) (.inl v_155 = o_154) a w) ?_ ?_
     ·refine sq (rg (ra [(1, 1, 0, 3)] f0 (ns 32 [.slice v_113.Writes_A v_113.Writes.length v_113.Writes_c, I ((v_113.Writes.length : Nat) : Int), I 0]) (tN (bk ?_)))); obtain ⟨e_141, hL, hG_141⟩ := bs hG; clear hG; obtain ⟨stp_141, hs_141, hL⟩ := iter_gen hL; refine lp (fun K E n_ a w => ∃ (v_137 : Int) (v_138 : List KVersion) (v_139_A : Option Addr) (v_140_c : Nat), Js S0 w0 66 ([(34, I v_137)] ++ K) ([.dat (RowC v_113.Reads_A v_113.Reads_c KSeen.cells tr v_113.Reads), .dat (RowC v_113.Writes_A v_113.Writes_c KWrite.cells tr v_113.Writes), .blk g_6 40 [I v_107, .slice v_139_A v_138.length v_140_c, .slice none 0 0], .dat (RowC v_139_A v_140_c KVersion.cells tr v_138)] ++ se E [0, 5, 6]) (iter stp_141 n_ (v_137, v_138) = some e_141) a w) F ?_ ?_
      ·exact fg (KTxL.ok v_113) 2 (fun _ _ h => h.f_Reads) (fg (KTxL.ok v_113) 3 (fun _ _ h => h.f_Writes) (fun _ _ S k e => ⟨0, v_108, v_109_A, v_110_c, S, k.wk, e.sel [1, 0, 5, 6, 2, 7, 8], hL⟩))
      ·clear hL; rintro n_141 a w ⟨v_137, v_138, v_139_A, v_140_c, hJ⟩; refine hJ.go fun hL => ?_
       clear hJ; obtain ⟨m_141, o_141, rfl, hG, hO1_141, hO2_141⟩ := iter_step hL; clear hL; rw [hs_141] at hG; refine sq (rg (ra [] f0 [(35, B (decide (v_137 < ((v_113.Writes.length : Nat) : Int))))] (tN (sq ?_)))); rcases ic hG with ⟨h_142, hG⟩ | ⟨h_142, hG⟩
       ·try simp only [List.length_map, KLeaderL.n_Open] at h_142
        refine sb 35 (bt h_142) (ct (kS (tN (sq (bk (sq ?_)))))); obtain ⟨v_143, hy_143, hG⟩ := bs hG; refine rg (fx inf24 (gd' (RowC v_113.Writes_A v_113.Writes_c KWrite.cells tr v_113.Writes) 1) hy_143 fun b_144 o_145 hi_143 => rn 2 [(0, 0, 0, 0), (0, 3, 0, 0)] (fc (hi_143 .i64) f0) [(37, .agg #[I v_143.Key, I v_143.Value, B v_143.Gone])] (l1 (nw 12 vp [I 0, I 0, B false] 66 fun g_146 => l1 (sr 0 g_146 (ns 0 [I v_143.Key, I v_143.Value, B v_143.Gone]) (nl (tN (sq ?_))))))); obtain ⟨v_147o, v_148, hy_147, hG⟩ := b2 hG; refine rg (rn 11 [(1, 1, 4, 1), (1, 1, 0, 0), (1, 1, 6, 1), (1, 1, 0, 1), (1, 1, 0, 2)] f0 [(40, .slice v_139_A v_138.length v_140_c), (49, .agg #[I v_143.Key, I v_113.Ts, I v_143.Value, B v_143.Gone])] (l1 (cn 50 (z_versions_Put F v_139_A v_140_c v_138 (⟨v_143.Key, v_113.Ts, v_143.Value, v_143.Gone⟩ : KVersion) _ hy_147) hT (fun _ => (mr tr_mv m0)) ⟨gi 5, trivial⟩ ?_))); rintro ⟨v_147_A, v_147_c, v_147⟩ hq_147; obtain rfl : v_147 = v_147o := hq_147.symm
        try simp only [List.length_map, KLeaderL.n_Open] at hG
        refine ra [] f0 [(13, .slice v_147_A v_147.length v_147_c), (14, I v_148)] (tN (sq (sq (rg (ra [] f0 [(54, B (!(v_148 == 0)))] (tN ?_)))))); rcases ic hG with ⟨h_149, hG⟩ | ⟨h_149, hG⟩
        ·exact sb 54 (nt h_149) (cf (kS (tN (rg (rn 2 [] f0 [(57, .slice v_147_A v_147.length v_147_c), (58, Pt g_6 1)] (l1 (sr 5 g_6 [(1, .slice v_147_A v_147.length v_147_c)] (nl (hN (tN (rg (ra [] f0 [(34, I (IntKind.i64.wrap (v_137 + 1)))] (tN (fun a w S hK hE => ⟨m_141, ⟨IntKind.i64.wrap (v_137 + 1), v_147, v_147_A, v_147_c, S, hK.wk, hE.sel [3, 4, 5, 0, 7, 8, 9], hO1_141 _ (oi hG).symm⟩, Nat.lt_succ_self _⟩))))))))))))))
        ·refine sb 54 (nf h_149) (ct (sq (rg (rn 2 [] f0 [(55, .agg #[I 0, .slice none 0 0, .slice none 0 0]), (56, I v_148)] (l1 (sr 9 g_1 (ns 0 [I 0, .slice none 0 0, .slice none 0 0]) (ra [] f0 [(3, I 0), (4, I v_148)] (tN (kR (tR (hR (tR (tR ?_))))))))))))); have he_ := hO2_141 _ (oi hG).symm; subst he_; replace hG := hG_141; refine hR (tR ?_); obtain rfl := oi hG; replace hG := hG_154; refine hR (tR (tR ?_)); have he_ := hO2_111 _ (oi hG).symm; subst he_; replace hG := hG_111; refine hR (tR ?_); obtain rfl := oi hG; replace hG := hG_164; obtain rfl := oi hG; exact rtn [(9, 0, 3)] (⟨0, none, 0, ([] : List KVersion), none, 0, ([] : List KTxL)⟩ : KLeaderL) rfl ⟨((Fd.two ((gn : Fd _ (RowC none 0 KVersion.cells tr ([] : List KVersion)))) ((gn : Fd _ (RowC none 0 KTxL.cells KTxL.ok ([] : List KTxL))))).m fun _ _ h => ⟨h.1, h.2⟩), trivial⟩
       ·try simp only [List.length_map, KLeaderL.n_Open] at h_142
        refine sb 35 (bf h_142) (cf (kX (tX (tX ?_)))); have he_ := hO2_141 _ (oi hG).symm; subst he_; replace hG := hG_141; exact hH (tN (fun _ _ S k e => ⟨v_138, v_139_A, v_140_c, S, k.wk, e.sel [0, 1, 2, 3, 4, 5, 6], oi hG⟩))
     ·rintro a w ⟨v_155, v_156_A, v_157_c, hJ⟩; refine hJ.go fun ho_ => ?_
      clear hJ; subst ho_; replace hG := el hG_154; exact rg (rn 3 [(1, 1, 4, 1)] f0 [(61, I v_113.Ts), (62, Pt g_6 0)] (l1 (sr 2 g_6 [(0, I v_113.Ts)] (nl (hN (tN (rg (ra [] f0 [(27, I (IntKind.i64.wrap (v_106 + 1)))] (tN (fun a w S hK hE => ⟨m_111, ⟨IntKind.i64.wrap (v_106 + 1), v_113.Ts, v_155, v_156_A, v_157_c, S, hK.wk, hE.sel [2, 3, 5, 6], hO1_111 _ (oi hG).symm⟩, Nat.lt_succ_self _⟩))))))))))
    ·try simp only [List.length_map, KLeaderL.n_Open] at h_112
     refine sb 28 (bf h_112) (cf (kX (tX (tX ?_)))); have he_ := hO2_111 _ (oi hG).symm; subst he_; replace hG := hG_111; exact hH (tN (fun _ _ S k e => ⟨v_107, v_108, v_109_A, v_110_c, S, k.wk, e.sel [0, 1, 3], oi hG⟩))
  ·rintro a w ⟨v_165, v_166, v_167_A, v_168_c, hJ⟩; refine hJ.go fun ho_ => ?_
   clear hJ; subst ho_; replace hG := el hG_164; refine sq (rg (rn 2 [(0, 3, 0, 0)] f0 [(64, .agg #[I v_165, .slice v_167_A v_166.length v_168_c, .slice none 0 0]), (65, I v_3)] (l1 (sr 2 g_1 (ns 0 [I v_165, .slice v_167_A v_166.length v_168_c, .slice none 0 0]) (ra [] f0 [(3, I v_3), (4, I 0)] (tN (kR ?_))))))); obtain rfl := oi hG; exact rtn [(2, 0, 3)] (⟨v_165, v_167_A, v_168_c, v_166, none, 0, ([] : List KTxL)⟩ : KLeaderL) rfl ⟨((Fd.two ((gd' (RowC v_167_A v_168_c KVersion.cells tr v_166) 1)) ((gn : Fd _ (RowC none 0 KTxL.cells KTxL.ok ([] : List KTxL))))).m fun _ _ h => ⟨h.1, h.2⟩), trivial⟩
 ·refine sb 22 (nf h_5) (ct (sq (rg (rn 2 [] f0 [(23, .agg #[I 0, .slice none 0 0, .slice none 0 0]), (24, I v_4)] (l1 (sr 1 g_1 (ns 0 [I 0, .slice none 0 0, .slice none 0 0]) (ra [] f0 [(3, I 0), (4, I v_4)] (tN (kR (tR ?_)))))))))); obtain rfl := oi hG; exact rtn [(1, 0, 3)] (⟨0, none, 0, ([] : List KVersion), none, 0, ([] : List KTxL)⟩ : KLeaderL) rfl ⟨((Fd.two ((gn : Fd _ (RowC none 0 KVersion.cells tr ([] : List KVersion)))) ((gn : Fd _ (RowC none 0 KTxL.cells KTxL.ok ([] : List KTxL))))).m fun _ _ h => ⟨h.1, h.2⟩), trivial⟩
end Go.Proofs.Ytlfkgbideknkhaa
namespace Go.Proofs.Ytlfkgbideknkhaa
open Go.RowKit Go.Maps
end Go.Proofs.Ytlfkgbideknkhaa
namespace Go.Proofs.Ytlfkgbideknkhaa
open Go.RowKit Go.Maps
def G_regulatorlaw37_head (F : Nat)  : Option (Bool) :=
  Option.bind (G_journal_Append F ([] : List Int) (⟨1, 110, ([] : List KSeen), ([(⟨5, 7, false⟩ : KWrite)] : List KWrite)⟩ : KTx)) (un2 fun v_3 v_4 =>
  Option.bind (G_journal_Append F v_3 (⟨1, 111, ([] : List KSeen), ([(⟨5, 7, false⟩ : KWrite)] : List KWrite)⟩ : KTx)) (un2 fun v_6 v_7 =>
  Option.bind (G_journal_Append F v_3 (⟨1, 110, ([] : List KSeen), ([(⟨5, 7, false⟩ : KWrite)] : List KWrite)⟩ : KTx)) (un2 fun v_8 v_9 =>
  Option.bind (G_journal_Load F v_6) (un3 fun v_10 v_11 v_12 =>
  Option.bind (slI v_3 0 (max (IntKind.i64.wrap (((v_3.length : Nat) : Int) - 1)) 0)) (fun v_13 =>
  Option.bind (G_journal_Load F v_13) (un3 fun v_14 v_15 v_16 =>
  Option.bind (G_journal_Recover F v_6) (un3 fun v_17 v_18 v_19 =>
  Option.bind (Option.bind (apG 1 ([] : List Int) v_3) (fun v_22 =>
    Option.bind (apG 1 v_22 ([9] : List Int)) (fun v_24 =>
    Option.bind (G_journal_Append F v_24 (⟨1, 111, ([] : List KSeen), ([(⟨5, 7, false⟩ : KWrite)] : List KWrite)⟩ : KTx)) (un2 fun v_25 v_26 =>
    some v_26))) : Option (Int)) (fun (v_28 : Int) => 
    Option.bind (ifB ((v_4 == 0))
        (ifB ((v_7 == 0))
          (ifB ((v_9 == 30))
            (ifB ((v_12 == 0))
              (ifB ((v_16 == 0))
                (ifB ((v_19 == 0))
                  (some (v_28 == 6))
                  (some false))
                (some false))
              (some false))
            (some false))
          (some false))
        (some false) : Option (Bool)) (fun (v_36 : Bool) => 
      Option.bind (ifB (v_36)
          (ifB ((((v_3.length : Nat) : Int) == 20))
            (ifB ((((v_6.length : Nat) : Int) == 40))
              (ifB ((v_11 == 40))
                (ifB ((v_18 == 40))
                  (ifB ((v_15 == 0))
                    (ifB ((((v_14.length : Nat) : Int) == 0))
                      (Option.bind (G_regulatorref34_SameTxs F v_10 ([(⟨1, 110, ([] : List KSeen), ([(⟨5, 7, false⟩ : KWrite)] : List KWrite)⟩ : KTx), (⟨1, 111, ([] : List KSeen), ([(⟨5, 7, false⟩ : KWrite)] : List KWrite)⟩ : KTx)] : List KTx)) (fun v_45 =>
                      some v_45))
                      (some false))
                    (some false))
                  (some false))
                (some false))
              (some false))
            (some false))
          (some false) : Option (Bool)) (fun (v_47 : Bool) => 
        Option.bind (ifB (v_47)
            (ifB ((v_17.Last == 111))
              (ifB ((((v_17.Open.length : Nat) : Int) == 0))
                (ifB ((((v_17.Store.length : Nat) : Int) == 2))
                  (Option.bind (ixI v_17.Store 1) (fun v_52 =>
                  some (decide (v_52 = (⟨5, 111, 7, false⟩ : KVersion)))))
                  (some false))
                (some false))
              (some false))
            (some false) : Option (Bool)) (fun (v_56 : Bool) => 
          some v_56)))))))))))
set_option maxRecDepth 100000 in
set_option maxHeartbeats 16000000 in
theorem z_regulatorlaw37_head (F : Nat)  (r : Bool) (hG : G_regulatorlaw37_head F  = some r) :
  Cf Try.prog 8 [] [] (B r) := by
 unfold G_regulatorlaw37_head at hG; refine fi Try.func8 rfl rfl m0 fun S0 w0 hT => sq (rg (ra [] f0 [] (tN (sq (rg (rn 1 [] f0 [(21, .agg #[I 5, I 7, B false])] (l1 (nw 22 (vs 1) [I 5, I 7, B false] 66 fun g_1 => rn 1 [] f0 [(23, .agg #[I 1, I 110, .slice none 0 0, Sb g_1 1 1])] (l1 (nw 1 vp (KTxL.cells KTxL.z) 26 fun g_2 => l1 (sr 0 g_2 (ns 0 [I 1, I 110, .slice none 0 0, Sb g_1 1 1]) (nl (tN (sq ?_))))))))))))))
 obtain ⟨v_3o, v_4, hy_3, hG⟩ := b2 hG; refine rg (rn 1 [(0, 4, 0, 0)] f0 [(25, .agg #[I 1, I 110, .slice none 0 0, Sb g_1 1 1])] (l1 (cg 26 (z_journal_Append F none 0 ([] : List Int) (⟨1, 110, none, 0, ([] : List KSeen), (some ⟨g_1, 0, none⟩), 1, ([(⟨5, 7, false⟩ : KWrite)] : List KWrite)⟩ : KTxL) _ hy_3) hT (fun _ => (mr tr_mv m0)) ⟨gn.a, Fa.m (Fa.two ((gn : Fd _ (RowC none 0 KSeen.cells tr ([] : List KSeen))).a) (bA (f := KWrite.cells) (ok := tr) (l := ([(⟨5, 7, false⟩ : KWrite)] : List KWrite)) g_1 1 (et.a))) fun _ _ h => ⟨h.1, h.2⟩, trivial⟩ ?_))); rintro ⟨v_3_A, v_3_c, v_3⟩ hq_3; obtain rfl : v_3 = v_3o := hq_3.symm
 try simp only [List.length_map, KLeaderL.n_Open] at hG
 refine ra [] f0 [(2, .slice v_3_A v_3.length v_3_c), (3, I v_4)] (tN (sq (rg (rn 1 [(0, 4, 1, 0)] f0 [(29, .agg #[I 1, I 110, .slice none 0 0, Sb g_1 1 1])] (l1 (nw 4 vp (KTxL.cells KTxL.z) 26 fun g_5 => l1 (sr 0 g_5 (ns 0 [I 1, I 110, .slice none 0 0, Sb g_1 1 1]) (nl (tN (sq (rg (rn 1 [] f0 [(30, Pt g_5 1)] (l1 (sr 0 g_5 [(1, I 111)] (nl (tN (sq ?_))))))))))))))))); obtain ⟨v_6o, v_7, hy_6, hG⟩ := b2 hG; refine rg (rn 2 [(1, 4, 0, 0)] f0 [(32, .slice v_3_A v_3.length v_3_c), (33, .agg #[I 1, I 111, .slice none 0 0, Sb g_1 1 1])] (l1 (cg 34 (z_journal_Append F v_3_A v_3_c v_3 (⟨1, 111, none, 0, ([] : List KSeen), (some ⟨g_1, 0, none⟩), 1, ([(⟨5, 7, false⟩ : KWrite)] : List KWrite)⟩ : KTxL) _ hy_6) hT (fun _ => (mr tr_mv m0)) ⟨ga 1, Fa.m (Fa.two ((gn : Fd _ (RowC none 0 KSeen.cells tr ([] : List KSeen))).a) (bA (f := KWrite.cells) (ok := tr) (l := ([(⟨5, 7, false⟩ : KWrite)] : List KWrite)) g_1 3 (et.a))) fun _ _ h => ⟨h.1, h.2⟩, trivial⟩ ?_))); rintro ⟨v_6_A, v_6_c, v_6⟩ hq_6; obtain rfl : v_6 = v_6o := hq_6.symm
 try simp only [List.length_map, KLeaderL.n_Open] at hG
 refine ra [] f0 [(5, .slice v_6_A v_6.length v_6_c), (6, I v_7)] (tN (sq ?_)); obtain ⟨v_8o, v_9, hy_8, hG⟩ := b2 hG; refine rg (rn 2 [(1, 4, 3, 0)] f0 [(38, .slice v_3_A v_3.length v_3_c), (39, .agg #[I 1, I 110, .slice none 0 0, Sb g_1 1 1])] (l1 (cg 40 (z_journal_Append F v_3_A v_3_c v_3 (⟨1, 110, none, 0, ([] : List KSeen), (some ⟨g_1, 0, none⟩), 1, ([(⟨5, 7, false⟩ : KWrite)] : List KWrite)⟩ : KTxL) _ hy_8) hT (fun _ => (mr tr_mv m0)) ⟨ga 2, Fa.m (Fa.two ((gn : Fd _ (RowC none 0 KSeen.cells tr ([] : List KSeen))).a) (bA (f := KWrite.cells) (ok := tr) (l := ([(⟨5, 7, false⟩ : KWrite)] : List KWrite)) g_1 4 (et.a))) fun _ _ h => ⟨h.1, h.2⟩, trivial⟩ ?_))); rintro ⟨v_8_A, v_8_c, v_8⟩ hq_8; obtain rfl : v_8 = v_8o := hq_8.symm
 try simp only [List.length_map, KLeaderL.n_Open] at hG
 refine ra [] f0 [(8, I v_9)] (tN (sq ?_)); obtain ⟨v_10o, v_11, v_12, hy_10, hG⟩ := b3 hG; refine rg (rn 1 [] f0 [(44, .slice v_6_A v_6.length v_6_c)] (l1 (cn 45 (z_journal_Load F v_6_A v_6_c v_6 _ hy_10) hT (fun _ => (mr KTxL.mv m0)) ⟨gi 1, trivial⟩ ?_))); rintro ⟨v_10_A, v_10_c, v_10⟩ hq_10; obtain rfl : (v_10.map KTxL.p) = v_10o := hq_10.symm
 try simp only [List.length_map, KLeaderL.n_Open] at hG
 refine ra [] f0 (ns 9 [.slice v_10_A v_10.length v_10_c, I v_11, I v_12]) (tN (sq ?_)); obtain ⟨v_13, hy_13, hG⟩ := bs hG; obtain ⟨v_14o, v_15, v_16, hy_14, hG⟩ := b3 hG; refine rg (rn 5 [] f0 [(50, .slice v_3_A v_3.length v_3_c), (54, I (if 0 > (IntKind.i64.wrap (((v_3.length : Nat) : Int) - 1)) then 0 else (IntKind.i64.wrap (((v_3.length : Nat) : Int) - 1))))] (sb 54 (v := I (if 0 > (IntKind.i64.wrap (((v_3.length : Nat) : Int) - 1)) then 0 else (IntKind.i64.wrap (((v_3.length : Nat) : Int) - 1)))) (v' := I (max (IntKind.i64.wrap (((v_3.length : Nat) : Int) - 1)) 0)) (congrArg (Value.int .i64) (by omega)) (fp false true inf22 (gd' (RowC v_3_A v_3_c c_u8 tr v_3) 4) hy_13 fun v_13_A v_13_c hp_13 => rn 1 [(0, 0, 0, 0)] (fc (hp_13 .i64 .i64) f0) [(55, .slice v_13_A v_13.length v_13_c)] (l1 (cn 56 (z_journal_Load F v_13_A v_13_c v_13 _ hy_14) hT (fun _ => (mr KTxL.mv m0)) ⟨gi 0, trivial⟩ ?_))))); rintro ⟨v_14_A, v_14_c, v_14⟩ hq_14; obtain rfl : (v_14.map KTxL.p) = v_14o := hq_14.symm
 try simp only [List.length_map, KLeaderL.n_Open] at hG
 refine ra [] f0 (ns 12 [.slice v_14_A v_14.length v_14_c, I v_15, I v_16]) (tN (sq ?_)); obtain ⟨v_17o, v_18, v_19, hy_17, hG⟩ := b3 hG; refine rg (rn 1 [] f0 [(61, .slice v_6_A v_6.length v_6_c)] (l1 (cn 62 (z_journal_Recover F v_6_A v_6_c v_6 _ hy_17) hT (fun _ => (mc KLeaderL.mv m0)) ⟨gi 4, trivial⟩ ?_))); rintro v_17 hq_17; obtain rfl : v_17.p = v_17o := hq_17.symm
 try simp only [List.length_map, KLeaderL.n_Open] at hG
 refine rn 4 [] f0 (ns 63 [.agg #[I v_17.Last, .slice v_17.Store_A v_17.Store.length v_17.Store_c, .slice v_17.Open_A v_17.Open.length v_17.Open_c], I v_18, I v_19]) (l1 (nw 15 vp [I 0, .slice none 0 0, .slice none 0 0] 40 fun g_20 => l1 (sr 0 g_20 (ns 0 [I v_17.Last, .slice v_17.Store_A v_17.Store.length v_17.Store_c, .slice v_17.Open_A v_17.Open.length v_17.Open_c]) (ra [] f0 [(16, I v_18), (17, I v_19)] (tN ?_))))); obtain ⟨o_27, hG, hG_27⟩ := bs hG; refine jn (fun K E a w => ∃ v_28 : Int, Js S0 w0 163 ([(19, I v_28)] ++ K) ([.dat (RowC v_17.Store_A v_17.Store_c KVersion.cells tr v_17.Store), .dat (RowC v_17.Open_A v_17.Open_c KTxL.cells KTxL.ok v_17.Open)] ++ se E [0, 2, 4, 6, 7, 8, 9, 10]) (v_28 = o_27) a w) ?_ ?_
 ·obtain ⟨v_22, hy_22, hG⟩ := bs hG; obtain ⟨v_24, hy_24, hG⟩ := bs hG; obtain ⟨v_25o, v_26, hy_25, hG⟩ := b2 hG; refine hb [0, 1, 2, 3, 4, 5, 6, 7, 8, 9, 10] (ht [0, 1, 2, 3, 4, 5, 6, 7, 8, 9, 10] [1, 5] [(1, 4, 7, 0)] f0 [(68, .slice v_3_A v_3.length v_3_c), (72, .agg #[I 1, I 111, .slice none 0 0, Sb g_1 1 1])] (ho [0, 3] ⟨?_, ?_, trivial⟩))
  ·refine h1 (nw 67 (vs 0) [] 5 fun g_21 => hk [1, 2, 3, 4, 5, 6, 7, 8, 9, 10, 11] (ho [2, 3] ⟨?_, ?_, trivial⟩))
   ·refine bo 0 1 0 g_21 5 [] (h1 (ap 0 69 (some ⟨g_21, 0, none⟩) 0 ([] : List Int) v_3 inf22 ((gd' (RowC v_3_A v_3_c c_u8 tr v_3) 9).a) hy_22 one_u8 fun v_22_A v_22_c _ => hk [1, 2, 3, 4, 5, 6, 7, 8, 9, 10, 11] (ho [3] ⟨h1 (nw 70 (vs 1) [Y 9] 5 fun g_23 => hk [2, 3, 4, 5, 6, 7, 8, 9, 10, 11, 12] (ho [4] ⟨h1 (ap 1 71 v_22_A v_22_c v_22 ([9] : List Int) inf22 (bA (f := c_u8) (ok := tr) (l := ([9] : List Int)) g_23 0 et.a) hy_24 one_u8 fun v_24_A v_24_c _ => hk [2, 3, 4, 5, 6, 7, 8, 9, 10, 11, 12] (ho [6] ⟨h1 (cg 73 (z_journal_Append F v_24_A v_24_c v_24 (⟨1, 111, none, 0, ([] : List KSeen), (some ⟨g_1, 0, none⟩), 1, ([(⟨5, 7, false⟩ : KWrite)] : List KWrite)⟩ : KTxL) _ hy_25) hT (fun _ => (mr tr_mv m0)) ⟨oa 1 et.a, Fa.m (Fa.two ((gn : Fd _ (RowC none 0 KSeen.cells tr ([] : List KSeen))).a) (bA (f := KWrite.cells) (ok := tr) (l := ([(⟨5, 7, false⟩ : KWrite)] : List KWrite)) g_1 12 (et.a))) fun _ _ h => ⟨h.1, h.2⟩, trivial⟩ ?_), trivial⟩)), trivial⟩)), trivial⟩))); rintro ⟨v_25_A, v_25_c, v_25⟩ hq_25; obtain rfl : v_25 = v_25o := hq_25.symm
    try simp only [List.length_map, KLeaderL.n_Open] at hG
    exact hk [3, 4, 5, 6, 7, 8, 9, 10, 11, 12, 13] (ht [3, 4, 5, 6, 7, 8, 9, 10, 11, 12, 13] [7, 8, 9, 10, 11] [] f0 [(19, I v_26)] (he (tN (fg (KLeaderL.ok v_17) 4 (fun _ _ h => h.f_Store) (fg (KLeaderL.ok v_17) 5 (fun _ _ h => h.f_Open) (fun _ _ S k e => ⟨v_26, S, k.wk, e.sel [1, 0, 5, 7, 9, 11, 12, 13, 14, 15], oi hG⟩))))))
   ·refine h1 (nw 70 (vs 1) [Y 9] 5 fun g_23 => hk [2, 3, 4, 5, 6, 7, 8, 9, 10, 11, 12] (ho [2] ⟨bo 1 1 0 g_21 5 [] (h1 (ap 1 69 (some ⟨g_21, 0, none⟩) 0 ([] : List Int) v_3 inf22 ((gd' (RowC v_3_A v_3_c c_u8 tr v_3) 10).a) hy_22 one_u8 fun v_22_A v_22_c _ => hk [2, 3, 4, 5, 6, 7, 8, 9, 10, 11, 12] (ho [4] ⟨h1 (ap 1 71 v_22_A v_22_c v_22 ([9] : List Int) inf22 (bA (f := c_u8) (ok := tr) (l := ([9] : List Int)) g_23 0 et.a) hy_24 one_u8 fun v_24_A v_24_c _ => hk [2, 3, 4, 5, 6, 7, 8, 9, 10, 11, 12] (ho [6] ⟨h1 (cg 73 (z_journal_Append F v_24_A v_24_c v_24 (⟨1, 111, none, 0, ([] : List KSeen), (some ⟨g_1, 0, none⟩), 1, ([(⟨5, 7, false⟩ : KWrite)] : List KWrite)⟩ : KTxL) _ hy_25) hT (fun _ => (mr tr_mv m0)) ⟨oa 1 et.a, Fa.m (Fa.two ((gn : Fd _ (RowC none 0 KSeen.cells tr ([] : List KSeen))).a) (bA (f := KWrite.cells) (ok := tr) (l := ([(⟨5, 7, false⟩ : KWrite)] : List KWrite)) g_1 12 (et.a))) fun _ _ h => ⟨h.1, h.2⟩, trivial⟩ ?_), trivial⟩)), trivial⟩))), trivial⟩)); rintro ⟨v_25_A, v_25_c, v_25⟩ hq_25; obtain rfl : v_25 = v_25o := hq_25.symm
    try simp only [List.length_map, KLeaderL.n_Open] at hG
    exact hk [3, 4, 5, 6, 7, 8, 9, 10, 11, 12, 13] (ht [3, 4, 5, 6, 7, 8, 9, 10, 11, 12, 13] [7, 8, 9, 10, 11] [] f0 [(19, I v_26)] (he (tN (fg (KLeaderL.ok v_17) 4 (fun _ _ h => h.f_Store) (fg (KLeaderL.ok v_17) 5 (fun _ _ h => h.f_Open) (fun _ _ S k e => ⟨v_26, S, k.wk, e.sel [1, 0, 5, 7, 9, 11, 12, 13, 14, 15], oi hG⟩))))))
  ·refine h1 (nw 70 (vs 1) [Y 9] 5 fun g_23 => hk [1, 2, 3, 4, 5, 6, 7, 8, 9, 10, 11] (ho [0] ⟨h1 (nw 67 (vs 0) [] 5 fun g_21 => hk [2, 3, 4, 5, 6, 7, 8, 9, 10, 11, 12] (ho [2] ⟨bo 0 1 0 g_21 5 [] (h1 (ap 0 69 (some ⟨g_21, 0, none⟩) 0 ([] : List Int) v_3 inf22 ((gd' (RowC v_3_A v_3_c c_u8 tr v_3) 10).a) hy_22 one_u8 fun v_22_A v_22_c _ => hk [2, 3, 4, 5, 6, 7, 8, 9, 10, 11, 12] (ho [4] ⟨h1 (ap 0 71 v_22_A v_22_c v_22 ([9] : List Int) inf22 (bA (f := c_u8) (ok := tr) (l := ([9] : List Int)) g_23 1 et.a) hy_24 one_u8 fun v_24_A v_24_c _ => hk [2, 3, 4, 5, 6, 7, 8, 9, 10, 11, 12] (ho [6] ⟨h1 (cg 73 (z_journal_Append F v_24_A v_24_c v_24 (⟨1, 111, none, 0, ([] : List KSeen), (some ⟨g_1, 0, none⟩), 1, ([(⟨5, 7, false⟩ : KWrite)] : List KWrite)⟩ : KTxL) _ hy_25) hT (fun _ => (mr tr_mv m0)) ⟨oa 0 et.a, Fa.m (Fa.two ((gn : Fd _ (RowC none 0 KSeen.cells tr ([] : List KSeen))).a) (bA (f := KWrite.cells) (ok := tr) (l := ([(⟨5, 7, false⟩ : KWrite)] : List KWrite)) g_1 12 (et.a))) fun _ _ h => ⟨h.1, h.2⟩, trivial⟩ ?_), trivial⟩)), trivial⟩))), trivial⟩)), trivial⟩)); rintro ⟨v_25_A, v_25_c, v_25⟩ hq_25; obtain rfl : v_25 = v_25o := hq_25.symm
   try simp only [List.length_map, KLeaderL.n_Open] at hG
   exact hk [3, 4, 5, 6, 7, 8, 9, 10, 11, 12, 13] (ht [3, 4, 5, 6, 7, 8, 9, 10, 11, 12, 13] [7, 8, 9, 10, 11] [] f0 [(19, I v_26)] (he (tN (fg (KLeaderL.ok v_17) 4 (fun _ _ h => h.f_Store) (fg (KLeaderL.ok v_17) 5 (fun _ _ h => h.f_Open) (fun _ _ S k e => ⟨v_26, S, k.wk, e.sel [1, 0, 5, 7, 9, 11, 12, 13, 14, 15], oi hG⟩))))))
 ·rintro a w ⟨v_28, hJ⟩; refine hJ.go fun ho_ => ?_
  clear hJ; subst ho_; replace hG := hG_27; obtain ⟨o_35, hG, hG_35⟩ := bs hG; refine jn (fun K E a w => ∃ v_36 : Bool, Js S0 w0 163 ([(20, B v_36)] ++ K) (se E [0, 1, 2, 3, 4, 5, 6, 7, 8, 9]) (v_36 = o_35) a w) ?_ ?_
  ·rcases ic hG with ⟨h_29, hG⟩ | ⟨h_29, hG⟩
   ·rcases ic hG with ⟨h_30, hG⟩ | ⟨h_30, hG⟩
    ·rcases ic hG with ⟨h_31, hG⟩ | ⟨h_31, hG⟩
     ·rcases ic hG with ⟨h_32, hG⟩ | ⟨h_32, hG⟩
      ·rcases ic hG with ⟨h_33, hG⟩ | ⟨h_33, hG⟩
       ·rcases ic hG with ⟨h_34, hG⟩ | ⟨h_34, hG⟩
        ·exact rg (rn 3 [] f0 [(78, B (v_4 == 0))] (sb 78 (bt h_29) (rn 4 [] f0 [(82, B (v_7 == 0))] (sb 82 (bt h_30) (rn 4 [] f0 [(86, B (v_9 == 30))] (sb 86 (bt h_31) (rn 4 [] f0 [(90, B (v_12 == 0))] (sb 90 (bt h_32) (rn 4 [] f0 [(94, B (v_16 == 0))] (sb 94 (bt h_33) (rn 4 [] f0 [(98, B (v_19 == 0))] (sb 98 (bt h_34) (ra [] f0 [(20, B (v_28 == 6))] (tN (fun _ _ S k e => ⟨(v_28 == 6), S, k.wk, e.sel [0, 1, 2, 3, 4, 5, 6, 7, 8, 9], oi hG⟩)))))))))))))))
        ·exact rg (rn 3 [] f0 [(78, B (v_4 == 0))] (sb 78 (bt h_29) (rn 4 [] f0 [(82, B (v_7 == 0))] (sb 82 (bt h_30) (rn 4 [] f0 [(86, B (v_9 == 30))] (sb 86 (bt h_31) (rn 4 [] f0 [(90, B (v_12 == 0))] (sb 90 (bt h_32) (rn 4 [] f0 [(94, B (v_16 == 0))] (sb 94 (bt h_33) (rn 4 [] f0 [(98, B (v_19 == 0))] (sb 98 (bf h_34) (ra [] f0 [(20, B false)] (tN (fun _ _ S k e => ⟨false, S, k.wk, e.sel [0, 1, 2, 3, 4, 5, 6, 7, 8, 9], oi hG⟩)))))))))))))))
       ·exact rg (rn 3 [] f0 [(78, B (v_4 == 0))] (sb 78 (bt h_29) (rn 4 [] f0 [(82, B (v_7 == 0))] (sb 82 (bt h_30) (rn 4 [] f0 [(86, B (v_9 == 30))] (sb 86 (bt h_31) (rn 4 [] f0 [(90, B (v_12 == 0))] (sb 90 (bt h_32) (rn 4 [] f0 [(94, B (v_16 == 0))] (sb 94 (bf h_33) (ra [] f0 [(20, B false)] (tN (fun _ _ S k e => ⟨false, S, k.wk, e.sel [0, 1, 2, 3, 4, 5, 6, 7, 8, 9], oi hG⟩)))))))))))))
      ·exact rg (rn 3 [] f0 [(78, B (v_4 == 0))] (sb 78 (bt h_29) (rn 4 [] f0 [(82, B (v_7 == 0))] (sb 82 (bt h_30) (rn 4 [] f0 [(86, B (v_9 == 30))] (sb 86 (bt h_31) (rn 4 [] f0 [(90, B (v_12 == 0))] (sb 90 (bf h_32) (ra [] f0 [(20, B false)] (tN (fun _ _ S k e => ⟨false, S, k.wk, e.sel [0, 1, 2, 3, 4, 5, 6, 7, 8, 9], oi hG⟩)))))))))))
     ·exact rg (rn 3 [] f0 [(78, B (v_4 == 0))] (sb 78 (bt h_29) (rn 4 [] f0 [(82, B (v_7 == 0))] (sb 82 (bt h_30) (rn 4 [] f0 [(86, B (v_9 == 30))] (sb 86 (bf h_31) (ra [] f0 [(20, B false)] (tN (fun _ _ S k e => ⟨false, S, k.wk, e.sel [0, 1, 2, 3, 4, 5, 6, 7, 8, 9], oi hG⟩)))))))))
    ·exact rg (rn 3 [] f0 [(78, B (v_4 == 0))] (sb 78 (bt h_29) (rn 4 [] f0 [(82, B (v_7 == 0))] (sb 82 (bf h_30) (ra [] f0 [(20, B false)] (tN (fun _ _ S k e => ⟨false, S, k.wk, e.sel [0, 1, 2, 3, 4, 5, 6, 7, 8, 9], oi hG⟩)))))))
   ·exact rg (rn 3 [] f0 [(78, B (v_4 == 0))] (sb 78 (bf h_29) (ra [] f0 [(20, B false)] (tN (fun _ _ S k e => ⟨false, S, k.wk, e.sel [0, 1, 2, 3, 4, 5, 6, 7, 8, 9], oi hG⟩)))))
  ·rintro a w ⟨v_36, hJ⟩; refine hJ.go fun ho_ => ?_
   clear hJ; subst ho_; replace hG := hG_35; obtain ⟨o_46, hG, hG_46⟩ := bs hG; refine jn (fun K E a w => ∃ v_47 : Bool, Js S0 w0 163 ([(20, B v_47)] ++ K) (se E [0, 1, 2]) (v_47 = o_46) a w) ?_ ?_
   ·rcases ic hG with ⟨h_37, hG⟩ | ⟨h_37, hG⟩
    ·rcases ic hG with ⟨h_38, hG⟩ | ⟨h_38, hG⟩
     ·rcases ic hG with ⟨h_39, hG⟩ | ⟨h_39, hG⟩
      ·rcases ic hG with ⟨h_40, hG⟩ | ⟨h_40, hG⟩
       ·rcases ic hG with ⟨h_41, hG⟩ | ⟨h_41, hG⟩
        ·rcases ic hG with ⟨h_42, hG⟩ | ⟨h_42, hG⟩
         ·rcases ic hG with ⟨h_43, hG⟩ | ⟨h_43, hG⟩
          ·obtain ⟨v_45, hy_45, hG⟩ := bs hG; refine rg (rn 2 [] f0 [(103, B v_36)] (sb 103 (bt h_37) (rn 5 [] f0 [(108, B (((v_3.length : Nat) : Int) == 20))] ?_)))
           try simp only [List.length_map, KLeaderL.n_Open] at h_38
           refine sb 108 (bt h_38) (rn 5 [] f0 [(113, B (((v_6.length : Nat) : Int) == 40))] ?_)
           try simp only [List.length_map, KLeaderL.n_Open] at h_39
           refine sb 113 (bt h_39) (rn 4 [] f0 [(117, B (v_11 == 40))] (sb 117 (bt h_40) (rn 4 [] f0 [(121, B (v_18 == 40))] (sb 121 (bt h_41) (rn 4 [] f0 [(125, B (v_15 == 0))] (sb 125 (bt h_42) (rn 5 [] f0 [(130, B (((v_14.length : Nat) : Int) == 0))] ?_)))))))
           try simp only [List.length_map, KLeaderL.n_Open] at h_43
           exact sb 130 (bt h_43) (rn 3 [(1, 4, 8, 0), (0, 4, 6, 0)] f0 (ns 131 [.slice v_10_A v_10.length v_10_c, .agg #[I 1, I 110, .slice none 0 0, Sb g_1 1 1], .agg #[I 1, I 111, .slice none 0 0, Sb g_1 1 1]]) (l1 (nw 134 (vs 2) [I 1, I 110, .slice none 0 0, Sb g_1 1 1, I 1, I 111, .slice none 0 0, Sb g_1 1 1] 26 fun g_44 => sB 10 g_1 KWrite.cells tr ([(⟨5, 7, false⟩ : KWrite)] : List KWrite) tr_mv et (l1 (cl 135 (z_regulatorref34_SameTxs F v_10_A v_10_c v_10 (some ⟨g_44, 0, none⟩) 2 ([(⟨1, 110, none, 0, ([] : List KSeen), (some ⟨g_1, 0, none⟩), 1, ([(⟨5, 7, false⟩ : KWrite)] : List KWrite)⟩ : KTxL), (⟨1, 111, none, 0, ([] : List KSeen), (some ⟨g_1, 0, none⟩), 1, ([(⟨5, 7, false⟩ : KWrite)] : List KWrite)⟩ : KTxL)] : List KTxL) _ hy_45) hT ⟨ga 5, ba 0 (ec ((Fd.two ((gn : Fd _ (RowC none 0 KSeen.cells tr ([] : List KSeen)))) ((gd' (RowC (some ⟨g_1, 0, none⟩) 1 KWrite.cells tr ([(⟨5, 7, false⟩ : KWrite)] : List KWrite)) 10))).m fun _ _ h => ⟨h.1, h.2⟩) (ec ((Fd.two ((gn : Fd _ (RowC none 0 KSeen.cells tr ([] : List KSeen)))) ((gd' (RowC (some ⟨g_1, 0, none⟩) 1 KWrite.cells tr ([(⟨5, 7, false⟩ : KWrite)] : List KWrite)) 10))).m fun _ _ h => ⟨h.1, h.2⟩) e0)).a, trivial⟩ (ra [] f0 [(20, B v_45)] (tN (fun _ _ S k e => ⟨v_45, S, k.wk, e.sel [1, 2, 3], oi hG⟩))))))))
          ·refine rg (rn 2 [] f0 [(103, B v_36)] (sb 103 (bt h_37) (rn 5 [] f0 [(108, B (((v_3.length : Nat) : Int) == 20))] ?_)))
           try simp only [List.length_map, KLeaderL.n_Open] at h_38
           refine sb 108 (bt h_38) (rn 5 [] f0 [(113, B (((v_6.length : Nat) : Int) == 40))] ?_)
           try simp only [List.length_map, KLeaderL.n_Open] at h_39
           refine sb 113 (bt h_39) (rn 4 [] f0 [(117, B (v_11 == 40))] (sb 117 (bt h_40) (rn 4 [] f0 [(121, B (v_18 == 40))] (sb 121 (bt h_41) (rn 4 [] f0 [(125, B (v_15 == 0))] (sb 125 (bt h_42) (rn 5 [] f0 [(130, B (((v_14.length : Nat) : Int) == 0))] ?_)))))))
           try simp only [List.length_map, KLeaderL.n_Open] at h_43
           exact sb 130 (bf h_43) (ra [] f0 [(20, B false)] (tN (fun _ _ S k e => ⟨false, S, k.wk, e.sel [0, 1, 2], oi hG⟩)))
         ·refine rg (rn 2 [] f0 [(103, B v_36)] (sb 103 (bt h_37) (rn 5 [] f0 [(108, B (((v_3.length : Nat) : Int) == 20))] ?_)))
          try simp only [List.length_map, KLeaderL.n_Open] at h_38
          refine sb 108 (bt h_38) (rn 5 [] f0 [(113, B (((v_6.length : Nat) : Int) == 40))] ?_)
          try simp only [List.length_map, KLeaderL.n_Open] at h_39
          exact sb 113 (bt h_39) (rn 4 [] f0 [(117, B (v_11 == 40))] (sb 117 (bt h_40) (rn 4 [] f0 [(121, B (v_18 == 40))] (sb 121 (bt h_41) (rn 4 [] f0 [(125, B (v_15 == 0))] (sb 125 (bf h_42) (ra [] f0 [(20, B false)] (tN (fun _ _ S k e => ⟨false, S, k.wk, e.sel [0, 1, 2], oi hG⟩)))))))))
        ·refine rg (rn 2 [] f0 [(103, B v_36)] (sb 103 (bt h_37) (rn 5 [] f0 [(108, B (((v_3.length : Nat) : Int) == 20))] ?_)))
         try simp only [List.length_map, KLeaderL.n_Open] at h_38
         refine sb 108 (bt h_38) (rn 5 [] f0 [(113, B (((v_6.length : Nat) : Int) == 40))] ?_)
         try simp only [List.length_map, KLeaderL.n_Open] at h_39
         exact sb 113 (bt h_39) (rn 4 [] f0 [(117, B (v_11 == 40))] (sb 117 (bt h_40) (rn 4 [] f0 [(121, B (v_18 == 40))] (sb 121 (bf h_41) (ra [] f0 [(20, B false)] (tN (fun _ _ S k e => ⟨false, S, k.wk, e.sel [0, 1, 2], oi hG⟩)))))))
       ·refine rg (rn 2 [] f0 [(103, B v_36)] (sb 103 (bt h_37) (rn 5 [] f0 [(108, B (((v_3.length : Nat) : Int) == 20))] ?_)))
        try simp only [List.length_map, KLeaderL.n_Open] at h_38
        refine sb 108 (bt h_38) (rn 5 [] f0 [(113, B (((v_6.length : Nat) : Int) == 40))] ?_)
        try simp only [List.length_map, KLeaderL.n_Open] at h_39
        exact sb 113 (bt h_39) (rn 4 [] f0 [(117, B (v_11 == 40))] (sb 117 (bf h_40) (ra [] f0 [(20, B false)] (tN (fun _ _ S k e => ⟨false, S, k.wk, e.sel [0, 1, 2], oi hG⟩)))))
      ·refine rg (rn 2 [] f0 [(103, B v_36)] (sb 103 (bt h_37) (rn 5 [] f0 [(108, B (((v_3.length : Nat) : Int) == 20))] ?_)))
       try simp only [List.length_map, KLeaderL.n_Open] at h_38
       refine sb 108 (bt h_38) (rn 5 [] f0 [(113, B (((v_6.length : Nat) : Int) == 40))] ?_)
       try simp only [List.length_map, KLeaderL.n_Open] at h_39
       exact sb 113 (bf h_39) (ra [] f0 [(20, B false)] (tN (fun _ _ S k e => ⟨false, S, k.wk, e.sel [0, 1, 2], oi hG⟩)))
     ·refine rg (rn 2 [] f0 [(103, B v_36)] (sb 103 (bt h_37) (rn 5 [] f0 [(108, B (((v_3.length : Nat) : Int) == 20))] ?_)))
      try simp only [List.length_map, KLeaderL.n_Open] at h_38
      exact sb 108 (bf h_38) (ra [] f0 [(20, B false)] (tN (fun _ _ S k e => ⟨false, S, k.wk, e.sel [0, 1, 2], oi hG⟩)))
    ·exact rg (rn 2 [] f0 [(103, B v_36)] (sb 103 (bf h_37) (ra [] f0 [(20, B false)] (tN (fun _ _ S k e => ⟨false, S, k.wk, e.sel [0, 1, 2], oi hG⟩)))))
   ·rintro a w ⟨v_47, hJ⟩; refine hJ.go fun ho_ => ?_
    clear hJ; subst ho_; replace hG := hG_46; obtain ⟨o_55, hG, hG_55⟩ := bs hG; refine jn (fun K E a w => ∃ v_56 : Bool, Js S0 w0 163 ([(0, B v_56)] ++ K) (se E []) (v_56 = o_55) a w) ?_ ?_
    ·rcases ic hG with ⟨h_48, hG⟩ | ⟨h_48, hG⟩
     ·rcases ic hG with ⟨h_49, hG⟩ | ⟨h_49, hG⟩
      ·rcases ic hG with ⟨h_50, hG⟩ | ⟨h_50, hG⟩
       ·rcases ic hG with ⟨h_51, hG⟩ | ⟨h_51, hG⟩
        ·obtain ⟨v_52, hy_52, hG⟩ := bs hG; refine rg (rn 2 [] f0 [(138, B v_47)] (sb 138 (bt h_48) (rn 5 [(1, 1, 2, 0)] f0 [(143, B (v_17.Last == 111))] (sb 143 (bt h_49) (rn 6 [(1, 1, 2, 2)] f0 [(149, B (((v_17.Open.length : Nat) : Int) == 0))] ?_)))))
         try simp only [List.length_map, KLeaderL.n_Open] at h_50
         refine sb 149 (bt h_50) (rn 6 [(1, 1, 2, 1)] f0 [(155, B (((v_17.Store.length : Nat) : Int) == 2))] ?_)
         try simp only [List.length_map, KLeaderL.n_Open] at h_51
         exact sb 155 (bt h_51) (fx inf38 (gd' (RowC v_17.Store_A v_17.Store_c KVersion.cells tr v_17.Store) 0) hy_52 fun b_53 o_54 hi_52 => ra [(1, 1, 3, 1), (0, 0, 0, 0), (0, 4, 0, 0), (1, 0, 0, 0)] (fc (hi_52 .i64) (fc (eql_KVersion v_52 (⟨5, 111, 7, false⟩ : KVersion)) f0)) [(0, B (decide (v_52 = (⟨5, 111, 7, false⟩ : KVersion))))] (tN (fun _ _ S k e => ⟨decide (v_52 = (⟨5, 111, 7, false⟩ : KVersion)), S, k.wk, e.sel [], oi hG⟩)))
        ·refine rg (rn 2 [] f0 [(138, B v_47)] (sb 138 (bt h_48) (rn 5 [(1, 1, 2, 0)] f0 [(143, B (v_17.Last == 111))] (sb 143 (bt h_49) (rn 6 [(1, 1, 2, 2)] f0 [(149, B (((v_17.Open.length : Nat) : Int) == 0))] ?_)))))
         try simp only [List.length_map, KLeaderL.n_Open] at h_50
         refine sb 149 (bt h_50) (rn 6 [(1, 1, 2, 1)] f0 [(155, B (((v_17.Store.length : Nat) : Int) == 2))] ?_)
         try simp only [List.length_map, KLeaderL.n_Open] at h_51
         exact sb 155 (bf h_51) (ra [] f0 [(0, B false)] (tN (fun _ _ S k e => ⟨false, S, k.wk, e.sel [], oi hG⟩)))
       ·refine rg (rn 2 [] f0 [(138, B v_47)] (sb 138 (bt h_48) (rn 5 [(1, 1, 2, 0)] f0 [(143, B (v_17.Last == 111))] (sb 143 (bt h_49) (rn 6 [(1, 1, 2, 2)] f0 [(149, B (((v_17.Open.length : Nat) : Int) == 0))] ?_)))))
        try simp only [List.length_map, KLeaderL.n_Open] at h_50
        exact sb 149 (bf h_50) (ra [] f0 [(0, B false)] (tN (fun _ _ S k e => ⟨false, S, k.wk, e.sel [], oi hG⟩)))
      ·exact rg (rn 2 [] f0 [(138, B v_47)] (sb 138 (bt h_48) (rn 5 [(1, 1, 2, 0)] f0 [(143, B (v_17.Last == 111))] (sb 143 (bf h_49) (ra [] f0 [(0, B false)] (tN (fun _ _ S k e => ⟨false, S, k.wk, e.sel [], oi hG⟩)))))))
     ·exact rg (rn 2 [] f0 [(138, B v_47)] (sb 138 (bf h_48) (ra [] f0 [(0, B false)] (tN (fun _ _ S k e => ⟨false, S, k.wk, e.sel [], oi hG⟩)))))
    ·rintro a w ⟨v_56, hJ⟩; refine hJ.go fun ho_ => ?_
     clear hJ; subst ho_; replace hG := hG_55; refine kR ?_; obtain rfl := oi hG; exact rt []
end Go.Proofs.Ytlfkgbideknkhaa
namespace Go.Proofs.Ytlfkgbideknkhaa
open Go.RowKit Go.Maps
end Go.Proofs.Ytlfkgbideknkhaa
namespace Go.Proofs.Ytlfkgbideknkhaa
open Go.RowKit Go.Maps
end Go.Proofs.Ytlfkgbideknkhaa
namespace Go.Proofs.Ytlfkgbideknkhaa
open Go.RowKit Go.Maps
def G_regulatorlaw37_JournalGoesOn (F : Nat) (p_0 : List Int) (p_1 : KTx) (p_2 : KInterval) : Option (Bool) :=
  Option.bind (G_regulatorlaw37_head F ) (fun v_3 =>
  Option.bind (G_regulatorlaw37_few F p_0) (fun v_4 =>
  Option.bind (G_regulatorref34_FewTxs F ([p_1] : List KTx)) (fun v_6 =>
  ifB (v_6)
    (Option.bind (G_journal_Recover F v_4) (un3 fun v_8 v_9 v_10 =>
    Option.bind (G_journal_Load F v_4) (un3 fun v_12 v_13 v_14 =>
    Option.bind (ifB ((v_10 == 0))
        (ifB ((v_14 == 0))
          (ifB ((v_9 == v_13))
            (ifB (decide (v_9 < 0))
              (some true)
              (ifB (decide (v_9 > ((v_4.length : Nat) : Int)))
                (some true)
                (Option.bind (G_commit_Valid F v_8) (fun v_20 =>
                ifB (v_20)
                  (some (!(((v_8.Open.length : Nat) : Int) == 0)))
                  (some true)))))
            (some true))
          (some true))
        (some true) : Option (Bool)) (fun (v_23 : Bool) => 
      ifB (v_23)
        (some false)
        (Option.bind (G_commit_Stamp F v_8 p_1 p_2) (un3 fun v_25 v_26 v_27 =>
        ifB ((v_27 == 0))
          (Option.bind (Option.bind (iter (σ := Bool × Int) (ρ := Bool) (un2 fun (v_51 : Bool) (v_52 : Int) => 
                (ifB (decide (v_52 < ((v_12.length : Nat) : Int)))
                  (Option.bind (Option.bind (ixI v_12 v_52) (fun v_55 =>
                    ifB (v_51)
                      (ifB (decide (v_55.Ts < v_26.Ts))
                        (some (decide (v_55.Ts ≤ v_8.Last)))
                        (some false))
                      (some false)) : Option (Bool)) (fun (v_62 : Bool) => 
                    some (.inl (v_62, IntKind.i64.wrap (v_52 + 1)))))
                  (some (.inr v_51)) : Option ((Bool × Int) ⊕ Bool))) F (v_3, 0)) (fun (v_63 : Bool) => 
              some v_63) : Option (Bool)) (fun (v_65 : Bool) => 
            Option.bind (slI v_4 0 v_9) (fun v_66 =>
            Option.bind (G_journal_Append F v_66 v_26) (un2 fun v_67 v_68 =>
            Option.bind (G_journal_Recover F v_67) (un3 fun v_69 v_70 v_71 =>
            ifB ((v_26.Ts == 3000000000000000))
              (Option.bind (ifB (v_65)
                  (some (v_68 == 0))
                  (some false) : Option (Bool)) (fun (v_76 : Bool) => 
                some v_76))
              (Option.bind (G_commit_Show F v_25 (⟨IntKind.i64.wrap (v_26.Ts + 1), IntKind.i64.wrap (v_26.Ts + 1)⟩ : KInterval)) (un3 fun v_77 v_78 v_79 =>
              Option.bind (ifB (v_65)
                  (ifB ((v_68 == 0))
                    (ifB ((v_71 == 0))
                      (ifB ((v_79 == 0))
                        (ifB ((v_70 == ((v_67.length : Nat) : Int)))
                          (Option.bind (G_regulatorref34_Same F v_69 v_77) (fun v_86 =>
                          some v_86))
                          (some false))
                        (some false))
                      (some false))
                    (some false))
                  (some false) : Option (Bool)) (fun (v_88 : Bool) => 
                some v_88))))))))
          (some v_3)))))))
    (some v_3))))
set_option maxRecDepth 100000 in
set_option maxHeartbeats 16000000 in
theorem z_regulatorlaw37_JournalGoesOn (F : Nat) (p_0_A : Option Addr) (p_0_c : Nat) (p_0 : List Int) (p_1 : KTxL) (p_2 : KInterval) (r : Bool) (hG : G_regulatorlaw37_JournalGoesOn F p_0 p_1.p p_2 = some r) :
  Cf Try.prog 6 [.slice p_0_A p_0.length p_0_c, .agg #[I p_1.ID, I p_1.Ts, .slice p_1.Reads_A p_1.Reads.length p_1.Reads_c, .slice p_1.Writes_A p_1.Writes.length p_1.Writes_c], .agg #[I p_2.Lo, I p_2.Hi]] [RowC p_0_A p_0_c c_u8 tr p_0, KTxL.ok p_1] (B r) := by
 unfold G_regulatorlaw37_JournalGoesOn at hG
 try simp only [List.length_map, KLeaderL.n_Open] at hG
 refine fi Try.func6 rfl rfl (mr tr_mv (mc KTxL.mv m0)) fun S0 w0 hT => sq (rg (l1 (nw 4 vp [I p_1.ID, I p_1.Ts, .slice p_1.Reads_A p_1.Reads.length p_1.Reads_c, .slice p_1.Writes_A p_1.Writes.length p_1.Writes_c] 26 fun g_1 => l1 (nw 5 vp [I p_2.Lo, I p_2.Hi] 50 fun g_2 => ra [] f0 [] (tN (sq ?_))))))
 obtain ⟨v_3, hy_3, hG⟩ := bs hG; refine rg (l1 (cl 27 (z_regulatorlaw37_head F  _ hy_3) hT trivial (ra [] f0 [(7, B v_3)] (tN (sq ?_))))); obtain ⟨v_4o, hy_4, hG⟩ := bs hG; refine rg (rn 1 [] f0 [(28, .slice p_0_A p_0.length p_0_c)] (l1 (cn 29 (z_regulatorlaw37_few F p_0_A p_0_c p_0 _ hy_4) hT (fun _ => (mr tr_mv m0)) ⟨gi 2, trivial⟩ ?_))); rintro ⟨v_4_A, v_4_c, v_4⟩ hq_4; obtain rfl : v_4 = v_4o := hq_4.symm
 try simp only [List.length_map, KLeaderL.n_Open] at hG
 refine ra [] f0 [(0, .slice v_4_A v_4.length v_4_c)] (tN (sq (sq ?_))); obtain ⟨v_6, hy_6, hG⟩ := bs hG; refine rg (rn 1 [(0, 4, 2, 0)] f0 [(30, .agg #[I p_1.ID, I p_1.Ts, .slice p_1.Reads_A p_1.Reads.length p_1.Reads_c, .slice p_1.Writes_A p_1.Writes.length p_1.Writes_c])] (l1 (nw 31 (vs 1) [I p_1.ID, I p_1.Ts, .slice p_1.Reads_A p_1.Reads.length p_1.Reads_c, .slice p_1.Writes_A p_1.Writes.length p_1.Writes_c] 26 fun g_5 => l1 (cl 32 (z_regulatorref34_FewTxs F (some ⟨g_5, 0, none⟩) 1 ([p_1] : List KTxL) _ hy_6) hT ⟨ba 0 (ec (gi 5) e0).a, trivial⟩ (ra [] f0 [(33, B (!v_6))] (tN ?_)))))); rcases ic hG with ⟨h_7, hG⟩ | ⟨h_7, hG⟩
 ·refine sb 33 (nt h_7) (cf (kS (tN (sq ?_)))); obtain ⟨v_8o, v_9, v_10, hy_8, hG⟩ := b3 hG; refine rg (rn 1 [] f0 [(36, .slice v_4_A v_4.length v_4_c)] (l1 (cn 37 (z_journal_Recover F v_4_A v_4_c v_4 _ hy_8) hT (fun _ => (mc KLeaderL.mv m0)) ⟨gi 1, trivial⟩ ?_))); rintro v_8 hq_8; obtain rfl : v_8.p = v_8o := hq_8.symm
  try simp only [List.length_map, KLeaderL.n_Open] at hG
  refine rn 4 [] f0 (ns 38 [.agg #[I v_8.Last, .slice v_8.Store_A v_8.Store.length v_8.Store_c, .slice v_8.Open_A v_8.Open.length v_8.Open_c], I v_9, I v_10]) (l1 (nw 8 vp [I 0, .slice none 0 0, .slice none 0 0] 40 fun g_11 => l1 (sr 0 g_11 (ns 0 [I v_8.Last, .slice v_8.Store_A v_8.Store.length v_8.Store_c, .slice v_8.Open_A v_8.Open.length v_8.Open_c]) (ra [] f0 [(9, I v_9), (10, I v_10)] (tN (sq ?_)))))); obtain ⟨v_12o, v_13, v_14, hy_12, hG⟩ := b3 hG; refine rg (rn 1 [] f0 [(42, .slice v_4_A v_4.length v_4_c)] (l1 (cn 43 (z_journal_Load F v_4_A v_4_c v_4 _ hy_12) hT (fun _ => (mr KTxL.mv m0)) ⟨gi 3, trivial⟩ ?_))); rintro ⟨v_12_A, v_12_c, v_12⟩ hq_12; obtain rfl : (v_12.map KTxL.p) = v_12o := hq_12.symm
  try simp only [List.length_map, KLeaderL.n_Open] at hG
  refine ra [] f0 (ns 11 [.slice v_12_A v_12.length v_12_c, I v_13, I v_14]) (tN (sq ?_)); obtain ⟨o_22, hG, hG_22⟩ := bs hG; refine jn (fun K E a w => ∃ v_23 : Bool, Js S0 w0 171 ([(78, B v_23)] ++ K) ([.dat (RowC p_1.Reads_A p_1.Reads_c KSeen.cells tr p_1.Reads), .dat (RowC p_1.Writes_A p_1.Writes_c KWrite.cells tr p_1.Writes), .dat (RowC v_8.Store_A v_8.Store_c KVersion.cells tr v_8.Store), .dat (RowC v_8.Open_A v_8.Open_c KTxL.cells KTxL.ok v_8.Open)] ++ se E [0, 1, 4, 5, 6]) (v_23 = o_22) a w) ?_ ?_
  ·rcases ic hG with ⟨h_15, hG⟩ | ⟨h_15, hG⟩
   ·rcases ic hG with ⟨h_16, hG⟩ | ⟨h_16, hG⟩
    ·rcases ic hG with ⟨h_17, hG⟩ | ⟨h_17, hG⟩
     ·rcases ic hG with ⟨h_18, hG⟩ | ⟨h_18, hG⟩
      ·exact rg (rn 3 [] f0 [(49, B (!(v_10 == 0)))] (sb 49 (nt h_15) (rn 4 [] f0 [(53, B (!(v_14 == 0)))] (sb 53 (nt h_16) (rn 5 [] f0 [(58, B (!(v_9 == v_13)))] (sb 58 (nt h_17) (rn 4 [] f0 [(62, B (decide (v_9 < 0)))] (sb 62 (bt h_18) (ra [] f0 [(78, B true)] (tN (fg (KTxL.ok p_1) 8 (fun _ _ h => h.f_Reads) (fg (KTxL.ok p_1) 9 (fun _ _ h => h.f_Writes) (fg (KLeaderL.ok v_8) 4 (fun _ _ h => h.f_Store) (fg (KLeaderL.ok v_8) 5 (fun _ _ h => h.f_Open) (fun _ _ S k e => ⟨true, S, k.wk, e.sel [3, 2, 1, 0, 4, 5, 8, 9, 10], oi hG⟩)))))))))))))))
      ·rcases ic hG with ⟨h_19, hG⟩ | ⟨h_19, hG⟩
       ·refine rg (rn 3 [] f0 [(49, B (!(v_10 == 0)))] (sb 49 (nt h_15) (rn 4 [] f0 [(53, B (!(v_14 == 0)))] (sb 53 (nt h_16) (rn 5 [] f0 [(58, B (!(v_9 == v_13)))] (sb 58 (nt h_17) (rn 4 [] f0 [(62, B (decide (v_9 < 0)))] (sb 62 (bf h_18) (rn 6 [] f0 [(68, B (decide (v_9 > ((v_4.length : Nat) : Int))))] ?_)))))))))
        try simp only [List.length_map, KLeaderL.n_Open] at h_19
        exact sb 68 (bt h_19) (ra [] f0 [(78, B true)] (tN (fg (KTxL.ok p_1) 8 (fun _ _ h => h.f_Reads) (fg (KTxL.ok p_1) 9 (fun _ _ h => h.f_Writes) (fg (KLeaderL.ok v_8) 4 (fun _ _ h => h.f_Store) (fg (KLeaderL.ok v_8) 5 (fun _ _ h => h.f_Open) (fun _ _ S k e => ⟨true, S, k.wk, e.sel [3, 2, 1, 0, 4, 5, 8, 9, 10], oi hG⟩)))))))
       ·obtain ⟨v_20, hy_20, hG⟩ := bs hG; rcases ic hG with ⟨h_21, hG⟩ | ⟨h_21, hG⟩
        ·refine rg (rn 3 [] f0 [(49, B (!(v_10 == 0)))] (sb 49 (nt h_15) (rn 4 [] f0 [(53, B (!(v_14 == 0)))] (sb 53 (nt h_16) (rn 5 [] f0 [(58, B (!(v_9 == v_13)))] (sb 58 (nt h_17) (rn 4 [] f0 [(62, B (decide (v_9 < 0)))] (sb 62 (bf h_18) (rn 6 [] f0 [(68, B (decide (v_9 > ((v_4.length : Nat) : Int))))] ?_)))))))))
         try simp only [List.length_map, KLeaderL.n_Open] at h_19
         exact sb 68 (bf h_19) (rn 1 [(0, 3, 1, 0)] f0 [(69, .agg #[I v_8.Last, .slice v_8.Store_A v_8.Store.length v_8.Store_c, .slice v_8.Open_A v_8.Open.length v_8.Open_c])] (l1 (cl 70 (z_commit_Valid F v_8 _ hy_20) hT ⟨(gi 2).a, trivial⟩ (rn 3 [] f0 [(73, B (!v_20))] (sb 73 (nt h_21) (ra [(1, 1, 1, 2)] f0 [(78, B (!(((v_8.Open.length : Nat) : Int) == 0)))] (tN (fg (KTxL.ok p_1) 8 (fun _ _ h => h.f_Reads) (fg (KTxL.ok p_1) 9 (fun _ _ h => h.f_Writes) (fg (KLeaderL.ok v_8) 4 (fun _ _ h => h.f_Store) (fg (KLeaderL.ok v_8) 5 (fun _ _ h => h.f_Open) (fun _ _ S k e => ⟨!(((v_8.Open.length : Nat) : Int) == 0), S, k.wk, e.sel [3, 2, 1, 0, 4, 5, 8, 9, 10], oi hG⟩))))))))))))
        ·refine rg (rn 3 [] f0 [(49, B (!(v_10 == 0)))] (sb 49 (nt h_15) (rn 4 [] f0 [(53, B (!(v_14 == 0)))] (sb 53 (nt h_16) (rn 5 [] f0 [(58, B (!(v_9 == v_13)))] (sb 58 (nt h_17) (rn 4 [] f0 [(62, B (decide (v_9 < 0)))] (sb 62 (bf h_18) (rn 6 [] f0 [(68, B (decide (v_9 > ((v_4.length : Nat) : Int))))] ?_)))))))))
         try simp only [List.length_map, KLeaderL.n_Open] at h_19
         exact sb 68 (bf h_19) (rn 1 [(0, 3, 1, 0)] f0 [(69, .agg #[I v_8.Last, .slice v_8.Store_A v_8.Store.length v_8.Store_c, .slice v_8.Open_A v_8.Open.length v_8.Open_c])] (l1 (cl 70 (z_commit_Valid F v_8 _ hy_20) hT ⟨(gi 2).a, trivial⟩ (rn 3 [] f0 [(73, B (!v_20))] (sb 73 (nf h_21) (ra [] f0 [(78, B true)] (tN (fg (KTxL.ok p_1) 8 (fun _ _ h => h.f_Reads) (fg (KTxL.ok p_1) 9 (fun _ _ h => h.f_Writes) (fg (KLeaderL.ok v_8) 4 (fun _ _ h => h.f_Store) (fg (KLeaderL.ok v_8) 5 (fun _ _ h => h.f_Open) (fun _ _ S k e => ⟨true, S, k.wk, e.sel [3, 2, 1, 0, 4, 5, 8, 9, 10], oi hG⟩))))))))))))
     ·exact rg (rn 3 [] f0 [(49, B (!(v_10 == 0)))] (sb 49 (nt h_15) (rn 4 [] f0 [(53, B (!(v_14 == 0)))] (sb 53 (nt h_16) (rn 5 [] f0 [(58, B (!(v_9 == v_13)))] (sb 58 (nf h_17) (ra [] f0 [(78, B true)] (tN (fg (KTxL.ok p_1) 8 (fun _ _ h => h.f_Reads) (fg (KTxL.ok p_1) 9 (fun _ _ h => h.f_Writes) (fg (KLeaderL.ok v_8) 4 (fun _ _ h => h.f_Store) (fg (KLeaderL.ok v_8) 5 (fun _ _ h => h.f_Open) (fun _ _ S k e => ⟨true, S, k.wk, e.sel [3, 2, 1, 0, 4, 5, 8, 9, 10], oi hG⟩)))))))))))))
    ·exact rg (rn 3 [] f0 [(49, B (!(v_10 == 0)))] (sb 49 (nt h_15) (rn 4 [] f0 [(53, B (!(v_14 == 0)))] (sb 53 (nf h_16) (ra [] f0 [(78, B true)] (tN (fg (KTxL.ok p_1) 8 (fun _ _ h => h.f_Reads) (fg (KTxL.ok p_1) 9 (fun _ _ h => h.f_Writes) (fg (KLeaderL.ok v_8) 4 (fun _ _ h => h.f_Store) (fg (KLeaderL.ok v_8) 5 (fun _ _ h => h.f_Open) (fun _ _ S k e => ⟨true, S, k.wk, e.sel [3, 2, 1, 0, 4, 5, 8, 9, 10], oi hG⟩)))))))))))
   ·exact rg (rn 3 [] f0 [(49, B (!(v_10 == 0)))] (sb 49 (nf h_15) (ra [] f0 [(78, B true)] (tN (fg (KTxL.ok p_1) 8 (fun _ _ h => h.f_Reads) (fg (KTxL.ok p_1) 9 (fun _ _ h => h.f_Writes) (fg (KLeaderL.ok v_8) 4 (fun _ _ h => h.f_Store) (fg (KLeaderL.ok v_8) 5 (fun _ _ h => h.f_Open) (fun _ _ S k e => ⟨true, S, k.wk, e.sel [3, 2, 1, 0, 4, 5, 8, 9, 10], oi hG⟩)))))))))
  ·rintro a w ⟨v_23, hJ⟩; refine hJ.go fun ho_ => ?_
   clear hJ; subst ho_; replace hG := hG_22; rcases ic hG with ⟨h_24, hG⟩ | ⟨h_24, hG⟩
   ·refine sb 78 (bt h_24) (ct (sq (rg (ra [] f0 [(6, B false)] (tN (kR (tR ?_))))))); obtain rfl := oi hG; exact rt []
   ·refine sb 78 (bf h_24) (cf (kS (tN (sq ?_)))); obtain ⟨v_25o, v_26o, v_27, hy_25, hG⟩ := b3 hG; refine rg (rn 3 [(0, 3, 5, 0), (0, 4, 8, 0), (0, 2, 7, 0)] f0 (ns 80 [.agg #[I v_8.Last, .slice v_8.Store_A v_8.Store.length v_8.Store_c, .slice v_8.Open_A v_8.Open.length v_8.Open_c], .agg #[I p_1.ID, I p_1.Ts, .slice p_1.Reads_A p_1.Reads.length p_1.Reads_c, .slice p_1.Writes_A p_1.Writes.length p_1.Writes_c], .agg #[I p_2.Lo, I p_2.Hi]]) (l1 (cn 83 (z_commit_Stamp F v_8 p_1 p_2 _ hy_25) hT (fun _ => (mc KLeaderL.mv (mc KTxL.mv m0))) ⟨((Fd.two ((gd' (RowC v_8.Store_A v_8.Store_c KVersion.cells tr v_8.Store) 2)) ((gd' (RowC v_8.Open_A v_8.Open_c KTxL.cells KTxL.ok v_8.Open) 3))).m fun _ _ h => ⟨h.1, h.2⟩), ((Fd.two ((gd' (RowC p_1.Reads_A p_1.Reads_c KSeen.cells tr p_1.Reads) 0)) ((gd' (RowC p_1.Writes_A p_1.Writes_c KWrite.cells tr p_1.Writes) 1))).m fun _ _ h => ⟨h.1, h.2⟩), trivial⟩ ?_))); rintro ⟨v_25, v_26⟩ ⟨hq_25, hq_26⟩; obtain rfl : v_25.p = v_25o := hq_25.symm; obtain rfl : v_26.p = v_26o := hq_26.symm
    try simp only [List.length_map, KLeaderL.n_Open] at hG
    refine rn 4 [] f0 (ns 84 [.agg #[I v_25.Last, .slice v_25.Store_A v_25.Store.length v_25.Store_c, .slice v_25.Open_A v_25.Open.length v_25.Open_c], .agg #[I v_26.ID, I v_26.Ts, .slice v_26.Reads_A v_26.Reads.length v_26.Reads_c, .slice v_26.Writes_A v_26.Writes.length v_26.Writes_c], I v_27]) (l1 (nw 14 vp [I 0, .slice none 0 0, .slice none 0 0] 40 fun g_28 => l1 (nw 15 vp (KTxL.cells KTxL.z) 26 fun g_29 => l1 (sr 1 g_28 (ns 0 [I v_25.Last, .slice v_25.Store_A v_25.Store.length v_25.Store_c, .slice v_25.Open_A v_25.Open.length v_25.Open_c]) (l1 (sr 0 g_29 (ns 0 [I v_26.ID, I v_26.Ts, .slice v_26.Reads_A v_26.Reads.length v_26.Reads_c, .slice v_26.Writes_A v_26.Writes.length v_26.Writes_c]) (ra [] f0 [(16, I v_27)] (tN (sq (sq (rg (ra [] f0 [(88, B (!(v_27 == 0)))] (tN ?_))))))))))))); rcases ic hG with ⟨h_30, hG⟩ | ⟨h_30, hG⟩
    ·refine sb 88 (nt h_30) (cf (kS (tN ?_))); obtain ⟨o_64, hG, hG_64⟩ := bs hG; refine jn (fun K E a w => ∃ v_65 : Bool, Js S0 w0 171 ([(7, B v_65)] ++ K) ([.dat (RowC v_25.Store_A v_25.Store_c KVersion.cells tr v_25.Store), .dat (RowC v_25.Open_A v_25.Open_c KTxL.cells KTxL.ok v_25.Open), .dat (RowC v_26.Reads_A v_26.Reads_c KSeen.cells tr v_26.Reads), .dat (RowC v_26.Writes_A v_26.Writes_c KWrite.cells tr v_26.Writes)] ++ se E [0, 1, 10]) (v_65 = o_64) a w) ?_ ?_
     ·refine sq (rg (ra [] f0 (ns 90 [.slice v_12_A v_12.length v_12_c, I ((v_12.length : Nat) : Int), I 0]) (tN (bk ?_)))); obtain ⟨e_53, hL, hG_53⟩ := bs hG; clear hG; obtain ⟨stp_53, hs_53, hL⟩ := iter_gen hL; refine lp (fun K E n_ a w => ∃ (v_51 : Bool) (v_52 : Int), Js S0 w0 171 ([(7, B v_51), (92, I v_52)] ++ K) ([.dat (RowC v_25.Store_A v_25.Store_c KVersion.cells tr v_25.Store), .dat (RowC v_25.Open_A v_25.Open_c KTxL.cells KTxL.ok v_25.Open), .dat (RowC v_26.Reads_A v_26.Reads_c KSeen.cells tr v_26.Reads), .dat (RowC v_26.Writes_A v_26.Writes_c KWrite.cells tr v_26.Writes)] ++ se E [0, 1, 6, 7, 8, 9, 10]) (iter stp_53 n_ (v_51, v_52) = some e_53) a w) F ?_ ?_
      ·exact fg (KLeaderL.ok v_25) 2 (fun _ _ h => h.f_Store) (fg (KLeaderL.ok v_25) 3 (fun _ _ h => h.f_Open) (fg (KTxL.ok v_26) 5 (fun _ _ h => h.f_Reads) (fg (KTxL.ok v_26) 6 (fun _ _ h => h.f_Writes) (fun _ _ S k e => ⟨v_3, 0, S, k.wk, e.sel [3, 2, 1, 0, 4, 5, 10, 11, 12, 13, 14], hL⟩))))
      ·clear hL; rintro n_53 a w ⟨v_51, v_52, hJ⟩; refine hJ.go fun hL => ?_
       clear hJ; obtain ⟨m_53, o_53, rfl, hG, hO1_53, hO2_53⟩ := iter_step hL; clear hL; rw [hs_53] at hG; refine sq (rg (ra [] f0 [(93, B (decide (v_52 < ((v_12.length : Nat) : Int))))] (tN (sq ?_)))); rcases ic hG with ⟨h_54, hG⟩ | ⟨h_54, hG⟩
       ·try simp only [List.length_map, KLeaderL.n_Open] at h_54
        refine sb 93 (bt h_54) (ct (kS (tN ?_))); obtain ⟨o_61, hG, hG_61⟩ := bs hG; refine jn (fun K E a w => ∃ v_62 : Bool, Js S0 w0 171 ([(7, B v_62)] ++ K) (se E [0, 1, 2, 3, 4, 5, 6, 7, 8, 9, 10]) (v_62 = o_61) a w) ?_ ?_
        ·refine bk (sq ?_); obtain ⟨v_55o, hy_55, hG⟩ := bs hG; refine rg (fxn (p := KTxL.p) inf30 (gd' (RowC v_12_A v_12_c KTxL.cells KTxL.ok v_12) 8) hy_55 fun v_55 b_56 o_57 he_55 hi_55 => ?_); subst he_55
         try simp only [List.length_map, KLeaderL.n_Open] at hG
         refine rn 2 [(0, 0, 0, 0), (0, 4, 0, 0)] (fc (hi_55 .i64) f0) [(95, .agg #[I v_55.ID, I v_55.Ts, .slice v_55.Reads_A v_55.Reads.length v_55.Reads_c, .slice v_55.Writes_A v_55.Writes.length v_55.Writes_c])] (l1 (nw 18 vp (KTxL.cells KTxL.z) 26 fun g_58 => l1 (sr 0 g_58 (ns 0 [I v_55.ID, I v_55.Ts, .slice v_55.Reads_A v_55.Reads.length v_55.Reads_c, .slice v_55.Writes_A v_55.Writes.length v_55.Writes_c]) (nl (tN ?_))))); rcases ic hG with ⟨h_59, hG⟩ | ⟨h_59, hG⟩
         ·rcases ic hG with ⟨h_60, hG⟩ | ⟨h_60, hG⟩
          ·exact rg (rn 2 [] f0 [(97, B v_51)] (sb 97 (bt h_59) (rn 7 [(1, 1, 0, 1), (1, 1, 7, 1)] f0 [(104, B (decide (v_55.Ts < v_26.Ts)))] (sb 104 (bt h_60) (ra [(1, 1, 0, 1), (1, 1, 12, 0)] f0 [(7, B (decide (v_55.Ts ≤ v_8.Last)))] (hN (tN (fun _ _ S k e => ⟨decide (v_55.Ts ≤ v_8.Last), S, k.wk, e.sel [3, 4, 5, 6, 7, 8, 9, 10, 11, 12, 13], oi hG⟩))))))))
          ·exact rg (rn 2 [] f0 [(97, B v_51)] (sb 97 (bt h_59) (rn 7 [(1, 1, 0, 1), (1, 1, 7, 1)] f0 [(104, B (decide (v_55.Ts < v_26.Ts)))] (sb 104 (bf h_60) (ra [] f0 [(7, B false)] (hN (tN (fun _ _ S k e => ⟨false, S, k.wk, e.sel [3, 4, 5, 6, 7, 8, 9, 10, 11, 12, 13], oi hG⟩))))))))
         ·exact rg (rn 2 [] f0 [(97, B v_51)] (sb 97 (bf h_59) (ra [] f0 [(7, B false)] (hN (tN (fun _ _ S k e => ⟨false, S, k.wk, e.sel [3, 4, 5, 6, 7, 8, 9, 10, 11, 12, 13], oi hG⟩))))))
        ·rintro a w ⟨v_62, hJ⟩; refine hJ.go fun ho_ => ?_
         clear hJ; subst ho_; replace hG := hG_61; exact rg (ra [] f0 [(92, I (IntKind.i64.wrap (v_52 + 1)))] (tN (fun a w S hK hE => ⟨m_53, ⟨v_62, IntKind.i64.wrap (v_52 + 1), S, hK.wk, hE.sel [0, 1, 2, 3, 4, 5, 6, 7, 8, 9, 10], hO1_53 _ (oi hG).symm⟩, Nat.lt_succ_self _⟩)))
       ·try simp only [List.length_map, KLeaderL.n_Open] at h_54
        refine sb 93 (bf h_54) (cf (kX (tX (tX ?_)))); have he_ := hO2_53 _ (oi hG).symm; subst he_; replace hG := hG_53; exact hH (tN (fun _ _ S k e => ⟨v_51, S, k.wk, e.sel [0, 1, 2, 3, 4, 5, 10], oi hG⟩))
     ·rintro a w ⟨v_65, hJ⟩; refine hJ.go fun ho_ => ?_
      clear hJ; subst ho_; replace hG := hG_64; refine sq ?_; obtain ⟨v_66, hy_66, hG⟩ := bs hG; obtain ⟨v_67o, v_68, hy_67, hG⟩ := b2 hG; refine fp false true inf22 (gd' (RowC v_4_A v_4_c c_u8 tr v_4) 6) hy_66 fun v_66_A v_66_c hp_66 => hb [0, 1, 2, 3, 4, 5, 6, 7] (ht [0, 1, 2, 3, 4, 5, 6, 7] [0, 1, 2, 3] [(2, 0, 0, 0), (0, 4, 5, 0)] (fc (hp_66 .i64 .i64) f0) [(115, .slice v_66_A v_66.length v_66_c), (116, .agg #[I v_26.ID, I v_26.Ts, .slice v_26.Reads_A v_26.Reads.length v_26.Reads_c, .slice v_26.Writes_A v_26.Writes.length v_26.Writes_c])] (ho [4] ⟨h1 (cg 117 (z_journal_Append F v_66_A v_66_c v_66 v_26 _ hy_67) hT (fun _ => (mr tr_mv m0)) ⟨ga 0, ((Fd.two ((gd' (RowC v_26.Reads_A v_26.Reads_c KSeen.cells tr v_26.Reads) 3)) ((gd' (RowC v_26.Writes_A v_26.Writes_c KWrite.cells tr v_26.Writes) 4))).m fun _ _ h => ⟨h.1, h.2⟩).a, trivial⟩ ?_), trivial⟩))
      rintro ⟨v_67_A, v_67_c, v_67⟩ hq_67; obtain rfl : v_67 = v_67o := hq_67.symm
      try simp only [List.length_map, KLeaderL.n_Open] at hG
      refine hk [1, 2, 3, 4, 5, 6, 7, 8] (ht [1, 2, 3, 4, 5, 6, 7, 8] [5, 6, 7, 8, 9] [] f0 [(19, .slice v_67_A v_67.length v_67_c), (20, I v_68)] (he (tN (sq ?_)))); obtain ⟨v_69o, v_70, v_71, hy_69, hG⟩ := b3 hG; refine rg (rn 1 [] f0 [(121, .slice v_67_A v_67.length v_67_c)] (l1 (cn 122 (z_journal_Recover F v_67_A v_67_c v_67 _ hy_69) hT (fun _ => (mc KLeaderL.mv m0)) ⟨gi 0, trivial⟩ ?_))); rintro v_69 hq_69; obtain rfl : v_69.p = v_69o := hq_69.symm
      try simp only [List.length_map, KLeaderL.n_Open] at hG
      refine rn 4 [] f0 (ns 123 [.agg #[I v_69.Last, .slice v_69.Store_A v_69.Store.length v_69.Store_c, .slice v_69.Open_A v_69.Open.length v_69.Open_c], I v_70, I v_71]) (l1 (nw 21 vp [I 0, .slice none 0 0, .slice none 0 0] 40 fun g_72 => l1 (sr 0 g_72 (ns 0 [I v_69.Last, .slice v_69.Store_A v_69.Store.length v_69.Store_c, .slice v_69.Open_A v_69.Open.length v_69.Open_c]) (ra [] f0 [(22, I v_70), (23, I v_71)] (tN (sq (sq (rg (ra [(1, 1, 8, 1)] f0 [(128, B (v_26.Ts == 3000000000000000))] (tN ?_)))))))))); rcases ic hG with ⟨h_73, hG⟩ | ⟨h_73, hG⟩
      ·refine sb 128 (bt h_73) (ct ?_); obtain ⟨o_75, hG, hG_75⟩ := bs hG; refine jn (fun K E a w => ∃ v_76 : Bool, Js S0 w0 171 ([(6, B v_76)] ++ K) (se E []) (v_76 = o_75) a w) ?_ ?_
       ·rcases ic hG with ⟨h_74, hG⟩ | ⟨h_74, hG⟩
        ·exact rg (rn 2 [] f0 [(130, B v_65)] (sb 130 (bt h_74) (ra [] f0 [(6, B (v_68 == 0))] (tN (fun _ _ S k e => ⟨(v_68 == 0), S, k.wk, e.sel [], oi hG⟩)))))
        ·exact rg (rn 2 [] f0 [(130, B v_65)] (sb 130 (bf h_74) (ra [] f0 [(6, B false)] (tN (fun _ _ S k e => ⟨false, S, k.wk, e.sel [], oi hG⟩)))))
       ·rintro a w ⟨v_76, hJ⟩; refine hJ.go fun ho_ => ?_
        clear hJ; subst ho_; replace hG := hG_75; refine kR (tR ?_); obtain rfl := oi hG; exact rt []
      ·refine sb 128 (bf h_73) (cf (kS (tN (sq ?_)))); obtain ⟨v_77o, v_78o, v_79, hy_77, hG⟩ := b3 hG; refine rg (rn 8 [(0, 3, 9, 0), (1, 1, 8, 1), (2, 1, 8, 1)] f0 [(135, .agg #[I v_25.Last, .slice v_25.Store_A v_25.Store.length v_25.Store_c, .slice v_25.Open_A v_25.Open.length v_25.Open_c]), (142, .agg #[I (IntKind.i64.wrap (v_26.Ts + 1)), I (IntKind.i64.wrap (v_26.Ts + 1))])] (l1 (cn 143 (z_commit_Show F v_25 (⟨IntKind.i64.wrap (v_26.Ts + 1), IntKind.i64.wrap (v_26.Ts + 1)⟩ : KInterval) _ hy_77) hT (fun _ => (mc KLeaderL.mv (mr KTxL.mv m0))) ⟨((Fd.two ((gd' (RowC v_25.Store_A v_25.Store_c KVersion.cells tr v_25.Store) 4)) ((gd' (RowC v_25.Open_A v_25.Open_c KTxL.cells KTxL.ok v_25.Open) 5))).m fun _ _ h => ⟨h.1, h.2⟩), trivial⟩ ?_))); rintro ⟨v_77, ⟨v_78_A, v_78_c, v_78⟩⟩ ⟨hq_77, hq_78⟩; obtain rfl : v_77.p = v_77o := hq_77.symm; obtain rfl : (v_78.map KTxL.p) = v_78o := hq_78.symm
       try simp only [List.length_map, KLeaderL.n_Open] at hG
       refine rn 4 [] f0 (ns 144 [.agg #[I v_77.Last, .slice v_77.Store_A v_77.Store.length v_77.Store_c, .slice v_77.Open_A v_77.Open.length v_77.Open_c], .slice v_78_A v_78.length v_78_c, I v_79]) (l1 (nw 24 vp [I 0, .slice none 0 0, .slice none 0 0] 40 fun g_80 => l1 (sr 0 g_80 (ns 0 [I v_77.Last, .slice v_77.Store_A v_77.Store.length v_77.Store_c, .slice v_77.Open_A v_77.Open.length v_77.Open_c]) (ra [] f0 [(26, I v_79)] (tN ?_))))); obtain ⟨o_87, hG, hG_87⟩ := bs hG; refine jn (fun K E a w => ∃ v_88 : Bool, Js S0 w0 171 ([(6, B v_88)] ++ K) (se E []) (v_88 = o_87) a w) ?_ ?_
       ·rcases ic hG with ⟨h_81, hG⟩ | ⟨h_81, hG⟩
        ·rcases ic hG with ⟨h_82, hG⟩ | ⟨h_82, hG⟩
         ·rcases ic hG with ⟨h_83, hG⟩ | ⟨h_83, hG⟩
          ·rcases ic hG with ⟨h_84, hG⟩ | ⟨h_84, hG⟩
           ·rcases ic hG with ⟨h_85, hG⟩ | ⟨h_85, hG⟩
            ·obtain ⟨v_86, hy_86, hG⟩ := bs hG; refine rg (rn 2 [] f0 [(148, B v_65)] (sb 148 (bt h_81) (rn 4 [] f0 [(152, B (v_68 == 0))] (sb 152 (bt h_82) (rn 4 [] f0 [(156, B (v_71 == 0))] (sb 156 (bt h_83) (rn 4 [] f0 [(160, B (v_79 == 0))] (sb 160 (bt h_84) (rn 6 [] f0 [(166, B (v_70 == ((v_67.length : Nat) : Int)))] ?_)))))))))
             try simp only [List.length_map, KLeaderL.n_Open] at h_85
             exact sb 166 (bt h_85) (rn 2 [(0, 3, 3, 0), (0, 3, 0, 0)] f0 [(167, .agg #[I v_69.Last, .slice v_69.Store_A v_69.Store.length v_69.Store_c, .slice v_69.Open_A v_69.Open.length v_69.Open_c]), (168, .agg #[I v_77.Last, .slice v_77.Store_A v_77.Store.length v_77.Store_c, .slice v_77.Open_A v_77.Open.length v_77.Open_c])] (l1 (cl 169 (z_regulatorref34_Same F v_69 v_77 _ hy_86) hT ⟨(gi 4).a, (gi 1).a, trivial⟩ (ra [] f0 [(6, B v_86)] (tN (fun _ _ S k e => ⟨v_86, S, k.wk, e.sel [], oi hG⟩))))))
            ·refine rg (rn 2 [] f0 [(148, B v_65)] (sb 148 (bt h_81) (rn 4 [] f0 [(152, B (v_68 == 0))] (sb 152 (bt h_82) (rn 4 [] f0 [(156, B (v_71 == 0))] (sb 156 (bt h_83) (rn 4 [] f0 [(160, B (v_79 == 0))] (sb 160 (bt h_84) (rn 6 [] f0 [(166, B (v_70 == ((v_67.length : Nat) : Int)))] ?_)))))))))
             try simp only [List.length_map, KLeaderL.n_Open] at h_85
             exact sb 166 (bf h_85) (ra [] f0 [(6, B false)] (tN (fun _ _ S k e => ⟨false, S, k.wk, e.sel [], oi hG⟩)))
           ·exact rg (rn 2 [] f0 [(148, B v_65)] (sb 148 (bt h_81) (rn 4 [] f0 [(152, B (v_68 == 0))] (sb 152 (bt h_82) (rn 4 [] f0 [(156, B (v_71 == 0))] (sb 156 (bt h_83) (rn 4 [] f0 [(160, B (v_79 == 0))] (sb 160 (bf h_84) (ra [] f0 [(6, B false)] (tN (fun _ _ S k e => ⟨false, S, k.wk, e.sel [], oi hG⟩)))))))))))
          ·exact rg (rn 2 [] f0 [(148, B v_65)] (sb 148 (bt h_81) (rn 4 [] f0 [(152, B (v_68 == 0))] (sb 152 (bt h_82) (rn 4 [] f0 [(156, B (v_71 == 0))] (sb 156 (bf h_83) (ra [] f0 [(6, B false)] (tN (fun _ _ S k e => ⟨false, S, k.wk, e.sel [], oi hG⟩)))))))))
         ·exact rg (rn 2 [] f0 [(148, B v_65)] (sb 148 (bt h_81) (rn 4 [] f0 [(152, B (v_68 == 0))] (sb 152 (bf h_82) (ra [] f0 [(6, B false)] (tN (fun _ _ S k e => ⟨false, S, k.wk, e.sel [], oi hG⟩)))))))
        ·exact rg (rn 2 [] f0 [(148, B v_65)] (sb 148 (bf h_81) (ra [] f0 [(6, B false)] (tN (fun _ _ S k e => ⟨false, S, k.wk, e.sel [], oi hG⟩)))))
       ·rintro a w ⟨v_88, hJ⟩; refine hJ.go fun ho_ => ?_
        clear hJ; subst ho_; replace hG := hG_87; refine kR ?_; obtain rfl := oi hG; exact rt []
    ·refine sb 88 (nf h_30) (ct (sq (rg (ra [] f0 [(6, B v_3)] (tN (kR (tR ?_))))))); obtain rfl := oi hG; exact rt []
 ·refine sb 33 (nf h_7) (ct (sq (rg (ra [] f0 [(6, B v_3)] (tN (kR (tR ?_))))))); obtain rfl := oi hG; exact rt []
end Go.Proofs.Ytlfkgbideknkhaa
namespace Go.Proofs.Ytlfkgbideknkhaa
open Go.RowKit Go.Maps
end Go.Proofs.Ytlfkgbideknkhaa
namespace Go.Proofs.Ytlfkgbideknkhaa
theorem risF_iff : ∀ {l : List Int} {a : Int}, risF a l = true ↔ (a :: l).Pairwise (· < ·)
 | [], a => by simp [risF]
 | k :: ks, a => by
  unfold risF; rw [Bool.and_eq_true, decide_eq_true_eq, risF_iff, List.pairwise_cons (a := a)]; constructor
  ·rintro ⟨h1, h2⟩; refine ⟨fun x hx => ?_, h2⟩; rcases List.mem_cons.1 hx with rfl | hx
   ·exact h1
   ·exact Int.lt_trans h1 ((List.pairwise_cons.1 h2).1 x hx)
  ·rintro ⟨h1, h2⟩; exact ⟨h1 k List.mem_cons_self, h2⟩
theorem risF_take {l : List Int} {a : Int} (h : risF a l = true) (n : Nat) : risF a (l.take n) = true := by
 rw [risF_iff] at h ⊢; exact h.sublist (List.Sublist.cons_cons a (List.take_sublist n l))
def seenB (s : KSeen) : Bool := decide (s.Key ≤ 1000) && (decide (0 ≤ s.Ts) && decide (s.Ts ≤ 3000000000000000))
def writB (w : KWrite) : Bool := decide (w.Key ≤ 1000) && decide (0 ≤ w.Value) && decide (w.Value ≤ 1000000) && (!w.Gone || w.Value == 0)
def txS (t : KTx) : Bool :=
 decide (1 ≤ t.ID) && decide (t.ID ≤ 1000000) && decide (1 ≤ t.Ts) && decide (t.Ts ≤ 3000000000000000) && decide (t.Reads.length ≤ 8) && decide (t.Writes.length ≤ 8) &&
  t.Reads.all seenB && t.Writes.all writB && risF 0 (t.Reads.map (·.Key)) && risF 0 (t.Writes.map (·.Key))
def logS (l : List KTx) : Bool := l.all txS && risF 0 (l.map (·.Ts))
theorem logS_take {l : List KTx} (h : logS l = true) (n : Nat) : logS (l.take n) = true := by
 unfold logS at h ⊢; rw [Bool.and_eq_true] at h ⊢; refine ⟨List.all_eq_true.2 fun x hx => List.all_eq_true.1 h.1 x (List.mem_of_mem_take hx), ?_⟩; rw [List.map_take]; exact risF_take h.2 n
def vsOf (l : List KTx) : List Ver := l.flatMap fun t => t.Writes.map fun w => ⟨w.Key, t.Ts, w.Value, w.Gone⟩
structure Txs (t : KTx) : Prop where
 id : 1 ≤ t.ID ∧ t.ID ≤ 1000000
 ts : 1 ≤ t.Ts ∧ t.Ts ≤ 3000000000000000
 few : t.Reads.length ≤ 8 ∧ t.Writes.length ≤ 8
 rd : ∀ s ∈ t.Reads, seenB s = true
 wr : ∀ w ∈ t.Writes, writB w = true
 ru : (t.Reads.map (·.Key)).Pairwise (· < ·)
 wu : (t.Writes.map (·.Key)).Pairwise (· < ·)
 rp : ∀ s ∈ t.Reads, 0 < s.Key
 wp : ∀ w ∈ t.Writes, 0 < w.Key
theorem txs_iff (t : KTx) : txS t = true ↔ Txs t := by
 unfold txS; simp only [Bool.and_eq_true, decide_eq_true_eq, List.all_eq_true, risF_iff, List.pairwise_cons, List.mem_map]; constructor
 ·rintro ⟨⟨⟨⟨⟨⟨⟨⟨⟨h1, h2⟩, h3⟩, h4⟩, h5⟩, h6⟩, h7⟩, h8⟩, h9, h10⟩, h11, h12⟩; exact ⟨⟨h1, h2⟩, ⟨h3, h4⟩, ⟨h5, h6⟩, h7, h8, h10, h12, fun s hs => h9 s.Key ⟨s, hs, rfl⟩, fun w hw => h11 w.Key ⟨w, hw, rfl⟩⟩
 ·intro h; refine ⟨⟨⟨⟨⟨⟨⟨⟨⟨h.id.1, h.id.2⟩, h.ts.1⟩, h.ts.2⟩, h.few.1⟩, h.few.2⟩, h.rd⟩, h.wr⟩, ?_, h.ru⟩, ?_, h.wu⟩
  ·rintro x ⟨s, hs, rfl⟩; exact h.rp s hs
  ·rintro x ⟨w, hw, rfl⟩; exact h.wp w hw
theorem logS_iff (l : List KTx) : logS l = true ↔ (∀ t ∈ l, Txs t) ∧ l.Pairwise (fun a b => a.Ts < b.Ts) := by
 unfold logS; simp only [Bool.and_eq_true, List.all_eq_true, risF_iff, List.pairwise_cons, txs_iff, List.pairwise_map]; exact ⟨fun h => ⟨h.1, h.2.2⟩, fun h => ⟨h.1, fun x hx => by obtain ⟨t, ht, rfl⟩ := List.mem_map.1 hx; have := (h.1 t ht).ts.1; omega, h.2⟩⟩
theorem vs_wf {t : KTx} (h : Txs t) {w : KWrite} (hw : w ∈ t.Writes) : wfB ⟨w.Key, t.Ts, w.Value, w.Gone⟩ = true := by
 have h1 := h.wr w hw; have h2 := h.wp w hw; have h3 := h.ts; unfold writB at h1; simp only [Bool.and_eq_true, Bool.or_eq_true, decide_eq_true_eq] at h1; rw [wfB_eq]; unfold keyB stampB; simp only [Bool.and_eq_true, Bool.or_eq_true, decide_eq_true_eq]; exact ⟨⟨⟨⟨⟨by omega, by omega⟩, by omega, by omega⟩, by omega⟩, by omega⟩, h1.2⟩
theorem ins_of {l : List KTx} (h : logS l = true) : Ins (vsOf l) := by
 obtain ⟨h1, h2⟩ := (logS_iff l).1 h; refine ⟨fun v hv => ?_, ?_⟩
 ·obtain ⟨t, ht, hv⟩ := List.mem_flatMap.1 hv; obtain ⟨w, hw, rfl⟩ := List.mem_map.1 hv; exact vs_wf (h1 t ht) hw
 ·unfold vsOf; rw [List.pairwise_flatMap]; refine ⟨fun t ht => ?_, h2.imp fun {a b} hab x hx y hy _ => ?_⟩
  ·rw [List.pairwise_map]; have := (h1 t ht).wu; rw [List.pairwise_map] at this; exact this.imp fun {a b} hab e => by simp only at e; omega
  ·obtain ⟨w, _, rfl⟩ := List.mem_map.1 hx; obtain ⟨u, _, rfl⟩ := List.mem_map.1 hy; exact hab
theorem vs_len {l : List KTx} (h : logS l = true) : (vsOf l).length ≤ l.length * 8 := by
 have h1 := ((logS_iff l).1 h).1; clear h; unfold vsOf
 induction l with
 | nil => simp
 | cons t l ih =>
  rw [List.flatMap_cons, List.length_append, List.length_map, List.length_cons]; have i1 := ih fun x hx => h1 x (List.mem_cons_of_mem _ hx)
  have i2 := (h1 t List.mem_cons_self).few.2; exact Nat.le_trans (Nat.add_le_add i2 i1) (by omega)
theorem vs_app (a b : List KTx) : vsOf (a ++ b) = vsOf a ++ vsOf b := by unfold vsOf; rw [List.flatMap_append]
structure FewT (t : KTx) : Prop where
 r : t.Reads.length ≤ 20
 w : t.Writes.length ≤ 20
theorem leq (n m : Nat) : (((n : Nat) : Int) == ((m : Nat) : Int)) = decide (n = m) := by rw [Bool.eq_iff_iff]; simp; omega
theorem iff_bool {a b : Bool} (h : a = true ↔ b = true) : a = b := Bool.eq_iff_iff.2 h
theorem tx_ext (a b : KTx) : decide (a = b) = (decide (a.ID = b.ID) && (decide (a.Ts = b.Ts) && (decide (a.Reads = b.Reads) && decide (a.Writes = b.Writes)))) := by
 refine iff_bool ?_; simp only [Bool.and_eq_true, decide_eq_true_eq]; constructor
 ·rintro rfl; exact ⟨rfl, rfl, rfl, rfl⟩
 ·rintro ⟨h1, h2, h3, h4⟩; cases a; cases b; simp only at h1 h2 h3 h4; subst h1 h2 h3 h4; rfl
theorem beq_dec (a b : Int) : (a == b) = decide (a = b) := iff_bool (by simp)
theorem ris_ix {α : Type} (key : α → Int) (l : List α) : risF 0 (l.map key) = frL (fun k x => decide (1 ≤ key x) && (k == 0 || decide (((l.map key).getD (k - 1) 0) < key x))) l 0 := by
 refine iff_bool ?_; rw [risF_iff, frL_iff, List.pairwise_cons]; constructor
 ·rintro ⟨h1, h2⟩ j hj; simp only [Nat.zero_add, Bool.and_eq_true, Bool.or_eq_true, decide_eq_true_eq, beq_iff_eq]; have := h1 (key l[j]) (List.mem_map_of_mem (List.getElem_mem hj)); refine ⟨by omega, ?_⟩
  by_cases h0 : j = 0
  ·exact .inl h0
  ·refine .inr ?_; have h3 := List.pairwise_iff_getElem.1 h2 (j - 1) j (by simp; omega) (by simpa using hj) (by omega); rw [List.getD, List.getElem?_eq_getElem (by simp; omega), Option.getD_some]
   simpa using h3
 ·intro h; have hst : ∀ j (hj : j + 1 < (l.map key).length), (l.map key)[j]'(by omega) < (l.map key)[j + 1] := fun j hj => by
   have := h (j + 1) (by simpa using hj); simp only [Nat.zero_add, Bool.and_eq_true, Bool.or_eq_true, decide_eq_true_eq, beq_iff_eq] at this; have h3 := this.2.resolve_left (by omega); rw [Nat.add_sub_cancel, List.getD, List.getElem?_eq_getElem (by omega), Option.getD_some] at h3
   simpa using h3
  refine ⟨fun x hx => ?_, ?_⟩
  ·obtain ⟨y, hy, rfl⟩ := List.mem_map.1 hx; obtain ⟨j, hj, rfl⟩ := List.getElem_of_mem hy; have := h j hj; simp only [Nat.zero_add, Bool.and_eq_true, decide_eq_true_eq] at this; omega
  ·have key2 : ∀ (d i : Nat) (hj : i + d + 1 < (l.map key).length), (l.map key)[i]'(by omega) < (l.map key)[i + d + 1] := by
    intro d
    induction d with
    | zero => intro i hj; exact hst i hj
    | succ d ih =>
     intro i hj; have h1 := ih i (by omega); have h2 := hst (i + d + 1) (by omega); exact Int.lt_trans h1 h2
   rw [List.pairwise_iff_getElem]; intro i j hi hj hij; have := key2 (j - i - 1) i (by omega)
   simpa [show i + (j - i - 1) + 1 = j by omega] using this
theorem frL_and {α : Type} {p q : Nat → α → Bool} : ∀ {l : List α} {k : Nat}, frL (fun j x => p j x && q j x) l k = (frL p l k && frL q l k)
 | [], _ => rfl
 | x :: l, k => by
  rw [frL, frL, frL, frL_and]; cases p k x <;> cases q k x <;> cases frL p l (k + 1) <;> simp
theorem frL_all {α : Type} {p : α → Bool} : ∀ {l : List α} {k : Nat}, frL (fun _ x => p x) l k = l.all p
 | [], _ => rfl
 | x :: l, k => by rw [frL, List.all_cons, frL_all]
theorem getD_map {α : Type} (key : α → Int) {l : List α} {k : Nat} (h : k < l.length) : (l.map key).getD k 0 = key l[k] := by
 rw [List.getD, List.getElem?_eq_getElem (by simpa using h), Option.getD_some, List.getElem_map]
theorem same33_r (a b : List KVersion) {F : Nat} (hF : a.length < F) (hb : a.length ≤ 5000) : G_regulatorref33_Same F a b = some (decide (a = b)) := by
 unfold G_regulatorref33_Same
 by_cases hl : a.length = b.length
 ·rw [leq, decide_eq_true hl, ifB_t, iter_eqL a b hl (.inl ()) (.inr ()) ?_ ?_ hF]
  ·cases decide (a = b) <;> rfl
  ·simp only [ltn, ifB_f]
  ·intro k h1 h2; simp only [ltl h1, ifB_t, ixI_get h1, ixI_get h2, ob_some, w64_1 h1 (by omega)]; cases decide (a[k] = b[k]) <;> rfl
 ·rw [leq, decide_eq_false hl, ifB_f, decide_eq_false (fun e => hl (congrArg List.length e))]
end Go.Proofs.Ytlfkgbideknkhaa
namespace Go.Proofs.Ytlfkgbideknkhaa
def txF (t : KTx) : Bool :=
 decide (1 ≤ t.ID) && decide (t.ID ≤ 1000000) && decide (0 ≤ t.Ts) && decide (t.Ts ≤ 3000000000000000) && decide (t.Reads.length ≤ 8) && decide (t.Writes.length ≤ 8) &&
  t.Reads.all seenB && t.Writes.all writB && risF 0 (t.Reads.map (·.Key)) && risF 0 (t.Writes.map (·.Key))
theorem txS_F (t : KTx) : txS t = (txF t && decide (1 ≤ t.Ts)) := by
 unfold txS txF
 by_cases h : 1 ≤ t.Ts
 ·rw [decide_eq_true h, decide_eq_true (show 0 ≤ t.Ts by omega)]; simp
 ·rw [decide_eq_false h, Bool.and_false]; simp
theorem btw_p (F : Nat) (n a b : Int) : G_commit_between F n a b = some (decide (a ≤ n) && decide (n ≤ b)) := by
 unfold G_commit_between; cases decide (a ≤ n) <;> rfl
theorem win_p (F : Nat) (n a b : Int) : G_versions_within F n a b = some (decide (a ≤ n) && decide (n ≤ b)) := by
 unfold G_versions_within; cases decide (a ≤ n) <;> rfl
theorem iv_p (F : Nat) (i : KInterval) : G_interval_Valid F i = some (decide (0 ≤ i.Lo) && decide (i.Lo ≤ i.Hi) && decide (i.Hi ≤ 3000000000000000)) := by
 unfold G_interval_Valid; cases decide (0 ≤ i.Lo) <;> cases decide (i.Lo ≤ i.Hi) <;> rfl
theorem formed_p (t : KTx) (h : FewT t) {F : Nat} (hF : 64 ≤ F) : G_commit_work_formed F ⟨t⟩ = some (txF t) := by
 have hr := h.r; have hw := h.w; unfold G_commit_work_formed
 dsimp only
 rw [iter_chkU t.Reads (fun k x => seenB x && (decide (1 ≤ x.Key) && (k == 0 || decide ((t.Reads.map (·.Key)).getD (k - 1) 0 < x.Key)))) (.inl ()) (.inr ()) ?_ ?_ (by omega),
  iter_chkU t.Writes (fun k x => writB x && (decide (1 ≤ x.Key) && (k == 0 || decide ((t.Writes.map (·.Key)).getD (k - 1) 0 < x.Key)))) (.inl ()) (.inr ()) ?_ ?_ (by omega)]
 ·rw [frL_and, frL_all, ← ris_ix (fun x : KSeen => x.Key) t.Reads, frL_and, frL_all, ← ris_ix (fun x : KWrite => x.Key) t.Writes, deq (p := ((t.Reads.length : Nat) : Int) ≤ 8) (q := t.Reads.length ≤ 8) (by omega), deq (p := ((t.Writes.length : Nat) : Int) ≤ 8) (q := t.Writes.length ≤ 8) (by omega), btw_p, btw_p]; unfold txF; simp only [ob_some]; cases decide (1 ≤ t.ID) <;> cases decide (t.ID ≤ 1000000) <;> cases decide (0 ≤ t.Ts) <;> cases decide (t.Ts ≤ 3000000000000000) <;> cases decide (t.Reads.length ≤ 8) <;> cases decide (t.Writes.length ≤ 8) <;> cases t.Reads.all seenB <;> cases t.Writes.all writB <;> cases risF 0 (t.Reads.map (·.Key)) <;> cases risF 0 (t.Writes.map (·.Key)) <;> rfl
 ·simp only [ltn, ifB_f]
 ·intro k h; simp only [ltl h, ifB_t, ixI_get h, ob_some, w64_1 h (by omega), btw_p]; have hp : ∀ h0 : 0 < k, ixI t.Writes (IntKind.i64.wrap ((k : Int) - 1)) = some (t.Writes[k - 1]'(by omega)) := fun h0 => by rw [w64_p h0 (by omega)]; exact ixI_get (by omega)
  unfold writB
  by_cases h0 : 0 < k
  ·rw [decide_eq_true (p := (k : Int) > 0) (by omega), ifB_t, hp h0, ob_some, getD_map (fun x : KWrite => x.Key) (by omega), dnot (p := t.Writes[k].Key ≤ t.Writes[k - 1].Key) (q := t.Writes[k - 1].Key < t.Writes[k].Key) (by omega), show (k == 0) = false by simpa using (by omega : k ≠ 0)]; cases decide (1 ≤ t.Writes[k].Key) <;> cases decide (t.Writes[k].Key ≤ 1000) <;> cases decide (0 ≤ t.Writes[k].Value) <;> cases decide (t.Writes[k].Value ≤ 1000000) <;> cases t.Writes[k].Gone <;> cases (t.Writes[k].Value == 0) <;> cases decide (t.Writes[k - 1].Key < t.Writes[k].Key) <;> rfl
  ·rw [decide_eq_false (p := (k : Int) > 0) (by omega), ifB_f, show (k == 0) = true by simpa using (by omega : k = 0)]; cases decide (1 ≤ t.Writes[k].Key) <;> cases decide (t.Writes[k].Key ≤ 1000) <;> cases decide (0 ≤ t.Writes[k].Value) <;> cases decide (t.Writes[k].Value ≤ 1000000) <;> cases t.Writes[k].Gone <;> cases (t.Writes[k].Value == 0) <;> rfl
 ·simp only [ltn, ifB_f]
 ·intro k h; simp only [ltl h, ifB_t, ixI_get h, ob_some, w64_1 h (by omega), btw_p]; have hp : ∀ h0 : 0 < k, ixI t.Reads (IntKind.i64.wrap ((k : Int) - 1)) = some (t.Reads[k - 1]'(by omega)) := fun h0 => by rw [w64_p h0 (by omega)]; exact ixI_get (by omega)
  unfold seenB
  by_cases h0 : 0 < k
  ·rw [decide_eq_true (p := (k : Int) > 0) (by omega), ifB_t, hp h0, ob_some, getD_map (fun x : KSeen => x.Key) (by omega), dnot (p := t.Reads[k].Key ≤ t.Reads[k - 1].Key) (q := t.Reads[k - 1].Key < t.Reads[k].Key) (by omega), show (k == 0) = false by simpa using (by omega : k ≠ 0)]; cases decide (1 ≤ t.Reads[k].Key) <;> cases decide (t.Reads[k].Key ≤ 1000) <;> cases decide (0 ≤ t.Reads[k].Ts) <;> cases decide (t.Reads[k].Ts ≤ 3000000000000000) <;> cases decide (t.Reads[k - 1].Key < t.Reads[k].Key) <;> rfl
  ·rw [decide_eq_false (p := (k : Int) > 0) (by omega), ifB_f, show (k == 0) = true by simpa using (by omega : k = 0)]; cases decide (1 ≤ t.Reads[k].Key) <;> cases decide (t.Reads[k].Key ≤ 1000) <;> cases decide (0 ≤ t.Reads[k].Ts) <;> cases decide (t.Reads[k].Ts ≤ 3000000000000000) <;> rfl
theorem sTx_r (a b : KTx) (h : FewT a) {F : Nat} (hF : 64 ≤ F) : G_regulatorref34_SameTx F a b = some (decide (a = b)) := by
 have hr := h.r; have hw := h.w; unfold G_regulatorref34_SameTx; rw [tx_ext, ← beq_dec, ← beq_dec, leq, leq]
 by_cases h1 : a.Reads.length = b.Reads.length
 ·by_cases h2 : a.Writes.length = b.Writes.length
  ·rw [decide_eq_true h1, decide_eq_true h2, iter_eqL a.Reads b.Reads h1 (.inl ()) (.inr ()) ?_ ?_ (by omega), iter_eqL a.Writes b.Writes h2 (.inl ()) (.inr ()) ?_ ?_ (by omega)]
   ·cases (a.ID == b.ID) <;> cases (a.Ts == b.Ts) <;> cases decide (a.Reads = b.Reads) <;> cases decide (a.Writes = b.Writes) <;> rfl
   ·simp only [ltn, ifB_f]
   ·intro k h1 h2; simp only [ltl h1, ifB_t, ixI_get h1, ixI_get h2, ob_some, w64_1 h1 (by omega)]; cases decide (a.Writes[k] = b.Writes[k]) <;> rfl
   ·simp only [ltn, ifB_f]
   ·intro k h1 h2; simp only [ltl h1, ifB_t, ixI_get h1, ixI_get h2, ob_some, w64_1 h1 (by omega)]; cases decide (a.Reads[k] = b.Reads[k]) <;> rfl
  ·rw [decide_eq_false h2, show decide (a.Writes = b.Writes) = false from decide_eq_false (fun e => h2 (congrArg List.length e))]; cases (a.ID == b.ID) <;> cases (a.Ts == b.Ts) <;> cases decide (a.Reads = b.Reads) <;> cases decide (a.Reads.length = b.Reads.length) <;> rfl
 ·rw [decide_eq_false h1, show decide (a.Reads = b.Reads) = false from decide_eq_false (fun e => h1 (congrArg List.length e))]; cases (a.ID == b.ID) <;> cases (a.Ts == b.Ts) <;> rfl
theorem sTxs_r (a b : List KTx) (hl : a.length ≤ 5000) (h : ∀ t ∈ a, FewT t) {F : Nat} (hF : 5001 ≤ F) : G_regulatorref34_SameTxs F a b = some (decide (a = b)) := by
 unfold G_regulatorref34_SameTxs
 by_cases hl2 : a.length = b.length
 ·rw [leq, decide_eq_true hl2, ifB_t, iter_eqL a b hl2 (.inl ()) (.inr ()) ?_ ?_ (by omega)]
  ·cases decide (a = b) <;> rfl
  ·simp only [ltn, ifB_f]
  ·intro k h1 h2; simp only [ltl h1, ifB_t, ixI_get h1, ixI_get h2, ob_some, w64_1 h1 (by omega), sTx_r _ _ (h _ (List.getElem_mem h1)) (show 64 ≤ F by omega)]; cases decide (a[k] = b[k]) <;> rfl
 ·rw [leq, decide_eq_false hl2, ifB_f, decide_eq_false (fun e => hl2 (congrArg List.length e))]
def fewTB (t : KTx) : Bool := decide (t.Reads.length ≤ 20) && decide (t.Writes.length ≤ 20)
theorem fewT_iff {t : KTx} : fewTB t = true ↔ FewT t := by
 unfold fewTB; simp only [Bool.and_eq_true, decide_eq_true_eq]; exact ⟨fun h => ⟨h.1, h.2⟩, fun h => ⟨h.r, h.w⟩⟩
theorem fewTxs_r (l : List KTx) {F : Nat} (hF : l.length < F) (hl : l.length ≤ 9223372036854775807) : G_regulatorref34_FewTxs F l = some (l.all fewTB && decide (l.length ≤ 30)) := by
 unfold G_regulatorref34_FewTxs; rw [iter_allL l fewTB (.inl ()) (.inr ()) ?_ ?_ hF]
 ·rw [deq (p := ((l.length : Nat) : Int) ≤ 30) (q := l.length ≤ 30) (by omega)]; cases l.all fewTB <;> rfl
 ·simp only [ltn, ifB_f]
 ·intro k h; simp only [ltl h, ifB_t, ixI_get h, ob_some, w64_1 h (by omega)]; unfold fewTB; rw [dnot (p := ((l[k].Reads.length : Nat) : Int) > 20) (q := l[k].Reads.length ≤ 20) (by omega), dnot (p := ((l[k].Writes.length : Nat) : Int) > 20) (q := l[k].Writes.length ≤ 20) (by omega)]; cases decide (l[k].Reads.length ≤ 20) <;> cases decide (l[k].Writes.length ≤ 20) <;> rfl
theorem same34_r (a b : KLeader) (hs : a.Store.length ≤ 5000) (hl : a.Open.length ≤ 5000) (h : ∀ t ∈ a.Open, FewT t) {F : Nat} (hF : 5001 ≤ F) : G_regulatorref34_Same F a b = some (decide (a = b)) := by
 unfold G_regulatorref34_Same; rw [same33_r _ _ (by omega) hs, sTxs_r _ _ hl h hF, beq_dec]; have e : decide (a = b) = (decide (a.Last = b.Last) && (decide (a.Store = b.Store) && decide (a.Open = b.Open))) := by
  refine iff_bool ?_; simp only [Bool.and_eq_true, decide_eq_true_eq]; constructor
  ·rintro rfl; exact ⟨rfl, rfl, rfl⟩
  ·rintro ⟨h1, h2, h3⟩; cases a; cases b; simp only at h1 h2 h3; subst h1 h2 h3; rfl
 rw [e]; simp only [ob_some]; cases decide (a.Last = b.Last) <;> cases decide (a.Store = b.Store) <;> rfl
end Go.Proofs.Ytlfkgbideknkhaa
namespace Go.Proofs.Ytlfkgbideknkhaa
open Go.RowKit
def By (b : List Int) : Prop := ∀ x ∈ b, 0 ≤ x ∧ x < 256
theorem By.nil : By [] := fun _ h => absurd h List.not_mem_nil
theorem By.app {a b : List Int} (h : By a) (h' : By b) : By (a ++ b) := fun x hx => (List.mem_append.1 hx).elim (h x) (h' x)
theorem By.l {a b : List Int} (h : By (a ++ b)) : By a := fun x hx => h x (List.mem_append_left _ hx)
theorem By.r {a b : List Int} (h : By (a ++ b)) : By b := fun x hx => h x (List.mem_append_right _ hx)
theorem By.take {a : List Int} (h : By a) (n : Nat) : By (a.take n) := fun x hx => h x (List.mem_of_mem_take hx)
theorem By.drop {a : List Int} (h : By a) (n : Nat) : By (a.drop n) := fun x hx => h x (List.mem_of_mem_drop hx)
theorem By.cons {x : Int} {b : List Int} (hx : 0 ≤ x ∧ x < 256) (h : By b) : By (x :: b) := fun y hy => by
 rcases List.mem_cons.1 hy with rfl | hy
 ·exact hx
 ·exact h y hy
def rdA : Nat → Nat → Nat → List Int → Option (Nat × List Int)
 | 0, _, _, _ => none
 | _ + 1, _, _, [] => none
 | f + 1, k, u, c :: bs => match (decide (k < 9) || decide (c < 2)) && ((k == 0) || decide (c > 0)) with
  | false => none
  | true => match decide (c < 128) with
   | true => some (u + c.toNat % 128 * 128 ^ k, bs)
   | false => rdA f (k + 1) (u + c.toNat % 128 * 128 ^ k) bs
theorem p128 (k : Nat) : (128 : Nat) ^ k = 2 ^ (7 * k) := by rw [Nat.pow_mul]
theorem p128_le {k : Nat} (h : k ≤ 9) : (128 : Nat) ^ k ≤ 9223372036854775808 := by
 have := Nat.pow_le_pow_right (n := 128) (by omega) h; have e : (128 : Nat) ^ 9 = 9223372036854775808 := by decide
 omega
theorem sh_eq (c k : Nat) (hc : c < 256) (hk : k ≤ 9) (hs : c % 128 * 128 ^ k < 18446744073709551616) : shI (c : Int) (k : Int) = ((c % 128 * 128 ^ k : Nat) : Int) := by
 unfold shI; have e1 : bits .and .u8 (c : Int) 127 = ((c % 128 : Nat) : Int) := by
  rw [show (127 : Int) = ((127 : Nat) : Int) from rfl, u8_and_nat c 127 hc (by omega)]
  congr 1
  exact Nat.and_two_pow_sub_one_eq_mod c 7
 have e2 : min (IntKind.i64.wrap (7 * (k : Int))).toNat IntKind.u64.bits = 7 * k := by
  have h1 : IntKind.i64.wrap (7 * (k : Int)) = ((7 * k : Nat) : Int) := by rw [IntKind.wrap_i64]; omega
  have : IntKind.u64.bits = 64 := rfl; rw [h1, Int.toNat_natCast]; omega
 rw [e1, e2, IntKind.wrap_u64, IntKind.wrap_u64, p128]; rw [p128] at hs; have e3 : ((c % 128 : Nat) : Int) % 18446744073709551616 = ((c % 128 : Nat) : Int) := by omega
 rw [e3]; have e4 : ((c % 128 : Nat) : Int) * 2 ^ (7 * k) = ((c % 128 * 2 ^ (7 * k) : Nat) : Int) := by push_cast; rfl
 rw [e4]; omega
theorem or_eq (c k u : Nat) (hc : c < 256) (hk : k ≤ 9) (hu : u < 128 ^ k) (hs : u + c % 128 * 128 ^ k < 18446744073709551616) : bits .or .u64 (u : Int) (shI (c : Int) (k : Int)) = ((u + c % 128 * 128 ^ k : Nat) : Int) := by
 rw [sh_eq c k hc hk (by omega), u64_or_nat _ _ (by omega) (by omega), Nat.or_comm, nat_join (7 * k) _ _ (by rw [p128]; exact Nat.mul_mod_left _ _) (by rw [← p128]; exact hu), Nat.add_comm]
theorem x64_nat (a : Nat) (ha : a < 9223372036854775808) (b : Int) : bits .xor .i64 (a : Int) b = IntKind.i64.wrap ((a ^^^ (BitVec.ofInt 64 b).toNat : Nat) : Int) := by
 show IntKind.i64.wrap ((BitVec.ofInt 64 (a : Int) ^^^ BitVec.ofInt 64 b).toNat : Int) = _
 have h2 : (BitVec.ofInt 64 (a : Int)).toNat = a := by
  rw [BitVec.ofInt_natCast, BitVec.toNat_ofNat]; exact Nat.mod_eq_of_lt (by omega)
 rw [BitVec.toNat_xor, h2]
def unz (u : Nat) : Int := if u % 2 = 1 then -1 - ((u / 2 : Nat) : Int) else ((u / 2 : Nat) : Int)
theorem dec_eq (u : Nat) (hu : u < 18446744073709551616) : decI (u : Int) = unz u := by
 unfold decI; have e0 : Int.fdiv (u : Int) (2 ^ 1) = ((u / 2 : Nat) : Int) := by
  rw [Int.fdiv_eq_ediv_of_nonneg _ (by decide)]; simp
 have e1 : bits .and .u64 (u : Int) 1 = ((u % 2 : Nat) : Int) := by
  rw [show (1 : Int) = ((1 : Nat) : Int) from rfl, u64_and_nat u 1 hu (by omega), nat_mask1]
 have e2 : IntKind.i64.wrap ((u / 2 : Nat) : Int) = ((u / 2 : Nat) : Int) := by rw [IntKind.wrap_i64]; omega
 rw [e0, e1, e2]; unfold unz; rcases Nat.mod_two_eq_zero_or_one u with h | h
 ·rw [h, if_neg (by omega), show IntKind.i64.wrap (0 - IntKind.i64.wrap ((0 : Nat) : Int)) = 0 from by decide, x64_nat _ (by omega), show (BitVec.ofInt 64 0).toNat = 0 from by decide, Nat.xor_zero, IntKind.wrap_i64]; omega
 ·rw [h, if_pos rfl, show IntKind.i64.wrap (0 - IntKind.i64.wrap ((1 : Nat) : Int)) = -1 from by decide, x64_nat _ (by omega), show (BitVec.ofInt 64 (-1)).toNat = 18446744073709551615 from by decide, xor_ones (by omega), IntKind.wrap_i64]; omega
theorem rdV_A : ∀ (f k u : Nat) (bs : List Int), f + k = 10 → u < 128 ^ k → By bs → rdV f (k : Int) (u : Int) bs = (rdA f k u bs).map (fun p => (unz p.1, p.2))
 | 0, _, _, _, _, _, _ => rfl
 | _ + 1, _, _, [], _, _, _ => rfl
 | f + 1, k, u, c :: bs, hf, hu, hb => by
  obtain ⟨h0, h1⟩ := hb c List.mem_cons_self; obtain ⟨n, rfl⟩ : ∃ n : Nat, c = (n : Int) := ⟨c.toNat, by omega⟩; have hp : 0 < 128 ^ k := Nat.pow_pos (by omega); unfold rdV rdA; rw [show decide ((k : Int) < 9) = decide (k < 9) from decide_eq_decide.2 (by omega), show ((k : Int) == 0) = (k == 0) from by rw [Bool.eq_iff_iff]; simp]; cases hc : (decide (k < 9) || decide ((n : Int) < 2)) && (k == 0 || decide ((n : Int) > 0)) with
  | false => rfl
  | true =>
   simp only [Bool.and_eq_true, Bool.or_eq_true, decide_eq_true_eq] at hc; have hk9 : k ≤ 9 := by omega
   have hlt : u + n % 128 * 128 ^ k < 128 ^ k * (n % 128 + 1) := by rw [Nat.mul_add, Nat.mul_comm (n % 128)]; omega
   have hs : u + n % 128 * 128 ^ k < 18446744073709551616 := by
    rcases hc.1 with h | h
    ·have h2 : (128 : Nat) ^ k * (n % 128 + 1) ≤ 128 ^ k * 128 := Nat.mul_le_mul_left _ (by omega); have h3 := p128_le (k := k + 1) (by omega); rw [Nat.pow_succ] at h3; omega
    ·have h2 : (128 : Nat) ^ k * (n % 128 + 1) ≤ 128 ^ k * 2 := Nat.mul_le_mul_left _ (by omega); have h3 := p128_le hk9; omega
   simp only [or_eq n k u (by omega) hk9 hu hs, Int.toNat_natCast]; cases hd : decide ((n : Int) < 128) with
   | true => simp only [Option.map_some, dec_eq _ hs]
   | false =>
    have hd' : ¬ (n : Int) < 128 := of_decide_eq_false hd; have := rdV_A f (k + 1) (u + n % 128 * 128 ^ k) bs (by omega) (by
     have h2 : (128 : Nat) ^ k * (n % 128 + 1) ≤ 128 ^ k * 128 := Nat.mul_le_mul_left _ (by omega); rw [Nat.pow_succ]; omega) (fun x hx => hb x (List.mem_cons_of_mem _ hx))
    simpa using this
def digA : Nat → Nat → List Int
 | 0, _ => []
 | k + 1, u => if 128 ≤ u then ((u % 128 + 128 : Nat) : Int) :: digA k (u / 128) else [(u : Int)]
theorem dig_A : ∀ (k u : Nat), digN k (u : Int) = digA k u
 | 0, _ => rfl
 | k + 1, u => by
  unfold digN digA
  by_cases h : 128 ≤ u
  ·rw [if_pos (by omega), if_pos h]; have e1 : bits .or .u8 ((u : Int) % 256) 128 = ((u % 128 + 128 : Nat) : Int) := by
    rw [show (u : Int) % 256 = ((u % 256 : Nat) : Int) by omega, show (128 : Int) = ((128 : Nat) : Int) from rfl, u8_or_nat _ _ (by omega) (by omega)]
    congr 1
    have e : u % 256 = u % 256 / 128 * 128 + u % 128 := by omega
    rcases Nat.lt_or_ge (u % 256) 128 with h | h
    ·rw [Nat.or_comm, show (128 : Nat) = 1 * 2 ^ 7 from rfl, nat_join 7 _ _ (by omega) (by omega)]; omega
    ·have e2 : u % 256 = 128 ||| u % 128 := by
      rw [show (128 : Nat) ||| u % 128 = 128 + u % 128 from nat_join 7 128 _ (by omega) (by omega)]; omega
     rw [e2, Nat.or_comm, ← Nat.or_assoc, Nat.or_self, nat_join 7 128 _ (by omega) (by omega)]; omega
   rw [e1, show (u : Int) / 128 = ((u / 128 : Nat) : Int) by omega, dig_A k (u / 128)]
  ·rw [if_neg (by omega), if_neg h]
theorem digA_by : ∀ {k u : Nat}, u < 256 * 128 ^ k → By (digA k u)
 | 0, _, _ => By.nil
 | k + 1, u, h => by
  unfold digA
  split
  ·refine By.cons (by omega) (digA_by ?_); rw [Nat.pow_succ] at h; have : u / 128 * 128 ≤ u := Nat.div_mul_le_self _ _; omega
  ·exact By.cons (by omega) By.nil
theorem rd_back : ∀ (f k u v : Nat) (rest : List Int), f + k = 10 → v * 128 ^ k < 18446744073709551616 → (k = 0 ∨ 0 < v) → rdA f k u (digA f v ++ rest) = some (u + v * 128 ^ k, rest)
 | 0, k, u, v, rest, hf, hv, h0 => by
  obtain rfl : k = 10 := by omega
  have e : (128 : Nat) ^ 10 = 1180591620717411303424 := by decide
  omega
 | f + 1, k, u, v, rest, hf, hv, h0 => by
  unfold digA; have e9 : (128 : Nat) ^ 9 = 9223372036854775808 := by decide
  by_cases h : 128 ≤ v
  ·rw [if_pos h]; have hk : k < 9 := by
    refine Classical.byContradiction fun hn => ?_
    obtain rfl : k = 9 := by omega
    omega
   show rdA (f + 1) k u (((v % 128 + 128 : Nat) : Int) :: (digA f (v / 128) ++ rest)) = _
   unfold rdA; rw [decide_eq_true hk, show decide (((v % 128 + 128 : Nat) : Int) > 0) = true from decide_eq_true (by omega), Bool.true_or, Bool.or_true, Bool.true_and, show decide (((v % 128 + 128 : Nat) : Int) < 128) = false from decide_eq_false (by omega)]; simp only [Int.toNat_natCast, Nat.add_mod_right, Nat.mod_mod]; have hm : v * 128 ^ k = v % 128 * 128 ^ k + v / 128 * 128 ^ (k + 1) := by
    rw [Nat.pow_succ, Nat.mul_comm (128 ^ k) 128, ← Nat.mul_assoc, ← Nat.add_mul]
    congr 1; omega
   rw [rd_back f (k + 1) _ (v / 128) rest (by omega) (by omega) (.inr (by omega))]
   congr 2; omega
  ·rw [if_neg h]
   show rdA (f + 1) k u ((v : Int) :: rest) = _
   unfold rdA; have h1 : (decide (k < 9) || decide ((v : Int) < 2)) = true := by
    rcases Nat.lt_or_ge k 9 with h | h
    ·simp [h]
    ·obtain rfl : k = 9 := by omega
     have : (v : Int) < 2 := by omega
     simp [this]
   have h2 : (k == 0 || decide ((v : Int) > 0)) = true := by
    rcases h0 with rfl | h0
    ·rfl
    ·rw [decide_eq_true (show (v : Int) > 0 by omega), Bool.or_true]
   rw [h1, h2, Bool.true_and, show decide ((v : Int) < 128) = true from decide_eq_true (by omega)]; simp only [Int.toNat_natCast]; rw [Nat.mod_eq_of_lt (by omega)]
theorem rd_only : ∀ {f k u : Nat} {bs rest : List Int} {n : Nat}, f + k = 10 → By bs → rdA f k u bs = some (n, rest) → ∃ v : Nat, bs = digA f v ++ rest ∧ n = u + v * 128 ^ k ∧ v * 128 ^ k < 18446744073709551616 ∧ (k = 0 ∨ 0 < v)
 | 0, _, _, _, _, _, _, _, h => by cases h
 | _ + 1, _, _, [], _, _, _, _, h => by cases h
 | f + 1, k, u, c :: bs, rest, n, hf, hb, h => by
  obtain ⟨h0, h1⟩ := hb c List.mem_cons_self; obtain ⟨m, rfl⟩ : ∃ n : Nat, c = (n : Int) := ⟨c.toNat, by omega⟩; have e9 : (128 : Nat) ^ 9 = 9223372036854775808 := by decide
  unfold rdA at h
  split at h
  ·cases h
  ·next hc =>
   simp only [Bool.and_eq_true, Bool.or_eq_true, decide_eq_true_eq, beq_iff_eq] at hc; have hk9 := p128_le (k := k) (by omega)
   split at h
   ·next hd =>
    have hd' : (m : Int) < 128 := of_decide_eq_true hd; simp only [Int.toNat_natCast, Option.some.injEq, Prod.mk.injEq] at h; obtain ⟨rfl, rfl⟩ := h; refine ⟨m, ?_, by rw [Nat.mod_eq_of_lt (by omega)], ?_, by omega⟩
    ·unfold digA; rw [if_neg (by omega)]; rfl
    ·rcases hc.1 with h | h
     ·have h2 : m * 128 ^ k ≤ 127 * 128 ^ k := Nat.mul_le_mul_right _ (by omega); have h3 := p128_le (k := k + 1) (by omega); rw [Nat.pow_succ] at h3; omega
     ·have h2 : m * 128 ^ k ≤ 1 * 128 ^ k := Nat.mul_le_mul_right _ (by omega); omega
   ·next hd =>
    have hd' : ¬ (m : Int) < 128 := of_decide_eq_false hd; have hk : k < 9 := by omega
    simp only [Int.toNat_natCast] at h; obtain ⟨v, h2, h3, h4, h5⟩ := rd_only (by omega) (fun x hx => hb x (List.mem_cons_of_mem _ hx)) h; have hv : 0 < v := by omega
    have hm : (m % 128 + v * 128) * 128 ^ k = m % 128 * 128 ^ k + v * 128 ^ (k + 1) := by
     rw [Nat.pow_succ, Nat.mul_comm (128 ^ k) 128, ← Nat.mul_assoc, ← Nat.add_mul]
    refine ⟨m % 128 + v * 128, ?_, by rw [h3, hm]; omega, ?_, .inr (by omega)⟩
    ·unfold digA; rw [if_pos (by omega), show (m % 128 + v * 128) / 128 = v by omega, h2, show (m % 128 + v * 128) % 128 + 128 = m by omega]; rfl
    ·rw [hm]; obtain ⟨q, hq⟩ : ∃ q, q * 128 ^ (k + 1) = 18446744073709551616 := ⟨2 * 128 ^ (8 - k), by
      rw [Nat.mul_assoc, ← Nat.pow_add, show 8 - k + (k + 1) = 9 by omega, e9]⟩
     have hvq : v + 1 ≤ q := by
      refine Classical.byContradiction fun hn => ?_
      have := Nat.mul_le_mul_right (128 ^ (k + 1)) (show q ≤ v by omega); omega
     have h6 := Nat.mul_le_mul_right (128 ^ (k + 1)) hvq; rw [hq, Nat.add_mul, Nat.one_mul] at h6; have h7 : m % 128 * 128 ^ k + 128 ^ k ≤ 128 ^ (k + 1) := by
      have : (m % 128 + 1) * 128 ^ k ≤ 128 * 128 ^ k := Nat.mul_le_mul_right _ (by omega); rw [Nat.add_mul, Nat.one_mul] at this; rw [Nat.pow_succ, Nat.mul_comm (128 ^ k)]; exact this
     have h8 : 0 < 128 ^ k := Nat.pow_pos (by omega); omega
end Go.Proofs.Ytlfkgbideknkhaa
namespace Go.Proofs.Ytlfkgbideknkhaa
open Go.RowKit
def In (n : Int) : Prop := -9223372036854775808 ≤ n ∧ n ≤ 9223372036854775807
theorem unz_zig (n : Int) : unz (zig n).toNat = n := by
 unfold unz zig
 split
 ·rw [if_pos (by omega)]; omega
 ·rw [if_neg (by omega)]; omega
theorem zig_unz (u : Nat) : zig (unz u) = (u : Int) := by
 unfold unz
 split <;> unfold zig <;> split <;> omega
theorem unz_in {u : Nat} (h : u < 18446744073709551616) : In (unz u) := by
 unfold unz In
 split <;> omega
theorem zig_nat {n : Int} (h : In n) : ((zig n).toNat : Int) = zig n ∧ (zig n).toNat < 18446744073709551616 := by
 have := zig_lt h.1 h.2; omega
def encI (n : Int) : List Int := digN 10 (zig n)
theorem enc_A {n : Int} (h : In n) : encI n = digA 10 (zig n).toNat := by
 unfold encI; rw [← dig_A, (zig_nat h).1]
theorem digA_len : ∀ (k u : Nat), (digA k u).length ≤ k
 | 0, _ => Nat.le_refl _
 | k + 1, u => by
  unfold digA
  split
  ·have := digA_len k (u / 128); simp only [List.length_cons]; omega
  ·simp
theorem encI_len {n : Int} (h : In n) : (encI n).length ≤ 10 := by rw [enc_A h]; exact digA_len _ _
theorem encI_by {n : Int} (h : In n) : By (encI n) := by
 rw [enc_A h]; refine digA_by ?_; have := (zig_nat h).2; have e : (128 : Nat) ^ 10 = 1180591620717411303424 := by decide
 omega
theorem rdV_back {n : Int} {rest : List Int} (h : In n) (hb : By rest) : rdV 10 0 0 (encI n ++ rest) = some (n, rest) := by
 have h1 := rdV_A 10 0 0 (encI n ++ rest) rfl (by decide) ((encI_by h).app hb); have h2 := rd_back 10 0 0 (zig n).toNat rest rfl (by have := (zig_nat h).2; simpa using this) (.inl rfl); rw [← enc_A h] at h2; refine h1.trans ?_; rw [h2]; simp only [Option.map_some, Nat.pow_zero, Nat.mul_one, Nat.zero_add, unz_zig]
theorem rdV_only {n : Int} {bs rest : List Int} (hb : By bs) (h : rdV 10 0 0 bs = some (n, rest)) : In n ∧ bs = encI n ++ rest := by
 have h1 := rdV_A 10 0 0 bs rfl (by decide) hb; rw [show ((0 : Nat) : Int) = 0 from rfl] at h1; rw [h1] at h; cases hr : rdA 10 0 0 bs with
 | none => rw [hr] at h; cases h
 | some p =>
  obtain ⟨m, r⟩ := p; rw [hr] at h; simp only [Option.map_some, Option.some.injEq, Prod.mk.injEq] at h; obtain ⟨rfl, rfl⟩ := h; obtain ⟨v, e1, e2, e3, _⟩ := rd_only rfl hb hr; simp only [Nat.pow_zero, Nat.mul_one, Nat.zero_add] at e2 e3; subst e2; have hi := unz_in e3; refine ⟨hi, ?_⟩; rw [enc_A hi, zig_unz]; exact e1
theorem encs_by : ∀ {l : List Int}, (∀ n ∈ l, In n) → By (l.flatMap encI)
 | [], _ => By.nil
 | n :: l, h => by
  rw [List.flatMap_cons]; exact (encI_by (h n List.mem_cons_self)).app (encs_by fun m hm => h m (List.mem_cons_of_mem _ hm))
theorem encs_len : ∀ {l : List Int}, (∀ n ∈ l, In n) → (l.flatMap encI).length ≤ 10 * l.length
 | [], _ => Nat.le_refl _
 | n :: l, h => by
  rw [List.flatMap_cons, List.length_append, List.length_cons]; have h1 := encI_len (h n List.mem_cons_self); have h2 := encs_len fun m hm => h m (List.mem_cons_of_mem _ hm)
  omega
theorem rdN_back : ∀ {l rest : List Int}, (∀ n ∈ l, In n) → By rest → rdN l.length (l.flatMap encI ++ rest) = some (l, rest)
 | [], _, _, _ => rfl
 | n :: l, rest, h, hb => by
  have h' : ∀ m ∈ l, In m := fun m hm => h m (List.mem_cons_of_mem _ hm)
  rw [List.flatMap_cons, List.append_assoc, List.length_cons, rdN, rdV_back (h n List.mem_cons_self) ((encs_by h').app hb)]; simp only [rdN_back h' hb]
theorem rdN_only : ∀ {k : Nat} {b l r : List Int}, By b → rdN k b = some (l, r) → l.length = k ∧ (∀ n ∈ l, In n) ∧ b = l.flatMap encI ++ r
 | 0, b, l, r, _, h => by
  simp only [rdN, Option.some.injEq, Prod.mk.injEq] at h; obtain ⟨rfl, rfl⟩ := h; exact ⟨rfl, fun _ h => absurd h List.not_mem_nil, rfl⟩
 | k + 1, b, l, r, hb, h => by
  rw [rdN] at h
  split at h
  ·cases h
  ·next n r1 h1 =>
   obtain ⟨hi, rfl⟩ := rdV_only hb h1
   split at h
   ·cases h
   ·next l2 r2 h2 =>
    simp only [Option.some.injEq, Prod.mk.injEq] at h; obtain ⟨rfl, rfl⟩ := h; obtain ⟨e1, e2, e3⟩ := rdN_only hb.r h2; refine ⟨by rw [List.length_cons, e1], fun m hm => ?_, by rw [e3, List.flatMap_cons, List.append_assoc]⟩; rcases List.mem_cons.1 hm with rfl | hm
    ·exact hi
    ·exact e2 m hm
structure OkL (l : List Int) : Prop where
 n : l.length ≤ 1000
 i : ∀ n ∈ l, In n
def encL (l : List Int) : List Int := encI (l.length : Int) ++ l.flatMap encI
theorem lenIn {α : Type} {l : List α} (h : l.length ≤ 1000) : In (l.length : Int) := ⟨by omega, by omega⟩
theorem encL_by {l : List Int} (h : OkL l) : By (encL l) := (encI_by (lenIn h.n)).app (encs_by h.i)
theorem encL_len {l : List Int} (h : OkL l) : (encL l).length ≤ 10010 := by
 unfold encL; rw [List.length_append]; have h1 := encI_len (lenIn h.n); have h2 := encs_len h.i; have := h.n; omega
theorem get_back {l : List Int} (h : OkL l) : getS (encL l) = (l, 0) := by
 unfold getS encL; rw [rdV_back (lenIn h.n) (encs_by h.i)]; have h1 := rdN_back (rest := []) h.i By.nil; rw [List.append_nil] at h1; have hn := h.n; simp only [Int.toNat_natCast]; rw [if_pos (by omega), h1]; rfl
theorem get_only {b l : List Int} (hb : By b) (h : getS b = (l, 0)) : OkL l ∧ b = encL l := by
 unfold getS at h
 split at h
 ·cases h
 ·next n rest h1 =>
  split at h
  ·next hn =>
   obtain ⟨hi, rfl⟩ := rdV_only hb h1; unfold fnG at h
   split at h
   ·next l2 h2 =>
    simp only [List.nil_append, Prod.mk.injEq, and_true] at h; subst h; obtain ⟨e1, e2, e3⟩ := rdN_only hb.r h2; refine ⟨⟨by omega, e2⟩, ?_⟩; unfold encL; rw [e3, List.append_nil, e1, show ((n.toNat : Nat) : Int) = n by omega]
   ·cases h
  ·cases h
theorem get_cases (b : List Int) : getS b = ([], 7) ∨ ∃ l, getS b = (l, 0) := by
 unfold getS
 split
 ·exact .inl rfl
 ·split
  ·unfold fnG
   split
   ·exact .inr ⟨_, rfl⟩
   ·exact .inl rfl
  ·exact .inl rfl
theorem put1_p (F : Nat) {l : List Int} {n : Int} (h : In n) (hl : l.length ≤ 100000000) : G_codec_put F l n = some (l ++ encI n) := if_pos ⟨h, by omega⟩
theorem foldl_fl {α : Type} (f : α → List Int) : ∀ (l : List α) (b : List Int), l.foldl (fun b x => b ++ f x) b = b ++ l.flatMap f
 | [], b => by simp
 | x :: l, b => by rw [List.foldl_cons, foldl_fl, List.flatMap_cons, List.append_assoc]
theorem put_p {l : List Int} (h : OkL l) {F : Nat} (hF : 1000 < F) : G_codec_Put F l = some (encL l, 0) := by
 have hn := h.n; have h1 := encI_len (lenIn h.n); unfold G_codec_Put; rw [decide_eq_false (by omega), ifB_f, put1_p F (lenIn h.n) (by simp), ob_some, List.nil_append]; rw [iter_fold (fun b i => (i, b)) l (fun b x => b ++ encI x) id (fun k b => b.length ≤ 10 + 10 * k) ?_ ?_ (by omega) (encI (l.length : Int)) (by omega)]
 ·simp only [ob_some, id, foldl_fl]; rfl
 ·intro b _; simp only [un2, ltn, ifB_f, id]
 ·intro b k hk hb; have h2 := h.i l[k] (List.getElem_mem hk); have h3 := encI_len h2; have h4 := put1_p F (l := b) h2 (by omega); simp only [un2, ltl hk, ifB_t, ixI_get hk, ob_some, h4, w64_1 hk (by omega), List.length_append]; exact ⟨trivial, by omega⟩
end Go.Proofs.Ytlfkgbideknkhaa
namespace Go.Proofs.Ytlfkgbideknkhaa
open Go.RowKit
end Go.Proofs.Ytlfkgbideknkhaa
namespace Go.Proofs.Ytlfkgbideknkhaa
open Go.RowKit
def s8 (d : Int) : List Int := [d / 72057594037927936 % 256, d / 281474976710656 % 256, d / 1099511627776 % 256, d / 4294967296 % 256, d / 16777216 % 256, d / 65536 % 256, d / 256 % 256, d % 256]
def k8s (d : Int) : K8_uint8 := ⟨d / 72057594037927936 % 256, d / 281474976710656 % 256, d / 1099511627776 % 256, d / 4294967296 % 256, d / 16777216 % 256, d / 65536 % 256, d / 256 % 256, d % 256⟩
theorem s8_len (d : Int) : (s8 d).length = 8 := rfl
theorem s8_by (d : Int) : By (s8 d) := fun x hx => by
 simp only [s8, List.mem_cons, List.not_mem_nil, or_false] at hx; omega
theorem sumF_rng (h x : Int) : 0 ≤ sumF h x ∧ sumF h x < 18446744073709551616 := by
 unfold sumF; rw [IntKind.wrap_u64]; omega
theorem sumB_rng37 (l : List Int) : 0 ≤ sumB l ∧ sumB l < 18446744073709551616 := by
 unfold sumB; have key : ∀ (l : List Int) (b : Int), 0 ≤ b ∧ b < 18446744073709551616 → 0 ≤ l.foldl sumF b ∧ l.foldl sumF b < 18446744073709551616 := by
  intro l
  induction l with
  | nil => intro b h; exact h
  | cons x l ih => intro b _; exact ih _ (sumF_rng _ _)
 exact key l _ (by omega)
theorem sum_p {b : List Int} (hl : b.length ≤ 1000000) {F : Nat} (hF : 64 ≤ F) : G_codec_sum F b = some (k8s (sumB b)) := by
 have hd : G_digest_Sum F b = some (sumB b) := by
  obtain ⟨F', rfl⟩ : ∃ F', F = F' + 1 := ⟨F - 1, by omega⟩; exact whenG_t (decide_eq_true (by omega))
 unfold G_codec_sum; rw [hd, ob_some]; have hr := sumB_rng37 b; generalize sumB b = d at hr ⊢; obtain ⟨F', rfl⟩ : ∃ F', F = F' + 9 := ⟨F - 9, by omega⟩; have hw : ∀ x, Int.fdiv x (2 ^ 8) = x / 256 := fun x => by rw [Int.fdiv_eq_ediv_of_nonneg _ (by decide)]; rfl
 refine Eq.trans (b := some (⟨IntKind.u8.wrap (Int.fdiv (Int.fdiv (Int.fdiv (Int.fdiv (Int.fdiv (Int.fdiv (Int.fdiv d (2 ^ 8)) (2 ^ 8)) (2 ^ 8)) (2 ^ 8)) (2 ^ 8)) (2 ^ 8)) (2 ^ 8)), IntKind.u8.wrap (Int.fdiv (Int.fdiv (Int.fdiv (Int.fdiv (Int.fdiv (Int.fdiv d (2 ^ 8)) (2 ^ 8)) (2 ^ 8)) (2 ^ 8)) (2 ^ 8)) (2 ^ 8)), IntKind.u8.wrap (Int.fdiv (Int.fdiv (Int.fdiv (Int.fdiv (Int.fdiv d (2 ^ 8)) (2 ^ 8)) (2 ^ 8)) (2 ^ 8)) (2 ^ 8)), IntKind.u8.wrap (Int.fdiv (Int.fdiv (Int.fdiv (Int.fdiv d (2 ^ 8)) (2 ^ 8)) (2 ^ 8)) (2 ^ 8)), IntKind.u8.wrap (Int.fdiv (Int.fdiv (Int.fdiv d (2 ^ 8)) (2 ^ 8)) (2 ^ 8)), IntKind.u8.wrap (Int.fdiv (Int.fdiv d (2 ^ 8)) (2 ^ 8)), IntKind.u8.wrap (Int.fdiv d (2 ^ 8)), IntKind.u8.wrap d⟩ : K8_uint8)) (by kernel_rfl) ?_; simp only [hw, IntKind.wrap_u8', k8s, Option.some.injEq, K8_uint8.mk.injEq, and_true]; omega
end Go.Proofs.Ytlfkgbideknkhaa
namespace Go.Proofs.Ytlfkgbideknkhaa
open Go.RowKit
def hd3 (n : Nat) : List Int := [0, ((n / 256 : Nat) : Int), ((n % 256 : Nat) : Int)]
def frmO (l : List Int) : List Int := hd3 (encL l).length ++ encL l
def frmS (l : List Int) : List Int := frmO l ++ s8 (sumB (frmO l))
theorem frmO_len (l : List Int) : (frmO l).length = (encL l).length + 3 := by simp [frmO, hd3]
theorem frm_len (l : List Int) : (frmS l).length = (encL l).length + 11 := by
 unfold frmS; rw [List.length_append, frmO_len, s8_len]
theorem frm_max {l : List Int} (h : OkL l) : (frmS l).length ≤ 10021 := by
 have := encL_len h; rw [frm_len]; omega
theorem frmO_by {l : List Int} (h : OkL l) : By (frmO l) := by
 have h1 := encL_len h; refine By.app (fun x hx => ?_) (encL_by h); simp only [hd3, List.mem_cons, List.not_mem_nil, or_false] at hx; omega
theorem frm_by {l : List Int} (h : OkL l) : By (frmS l) := (frmO_by h).app (s8_by _)
theorem frame_p {l : List Int} (h : OkL l) {F : Nat} (hF : 1000 < F) : G_codec_Frame F l = some (frmS l, 0) := by
 have h1 := encL_len h; unfold G_codec_Frame; rw [put_p h hF]; simp only [ob_some, un2]; rw [show ((0 : Int) == 0) = true from rfl, ifB_t]; have e : [IntKind.u8.wrap (Int.fdiv (((encL l).length : Nat) : Int) (2 ^ 16)), IntKind.u8.wrap (Int.fdiv (((encL l).length : Nat) : Int) (2 ^ 8)), IntKind.u8.wrap (((encL l).length : Nat) : Int)] = hd3 (encL l).length := by
  rw [Int.fdiv_eq_ediv_of_nonneg _ (by decide), Int.fdiv_eq_ediv_of_nonneg _ (by decide), IntKind.wrap_u8', IntKind.wrap_u8', IntKind.wrap_u8']; unfold hd3; simp only [List.cons.injEq, and_true]; omega
 rw [e, apG_ok (by simp only [hd3, List.length_cons, List.length_nil]; omega), ob_some]; rw [show hd3 (encL l).length ++ encL l = frmO l from rfl, sum_p (by rw [frmO_len]; omega) (by omega), ob_some]; rw [show [(k8s (sumB (frmO l))).f0, (k8s (sumB (frmO l))).f1, (k8s (sumB (frmO l))).f2, (k8s (sumB (frmO l))).f3, (k8s (sumB (frmO l))).f4, (k8s (sumB (frmO l))).f5, (k8s (sumB (frmO l))).f6, (k8s (sumB (frmO l))).f7] = s8 (sumB (frmO l)) from rfl, apG_ok (by rw [frmO_len, s8_len]; omega), ob_some]; rfl
def hdN (b0 b1 b2 : Int) : Nat := (b0 * 65536 + b1 * 256 + b2).toNat
def hdS : List Int → Option (List Int)
  | b0 :: b1 :: b2 :: r => if r.length < hdN b0 b1 b2 + 8 then none else
      if (r.drop (hdN b0 b1 b2)).take 8 = s8 (sumB (b0 :: b1 :: b2 :: r.take (hdN b0 b1 b2))) then
        match getS (r.take (hdN b0 b1 b2)) with
        | (l, 0) => some l
        | _ => none
      else none
  | _ => none
theorem hd_back {l rest : List Int} (h : OkL l) : hdS (frmS l ++ rest) = some l := by
 have h1 := encL_len h; have e : frmS l ++ rest = 0 :: (((encL l).length / 256 : Nat) : Int) :: (((encL l).length % 256 : Nat) : Int) :: (encL l ++ (s8 (sumB (frmO l)) ++ rest)) := by
  simp [frmS, frmO, hd3]
 have en : hdN 0 (((encL l).length / 256 : Nat) : Int) (((encL l).length % 256 : Nat) : Int) = (encL l).length := by unfold hdN; omega
 rw [e]; unfold hdS; simp only [en]; rw [if_neg (by simp only [List.length_append, s8_len]; omega), List.take_left' rfl, List.drop_left' rfl, List.take_left' (s8_len _)]; rw [if_pos (by rfl), get_back h]; rfl
theorem hd_only {b l : List Int} (hb : By b) (h : hdS b = some l) : OkL l ∧ ∃ rest, b = frmS l ++ rest := by
 unfold hdS at h
 split at h
 ·next b0 b1 b2 r =>
  have h0 := hb b0 (by simp); have h1 := hb b1 (by simp); have h2 := hb b2 (by simp)
  split at h
  ·cases h
  ·next hl =>
   split at h
   ·next hs =>
    split at h
    ·next l' hg =>
     cases h; have hr : By r := fun x hx => hb x (by simp [hx])
     obtain ⟨ho, he⟩ := get_only (hr.take _) hg; have hln := encL_len ho; have hlen := congrArg List.length he; rw [List.length_take, Nat.min_eq_left (by omega)] at hlen; refine ⟨ho, r.drop (hdN b0 b1 b2 + 8), ?_⟩; have e0 : b0 = 0 := by unfold hdN at hlen; omega
     have e1 : b1 = (((encL l).length / 256 : Nat) : Int) := by unfold hdN at hlen; omega
     have e2 : b2 = (((encL l).length % 256 : Nat) : Int) := by unfold hdN at hlen; omega
     have e3 : b0 :: b1 :: b2 :: r.take (hdN b0 b1 b2) = frmO l := by rw [he, e0, e1, e2]; rfl
     rw [e3] at hs; unfold frmS; rw [← hs, ← e3]; simp only [List.cons_append, List.append_assoc]; rw [← List.drop_drop, List.take_append_drop, List.take_append_drop]
    ·cases h
   ·cases h
 ·cases h
theorem bits_or64 (a b : Nat) (ha : a < 9223372036854775808) (hb : b < 9223372036854775808) : bits .or .i64 (a : Int) (b : Int) = IntKind.i64.wrap ((a ||| b : Nat) : Int) := by
 show IntKind.i64.wrap ((BitVec.ofInt 64 (a : Int) ||| BitVec.ofInt 64 (b : Int)).toNat : Int) = _
 rw [BitVec.toNat_or, BitVec.ofInt_natCast, BitVec.toNat_ofNat, BitVec.ofInt_natCast, BitVec.toNat_ofNat, Nat.mod_eq_of_lt (show a < 2 ^ 64 by omega), Nat.mod_eq_of_lt (show b < 2 ^ 64 by omega)]
theorem frm_N {b0 b1 b2 : Int} (h0 : 0 ≤ b0 ∧ b0 < 256) (h1 : 0 ≤ b1 ∧ b1 < 256) (h2 : 0 ≤ b2 ∧ b2 < 256) : frmN b0 b1 b2 = ((hdN b0 b1 b2 : Nat) : Int) := by
 obtain ⟨x, rfl⟩ : ∃ x : Nat, b0 = (x : Int) := ⟨b0.toNat, by omega⟩; obtain ⟨y, rfl⟩ : ∃ x : Nat, b1 = (x : Int) := ⟨b1.toNat, by omega⟩; obtain ⟨z, rfl⟩ : ∃ x : Nat, b2 = (x : Int) := ⟨b2.toNat, by omega⟩; unfold frmN hdN; have e1 : IntKind.i64.wrap (IntKind.i64.wrap (x : Int) * 2 ^ 16) = ((x * 2 ^ 16 : Nat) : Int) := by rw [IntKind.wrap_i64, IntKind.wrap_i64]; omega
 have e2 : IntKind.i64.wrap (IntKind.i64.wrap (y : Int) * 2 ^ 8) = ((y * 2 ^ 8 : Nat) : Int) := by rw [IntKind.wrap_i64, IntKind.wrap_i64]; omega
 have e3 : IntKind.i64.wrap (z : Int) = (z : Int) := by rw [IntKind.wrap_i64]; omega
 rw [e1, e2, e3, bits_or64 _ _ (by omega) (by omega), nat_join 16 (x * 2 ^ 16) (y * 2 ^ 8) (Nat.mul_mod_left _ _) (by omega)]; have e4 : IntKind.i64.wrap ((x * 2 ^ 16 + y * 2 ^ 8 : Nat) : Int) = ((x * 2 ^ 16 + y * 2 ^ 8 : Nat) : Int) := by rw [IntKind.wrap_i64]; omega
 rw [e4, bits_or64 _ _ (by omega) (by omega), nat_join 8 _ z (by omega) (by omega), IntKind.wrap_i64]; omega
theorem s8_k8 {d : List Int} (h : d.length = 8) : ∃ x, k8 d = some x ∧ ∀ y, decide (x = k8s y) = decide (d = s8 y) := by
 match d, h with
 | [d0, d1, d2, d3, d4, d5, d6, d7], _ =>
  refine ⟨_, rfl, fun y => ?_⟩; unfold k8s s8; simp only [K8_uint8.mk.injEq, List.cons.injEq, and_true]
def FstR (b : List Int) (x : List Int × Int × Bool) : Prop := match hdS b with
 | some l => x = (l, (((frmS l).length : Nat) : Int), true)
 | none => x.2.2 = false
theorem first_p {b : List Int} (hb : By b) (hl : b.length ≤ 1000000) {F : Nat} (hF : 64 ≤ F) : ∃ x, G_codec_first F b = some x ∧ FstR b x := by
 unfold FstR G_codec_first
 match b, hb, hl with
 | [], _, _ => exact ⟨_, rfl, rfl⟩
 | [_], _, _ => exact ⟨_, rfl, rfl⟩
 | [_, _], _, _ => exact ⟨_, rfl, rfl⟩
 | b0 :: b1 :: b2 :: r, hb, hl =>
  have h0 := hb b0 (by simp); have h1 := hb b1 (by simp); have h2 := hb b2 (by simp); have hr : By r := fun x hx => hb x (by simp [hx])
  have hn : hdN b0 b1 b2 ≤ 16777215 := by unfold hdN; omega
  simp only [List.length_cons] at hl; simp only [frm_N h0 h1 h2]; have hd0 : ∀ n l, hdN b0 b1 b2 = n → getS (r.take n) = (l, 0) → n ≤ r.length → (frmS l).length = n + 11 := fun n l hn hg hle => by
   obtain ⟨ho, he⟩ := get_only (hr.take _) hg; have hlen := congrArg List.length he; rw [List.length_take, Nat.min_eq_left hle] at hlen; rw [frm_len]; omega
  generalize hq : hdN b0 b1 b2 = n at hn hd0 ⊢; have e11 : IntKind.i64.wrap ((n : Int) + 11) = ((n + 11 : Nat) : Int) := by rw [IntKind.wrap_i64]; omega
  have e3 : IntKind.i64.wrap ((n : Int) + 3) = ((n + 3 : Nat) : Int) := by rw [IntKind.wrap_i64]; omega
  simp only [e11, e3]; simp only [hdS, hq]
  by_cases hlt : r.length < n + 8
  ·rw [if_pos hlt, decide_eq_true (by simp only [List.length_cons]; omega), ifB_t]; exact ⟨_, rfl, rfl⟩
  ·rw [if_neg hlt, decide_eq_false (by simp only [List.length_cons]; omega), ifB_f, slI_ok (by omega) (by simp only [List.length_cons]; omega), ob_some]; have ea : ((b0 :: b1 :: b2 :: r).take (n + 11)).drop (n + 3) = (r.drop n).take 8 := by
    rw [show n + 11 = (n + 3) + 8 by omega, List.drop_take, show n + 3 + 8 - (n + 3) = 8 by omega, show n + 3 = n + 1 + 1 + 1 by omega]; rfl
   rw [ea]; obtain ⟨x, hx, hxs⟩ := s8_k8 (d := (r.drop n).take 8) (by simp only [List.length_take, List.length_drop]; omega); have h03 := slI_ok (l := b0 :: b1 :: b2 :: r) (p := 0) (q := n + 3) (Nat.zero_le _) (by simp only [List.length_cons]; omega); rw [List.drop_zero, show ((0 : Nat) : Int) = 0 from rfl, show n + 3 = n + 1 + 1 + 1 from rfl] at h03; simp only [List.take_succ_cons] at h03; have h33 := slI_ok (l := b0 :: b1 :: b2 :: r) (p := 3) (q := n + 3) (by omega) (by simp only [List.length_cons]; omega); rw [show n + 3 = n + 1 + 1 + 1 from rfl] at h33; simp only [List.take_succ_cons, List.drop_succ_cons, List.drop_zero] at h33; rw [show ((3 : Nat) : Int) = 3 from rfl] at h33; rw [hx, ob_some, show n + 3 = n + 1 + 1 + 1 from rfl, h03, ob_some, sum_p (by simp only [List.length_cons, List.length_take]; omega) hF, ob_some, hxs, h33]
   by_cases hs : (r.drop n).take 8 = s8 (sumB (b0 :: b1 :: b2 :: r.take n))
   ·rw [if_pos hs, decide_eq_true hs, ifB_t, ob_some]; have hg : G_codec_Get F (r.take n) = some (getS (r.take n)) := if_pos (by simp only [List.length_take]; omega); rw [hg, ob_some]; rcases get_cases (r.take n) with e | ⟨l, e⟩
    ·rw [e]; exact ⟨_, rfl, rfl⟩
    ·have hlf := hd0 n l rfl e (by omega); rw [e]; refine ⟨(l, ((n + 11 : Nat) : Int), true), rfl, ?_⟩
     show (l, ((n + 11 : Nat) : Int), true) = (l, (((frmS l).length : Nat) : Int), true)
     rw [hlf]
   ·rw [if_neg hs, decide_eq_false hs, ifB_f]; exact ⟨_, rfl, rfl⟩
end Go.Proofs.Ytlfkgbideknkhaa
namespace Go.Proofs.Ytlfkgbideknkhaa
open Go.RowKit
def frs : Nat → List Int → List (List Int)
 | 0, _ => []
 | k + 1, b => match hdS b with
  | none => []
  | some l => l :: frs k (b.drop (frmS l).length)
theorem frm_pos (l : List Int) : 11 ≤ (frmS l).length := by rw [frm_len]; omega
theorem frs_fuel : ∀ {k m : Nat} {b : List Int}, By b → b.length ≤ k → b.length ≤ m → frs k b = frs m b
 | 0, m, b, hb, h1, h2 => by
  obtain rfl : b = [] := List.eq_nil_of_length_eq_zero (by omega); cases m <;> rfl
 | k + 1, 0, b, hb, h1, h2 => by
  obtain rfl : b = [] := List.eq_nil_of_length_eq_zero (by omega); rfl
 | k + 1, m + 1, b, hb, h1, h2 => by
  unfold frs; cases h : hdS b with
  | none => rfl
  | some l =>
   have := frm_pos l; simp only; rw [frs_fuel (k := k) (m := m) (hb.drop _) (by rw [List.length_drop]; omega) (by rw [List.length_drop]; omega)]
def frA (b : List Int) : List (List Int) := frs b.length b
theorem frA_none {b : List Int} (h : hdS b = none) : frA b = [] := by
 unfold frA; cases hb : b.length with
 | zero => rfl
 | succ k => unfold frs; rw [h]
theorem frA_some {b l : List Int} (hb : By b) (h : hdS b = some l) : frA b = l :: frA (b.drop (frmS l).length) := by
 obtain ⟨_, rest, he⟩ := hd_only hb h; have h1 := frm_pos l; have h2 := congrArg List.length he; rw [List.length_append] at h2; unfold frA; obtain ⟨k, hk⟩ : ∃ k, b.length = k + 1 := ⟨b.length - 1, by omega⟩; rw [hk, frs, h]; simp only; rw [frs_fuel (hb.drop _) (k := k) (m := (b.drop (frmS l).length).length) (by rw [List.length_drop]; omega) (Nat.le_refl _)]
theorem frA_cons {l rest : List Int} (h : OkL l) (hb : By rest) : frA (frmS l ++ rest) = l :: frA rest := by
 rw [frA_some ((frm_by h).app hb) (hd_back h), List.drop_left]
theorem frA_app : ∀ {ls : List (List Int)} {rest : List Int}, (∀ l ∈ ls, OkL l) → By rest → frA (ls.flatMap frmS ++ rest) = ls ++ frA rest
 | [], _, _, _ => rfl
 | l :: ls, rest, h, hb => by
  have h' : ∀ m ∈ ls, OkL m := fun m hm => h m (List.mem_cons_of_mem _ hm)
  have hby : By (ls.flatMap frmS) := fun x hx => by
   obtain ⟨m, hm, hx⟩ := List.mem_flatMap.1 hx; exact frm_by (h' m hm) x hx
  rw [List.flatMap_cons, List.append_assoc, frA_cons (h l List.mem_cons_self) (hby.app hb), frA_app h' hb]; rfl
theorem frA_parts : ∀ {n : Nat} {b : List Int}, b.length ≤ n → By b → ∃ rest, b = (frA b).flatMap frmS ++ rest ∧ (∀ l ∈ frA b, OkL l) ∧ hdS rest = none
 | n, b, hn, hb => by
  cases h : hdS b with
  | none => exact ⟨b, by rw [frA_none h]; rfl, by rw [frA_none h]; exact fun _ h => absurd h List.not_mem_nil, h⟩
  | some l =>
   obtain ⟨ho, rest, he⟩ := hd_only hb h; have h1 := frm_pos l; have h2 := congrArg List.length he; rw [List.length_append] at h2
   match n, hn with
   | 0, hn => omega
   | n + 1, hn =>
    have hbr : By rest := by rw [he] at hb; exact hb.r
    obtain ⟨rest', e1, e2, e3⟩ := frA_parts (n := n) (b := rest) (by omega) hbr; refine ⟨rest', ?_, ?_, e3⟩
    ·rw [frA_some hb h, he, List.drop_left, List.flatMap_cons, List.append_assoc, ← e1]
    ·rw [frA_some hb h, he, List.drop_left]; intro m hm; rcases List.mem_cons.1 hm with rfl | hm
     ·exact ho
     ·exact e2 m hm
def frL37 (ls : List (List Int)) : Nat := (ls.flatMap frmS).length
theorem frL37_cons (l : List Int) (ls : List (List Int)) : frL37 (l :: ls) = (frmS l).length + frL37 ls := by unfold frL37; rw [List.flatMap_cons, List.length_append]
theorem frames_loop {b : List Int} (hb : By b) (hl : b.length ≤ 100000) {F0 : Nat} (hF0 : 64 ≤ F0) : ∀ {m at_ F : Nat} {out : List (List Int)} {x : List Int × Int × Bool}, b.length ≤ at_ + m → at_ ≤ b.length → out.length ≤ at_ → G_codec_first F0 (b.drop at_) = some x → m < F →
    iter (σ := (List (List Int)) × Int × (List Int) × Int × Bool) (ρ := ((List (List Int)) × Int)) (un5 fun (v_28 : (List (List Int))) (v_31 : Int) (v_32 : (List Int)) (v_35 : Int) (v_36 : Bool) => 
          (ifB (v_36)
            (Option.bind (apG 24 v_28 ([v_32] : List (List Int))) (fun v_40 =>
            Option.bind (slI b (IntKind.i64.wrap (v_31 + v_35)) ((b.length : Nat) : Int)) (fun v_41 =>
            Option.bind (G_codec_first F0 v_41) (un3 fun v_42 v_43 v_44 =>
            some (.inl (v_40, IntKind.i64.wrap (v_31 + v_35), v_42, v_43, v_44))))))
            (some (.inr (v_28, v_31))) : Option (((List (List Int)) × Int × (List Int) × Int × Bool) ⊕ ((List (List Int)) × Int)))) F (out, (at_ : Int), x.1, x.2.1, x.2.2) = some (out ++ frA (b.drop at_), ((at_ + frL37 (frA (b.drop at_)) : Nat) : Int)) := by
  intro m
  induction m with
  | zero =>
    intro at_ F out x hm ha ho hx hF
    obtain ⟨F', rfl⟩ : ∃ F', F = F' + 1 := ⟨F - 1, by omega⟩
    have e : b.drop at_ = [] := List.drop_eq_nil_of_le (by omega)
    obtain ⟨y, h1, h2⟩ := first_p (hb.drop at_) (by rw [List.length_drop]; omega) hF0
    rw [hx] at h1
    obtain rfl := Option.some.inj h1
    have h3 : hdS (b.drop at_) = none := by rw [e]; rfl
    unfold FstR at h2
    rw [h3] at h2
    unfold iter
    simp only [un5]
    rw [show x.2.2 = false from h2, ifB_f, frA_none h3]
    simp [frL37]
  | succ m ih =>
    intro at_ F out x hm ha ho hx hF
    obtain ⟨F', rfl⟩ : ∃ F', F = F' + 1 := ⟨F - 1, by omega⟩
    obtain ⟨y, h1, h2⟩ := first_p (hb.drop at_) (by rw [List.length_drop]; omega) hF0
    rw [hx] at h1
    obtain rfl := Option.some.inj h1
    unfold FstR at h2
    cases h3 : hdS (b.drop at_) with
    | none =>
      rw [h3] at h2
      unfold iter
      simp only [un5]
      rw [show x.2.2 = false from h2, ifB_f, frA_none h3]
      simp [frL37]
    | some l =>
      rw [h3] at h2
      obtain rfl : x = _ := h2
      obtain ⟨hok, rest, he⟩ := hd_only (hb.drop at_) h3
      have h4 := frm_pos l
      have h5 := congrArg List.length he
      rw [List.length_drop, List.length_append] at h5
      obtain ⟨z, hz, _⟩ := first_p (hb.drop (at_ + (frmS l).length)) (by rw [List.length_drop]; omega) hF0
      have ew : IntKind.i64.wrap ((at_ : Int) + (((frmS l).length : Nat) : Int)) = ((at_ + (frmS l).length : Nat) : Int) := by rw [IntKind.wrap_i64]; omega
      unfold iter
      simp only [un5, un3]
      rw [ifB_t, apG_ok (by simp only [List.length_cons, List.length_nil]; omega), ob_some, ew, slI_ok (by omega) (Nat.le_refl _), ob_some, List.take_length, hz]
      simp only [ob_some]
      rw [ih (by omega) (by omega) (by simp only [List.length_append, List.length_cons, List.length_nil]; omega) hz (by omega), frA_some (hb.drop at_) h3, List.drop_drop, frL37_cons, List.append_assoc]
      simp [Nat.add_assoc]
theorem frames_p {b : List Int} (hb : By b) (hl : b.length ≤ 100000) {F : Nat} (hF : 200000 < F) : G_codec_Frames F b = some (frA b, ((frL37 (frA b) : Nat) : Int), 0) := by
 unfold G_codec_Frames; obtain ⟨x, hx, _⟩ := first_p hb (by omega) (F := F) (by omega); rw [decide_eq_false (by omega), ifB_f, hx]; obtain ⟨x1, x2, x3⟩ := x; simp only [ob_some, un3]; have := frames_loop hb hl (F0 := F) (by omega) (m := b.length) (at_ := 0) (F := F) (out := []) (x := (x1, x2, x3)) (by omega) (Nat.zero_le _) (Nat.zero_le _) (by rw [List.drop_zero]; exact hx) (by omega); rw [List.drop_zero, List.nil_append, Nat.zero_add] at this; rw [show ((0 : Nat) : Int) = 0 from rfl] at this; rw [this]; rfl
end Go.Proofs.Ytlfkgbideknkhaa
namespace Go.Proofs.Ytlfkgbideknkhaa
open Go.RowKit
def seI (s : KSeen) : List Int := [s.Key, s.Ts]
def wrI (w : KWrite) : List Int := [w.Key, w.Value, if w.Gone then 1 else 0]
def intsS (t : KTx) : List Int := t.ID :: t.Ts :: (t.Reads.length : Int) :: (t.Reads.flatMap seI ++ (t.Writes.length : Int) :: t.Writes.flatMap wrI)
theorem seI_len (l : List KSeen) : (l.flatMap seI).length = 2 * l.length := by
 induction l with
 | nil => rfl
 | cons x l ih => rw [List.flatMap_cons, List.length_append, ih, List.length_cons, show (seI x).length = 2 from rfl]; omega
theorem wrI_len (l : List KWrite) : (l.flatMap wrI).length = 3 * l.length := by
 induction l with
 | nil => rfl
 | cons x l ih => rw [List.flatMap_cons, List.length_append, ih, List.length_cons, show (wrI x).length = 3 from rfl]; omega
theorem ints_len (t : KTx) : (intsS t).length = 4 + 2 * t.Reads.length + 3 * t.Writes.length := by
 unfold intsS; simp only [List.length_cons, List.length_append, seI_len, wrI_len]; omega
theorem ints_p (t : KTx) (h : FewT t) {F : Nat} (hF : 64 ≤ F) : G_journal_ints F t = some (intsS t) := by
 have hr := h.r; have hw := h.w; unfold G_journal_ints; rw [iter_fold (fun b i => (i, b)) t.Reads (fun b x => b ++ seI x) id (fun k b => b.length = 3 + 2 * k) ?_ ?_ (by omega) [t.ID, t.Ts, ((t.Reads.length : Nat) : Int)] rfl]
 ·simp only [ob_some, id, foldl_fl]; rw [apG_ok (by simp only [List.length_append, List.length_cons, List.length_nil, seI_len]; omega), ob_some]; rw [iter_fold (fun b i => (b, i)) t.Writes (fun b x => b ++ wrI x) id (fun k b => b.length ≤ 100 + 3 * k) ?_ ?_ (by omega) _ (by simp only [List.length_append, List.length_cons, List.length_nil, seI_len]; omega)]
  ·simp only [ob_some, id, foldl_fl]
   simp [intsS]
  ·intro b _; simp only [un2, ltn, ifB_f, id]
  ·intro b k hk hb; simp only [un2, ltl hk, ifB_t, ixI_get hk, ob_some, w64_1 hk (by omega), List.length_append]; have e : (ifB t.Writes[k].Gone (some (1 : Int)) (some 0) : Option Int) = some (if t.Writes[k].Gone then 1 else 0) := by cases t.Writes[k].Gone <;> rfl
   rw [e, ob_some, apG_ok (by simp only [List.length_cons, List.length_nil]; omega), ob_some]; exact ⟨rfl, by simp only [wrI, List.length_cons, List.length_nil]; omega⟩
 ·intro b _; simp only [un2, ltn, ifB_f, id]
 ·intro b k hk hb; simp only [un2, ltl hk, ifB_t, ixI_get hk, ob_some, w64_1 hk (by omega), List.length_append]; rw [apG_ok (by simp only [List.length_cons, List.length_nil]; omega), ob_some]; exact ⟨rfl, by simp only [seI, List.length_cons, List.length_nil]; omega⟩
theorem Txs.ok {t : KTx} (h : Txs t) : OkL (intsS t) := by
 have hf := h.few; refine ⟨by rw [ints_len]; omega, fun n hn => ?_⟩; have hid := h.id; have hts := h.ts; simp only [intsS, List.mem_cons, List.mem_append, List.mem_flatMap] at hn; rcases hn with rfl | rfl | rfl | ⟨s, hs, hn⟩ | rfl | ⟨w, hw, hn⟩
 ·exact ⟨by omega, by omega⟩
 ·exact ⟨by omega, by omega⟩
 ·exact ⟨by omega, by omega⟩
 ·have h1 := h.rd s hs; have h2 := h.rp s hs; unfold seenB at h1; simp only [Bool.and_eq_true, decide_eq_true_eq] at h1; simp only [seI, List.mem_cons, List.not_mem_nil, or_false] at hn; rcases hn with rfl | rfl <;> exact ⟨by omega, by omega⟩
 ·exact ⟨by omega, by omega⟩
 ·have h1 := h.wr w hw; have h2 := h.wp w hw; unfold writB at h1; simp only [Bool.and_eq_true, decide_eq_true_eq] at h1; simp only [wrI, List.mem_cons, List.not_mem_nil, or_false] at hn; rcases hn with rfl | rfl | rfl
  ·exact ⟨by omega, by omega⟩
  ·exact ⟨by omega, by omega⟩
  ·split <;> exact ⟨by omega, by omega⟩
theorem Txs.fewT {t : KTx} (h : Txs t) : FewT t := ⟨by have := h.few.1; omega, by have := h.few.2; omega⟩
theorem rs_back : ∀ (l : List KSeen) (rest : List Int), rdSeen l.length (l.flatMap seI ++ rest) = some (l, rest)
 | [], _ => rfl
 | s :: l, rest => by
  show rdSeen (l.length + 1) (s.Key :: s.Ts :: (l.flatMap seI ++ rest)) = _
  rw [rdSeen, rs_back l rest]
theorem rs_only : ∀ {k : Nat} {b rest : List Int} {l : List KSeen}, rdSeen k b = some (l, rest) → l.length = k ∧ b = l.flatMap seI ++ rest
 | 0, b, rest, l, h => by simp only [rdSeen, Option.some.injEq, Prod.mk.injEq] at h; obtain ⟨rfl, rfl⟩ := h; exact ⟨rfl, rfl⟩
 | k + 1, [], rest, l, h => by cases h
 | k + 1, [_], rest, l, h => by cases h
 | k + 1, a :: c :: b, rest, l, h => by
  rw [rdSeen] at h
  split at h
  ·next s r hs =>
   cases h; obtain ⟨h1, h2⟩ := rs_only hs; exact ⟨by rw [List.length_cons, h1], by rw [h2]; rfl⟩
  ·cases h
theorem rw_back : ∀ (l : List KWrite) (rest : List Int), rdWr l.length (l.flatMap wrI ++ rest) = some (l, rest)
 | [], _ => rfl
 | w :: l, rest => by
  show rdWr (l.length + 1) (w.Key :: w.Value :: (if w.Gone then 1 else 0) :: (l.flatMap wrI ++ rest)) = _
  rw [rdWr, if_pos (by cases w.Gone <;> simp), rw_back l rest]; obtain ⟨a, b, g⟩ := w; cases g <;> rfl
theorem rw_only : ∀ {k : Nat} {b rest : List Int} {l : List KWrite}, rdWr k b = some (l, rest) → l.length = k ∧ b = l.flatMap wrI ++ rest
 | 0, b, rest, l, h => by simp only [rdWr, Option.some.injEq, Prod.mk.injEq] at h; obtain ⟨rfl, rfl⟩ := h; exact ⟨rfl, rfl⟩
 | k + 1, [], rest, l, h => by cases h
 | k + 1, [_], rest, l, h => by cases h
 | k + 1, [_, _], rest, l, h => by cases h
 | k + 1, a :: c :: v :: b, rest, l, h => by
  rw [rdWr] at h
  split at h
  ·next hv =>
   split at h
   ·next s r hs =>
    cases h; obtain ⟨h1, h2⟩ := rw_only hs; refine ⟨by rw [List.length_cons, h1], ?_⟩; rw [h2]; rcases hv with rfl | rfl <;> rfl
   ·cases h
  ·cases h
theorem rt_back (t : KTx) (hr : t.Reads.length ≤ 8) (hw : t.Writes.length ≤ 8) : readT (intsS t) = some t := by
 simp only [intsS, readT]; rw [if_pos (by omega), Int.toNat_natCast, rs_back]; simp only [fnS, List.nil_append, rdM]; rw [if_pos (by omega), Int.toNat_natCast]; have := rw_back t.Writes []; rw [List.append_nil] at this; rw [this]; rfl
theorem rt_only {l : List Int} {t : KTx} (h : readT l = some t) : l = intsS t ∧ t.Reads.length ≤ 8 ∧ t.Writes.length ≤ 8 := by
 unfold readT at h
 split at h
 ·next x y n r =>
  split at h
  ·next hn =>
   unfold fnS at h
   split at h
   ·next s l2 hs =>
    obtain ⟨h1, h2⟩ := rs_only hs; unfold rdM at h; rw [List.nil_append] at h
    split at h
    ·next m l3 =>
     split at h
     ·next hm =>
      unfold fnW at h
      split at h
      ·next u hu =>
       cases h; obtain ⟨h3, h4⟩ := rw_only hu; refine ⟨?_, by show s.length ≤ 8; omega, by show ([] ++ u).length ≤ 8; rw [List.nil_append]; omega⟩; unfold intsS; simp only [List.nil_append]; rw [h2, h4, h1, h3, List.append_nil, show ((n.toNat : Nat) : Int) = n by omega, show ((m.toNat : Nat) : Int) = m by omega]
      ·cases h
     ·cases h
    ·cases h
   ·cases h
  ·cases h
 ·cases h
def txO (l : List Int) : Option KTx := match readT l with
 | some t => if txS t = true then some t else none
 | none => none
theorem txO_back {t : KTx} (h : Txs t) : txO (intsS t) = some t := by
 unfold txO; rw [rt_back t h.few.1 h.few.2]; simp only; rw [if_pos ((txs_iff t).2 h)]
theorem txO_only {l : List Int} {t : KTx} (h : txO l = some t) : Txs t ∧ l = intsS t := by
 unfold txO at h
 split at h
 ·next t' ht =>
  split at h
  ·next hs =>
   cases h; exact ⟨(txs_iff t).1 hs, (rt_only ht).1⟩
  ·cases h
 ·cases h
def txR (o : Option KTx) : KTx × Bool := match o with
 | some t => (t, true)
 | none => (⟨0, 0, [], []⟩, false)
end Go.Proofs.Ytlfkgbideknkhaa
namespace Go.Proofs.Ytlfkgbideknkhaa
open Go.RowKit
theorem cmp_p (F : Nat) (a b : Int) : G_cmp_Compare_int F a b = some (cmpI a b) := by
 unfold G_cmp_Compare_int G_cmp_isNaN_int cmpI; simp only [beq_self_eq_true, Bool.not_true, ob_some, ifB_f]
 by_cases h : a < b
 ·rw [decide_eq_true h, ifB_t, if_pos h]
 ·rw [decide_eq_false h, ifB_f, if_neg h]
  by_cases h2 : b < a
  ·rw [decide_eq_true (p := a > b) h2, ifB_t, if_pos h2]
  ·rw [decide_eq_false (p := a > b) h2, ifB_f, if_neg h2]
theorem or_p (a b : Int) {F : Nat} (hF : 64 ≤ F) : G_cmp_Or_int F [a, b] = some (if a = 0 then b else a) := by
 obtain ⟨F', rfl⟩ : ∃ F', F = F' + 3 := ⟨F - 3, by omega⟩; unfold G_cmp_Or_int
 by_cases ha : a = 0
 ·subst ha
  by_cases hb : b = 0
  ·subst hb; rfl
  ·have e : ∀ x y : Option (Int ⊕ (Unit ⊕ Int)), ifB (b == 0) x y = y := fun x y => by rw [show (b == 0) = false from by simpa using hb]; rfl
   unfold iter; simp only [List.length_cons, List.length_nil]; rw [show decide ((0 : Int) < ((0 + 1 + 1 : Nat) : Int)) = true from rfl, ifB_t, show ixI [(0 : Int), b] 0 = some 0 from rfl, ob_some, show ((0 : Int) == 0) = true from rfl, ifB_t]; simp only; unfold iter; rw [show decide (IntKind.i64.wrap (0 + 1) < ((0 + 1 + 1 : Nat) : Int)) = true from by decide, ifB_t, show ixI [(0 : Int), b] (IntKind.i64.wrap (0 + 1)) = some b from rfl, ob_some, e]; rfl
 ·have e : ∀ x y : Option (Int ⊕ (Unit ⊕ Int)), ifB (a == 0) x y = y := fun x y => by rw [show (a == 0) = false from by simpa using ha]; rfl
  unfold iter; rw [show decide ((0 : Int) < (([a, b].length : Nat) : Int)) = true from rfl, ifB_t, show ixI [a, b] 0 = some a from rfl, ob_some, e, if_neg ha]; rfl
theorem order_p (a b : KVersion) {F : Nat} (hF : 64 ≤ F) : G_versions_order F a b = some (ordV a.v b.v) := by
 unfold G_versions_order; rw [cmp_p, ob_some, cmp_p, ob_some, or_p _ _ hF, ob_some]
 show some (if cmpI a.Key b.Key = 0 then cmpI a.Ts b.Ts else cmpI a.Key b.Key) = some (orL [cmpI a.Key b.Key, cmpI a.Ts b.Ts])
 simp only [orL]
 by_cases h : cmpI a.Key b.Key = 0
 ·rw [if_pos h, if_pos h]
  by_cases h2 : cmpI a.Ts b.Ts = 0
  ·rw [if_pos h2, h2]
  ·rw [if_neg h2]
 ·rw [if_neg h, if_neg h]
theorem wf_p (F : Nat) (v : KVersion) : G_versions_wellFormed F v = some (wfB v.v) := by
 unfold G_versions_wellFormed G_versions_isKey G_versions_isStamp; rw [win_p, win_p, win_p, wfB_eq]; unfold keyB stampB KVersion.v; simp only [ob_some]; cases decide (1 ≤ v.Key) <;> cases decide (v.Key ≤ 1000) <;> cases decide (1 ≤ v.Ts) <;> cases decide (v.Ts ≤ 3000000000000000) <;> cases decide (0 ≤ v.Value) <;> cases decide (v.Value ≤ 1000000) <;> cases v.Gone <;> rfl
theorem vval_p (l : List KVersion) (hl : l.length ≤ 100000) {F : Nat} (hF : l.length + 64 < F) : G_versions_Valid F l = some (validB (l.map KVersion.v)) := by
 unfold G_versions_Valid; rw [iter_chkU l (fun k _ => okAt (l.map KVersion.v) k) (.inl ()) (.inr ()) ?_ ?_ (by omega)]
 ·have e : frL (fun k (_ : KVersion) => okAt (l.map KVersion.v) k) l 0 = (List.range (l.map KVersion.v).length).all (okAt (l.map KVersion.v)) := by
   refine iff_bool ?_; rw [frL_iff, List.all_eq_true]; simp only [Nat.zero_add, List.mem_range, List.length_map]
  rw [e]; unfold validB; rw [deq (p := ((l.length : Nat) : Int) ≤ 4000) (q := (l.map KVersion.v).length ≤ 4000) (by rw [List.length_map]; omega)]; cases (List.range (l.map KVersion.v).length).all (okAt (l.map KVersion.v)) <;> rfl
 ·simp only [ltn, ifB_f]
 ·intro k h; simp only [ltl h, ifB_t, ixI_get h, ob_some, w64_1 h (by omega), wf_p]; rw [okAt_eq (by rw [List.length_map]; exact h)]; simp only [List.getElem_map]
  by_cases h0 : 0 < k
  ·rw [decide_eq_true (p := (k : Int) > 0) (by omega), ifB_t, w64_p h0 (by omega), ixI_get (by omega), ob_some, order_p _ _ (show 64 ≤ F by omega), ob_some, show (k == 0) = false by simpa using (by omega : k ≠ 0), Bool.false_or, dnot (p := ordV (l[k - 1]'(by omega)).v l[k].v ≥ 0) (q := ordV (l[k - 1]'(by omega)).v l[k].v < 0) (by omega)]; cases wfB l[k].v <;> cases decide (ordV (l[k - 1]'(by omega)).v l[k].v < 0) <;> rfl
  ·rw [decide_eq_false (p := (k : Int) > 0) (by omega), ifB_f, show (k == 0) = true by simpa using (by omega : k = 0), Bool.true_or, Bool.and_true]; cases wfB l[k].v <;> rfl
end Go.Proofs.Ytlfkgbideknkhaa
namespace Go.Proofs.Ytlfkgbideknkhaa
open Go.RowKit
def nW (l : List KTx) : Nat := (l.map fun t => t.Writes.length).foldr (· + ·) 0
def chnR : List KTx → Int → Option Int
 | [], a => some a
 | t :: ts, a => if (txF t && decide (a < t.Ts)) = true then chnR ts t.Ts else none
def maxV (l : List KVersion) : Int := l.foldl (fun a v => max a v.Ts) 0
def validL (x : KLeader) : Bool := validB (x.Store.map KVersion.v) && (decide (0 ≤ x.Last) && decide (x.Last ≤ 3000000000000000)) && decide (x.Open.length ≤ 2000) && decide (x.Store.length + nW x.Open ≤ 4000) &&
 match chnR x.Open (maxV x.Store) with | some a => decide (a ≤ x.Last) | none => false
theorem nW_cons (t : KTx) (l : List KTx) : nW (t :: l) = t.Writes.length + nW l := rfl
theorem foldl_nW : ∀ (l : List KTx) (b : Nat), l.foldl (fun b x => b + x.Writes.length) b = b + nW l
 | [], b => by simp [nW]
 | t :: l, b => by rw [List.foldl_cons, foldl_nW, nW_cons]; omega
theorem nW_le {l : List KTx} (h : ∀ t ∈ l, FewT t) : nW l ≤ 20 * l.length := by
 induction l with
 | nil => simp [nW]
 | cons t l ih =>
  have h1 := (h t List.mem_cons_self).w; have h2 := ih fun x hx => h x (List.mem_cons_of_mem _ hx)
  rw [nW_cons, List.length_cons]; omega
theorem size_p (x : KLeader) (hs : x.Store.length ≤ 5000) (hl : x.Open.length ≤ 5000) (h : ∀ t ∈ x.Open, FewT t) {F : Nat} (hF : 5001 ≤ F) : G_commit_size F x = some ((x.Store.length + nW x.Open : Nat) : Int) := by
 unfold G_commit_size; rw [iter_fold (fun (b : Nat) i => (i, (b : Int))) x.Open (fun b x => b + x.Writes.length) (fun b => (b : Int)) (fun k b => b ≤ 5000 + 20 * k) ?_ ?_ (by omega) x.Store.length (by omega)]
 ·rw [foldl_nW]; rfl
 ·intro b _; simp only [un2, ltn, ifB_f]
 ·intro b k hk hb; have h1 := (h _ (List.getElem_mem hk)).w; simp only [un2, ltl hk, ifB_t, ixI_get hk, ob_some, w64_1 hk (by omega)]; refine ⟨?_, by omega⟩; rw [show IntKind.i64.wrap ((b : Int) + ((x.Open[k].Writes.length : Nat) : Int)) = ((b + x.Open[k].Writes.length : Nat) : Int) from by rw [IntKind.wrap_i64]; omega]
theorem valid_p (x : KLeader) (hs : x.Store.length ≤ 5000) (hl : x.Open.length ≤ 5000) (h : ∀ t ∈ x.Open, FewT t) {F : Nat} (hF : 20000 ≤ F) : G_commit_Valid F x = some (validL x) := by
 unfold G_commit_Valid; rw [vval_p _ (by omega) (by omega), btw_p, size_p x hs hl h (by omega)]; simp only [ob_some]; rw [show decide (((x.Open.length : Nat) : Int) > 2000) = !decide (x.Open.length ≤ 2000) from dnot (by omega), show decide (((x.Store.length + nW x.Open : Nat) : Int) > 4000) = !decide (x.Store.length + nW x.Open ≤ 4000) from dnot (by omega)]; rw [iter_fold (fun b i => (b, i)) x.Store (fun a v => max a v.Ts) id (fun _ _ => True) (fun b _ => by simp only [un2, ltn, ifB_f, id]) (fun b k hk _ => ⟨by simp only [un2, ltl hk, ifB_t, ixI_get hk, ob_some, w64_1 hk (by omega)], trivial⟩) (by omega) 0 trivial]; simp only [ob_some, id]; rw [iter_foldX (τ := Unit) (fun b i => (b, i)) x.Open (fun a t => if (txF t && decide (a < t.Ts)) = true then .inl t.Ts else .inr ()) (fun a => .inl a) (fun _ => .inr ()) (fun _ _ => True) (fun l a => match chnR l a with | some b => .inl b | none => .inr ()) (fun _ => rfl) (fun t ts a => by rw [show chnR (t :: ts) a = if (txF t && decide (a < t.Ts)) = true then chnR ts t.Ts else none from rfl]; by_cases hc : (txF t && decide (a < t.Ts)) = true <;> simp [hc]) (fun b _ => by simp only [un2, ltn, ifB_f]) (fun b k hk _ => ⟨?_, fun _ _ => trivial⟩) (by omega) _ trivial]
 ·unfold validL maxV; cases validB (x.Store.map KVersion.v) <;> cases (decide (0 ≤ x.Last) && decide (x.Last ≤ 3000000000000000)) <;> cases decide (x.Open.length ≤ 2000) <;> cases decide (x.Store.length + nW x.Open ≤ 4000) <;> cases chnR x.Open (x.Store.foldl (fun a v => max a v.Ts) 0) <;> rfl
 ·simp only [un2, ltl hk, ifB_t, ixI_get hk, ob_some, w64_1 hk (by omega), formed_p _ (h _ (List.getElem_mem hk)) (show 64 ≤ F by omega)]; rw [dnot (p := x.Open[k].Ts ≤ b) (q := b < x.Open[k].Ts) (by omega)]; cases txF x.Open[k] <;> cases decide (b < x.Open[k].Ts) <;> rfl
theorem jformed_p (t : KTx) (h : FewT t) {F : Nat} (hF : 20000 ≤ F) : G_journal_formed F t = some (txS t) := by
 unfold G_journal_formed; rw [valid_p ⟨t.Ts, [], [t]⟩ (by simp) (by simp) (by simpa using h) hF, txS_F]; simp only [ob_some]; have hv : validL ⟨t.Ts, [], [t]⟩ = (validB [] && (decide (0 ≤ t.Ts) && decide (t.Ts ≤ 3000000000000000)) && decide (1 ≤ 2000) && decide (0 + (t.Writes.length + 0) ≤ 4000) && match (if (txF t && decide (0 < t.Ts)) = true then some t.Ts else none) with | some a => decide (a ≤ t.Ts) | none => false) := rfl; have hw := h.w; rw [hv, show validB [] = true from rfl, decide_eq_true (p := 1 ≤ 2000) (by omega), decide_eq_true (p := 0 + (t.Writes.length + 0) ≤ 4000) (by omega), show decide (t.Ts > 0) = decide (1 ≤ t.Ts) from deq (by omega)]
 by_cases h1 : 1 ≤ t.Ts
 ·rw [decide_eq_true h1, decide_eq_true (p := 0 ≤ t.Ts) (by omega), ifB_t, Bool.and_true]; cases hf : txF t with
  | false => cases decide (t.Ts ≤ 3000000000000000) <;> rfl
  | true =>
   have : t.Ts ≤ 3000000000000000 := by
    unfold txF at hf; simp only [Bool.and_eq_true, decide_eq_true_eq] at hf; omega
   rw [decide_eq_true this]
   simp
 ·rw [decide_eq_false h1, ifB_f, Bool.and_false]; rfl
theorem read_p (l : List Int) {F : Nat} (hF : 20000 ≤ F) : G_journal_read F l = some (txR (txO l)) := by
 unfold G_journal_read txO; cases h : readT l with
 | none => rfl
 | some t =>
  obtain ⟨_, h1, h2⟩ := rt_only h; simp only [readB]; rw [jformed_p t ⟨by omega, by omega⟩ hF, ob_some]; cases txS t <;> rfl
def recT (t : KTx) : List Int := frmS (intsS t)
def logB (ts : List KTx) : List Int := ts.flatMap recT
def recS : List (List Int) → Int → List KTx
 | [], _ => []
 | f :: fs, last => match txO f with
  | some t => if last < t.Ts then t :: recS fs t.Ts else []
  | none => []
theorem rec_p {F : Nat} (hF : 20000 ≤ F) : ∀ (fs : List (List Int)) (last : Int), recG F fs last = some (recS fs last)
 | [], _ => rfl
 | f :: fs, last => by
  unfold recG recS; rw [read_p f hF]; cases txO f with
  | none => rfl
  | some t =>
   simp only [ob_some, txR, un2, Bool.not_true, Bool.false_or]
   by_cases h : last < t.Ts
   ·rw [if_pos h, decide_eq_false (by omega), ifB_f, rec_p hF fs t.Ts]; rfl
   ·rw [if_neg h, decide_eq_true (by omega), ifB_t]
theorem rec_ris : ∀ {fs : List (List Int)} {a : Int}, (∀ t ∈ recS fs a, Txs t) ∧ (a :: (recS fs a).map (·.Ts)).Pairwise (· < ·) ∧ ∃ more, fs = (recS fs a).map intsS ++ more
 | [], a => ⟨fun _ h => absurd h List.not_mem_nil, by simp [recS], [], rfl⟩
 | f :: fs, a => by
  unfold recS; cases h : txO f with
  | none => exact ⟨fun _ h => absurd h List.not_mem_nil, by simp, f :: fs, rfl⟩
  | some t =>
   obtain ⟨h1, h2⟩ := txO_only h; simp only
   by_cases hl : a < t.Ts
   ·rw [if_pos hl]; obtain ⟨e1, e2, more, e3⟩ := rec_ris (fs := fs) (a := t.Ts); refine ⟨fun x hx => ?_, ?_, more, ?_⟩
    ·rcases List.mem_cons.1 hx with rfl | hx
     ·exact h1
     ·exact e1 x hx
    ·rw [List.map_cons, List.pairwise_cons]; refine ⟨fun x hx => ?_, e2⟩; rcases List.mem_cons.1 hx with rfl | hx
     ·exact hl
     ·exact Int.lt_trans hl ((List.pairwise_cons.1 e2).1 x hx)
    ·rw [List.map_cons, List.cons_append, ← e3, h2]
   ·rw [if_neg hl]; exact ⟨fun _ h => absurd h List.not_mem_nil, by simp, f :: fs, rfl⟩
def lastT (a : Int) (ts : List KTx) : Int := ts.foldl (fun _ t => t.Ts) a
theorem rec_app : ∀ {ts : List KTx} {fs : List (List Int)} {a : Int}, (∀ t ∈ ts, Txs t) → (a :: ts.map (·.Ts)).Pairwise (· < ·) → recS (ts.map intsS ++ fs) a = ts ++ recS fs (lastT a ts)
 | [], _, _, _, _ => rfl
 | t :: ts, fs, a, h, hp => by
  rw [List.map_cons, List.cons_append, recS, txO_back (h t List.mem_cons_self)]; simp only; rw [List.map_cons] at hp; have h1 := (List.pairwise_cons.1 hp).1 t.Ts List.mem_cons_self; rw [if_pos h1, rec_app (fun x hx => h x (List.mem_cons_of_mem _ hx)) (List.pairwise_cons.1 hp).2]; rfl
theorem logB_map (ts : List KTx) : logB ts = (ts.map intsS).flatMap frmS := by
 unfold logB recT; rw [List.flatMap_map]
theorem logB_by {ts : List KTx} (h : ∀ t ∈ ts, Txs t) : By (logB ts) := fun x hx => by
 obtain ⟨t, ht, hx⟩ := List.mem_flatMap.1 hx; exact frm_by (h t ht).ok x hx
theorem logB_cons (t : KTx) (ts : List KTx) : logB (t :: ts) = recT t ++ logB ts := List.flatMap_cons
theorem logB_app (ts us : List KTx) : logB (ts ++ us) = logB ts ++ logB us := List.flatMap_append
def txsS (b : List Int) : List KTx := recS (frA b) 0
theorem ris_log {ts : List KTx} : logS ts = true ↔ (∀ t ∈ ts, Txs t) ∧ (0 :: ts.map (·.Ts)).Pairwise (· < ·) := by
 unfold logS; rw [Bool.and_eq_true, List.all_eq_true, risF_iff]; simp only [txs_iff]
theorem txs_log (b : List Int) : logS (txsS b) = true := ris_log.2 ⟨rec_ris.1, rec_ris.2.1⟩
theorem txs_parts {b : List Int} (hb : By b) : ∃ rest, b = logB (txsS b) ++ rest := by
 obtain ⟨rest, e1, _, _⟩ := frA_parts (Nat.le_refl _) hb; obtain ⟨_, _, more, e2⟩ := rec_ris (fs := frA b) (a := 0); refine ⟨more.flatMap frmS ++ rest, ?_⟩; rw [← List.append_assoc]
 conv => lhs; rw [e1, e2, List.flatMap_append]
 rw [← logB_map]; rfl
theorem txs_len {b : List Int} (hb : By b) : (logB (txsS b)).length ≤ b.length := by
 obtain ⟨rest, e⟩ := txs_parts hb; have := congrArg List.length e; rw [List.length_append] at this; omega
theorem log_app {ts : List KTx} {rest : List Int} (h : logS ts = true) (hb : By rest) : txsS (logB ts ++ rest) = ts ++ recS (frA rest) (lastT 0 ts) := by
 obtain ⟨h1, h2⟩ := ris_log.1 h; unfold txsS; rw [logB_map, frA_app (fun l hl => by obtain ⟨t, ht, rfl⟩ := List.mem_map.1 hl; exact (h1 t ht).ok) hb, rec_app h1 h2]
theorem log_txs {ts : List KTx} (h : logS ts = true) : txsS (logB ts) = ts := by
 have := log_app h By.nil; rw [List.append_nil] at this; rw [this, show frA [] = [] from rfl]; exact List.append_nil ts
theorem logB_many (ts : List KTx) : 11 * ts.length ≤ (logB ts).length := by
 induction ts with
 | nil => simp
 | cons t ts ih =>
  have := frm_pos (intsS t); rw [logB_cons, List.length_append, List.length_cons]; unfold recT; omega
theorem txs_few {b : List Int} : ∀ t ∈ txsS b, FewT t := fun t ht => (rec_ris.1 t ht).fewT
theorem off_p {F : Nat} (hF : 20000 ≤ F) : ∀ {ts : List KTx} {o : Nat}, (∀ t ∈ ts, Txs t) → o + (logB ts).length ≤ 1000000 → offG F ts (o : Int) = some ((o + (logB ts).length : Nat) : Int)
 | [], o, _, _ => rfl
 | t :: ts, o, h, hl => by
  have ht := h t List.mem_cons_self; unfold offG; rw [ints_p t ht.fewT (by omega), ob_some, frame_p ht.ok (by omega)]; rw [logB_cons, List.length_append] at hl ⊢; simp only [ob_some, un2]; rw [show ((0 : Int) == 0) = true from rfl, ifB_t, show IntKind.i64.wrap ((o : Int) + (((frmS (intsS t)).length : Nat) : Int)) = ((o + (recT t).length : Nat) : Int) from by unfold recT at hl ⊢; rw [IntKind.wrap_i64]; omega, off_p hF (fun x hx => h x (List.mem_cons_of_mem _ hx)) (by omega), Nat.add_assoc]
theorem load_p {b : List Int} (hb : By b) (hl : b.length ≤ 100000) {F : Nat} (hF : 200000 < F) : G_journal_Load F b = some (txsS b, (((logB (txsS b)).length : Nat) : Int), 0) := by
 have h1 := txs_len hb; obtain ⟨rest, e, _, _⟩ := frA_parts (Nat.le_refl _) hb; unfold G_journal_Load; rw [frames_p hb hl hF]; simp only [ob_some, un3]; have hfr : (frA b).length ≤ b.length := by
  have key : ∀ ls : List (List Int), ls.length ≤ (ls.flatMap frmS).length := by
   intro ls
   induction ls with
   | nil => simp
   | cons l ls ih =>
    have := frm_pos l; rw [List.flatMap_cons, List.length_append, List.length_cons]; omega
  have h2 := key (frA b); have h3 := congrArg List.length e; rw [List.length_append] at h3; omega
 rw [show (!((0 : Int) == 0)) = false from rfl, ifB_f, decide_eq_true (by omega), ifB_t, rec_p (by omega)]; simp only [ob_some]; have := off_p (F := F) (by omega) (ts := recS (frA b) 0) (o := 0) rec_ris.1 (by show 0 + (logB (txsS b)).length ≤ _; omega); rw [show ((0 : Nat) : Int) = 0 from rfl] at this; rw [this, Nat.zero_add]; rfl
end Go.Proofs.Ytlfkgbideknkhaa
namespace Go.Proofs.Ytlfkgbideknkhaa
open Go.RowKit
def oldB (ts : List KTx) (t : KTx) : Bool := match ts.getLast? with
 | some x => decide (t.Ts ≤ x.Ts)
 | none => false
def appS (b : List Int) (t : KTx) : List Int × Int :=
 if txS t = true then
  if (logB (txsS b)).length = b.length then
   if oldB (txsS b) t = true then ([], 30)
   else if b.length + (recT t).length ≤ 100000 then (b ++ recT t, 0) else ([], 2)
  else ([], 6)
 else ([], 1)
theorem old_ix (ts : List KTx) (t : KTx) (hl : ts.length ≤ 1000000) : (Option.bind (ifB (decide (((ts.length : Nat) : Int) > 0)) (Option.bind (ixI ts (IntKind.i64.wrap (((ts.length : Nat) : Int) - 1))) (fun v_10 => some (decide (v_10.Ts ≥ t.Ts)))) (some false) : Option (Bool)) some) = some (oldB ts t) := by
 unfold oldB; cases h : ts.getLast? with
 | none =>
  rw [List.getLast?_eq_none_iff] at h; subst h; rfl
 | some x =>
  have hne : ts ≠ [] := fun e => by subst e; cases h
  have hp : 0 < ts.length := List.length_pos_iff.2 hne; rw [decide_eq_true (by omega), ifB_t, w64_p hp (by omega), ixI_get (by omega), ob_some, ob_some]; rw [List.getLast?_eq_getElem?, List.getElem?_eq_getElem (by omega)] at h; rw [Option.some.inj h]
theorem obs {α : Type} (o : Option α) : Option.bind o some = o := by cases o <;> rfl
theorem concat_p (a b : List Int) (hl : a.length + b.length ≤ 1000000) {F : Nat} (hF : 64 ≤ F) : G_slices_Concat_byte_byte F [a, b] = some (a ++ b) := by
 unfold G_slices_Concat_byte_byte; rw [iter_fold (fun (n : Int) i => (i, n)) [a, b] (fun n x => n + ((x.length : Nat) : Int)) id (fun k n => 0 ≤ n ∧ n ≤ 1000000 * (k : Int)) ?_ ?_ (by simp only [List.length_cons, List.length_nil]; omega) 0 (by omega)]
 ·simp only [ob_some, List.foldl_cons, List.foldl_nil, id]; rw [whenG_t (by rw [decide_eq_true_eq]; omega), ob_some, iter_fold (fun (n : List Int) i => (i, n)) [a, b] (fun n x => n ++ x) id (fun k n => n.length ≤ 1000000 * k) ?_ ?_ (by simp only [List.length_cons, List.length_nil]; omega) [] (by simp)]
  ·rfl
  ·intro n _; simp only [un2, ltn, ifB_f, id]
  ·intro n k hk hn; have hk2 : k < 2 := hk; have hw := w64_1 hk2 (by omega); have hm : ([a, b])[k].length ≤ 1000000 := by
    rcases List.mem_cons.1 (List.getElem_mem hk) with h | h
    ·rw [h]; omega
    ·rw [List.mem_singleton.1 h]; omega
   simp only [un2, ltl hk, ifB_t, ixI_get hk, ob_some, hw]; rw [apG_ok (by omega), ob_some, List.length_append]; exact ⟨rfl, by rw [Nat.mul_add]; omega⟩
 ·intro n _; simp only [un2, ltn, ifB_f, id]
 ·intro n k hk hn; have hk2 : k < 2 := hk; have hw := w64_1 hk2 (by omega); have hm : ([a, b])[k].length ≤ 1000000 := by
   rcases List.mem_cons.1 (List.getElem_mem hk) with h | h
   ·rw [h]; omega
   ·rw [List.mem_singleton.1 h]; omega
  simp only [un2, ltl hk, ifB_t, ixI_get hk, ob_some, hw]; rw [show IntKind.i64.wrap (n + (([a, b][k].length : Nat) : Int)) = n + (([a, b][k].length : Nat) : Int) from by rw [IntKind.wrap_i64]; omega, decide_eq_false (by omega), ifB_f]; exact ⟨rfl, by push_cast; omega⟩
theorem recT_len {t : KTx} (h : Txs t) : (recT t).length ≤ 10021 := frm_max h.ok
theorem txs_count {b : List Int} (hb : By b) : 11 * (txsS b).length ≤ b.length := Nat.le_trans (logB_many _) (txs_len hb)
theorem app_p {b : List Int} {t : KTx} (hb : By b) (hl : b.length ≤ 100000) (ht : FewT t) {F : Nat} (hF : 200000 < F) : G_journal_Append F b t = some (appS b t) := by
 have hc := txs_count hb; unfold G_journal_Append appS; rw [load_p hb hl hF]; simp only [ob_some, un3]; rw [show ((0 : Int) == 0) = true from rfl, ifB_t, jformed_p t ht (by omega)]; simp only [ob_some]; cases hf : txS t with
 | false => rfl
 | true =>
  have hx := (txs_iff t).1 hf; have hr := recT_len hx; rw [ifB_t, leq, if_pos rfl]
  by_cases h1 : (logB (txsS b)).length = b.length
  ·have ho := old_ix (txsS b) t (by omega); rw [obs] at ho; rw [decide_eq_true h1, ifB_t, if_pos h1, ho, ob_some]; cases oldB (txsS b) t with
   | true => rfl
   | false =>
    rw [ifB_f, ints_p t ht (by omega), ob_some, frame_p hx.ok (by omega)]; simp only [ob_some, un2]; rw [show ((0 : Int) == 0) = true from rfl, ifB_t, show frmS (intsS t) = recT t from rfl, show IntKind.i64.wrap (((b.length : Nat) : Int) + (((recT t).length : Nat) : Int)) = ((b.length + (recT t).length : Nat) : Int) from by rw [IntKind.wrap_i64]; omega]; rw [if_neg (by simp)]
    by_cases h2 : b.length + (recT t).length ≤ 100000
    ·rw [decide_eq_false (by omega), ifB_f, if_pos h2, concat_p _ _ (by omega) (by omega)]; rfl
    ·rw [decide_eq_true (by omega), ifB_t, if_neg h2]
  ·rw [decide_eq_false h1, ifB_f, if_neg h1]
def vsT (t : KTx) : List Ver := t.Writes.map fun w => ⟨w.Key, t.Ts, w.Value, w.Gone⟩
theorem vsOf_cons (t : KTx) (ts : List KTx) : vsOf (t :: ts) = vsT t ++ vsOf ts := List.flatMap_cons
theorem vsOf_one (t : KTx) : vsOf [t] = vsT t := by rw [vsOf_cons]; exact List.append_nil _
theorem map_vk (l : List Ver) : (l.map Ver.k).map KVersion.v = l := by rw [List.map_map]; exact List.map_id l
theorem map_kv (l : List KVersion) : (l.map KVersion.v).map Ver.k = l := by rw [List.map_map]; exact List.map_id l
theorem put_k (F : Nat) {m m' : List Ver} {v : KVersion} (hl : m.length ≤ 1000000) (h : putS m v.v = (m', 0)) : G_versions_Put F (m.map Ver.k) v = some (m'.map Ver.k, 0) := by
 unfold G_versions_Put; rw [if_pos (by rw [List.length_map]; omega), map_vk, h]; rfl
theorem puts_cons {v : Ver} {vs l m : List Ver} (h : putsS l (v :: vs) = (m, 0)) : ∃ m', putS l v = (m', 0) ∧ putsS m' vs = (m, 0) := by
 obtain ⟨m', h1, h2⟩ := puts_app (a := [v]) (b := vs) h; exact ⟨m', puts_one h1, h2⟩
theorem puts_take {vs l m : List Ver} (h : putsS l vs = (m, 0)) (k : Nat) (hk : k < vs.length) : ∃ m1 m2, putsS l (vs.take k) = (m1, 0) ∧ putS m1 vs[k] = (m2, 0) ∧ putsS l (vs.take (k + 1)) = (m2, 0) := by
 have e : vs = vs.take k ++ (vs[k] :: vs.drop (k + 1)) := by rw [← List.drop_eq_getElem_cons hk, List.take_append_drop]
 have e2 : vs = vs.take (k + 1) ++ vs.drop (k + 1) := (List.take_append_drop _ _).symm; obtain ⟨m1, h1, h2⟩ := puts_app (by rw [← e]; exact h); obtain ⟨m2, h3, h4⟩ := puts_cons h2; obtain ⟨m3, h5, _⟩ := puts_app (by rw [← e2]; exact h); rw [List.take_succ_eq_append_getElem hk] at h5 ⊢; obtain ⟨m4, h6, h7⟩ := puts_app h5; rw [h1] at h6; cases h6; have h8 := puts_one h7; rw [h3] at h8; cases h8; exact ⟨m1, m2, h1, h3, h5⟩
theorem puts_len : ∀ {vs l m : List Ver}, putsS l vs = (m, 0) → m.length = l.length + vs.length
 | [], l, m, h => by cases h; rfl
 | v :: vs, l, m, h => by
  obtain ⟨m', h1, h2⟩ := puts_cons h; have h3 := puts_len h2; have h4 : m'.length = l.length + 1 := by
   unfold putS at h1
   split at h1
   ·cases h1
   ·split at h1
    ·cases h1
    ·split at h1
     ·cases h1
     ·cases h1; have := (putL_perm l v).length_eq
      simpa using this
  rw [List.length_cons]; omega
theorem putT_p {t : KTx} {m m' : List Ver} (hw : t.Writes.length ≤ 20) (hm : m.length ≤ 100000) (h : putsS m (vsT t) = (m', 0)) {F0 F : Nat} (hF : 64 ≤ F) : iter (σ := Int × (List KVersion)) (ρ := (List KVersion) ⊕ Int) (un2 fun (v_137 : Int) (v_138 : (List KVersion)) => 
                  (ifB (decide (v_137 < ((t.Writes.length : Nat) : Int)))
                    (Option.bind (ixI t.Writes v_137) (fun v_143 =>
                    Option.bind (G_versions_Put F0 v_138 (⟨v_143.Key, t.Ts, v_143.Value, v_143.Gone⟩ : KVersion)) (un2 fun v_147 v_148 =>
                    ifB ((v_148 == 0))
                      (some (.inl (IntKind.i64.wrap (v_137 + 1), v_147)))
                      (some (.inr (.inr v_148))))))
                    (some (.inr (.inl v_138))) : Option ((Int × (List KVersion)) ⊕ ((List KVersion) ⊕ Int)))) F (0, m.map Ver.k) = some (.inl (m'.map Ver.k)) := by
  have hvl : (vsT t).length = t.Writes.length := List.length_map _
  have hl : t.Writes.length < F := by omega
  have := iter_seq (f := un2 fun (v_137 : Int) (v_138 : (List KVersion)) => 
                  (ifB (decide (v_137 < ((t.Writes.length : Nat) : Int)))
                    (Option.bind (ixI t.Writes v_137) (fun v_143 =>
                    Option.bind (G_versions_Put F0 v_138 (⟨v_143.Key, t.Ts, v_143.Value, v_143.Gone⟩ : KVersion)) (un2 fun v_147 v_148 =>
                    ifB ((v_148 == 0))
                      (some (.inl (IntKind.i64.wrap (v_137 + 1), v_147)))
                      (some (.inr (.inr v_148))))))
                    (some (.inr (.inl v_138))) : Option ((Int × (List KVersion)) ⊕ ((List KVersion) ⊕ Int)))) (fun k => ((k : Int), ((putsS m ((vsT t).take k)).1).map Ver.k)) t.Writes.length (.inl (m'.map Ver.k)) ?_ ?_ hl
  · exact this
  · intro k hk
    obtain ⟨m1, m2, h1, h2, h3⟩ := puts_take h k (by omega)
    have hl1 := puts_len h1
    rw [List.length_take] at hl1
    simp only [un2, ltl hk, ifB_t, ixI_get hk, ob_some]
    rw [h1, h3]
    have e : (vsT t)[k]'(by omega) = (⟨t.Writes[k].Key, t.Ts, t.Writes[k].Value, t.Writes[k].Gone⟩ : KVersion).v := by unfold vsT; rw [List.getElem_map]; rfl
    rw [e] at h2
    rw [put_k F0 (by omega) h2]
    simp only [ob_some, un2]
    rw [show ((0 : Int) == 0) = true from rfl, ifB_t, w64_nat (by omega)]
  · simp only [un2, ltn, ifB_f]
    rw [← hvl, List.take_length, h]
def stoS (ts : List KTx) : List Ver := (putsS [] (vsOf ts)).1
theorem stoS_ok {ts : List KTx} (h : logS ts = true) (hl : (vsOf ts).length ≤ 4000) : putsS [] (vsOf ts) = (stoS ts, 0) ∧ Sto (stoS ts) ∧ (stoS ts).length = (vsOf ts).length := by
 obtain ⟨m, h1, h2, h3, _⟩ := puts_nil (ins_of h) hl; have e : stoS ts = m := by unfold stoS; rw [h1]
 rw [e]; exact ⟨h1, h2, h3.length_eq⟩
theorem vsOf_take (ts : List KTx) (k : Nat) (hk : k < ts.length) : vsOf (ts.take (k + 1)) = vsOf (ts.take k) ++ vsT ts[k] := by
 rw [List.take_succ_eq_append_getElem hk, vs_app, vsOf_one]
theorem vsOf_len_take (ts : List KTx) (k : Nat) : (vsOf (ts.take k)).length ≤ (vsOf ts).length := by
 have : vsOf ts = vsOf (ts.take k) ++ vsOf (ts.drop k) := by rw [← vs_app, List.take_append_drop]
 rw [this, List.length_append]; omega
theorem sto_step {ts : List KTx} (h : logS ts = true) (hl : (vsOf ts).length ≤ 4000) (k : Nat) (hk : k < ts.length) : putsS (stoS (ts.take k)) (vsT ts[k]) = (stoS (ts.take (k + 1)), 0) := by
 obtain ⟨h1, _, _⟩ := stoS_ok (logS_take h k) (Nat.le_trans (vsOf_len_take ts k) hl); obtain ⟨h2, _, _⟩ := stoS_ok (logS_take h (k + 1)) (Nat.le_trans (vsOf_len_take ts (k + 1)) hl); rw [vsOf_take ts k hk] at h2; obtain ⟨m, h3, h4⟩ := puts_app h2; rw [h1] at h3; cases h3; exact h4
def ldr (ts : List KTx) : KLeader := ⟨lastT 0 ts, (stoS ts).map Ver.k, []⟩
theorem lastT_take (a : Int) (ts : List KTx) (k : Nat) (hk : k < ts.length) : lastT a (ts.take (k + 1)) = ts[k].Ts := by
 unfold lastT; rw [List.take_succ_eq_append_getElem hk, List.foldl_append]; rfl
theorem recover_p {b : List Int} (hb : By b) (hl : b.length ≤ 100000) (hv : (vsOf (txsS b)).length ≤ 4000) {F : Nat} (hF : 200000 < F) : G_journal_Recover F b = some (ldr (txsS b), (((logB (txsS b)).length : Nat) : Int), 0) := by
  have hc := txs_count hb
  unfold G_journal_Recover
  rw [load_p hb hl hF]
  simp only [ob_some, un3]
  rw [show ((0 : Int) == 0) = true from rfl, ifB_t]
  have hlog := txs_log b
  have hfew := txs_few (b := b)
  generalize txsS b = ts at hc hv hlog hfew ⊢
  have := iter_seq (f := un3 fun (v_106 : Int) (v_107 : Int) (v_108 : (List KVersion)) => 
          (ifB (decide (v_106 < ((ts.length : Nat) : Int)))
            (Option.bind (ixI ts v_106) (fun v_113 =>
            Option.bind (Option.bind (iter (σ := Int × (List KVersion)) (ρ := (List KVersion) ⊕ Int) (un2 fun (v_137 : Int) (v_138 : (List KVersion)) => 
                  (ifB (decide (v_137 < ((v_113.Writes.length : Nat) : Int)))
                    (Option.bind (ixI v_113.Writes v_137) (fun v_143 =>
                    Option.bind (G_versions_Put F v_138 (⟨v_143.Key, v_113.Ts, v_143.Value, v_143.Gone⟩ : KVersion)) (un2 fun v_147 v_148 =>
                    ifB ((v_148 == 0))
                      (some (.inl (IntKind.i64.wrap (v_137 + 1), v_147)))
                      (some (.inr (.inr v_148))))))
                    (some (.inr (.inl v_138))) : Option ((Int × (List KVersion)) ⊕ ((List KVersion) ⊕ Int)))) F (0, v_108)) (Sum.elim (fun (v_150 : (List KVersion)) => 
                some (.inl v_150)) (fun (v_153 : Int) => 
                some (.inr v_153))) : Option ((List KVersion) ⊕ Int)) (Sum.elim (fun (v_155 : (List KVersion)) => 
              some (.inl (IntKind.i64.wrap (v_106 + 1), v_113.Ts, v_155))) (fun (v_158 : Int) => 
              some (.inr (.inr v_158))))))
            (some (.inr (.inl (v_107, v_108)))) : Option ((Int × Int × (List KVersion)) ⊕ ((Int × (List KVersion)) ⊕ Int)))) (fun k => ((k : Int), lastT 0 (ts.take k), (stoS (ts.take k)).map Ver.k)) ts.length (.inl (lastT 0 ts, (stoS ts).map Ver.k)) ?_ ?_ (F := F) (by omega)
  · rw [show ((0 : Nat) : Int) = 0 from rfl] at this
    rw [show lastT 0 (ts.take 0) = 0 from rfl, show (stoS (ts.take 0)).map Ver.k = [] from rfl] at this
    rw [this]
    rfl
  · intro k hk
    have h1 := sto_step hlog hv k hk
    have hs := (stoS_ok (logS_take hlog k) (Nat.le_trans (vsOf_len_take ts k) hv)).2.2
    have hq := vsOf_len_take ts k
    simp only [un3, ltl hk, ifB_t, ixI_get hk, ob_some]
    rw [putT_p (by have := (hfew _ (List.getElem_mem hk)).w; omega) (by omega) h1 (by omega), lastT_take 0 ts k hk]
    simp only [ob_some, Sum.elim_inl]
    rw [w64_nat (by omega)]
  · simp only [un3, ltn, ifB_f, List.take_length]
end Go.Proofs.Ytlfkgbideknkhaa
namespace Go.Proofs.Ytlfkgbideknkhaa
set_option maxRecDepth 1000000 in
theorem head37n (n : Nat) : G_regulatorlaw37_head (n + 300000) = some true := by kernel_rfl
theorem head37 {F : Nat} (hF : 300000 ≤ F) : G_regulatorlaw37_head F = some true := by
 obtain ⟨n, rfl⟩ : ∃ n, F = n + 300000 := ⟨F - 300000, by omega⟩; exact head37n n
end Go.Proofs.Ytlfkgbideknkhaa
namespace Go.Proofs.Ytlfkgbideknkhaa
open Go.ChangeShapes Go.WideShapes Go.ChangeAt Go.RowKit Go.Deep
theorem own : ownKnob Try.prog.godebug = none := by kernel_rfl
theorem laidOut : laidOutB Try.prog = true := by kernel_rfl
section
variable {H : Type} {enc : TypeId × Value → H}
theorem trodAll_below {P : Program} (hl : laidOutB P = true) {W W' : World} (hb : Below W.heap.size W W') : ∀ {ts : List TypeId} {vs : List Value} {ds : List (DataW H)} {ps : List MemPlace},
  (∀ t ∈ ts, P.readableRec t = true ∧ t < P.types.size) → DataW.TrodAll enc P W 0 (fun _ => true) true ts vs ds ps → (∀ x ∈ ps, x.block < W.heap.size) →
  DataW.TrodAll enc P W' 0 (fun b => decide (b < W.heap.size)) true ts vs ds ps
 | [], vs, ds, ps, _, h, _ => by
  obtain ⟨rfl, rfl, rfl⟩ := trodAll_nil h; rfl
 | t :: ts, vs, ds, ps, hr, h, hlt => by
  obtain ⟨v, vs', d, ds', p, q, rfl, rfl, rfl, h1, h2⟩ := trodAll_cons h; have h0 := hr t (by simp); exact trodAll_cons_mk (Below.trod hl h0.1 h0.2 h1 hb (fun x hx => hlt x (by simp [hx]))) (trodAll_below hl hb (fun t ht => hr t (by simp [ht])) h2 (fun x hx => hlt x (by simp [hx])))
theorem post_true {P : Program} {fn : Func} {s : ChangeSpec} {W W' : World} {args : Array Value} {ds gs : List (DataW H)} {before : List MemPlace} {b : TypeId} (hl : laidOutB P = true)
  (hr : ∀ t ∈ fn.params.toList, P.readableRec t = true ∧ t < P.types.size) (hb4 : P.underlying b = some .bool) (hrt : fn.resultTypes = #[b]) (hs : s.vars = [])
  (hW : DataW.Whole enc P fn.params.toList s.vars false W args.toList ds gs before) (hres : (s.fn H (ds ++ gs)).results = [.lit (.bool true)]) (hargs : (s.fn H (ds ++ gs)).args = ds) (hvs : (s.fn H (ds ++ gs)).vars = [])
  (hb : Below W.heap.size W W') : s.post enc P fn false true false false W args (.bool true) W' := by
 have hW' := hW; obtain ⟨p, q, hA, hV, rfl, _, _⟩ := hW; rw [hs] at hV; obtain ⟨rfl, rfl⟩ := trodVars_none hV; refine ⟨_, _, _, [], p, [], hW', ?_, ?_, ?_, hb.frame _, fun h => by cases h⟩
 ·rw [hres, hrt]; exact trodAll_mk1 (shut_bool hb4 true)
 ·rw [hargs]; exact trodAll_below hl hb hr hA (fun x hx => by simpa using hW'.lt x (by simp [hx]))
 ·rw [hvs, hs]; rfl
end
end Go.Proofs.Ytlfkgbideknkhaa
namespace Go.Proofs.Ytlfkgbideknkhaa
open Go.ChangeShapes Go.WideShapes Go.ChangeAt Go.RowKit Go.Deep
def inKd (k : IntKind) (n : Int) : Prop := (Lit.int k n).wf = true
theorem inKd_u8 {n : Int} (h : inKd .u8 n) : 0 ≤ n ∧ n ≤ 255 := by
 have : IntKind.u8.min ≤ n ∧ n ≤ IntKind.u8.max := by simpa [inKd, Lit.wf] using h
 rwa [show IntKind.u8.min = 0 by decide, show IntKind.u8.max = 255 by decide] at this
theorem rowS_all {w : World} {A : Option Addr} {xs : List Value} (h : Rd w A xs) : RowS (fun g => g < w.heap.size) w A xs := ⟨h, fun hn => by obtain ⟨b, o, e, hb, _⟩ := h hn; exact ⟨b, o, e, hb⟩⟩
theorem choose_ltK {α : Type} [Inhabited α] {n : Nat} {p : Nat → α → Prop} (h : ∀ i, i < n → ∃ v, p i v) : ∃ V : Nat → α, ∀ i, i < n → p i (V i) := by
 have h' : ∀ i, ∃ v, i < n → p i v := fun i => by
  rcases Nat.lt_or_ge i n with hi | hi
  ·obtain ⟨v, hv⟩ := h i hi; exact ⟨v, fun _ => hv⟩
  ·exact ⟨default, fun h => absurd h (Nat.not_lt.2 hi)⟩
 exact ⟨fun i => Classical.choose (h' i), fun i => Classical.choose_spec (h' i)⟩
theorem flr_get {α : Type} (f : α → List Value) (m : Nat) (hm : ∀ x, (f x).length = m) : ∀ (l : List α) (k j : Nat) (hk : k < l.length), j < m → (l.flatMap f)[k * m + j]? = (f l[k])[j]?
 | [], k, j, hk, _ => absurd hk (Nat.not_lt_zero _)
 | x :: l, 0, j, _, hj => by
  rw [List.flatMap_cons, Nat.zero_mul, Nat.zero_add, List.getElem?_append_left (by rw [hm]; exact hj)]; rfl
 | x :: l, k + 1, j, hk, hj => by
  rw [List.flatMap_cons, List.getElem?_append_right (by rw [hm, Nat.add_mul]; omega), hm]; have := flr_get f m hm l k j (by simpa using hk) hj; rw [← show (k + 1) * m + j - m = k * m + j from by rw [Nat.add_mul]; omega] at this; exact this
theorem cell_ltK {w : World} {b o : Nat} {u : Value} (h : w.cell? ⟨b, o, none⟩ = some u) : b < w.heap.size := World.block_lt_of_cell? w ⟨b, o, none⟩ h
section
variable {α : Type} {f : α → List Value} {m : Nat} {w : World}
theorem rd_mk {b o : Nat} {l : List α} (hm : ∀ x, (f x).length = m) (h0 : 0 < m) (h : ∀ i (hi : i < l.length) j, j < m → w.cell? ⟨b, o + i * m + j, none⟩ = (f l[i])[j]?) : Rd w (some ⟨b, o, none⟩) (l.flatMap f) := fun hne => by
 have hl : 0 < l.length := by
  cases l with
  | nil => exact absurd rfl hne
  | cons _ _ => simp
 have hlen := fl_len f m hm l; refine ⟨b, o, rfl, ?_, fun j u hu => ?_⟩
 ·have h1 := h 0 hl 0 h0; have h2 : (f l[0])[0]? = some ((f l[0])[0]'(by rw [hm]; exact h0)) := List.getElem?_eq_getElem _; rw [h2] at h1; exact cell_ltK h1
 ·have hj : j < l.length * m := by
   have := (List.getElem?_eq_some_iff.1 hu).1
   rwa [hlen] at this
  have hi : j / m < l.length := Nat.div_lt_of_lt_mul (by rw [Nat.mul_comm]; exact hj); have hr : j % m < m := Nat.mod_lt _ h0; have he : j / m * m + j % m = j := by rw [Nat.mul_comm]; exact Nat.div_add_mod _ _
  have hg := flr_get f m hm l (j / m) (j % m) hi hr; rw [he] at hg; rw [hg] at hu; have := h (j / m) hi (j % m) hr; rw [Nat.add_assoc, he] at this; rw [this]; exact hu
end
section
variable {H : Type} {enc : TypeId × Value → H} {w : World} {base : Nat} {spare : Nat → Bool} {held : Bool}
theorem trod_rowS {α : Type} [Inhabited α] (f : α → List Value) {m : Nat} (h0 : 0 < m) (hm : ∀ x, (f x).length = m) {T E : TypeId} (hu : Try.prog.underlying T = some (.slice E)) (hc : Try.prog.cellsOf E = m) (Q : α → Prop)
  (hE : ∀ n cs x, DataW.trod enc Try.prog w base spare held n E cs = some x → ∃ v, cs = f v ∧ Q v) {fuel : Nat} {cs : List Value} {x : DataW H × List MemPlace} (h : DataW.trod enc Try.prog w base spare held fuel T cs = some x) :
  ∃ (A : Option Addr) (c : Nat) (l : List α), cs = [.slice A l.length c] ∧ l.length ≤ c ∧ c ≤ maxLen ∧ Rd w A (l.flatMap f) ∧ ∀ v ∈ l, Q v := by
 obtain ⟨d, p⟩ := x; rcases open_slice hu h with ⟨hcs, _⟩ | ⟨a, len, cap, mm, n, D, Pl, hcs, _, hl, hmx, hmm, _, hx⟩
 ·exact ⟨none, 0, [], hcs, Nat.le_refl _, Nat.zero_le _, Rd.nil _ _, fun v hv => by cases hv⟩
 ·have hlm : len ≤ mm := by rw [hmm]; split <;> omega
  have hex : ∀ i, i < len → ∃ v : α, (∀ j, j < m → w.cell? ((a.add (i * m)).add j) = (f v)[j]?) ∧ Q v := fun i hi => by
   obtain ⟨cs', h1, h2⟩ := hx i (by omega); rw [hc] at h1; obtain ⟨v, rfl, hq⟩ := hE _ _ _ h2; exact ⟨v, (World.cells?_some h1).2.2, hq⟩
  obtain ⟨V, hV⟩ := choose_ltK hex; refine ⟨some a, cap, (List.range len).map V, by rw [hcs]; simp, by simpa using hl, hmx, ?_, ?_⟩
  ·rcases Nat.eq_zero_or_pos len with h00 | h00
   ·subst h00; exact Rd.nil _ _
   obtain ⟨b, o, spot⟩ := a; have hs : spot = none := by
    have := (hV 0 h00).1 0 h0; simp only [Nat.zero_mul, Addr.add, if_true] at this; have h2 : (f (V 0))[0]? = some ((f (V 0))[0]'(by rw [hm]; exact h0)) := List.getElem?_eq_getElem _; rw [h2] at this; exact World.cell?_spot this
   subst hs; refine rd_mk hm h0 fun i hi j hj => ?_
   have hi' : i < len := by simpa using hi
   have e : ∀ j, (((⟨b, o, none⟩ : Addr).add (i * m)).add j) = ⟨b, o + i * m + j, none⟩ := fun j => by rw [add_addr, add_addr]
   have hcc := (hV i hi').1 j hj; rw [e] at hcc; simp only [List.getElem_map, List.getElem_range]; exact hcc
  ·intro v hv; obtain ⟨i, hi, rfl⟩ := List.mem_map.1 hv; exact (hV i (List.mem_range.1 hi)).2
end
end Go.Proofs.Ytlfkgbideknkhaa
namespace Go.Proofs.Ytlfkgbideknkhaa
open Go.ChangeShapes Go.WideShapes Go.ChangeAt Go.RowKit Go.Deep
section
variable {H : Type} {enc : TypeId × Value → H} {w : World} {base : Nat} {spare : Nat → Bool} {held : Bool}
set_option maxRecDepth 10000
theorem trod_uint8 {n : Nat} {cs : List Value} {x : DataW H × List MemPlace} (h : DataW.trod enc Try.prog w base spare held n 5 cs = some x) : ∃ v : Int, cs = c_u8 v ∧ inKd .u8 v := by
 obtain ⟨a, e, _, hw⟩ := DataW.trod_int Try.underlying5 h; exact ⟨a, e, hw⟩
theorem cl_uint8 : Try.prog.cellsOf 5 = 1 := by kernel_rfl
theorem trod_Sl_uint8 {n : Nat} {cs : List Value} {x : DataW H × List MemPlace} (h : DataW.trod enc Try.prog w base spare held n 22 cs = some x) :
  ∃ (A : Option Addr) (c : Nat) (l : List Int), cs = [.slice A l.length c] ∧ RowC A c c_u8 tr l (fun g => g < w.heap.size) w ∧ (∀ y ∈ l, inKd .u8 y) := by
 obtain ⟨A, c, l, h1, h2, h3, h4, h5⟩ := trod_rowS c_u8 (m := 1) (by decide) (fun _ => rfl) Try.underlying22 cl_uint8 (fun v : Int => inKd .u8 v) (fun _ _ _ hx => trod_uint8 hx) h; exact ⟨A, c, l, h1, ⟨rowS_all h4, h2, fun _ _ => trivial⟩, h5⟩
theorem opn_Sl_uint8 {r : Reach} {b0 : Nat} {v : Value} {d : DataW H} {p : List MemPlace} (hv : Value.okWide Try.prog w r b0 22 v) (h : DataW.Trod enc Try.prog w base spare held 22 v d p) : ∃ (A : Option Addr) (c : Nat) (l : List Int), v = .slice A l.length c ∧ RowC A c c_u8 tr l (fun g => g < w.heap.size) w ∧ (∀ y ∈ l, inKd .u8 y) := by
 obtain ⟨a0, len0, cap0, rfl⟩ := okWide_slice Try.underlying22 hv; obtain ⟨fuel, hf⟩ := h; obtain ⟨A, c, l, e, h1, h2⟩ := trod_Sl_uint8 hf; simp only [Value.cells, List.cons.injEq, and_true] at e; exact ⟨A, c, l, e, h1, h2⟩
theorem trod_int {n : Nat} {cs : List Value} {x : DataW H × List MemPlace} (h : DataW.trod enc Try.prog w base spare held n 3 cs = some x) : ∃ v : Int, cs = c_i64 v ∧ inKd .i64 v := by
 obtain ⟨a, e, _, hw⟩ := DataW.trod_int Try.underlying3 h; exact ⟨a, e, hw⟩
theorem cl_int : Try.prog.cellsOf 3 = 1 := by kernel_rfl
theorem cl_api_Seen : Try.prog.cellsOf 95 = 2 := by kernel_rfl
structure KSeen.rng (x : KSeen) : Prop where
 r_Key : inKd .i64 x.Key
 r_Ts : inKd .i64 x.Ts
theorem tf_api_Seen : ∃ f0 f1 : Field, Try.prog.underlying 95 = some (.struct #[f0, f1]) ∧ (f0.offset = 0 ∧ f0.type = 3) ∧ (f1.offset = 1 ∧ f1.type = 3) := ⟨_, _, Try.underlying95, ⟨by kernel_rfl, by kernel_rfl⟩, ⟨by kernel_rfl, by kernel_rfl⟩⟩
theorem trod_api_Seen {n : Nat} {cs : List Value} {x : DataW H × List MemPlace} (h : DataW.trod enc Try.prog w base spare held n 95 cs = some x) : ∃ v : KSeen, cs = v.cells ∧ KSeen.rng v := by
 obtain ⟨f0, f1, hu, ⟨o0, t0⟩, ⟨o1, t1⟩⟩ := tf_api_Seen; obtain ⟨xs, n', _, _, hlen, hxl, hf⟩ := DataW.trod_struct hu h; rw [cl_api_Seen] at hlen
 match cs, hlen with
 | [c0, c1], _ =>
  have q0 := hf 0 f0 rfl; obtain ⟨y0, hy0⟩ : ∃ y, xs[0]? = some y := ⟨_, List.getElem?_eq_getElem (by rw [hxl]; exact (by decide : 0 < 2))⟩; rw [hy0, o0, t0, cl_int] at q0; obtain ⟨v0, e0, hg0⟩ := trod_int q0; replace e0 : [c0] = [I v0] := e0; simp only [List.cons.injEq, and_true] at e0; obtain rfl := e0; have q1 := hf 1 f1 rfl; obtain ⟨y1, hy1⟩ : ∃ y, xs[1]? = some y := ⟨_, List.getElem?_eq_getElem (by rw [hxl]; exact (by decide : 1 < 2))⟩; rw [hy1, o1, t1, cl_int] at q1; obtain ⟨v1, e1, hg1⟩ := trod_int q1; replace e1 : [c1] = [I v1] := e1; simp only [List.cons.injEq, and_true] at e1; obtain rfl := e1; exact ⟨⟨v0, v1⟩, rfl, ⟨hg0, hg1⟩⟩
instance : Inhabited KSeen := ⟨⟨0, 0⟩⟩
theorem trod_Sl_api_Seen {n : Nat} {cs : List Value} {x : DataW H × List MemPlace} (h : DataW.trod enc Try.prog w base spare held n 23 cs = some x) :
  ∃ (A : Option Addr) (c : Nat) (l : List KSeen), cs = [.slice A l.length c] ∧ RowC A c KSeen.cells tr l (fun g => g < w.heap.size) w ∧ (∀ y ∈ l, KSeen.rng y) := by
 obtain ⟨A, c, l, h1, h2, h3, h4, h5⟩ := trod_rowS KSeen.cells (m := 2) (by decide) (fun _ => rfl) Try.underlying23 cl_api_Seen (fun v : KSeen => KSeen.rng v) (fun _ _ _ hx => trod_api_Seen hx) h; exact ⟨A, c, l, h1, ⟨rowS_all h4, h2, fun _ _ => trivial⟩, h5⟩
theorem cl_Sl_api_Seen : Try.prog.cellsOf 23 = 1 := by kernel_rfl
theorem trod_bool {n : Nat} {cs : List Value} {x : DataW H × List MemPlace} (h : DataW.trod enc Try.prog w base spare held n 4 cs = some x) : ∃ v : Bool, cs = c_bool v ∧ True := by
 obtain ⟨a, e, _⟩ := DataW.trod_bool Try.underlying4 h; exact ⟨a, e, trivial⟩
theorem cl_bool : Try.prog.cellsOf 4 = 1 := by kernel_rfl
theorem cl_api_Write : Try.prog.cellsOf 66 = 3 := by kernel_rfl
structure KWrite.rng (x : KWrite) : Prop where
 r_Key : inKd .i64 x.Key
 r_Value : inKd .i64 x.Value
 r_Gone : (fun _ : Bool => True) x.Gone
theorem tf_api_Write : ∃ f0 f1 f2 : Field, Try.prog.underlying 66 = some (.struct #[f0, f1, f2]) ∧ (f0.offset = 0 ∧ f0.type = 3) ∧ (f1.offset = 1 ∧ f1.type = 3) ∧ (f2.offset = 2 ∧ f2.type = 4) := ⟨_, _, _, Try.underlying66, ⟨by kernel_rfl, by kernel_rfl⟩, ⟨by kernel_rfl, by kernel_rfl⟩, ⟨by kernel_rfl, by kernel_rfl⟩⟩
theorem trod_api_Write {n : Nat} {cs : List Value} {x : DataW H × List MemPlace} (h : DataW.trod enc Try.prog w base spare held n 66 cs = some x) : ∃ v : KWrite, cs = v.cells ∧ KWrite.rng v := by
 obtain ⟨f0, f1, f2, hu, ⟨o0, t0⟩, ⟨o1, t1⟩, ⟨o2, t2⟩⟩ := tf_api_Write; obtain ⟨xs, n', _, _, hlen, hxl, hf⟩ := DataW.trod_struct hu h; rw [cl_api_Write] at hlen
 match cs, hlen with
 | [c0, c1, c2], _ =>
  have q0 := hf 0 f0 rfl; obtain ⟨y0, hy0⟩ : ∃ y, xs[0]? = some y := ⟨_, List.getElem?_eq_getElem (by rw [hxl]; exact (by decide : 0 < 3))⟩; rw [hy0, o0, t0, cl_int] at q0; obtain ⟨v0, e0, hg0⟩ := trod_int q0; replace e0 : [c0] = [I v0] := e0; simp only [List.cons.injEq, and_true] at e0; obtain rfl := e0; have q1 := hf 1 f1 rfl; obtain ⟨y1, hy1⟩ : ∃ y, xs[1]? = some y := ⟨_, List.getElem?_eq_getElem (by rw [hxl]; exact (by decide : 1 < 3))⟩; rw [hy1, o1, t1, cl_int] at q1; obtain ⟨v1, e1, hg1⟩ := trod_int q1; replace e1 : [c1] = [I v1] := e1; simp only [List.cons.injEq, and_true] at e1; obtain rfl := e1; have q2 := hf 2 f2 rfl; obtain ⟨y2, hy2⟩ : ∃ y, xs[2]? = some y := ⟨_, List.getElem?_eq_getElem (by rw [hxl]; exact (by decide : 2 < 3))⟩; rw [hy2, o2, t2, cl_bool] at q2; obtain ⟨v2, e2, hg2⟩ := trod_bool q2; replace e2 : [c2] = [B v2] := e2; simp only [List.cons.injEq, and_true] at e2; obtain rfl := e2; exact ⟨⟨v0, v1, v2⟩, rfl, ⟨hg0, hg1, hg2⟩⟩
instance : Inhabited KWrite := ⟨⟨0, 0, false⟩⟩
theorem trod_Sl_api_Write {n : Nat} {cs : List Value} {x : DataW H × List MemPlace} (h : DataW.trod enc Try.prog w base spare held n 24 cs = some x) :
  ∃ (A : Option Addr) (c : Nat) (l : List KWrite), cs = [.slice A l.length c] ∧ RowC A c KWrite.cells tr l (fun g => g < w.heap.size) w ∧ (∀ y ∈ l, KWrite.rng y) := by
 obtain ⟨A, c, l, h1, h2, h3, h4, h5⟩ := trod_rowS KWrite.cells (m := 3) (by decide) (fun _ => rfl) Try.underlying24 cl_api_Write (fun v : KWrite => KWrite.rng v) (fun _ _ _ hx => trod_api_Write hx) h; exact ⟨A, c, l, h1, ⟨rowS_all h4, h2, fun _ _ => trivial⟩, h5⟩
theorem cl_Sl_api_Write : Try.prog.cellsOf 24 = 1 := by kernel_rfl
theorem cl_api_Tx : Try.prog.cellsOf 26 = 4 := by kernel_rfl
structure KTx.rng (x : KTx) : Prop where
 r_ID : inKd .i64 x.ID
 r_Ts : inKd .i64 x.Ts
 r_Reads : (fun l : List KSeen => ∀ y ∈ l, KSeen.rng y) x.Reads
 r_Writes : (fun l : List KWrite => ∀ y ∈ l, KWrite.rng y) x.Writes
theorem tf_api_Tx : ∃ f0 f1 f2 f3 : Field, Try.prog.underlying 26 = some (.struct #[f0, f1, f2, f3]) ∧ (f0.offset = 0 ∧ f0.type = 3) ∧ (f1.offset = 1 ∧ f1.type = 3) ∧ (f2.offset = 2 ∧ f2.type = 23) ∧ (f3.offset = 3 ∧ f3.type = 24) := ⟨_, _, _, _, Try.underlying26, ⟨by kernel_rfl, by kernel_rfl⟩, ⟨by kernel_rfl, by kernel_rfl⟩, ⟨by kernel_rfl, by kernel_rfl⟩, ⟨by kernel_rfl, by kernel_rfl⟩⟩
theorem trod_api_Tx {n : Nat} {cs : List Value} {x : DataW H × List MemPlace} (h : DataW.trod enc Try.prog w base spare held n 26 cs = some x) : ∃ v : KTxL, cs = v.cells ∧ KTxL.ok v (fun g => g < w.heap.size) w ∧ KTx.rng v.p := by
 obtain ⟨f0, f1, f2, f3, hu, ⟨o0, t0⟩, ⟨o1, t1⟩, ⟨o2, t2⟩, ⟨o3, t3⟩⟩ := tf_api_Tx; obtain ⟨xs, n', _, _, hlen, hxl, hf⟩ := DataW.trod_struct hu h; rw [cl_api_Tx] at hlen
 match cs, hlen with
 | [c0, c1, c2, c3], _ =>
  have q0 := hf 0 f0 rfl; obtain ⟨y0, hy0⟩ : ∃ y, xs[0]? = some y := ⟨_, List.getElem?_eq_getElem (by rw [hxl]; exact (by decide : 0 < 4))⟩; rw [hy0, o0, t0, cl_int] at q0; obtain ⟨v0, e0, hg0⟩ := trod_int q0; replace e0 : [c0] = [I v0] := e0; simp only [List.cons.injEq, and_true] at e0; obtain rfl := e0; have q1 := hf 1 f1 rfl; obtain ⟨y1, hy1⟩ : ∃ y, xs[1]? = some y := ⟨_, List.getElem?_eq_getElem (by rw [hxl]; exact (by decide : 1 < 4))⟩; rw [hy1, o1, t1, cl_int] at q1; obtain ⟨v1, e1, hg1⟩ := trod_int q1; replace e1 : [c1] = [I v1] := e1; simp only [List.cons.injEq, and_true] at e1; obtain rfl := e1; have q2 := hf 2 f2 rfl; obtain ⟨y2, hy2⟩ : ∃ y, xs[2]? = some y := ⟨_, List.getElem?_eq_getElem (by rw [hxl]; exact (by decide : 2 < 4))⟩; rw [hy2, o2, t2, cl_Sl_api_Seen] at q2; obtain ⟨A2, k2, v2, e2, hr2, hg2⟩ := trod_Sl_api_Seen q2; replace e2 : [c2] = [.slice A2 v2.length k2] := e2; simp only [List.cons.injEq, and_true] at e2; obtain rfl := e2; have q3 := hf 3 f3 rfl; obtain ⟨y3, hy3⟩ : ∃ y, xs[3]? = some y := ⟨_, List.getElem?_eq_getElem (by rw [hxl]; exact (by decide : 3 < 4))⟩; rw [hy3, o3, t3, cl_Sl_api_Write] at q3; obtain ⟨A3, k3, v3, e3, hr3, hg3⟩ := trod_Sl_api_Write q3; replace e3 : [c3] = [.slice A3 v3.length k3] := e3; simp only [List.cons.injEq, and_true] at e3; obtain rfl := e3; exact ⟨⟨v0, v1, A2, k2, v2, A3, k3, v3⟩, rfl, ⟨hr2, hr3⟩, ⟨hg0, hg1, hg2, hg3⟩⟩
theorem opn_api_Tx {r : Reach} {b0 : Nat} {v : Value} {d : DataW H} {p : List MemPlace} (hv : Value.okWide Try.prog w r b0 26 v) (h : DataW.Trod enc Try.prog w base spare held 26 v d p) : ∃ x : KTxL, v = .agg #[I x.ID, I x.Ts, .slice x.Reads_A x.Reads.length x.Reads_c, .slice x.Writes_A x.Writes.length x.Writes_c] ∧ KTxL.ok x (fun g => g < w.heap.size) w ∧ KTx.rng x.p := by
 obtain ⟨f0, f1, f2, f3, hu, _⟩ := tf_api_Tx; obtain ⟨cs, rfl, hsz⟩ := okWide_struct hu hv; obtain ⟨fuel, hf⟩ := h; obtain ⟨x, hx, hw⟩ := trod_api_Tx hf; refine ⟨x, congrArg Value.agg ?_, hw⟩; have : cs.toList = x.cells := by simpa [Value.cells] using hx
 rw [← Array.toArray_toList (xs := cs), this]; rfl
instance : Inhabited KTxL := ⟨⟨0, 0, none, 0, [], none, 0, []⟩⟩
theorem cl_api_Interval : Try.prog.cellsOf 50 = 2 := by kernel_rfl
structure KInterval.rng (x : KInterval) : Prop where
 r_Lo : inKd .i64 x.Lo
 r_Hi : inKd .i64 x.Hi
theorem tf_api_Interval : ∃ f0 f1 : Field, Try.prog.underlying 50 = some (.struct #[f0, f1]) ∧ (f0.offset = 0 ∧ f0.type = 3) ∧ (f1.offset = 1 ∧ f1.type = 3) := ⟨_, _, Try.underlying50, ⟨by kernel_rfl, by kernel_rfl⟩, ⟨by kernel_rfl, by kernel_rfl⟩⟩
theorem trod_api_Interval {n : Nat} {cs : List Value} {x : DataW H × List MemPlace} (h : DataW.trod enc Try.prog w base spare held n 50 cs = some x) : ∃ v : KInterval, cs = v.cells ∧ KInterval.rng v := by
 obtain ⟨f0, f1, hu, ⟨o0, t0⟩, ⟨o1, t1⟩⟩ := tf_api_Interval; obtain ⟨xs, n', _, _, hlen, hxl, hf⟩ := DataW.trod_struct hu h; rw [cl_api_Interval] at hlen
 match cs, hlen with
 | [c0, c1], _ =>
  have q0 := hf 0 f0 rfl; obtain ⟨y0, hy0⟩ : ∃ y, xs[0]? = some y := ⟨_, List.getElem?_eq_getElem (by rw [hxl]; exact (by decide : 0 < 2))⟩; rw [hy0, o0, t0, cl_int] at q0; obtain ⟨v0, e0, hg0⟩ := trod_int q0; replace e0 : [c0] = [I v0] := e0; simp only [List.cons.injEq, and_true] at e0; obtain rfl := e0; have q1 := hf 1 f1 rfl; obtain ⟨y1, hy1⟩ : ∃ y, xs[1]? = some y := ⟨_, List.getElem?_eq_getElem (by rw [hxl]; exact (by decide : 1 < 2))⟩; rw [hy1, o1, t1, cl_int] at q1; obtain ⟨v1, e1, hg1⟩ := trod_int q1; replace e1 : [c1] = [I v1] := e1; simp only [List.cons.injEq, and_true] at e1; obtain rfl := e1; exact ⟨⟨v0, v1⟩, rfl, ⟨hg0, hg1⟩⟩
theorem opn_api_Interval {r : Reach} {b0 : Nat} {v : Value} {d : DataW H} {p : List MemPlace} (hv : Value.okWide Try.prog w r b0 50 v) (h : DataW.Trod enc Try.prog w base spare held 50 v d p) : ∃ x : KInterval, v = .agg #[I x.Lo, I x.Hi] ∧ KInterval.rng x := by
 obtain ⟨f0, f1, hu, _⟩ := tf_api_Interval; obtain ⟨cs, rfl, hsz⟩ := okWide_struct hu hv; obtain ⟨fuel, hf⟩ := h; obtain ⟨x, hx, hw⟩ := trod_api_Interval hf; refine ⟨x, congrArg Value.agg ?_, hw⟩; have : cs.toList = x.cells := by simpa [Value.cells] using hx
 rw [← Array.toArray_toList (xs := cs), this]; rfl
end
end Go.Proofs.Ytlfkgbideknkhaa
namespace Go.Proofs.Ytlfkgbideknkhaa
open Go.RowKit
theorem few_p (b : List Int) (F : Nat) : G_regulatorlaw37_few F b = some (b.take 3000) := by
 unfold G_regulatorlaw37_few; have e : min ((b.length : Nat) : Int) 3000 = ((min b.length 3000 : Nat) : Int) := by omega
 rw [e, show (0 : Int) = ((0 : Nat) : Int) from rfl, slI_ok (Nat.zero_le _) (by omega), ob_some, List.drop_zero]
 congr 1
 rcases Nat.le_total b.length 3000 with h | h
 ·rw [Nat.min_eq_left h, List.take_length, List.take_of_length_le h]
 ·rw [Nat.min_eq_right h]
theorem by_take {b : List Int} (h : ∀ y ∈ b, inKd .u8 y) (n : Nat) : By (b.take n) := fun x hx => by
 obtain ⟨h1, h2⟩ := inKd_u8 (h x (List.mem_of_mem_take hx)); omega
theorem vs_small {b : List Int} (hb : By b) (hl : b.length ≤ 5000) : (vsOf (txsS b)).length ≤ 4000 := by
 have h1 := vs_len (txs_log b); have h2 := txs_count hb; omega
theorem fewOne (t : KTx) {F : Nat} (hF : 2 ≤ F) : G_regulatorref34_FewTxs F [t] = some (fewTB t) := by
 rw [fewTxs_r [t] (by simp only [List.length_cons, List.length_nil]; omega) (by simp)]
 simp
theorem old_spec {ts : List KTx} {t : KTx} : oldB ts t = false ↔ ∀ x, ts.getLast? = some x → x.Ts < t.Ts := by
 unfold oldB; cases h : ts.getLast? with
 | none => simp
 | some x => simp
theorem last_of (ts : List KTx) (a : Int) : lastT a ts = match ts.getLast? with | some x => x.Ts | none => a := by
 rcases List.eq_nil_or_concat ts with rfl | ⟨us, u, rfl⟩
 ·rfl
 ·rw [List.concat_eq_append, List.getLast?_append]; unfold lastT; rw [List.foldl_append]; rfl
theorem lastT_ge {a : Int} : ∀ {ts : List KTx}, (a :: ts.map (·.Ts)).Pairwise (· < ·) → (∀ x ∈ ts, x.Ts ≤ lastT a ts) ∧ a ≤ lastT a ts
 | [], _ => ⟨fun _ h => absurd h List.not_mem_nil, Int.le_refl _⟩
 | t :: ts, h => by
  rw [List.map_cons] at h; obtain ⟨h1, h2⟩ := List.pairwise_cons.1 h; obtain ⟨h3, h4⟩ := lastT_ge (a := t.Ts) h2; have h5 := h1 t.Ts List.mem_cons_self; refine ⟨fun x hx => ?_, ?_⟩
  ·rcases List.mem_cons.1 hx with rfl | hx
   ·exact h4
   ·exact h3 x hx
  ·show a ≤ lastT t.Ts ts
   omega
theorem log_snoc {ts : List KTx} {t : KTx} (h : logS ts = true) (ht : Txs t) (ho : lastT 0 ts < t.Ts) : logS (ts ++ [t]) = true := by
 obtain ⟨h1, h2⟩ := ris_log.1 h; refine ris_log.2 ⟨fun x hx => ?_, ?_⟩
 ·rcases List.mem_append.1 hx with hx | hx
  ·exact h1 x hx
  ·rw [List.mem_singleton.1 hx]; exact ht
 ·rw [List.map_append, ← List.cons_append, List.pairwise_append]; refine ⟨h2, by simp, fun x hx y hy => ?_⟩; simp only [List.map_cons, List.map_nil, List.mem_singleton] at hy; subst hy; obtain ⟨g1, g2⟩ := lastT_ge h2; rcases List.mem_cons.1 hx with rfl | hx
  ·omega
  ·obtain ⟨z, hz, rfl⟩ := List.mem_map.1 hx; have := g1 z hz; omega
theorem old_last {ts : List KTx} {t : KTx} (ht : Txs t) : oldB ts t = false ↔ lastT 0 ts < t.Ts := by
 rw [old_spec, last_of]; cases ts.getLast? with
 | none => have := ht.ts.1; simp; omega
 | some x => simp
end Go.Proofs.Ytlfkgbideknkhaa
namespace Go.Proofs.Ytlfkgbideknkhaa
open Go.RowKit
end Go.Proofs.Ytlfkgbideknkhaa
namespace Go.Proofs.Ytlfkgbideknkhaa
open Go.RowKit
theorem recT_small {t : KTx} (h : Txs t) : (recT t).length ≤ 461 := by
 have h1 := encs_len h.ok.i; have h2 := encI_len (lenIn h.ok.n); have h3 := ints_len t; have h4 := h.few; unfold recT; rw [frm_len]; unfold encL; rw [List.length_append]; omega
end Go.Proofs.Ytlfkgbideknkhaa
