/-
  Texts joined: Z0, Z1, Z2, Z3.
-/
import Derived.Test.YtiijddjfiojfaaaGreatDoorProg
import Derived.Test.YtiijddjfiojfaaaGreatDoorK61
import Derived.Test.YtiijddjfiojfaaaGreatDoorK62
namespace Go.Proofs.YtiijddjfiojfaaaGreatDoor
open Go.RowKit Go.Maps
def G_group_power (F : Nat) (p_0 : Int) (p_1 : Int) : Option (Int) :=
  Option.bind (Option.bind (iter (σ := Int × Int × Int) (ρ := Int) (un3 fun (v_18 : Int) (v_19 : Int) (v_20 : Int) => 
        (ifB (decide (v_18 > 0))
          (Option.bind (ifB (((bits BinOp.and IntKind.i64 v_18 1) == 1))
              (Option.bind (some () : Option (Unit)) (fun (_ : Unit) => 
                some (Int.tmod (IntKind.i64.wrap (v_20 * v_19)) 2147483579)))
              (some v_20) : Option (Int)) (fun (v_26 : Int) => 
            Option.bind (some () : Option (Unit)) (fun (_ : Unit) => 
              some (.inl (Int.fdiv v_18 (2 ^ 1), Int.tmod (IntKind.i64.wrap (v_19 * v_19)) 2147483579, v_26)))))
          (some (.inr v_20)) : Option ((Int × Int × Int) ⊕ Int))) F (p_1, p_0, 1)) (fun (v_28 : Int) => 
      some v_28) : Option (Int)) (fun (v_30 : Int) => 
    some v_30)
set_option maxRecDepth 100000 in
set_option maxHeartbeats 16000000 in
theorem z_group_power (F : Nat) (p_0 : Int) (p_1 : Int) (r : Int) (hG : G_group_power F p_0 p_1 = some r) :
  Cf Tryz.prog 98 [I p_0, I p_1] [] (I r) := by
 unfold G_group_power at hG; refine fi Tryz.func98 rfl rfl m0 fun S0 w0 hT => ?_
 refine sq ?_; refine rg ?_; refine l1 ?_; refine nw 2 vp [I p_0] 3 fun g_1 => ?_
 refine ra [] f0 [] ?_; refine tN ?_; refine sq ?_; refine rg ?_; refine l1 ?_; refine nw 5 vp [I 0] 3 fun g_2 => ?_
 refine l1 ?_; refine sr 0 g_2 [(0, I 1)] ?_; refine nl ?_; refine tN ?_; refine sq ?_; refine rg ?_; refine ra [] f0 [(6, .func (.func 120) #[] #[])] ?_; refine tN ?_; obtain ⟨o_29, hG, hG_29⟩ := bind_some hG; refine jn (fun K E a w => ∃ (v_30 : Int), Js S0 w0 21 (dk [1] K) ([.blk g_2 3 [I v_30]]) (v_30 = o_29) a w) ?_ ?_
 ·refine bk ?_; obtain ⟨e_21, hL, hG_21⟩ := bind_some hG; clear hG; obtain ⟨stp_21, hs_21, hL⟩ := iter_gen hL; refine lp (fun K E n_ a w => ∃ (v_18 : Int), ∃ (v_19 : Int), ∃ (v_20 : Int), Js S0 w0 21 ([(1, I v_18)] ++ K) ([.blk g_1 3 [I v_19], .blk g_2 3 [I v_20]]) (iter stp_21 n_ (v_18, v_19, v_20) = some e_21) a w) F ?_ ?_
  ·exact fun a w S hK hE => ⟨p_1, p_0, 1, S, hK.wk, hE.sel [1, 0], hL⟩
  ·clear hL; rintro n_21 a w ⟨v_18, v_19, v_20, hJ⟩; refine hJ.go fun hL => ?_
   clear hJ; obtain ⟨m_21, o_21, rfl, hG, hO1_21, hO2_21⟩ := iter_step hL; clear hL; rw [hs_21] at hG; refine sq ?_; refine sq ?_; refine rg ?_; refine ra [] f0 [(8, B (decide (v_18 > 0)))] ?_; refine tN ?_; rcases ifB_cases hG with ⟨h_22, hG⟩ | ⟨h_22, hG⟩
   ·refine sb 8 (bt h_22) ?_; refine ct ?_; refine kS ?_; refine tN ?_; refine sq ?_; refine bk ?_; obtain ⟨o_25, hG, hG_25⟩ := bind_some hG; refine jn (fun K E a w => ∃ (v_26 : Int), Js S0 w0 21 (K) ([.blk g_2 3 [I v_26]] ++ se E [0]) (v_26 = o_25) a w) ?_ ?_
    ·refine sq ?_; refine rg ?_; refine ra [] f0 [(13, B ((bits BinOp.and IntKind.i64 v_18 1) == 1))] ?_; refine tN ?_; rcases ifB_cases hG with ⟨h_23, hG⟩ | ⟨h_23, hG⟩
     ·refine sb 13 (bt h_23) ?_; refine ct ?_; replace hG := bind_some hG; obtain ⟨⟨⟩, hy_24, hG⟩ := hG; refine rg ?_; refine rn 2 [(1, 1, 0, 0)] f0 [(14, .func (.func 120) #[] #[]), (15, I v_19)] ?_; refine l1 ?_; refine ci 16 (args := [Pt g_2 0, I v_19]) (fun E e w => Rs S0 w0 (.tuple #[]) ([.blk g_2 3 [I (Int.tmod (IntKind.i64.wrap (v_20 * v_19)) 2147483579)]] ++ se E [0]) (() = ()) e w) Tryz.func120 rfl rfl ?_ ?_
      ·replace hG := hy_24; refine rg ?_; refine rn 8 [(3, 1, 1, 0), (2, 0, 0, 0)] (fc (fun W => run_rem (T := 3) (k := .i64) (p := IntKind.i64.wrap (v_20 * v_19)) (q := 2147483579) (by decide) W) f0) [(10, I (Int.tmod (IntKind.i64.wrap (v_20 * v_19)) 2147483579)), (11, Pt g_2 0)] ?_; refine l1 ?_; refine sr 1 g_2 [(0, I (Int.tmod (IntKind.i64.wrap (v_20 * v_19)) 2147483579))] ?_; refine nl ?_; refine fall ?_; refine ri [] (.tuple #[]) ?_; exact fun a w S hK hE => ⟨rfl, ⟨S, hE.sel [1, 0]⟩, Option.some.inj hG⟩
      ·rintro e w hJ; refine hJ.go fun ho_ => ?_
       clear hJ; refine nl ?_; refine tN ?_; exact fun a w S hK hE => ⟨Int.tmod (IntKind.i64.wrap (v_20 * v_19)) 2147483579, S, hK.wk, hE.sel [0, 1], Option.some.inj hG⟩
     ·refine sb 13 (bf h_23) ?_; refine cf ?_; refine kS ?_; refine tN ?_; exact fun a w S hK hE => ⟨v_20, S, hK.wk, hE.sel [1, 0], Option.some.inj hG⟩
    ·rintro a w ⟨v_26, hJ⟩; refine hJ.go fun ho_ => ?_
     clear hJ; subst ho_; replace hG := hG_25; replace hG := bind_some hG; obtain ⟨⟨⟩, hy_27, hG⟩ := hG; refine rg ?_; refine rn 2 [(1, 1, 1, 0)] f0 [(17, .func (.func 120) #[] #[]), (18, I v_19)] ?_; refine l1 ?_; refine ci 19 (args := [Pt g_1 0, I v_19]) (fun E e w => Rs S0 w0 (.tuple #[]) ([.blk g_1 3 [I (Int.tmod (IntKind.i64.wrap (v_19 * v_19)) 2147483579)]] ++ se E [0]) (() = ()) e w) Tryz.func120 rfl rfl ?_ ?_
     ·replace hG := hy_27; refine rg ?_; refine rn 8 [(3, 1, 1, 0), (2, 0, 0, 0)] (fc (fun W => run_rem (T := 3) (k := .i64) (p := IntKind.i64.wrap (v_19 * v_19)) (q := 2147483579) (by decide) W) f0) [(10, I (Int.tmod (IntKind.i64.wrap (v_19 * v_19)) 2147483579)), (11, Pt g_1 0)] ?_; refine l1 ?_; refine sr 1 g_1 [(0, I (Int.tmod (IntKind.i64.wrap (v_19 * v_19)) 2147483579))] ?_; refine nl ?_; refine fall ?_; refine ri [] (.tuple #[]) ?_; exact fun a w S hK hE => ⟨rfl, ⟨S, hE.sel [1, 0]⟩, Option.some.inj hG⟩
     ·rintro e w hJ; refine hJ.go fun ho_ => ?_
      clear hJ; refine nl ?_; refine hN ?_; refine tN ?_; refine rg ?_; refine ra [] f0 [(1, I (Int.fdiv v_18 (2 ^ 1)))] ?_; refine tN ?_; exact fun a w S hK hE => ⟨m_21, ⟨Int.fdiv v_18 (2 ^ 1), Int.tmod (IntKind.i64.wrap (v_19 * v_19)) 2147483579, v_26, S, hK.wk, hE.sel [0, 1], hO1_21 _ (Option.some.inj hG).symm⟩, Nat.lt_succ_self _⟩
   ·refine sb 8 (bf h_22) ?_; refine cf ?_; refine kX ?_; refine tX ?_; refine tX ?_; have he_ := hO2_21 _ (Option.some.inj hG).symm; subst he_; replace hG := hG_21; refine hH ?_; refine tN ?_; exact fun a w S hK hE => ⟨v_20, S, hK.wk, hE.sel [1], Option.some.inj hG⟩
 ·rintro a w ⟨v_30, hJ⟩; refine hJ.go fun ho_ => ?_
  clear hJ; subst ho_; replace hG := hG_29; refine sq ?_; refine rg ?_; refine ra [(0, 1, 0, 0)] f0 [(4, I v_30)] ?_; refine tN ?_; refine kR ?_; obtain rfl := Option.some.inj hG; exact rt []
def G_group_challenge (F : Nat) (p_0 : Int) (p_1 : Int) (p_2 : List Int) : Option (Int) :=
 Option.bind (apG 8 ([p_0, p_1] : List Int) p_2) (fun v_2 =>
 Option.bind (G_digest_Ints F v_2) (fun v_3 =>
 some (IntKind.i64.wrap (Int.tmod v_3 1073741789))))
set_option maxRecDepth 100000 in
set_option maxHeartbeats 16000000 in
theorem z_group_challenge (F : Nat) (p_0 : Int) (p_1 : Int) (p_2_A : Option Addr) (p_2_c : Nat) (p_2 : List Int) (r : Int) (hG : G_group_challenge F p_0 p_1 p_2 = some r) :
  Cf Tryz.prog 97 [I p_0, I p_1, .slice p_2_A p_2.length p_2_c] [RowC p_2_A p_2_c c_i64 tr p_2] (I r) := by
 unfold G_group_challenge at hG; refine fi Tryz.func97 rfl rfl (mr tr_mv m0) fun S0 w0 hT => ?_
 refine sq ?_; refine rg ?_; refine ra [] f0 [] ?_; refine tN ?_; refine sq ?_; replace hG := bind_some hG; obtain ⟨v_2, hy_2, hG⟩ := hG; refine rg ?_; refine rn 2 [] f0 [(8, I p_0), (9, I p_1)] ?_; refine l1 ?_; refine nw 10 (vs 2) [I p_0, I p_1] 3 fun g_1 => ?_
 refine rn 1 [] f0 [(11, .slice p_2_A p_2.length p_2_c)] ?_; refine bo 0 1 2 g_1 3 [I p_0, I p_1] ?_; refine l1 ?_; refine ap 0 12 (some ⟨g_1, 0, none⟩) 2 ([p_0, p_1] : List Int) p_2 inf39 ((gd' (RowC p_2_A p_2_c c_i64 tr p_2) 1).a) hy_2 one_i64 fun v_2_A v_2_c _ => ?_
 refine ra [] f0 [(7, .slice v_2_A v_2.length v_2_c)] ?_; refine tN ?_; refine sq ?_; replace hG := bind_some hG; obtain ⟨v_3, hy_3, hG⟩ := hG; refine rg ?_; refine rn 1 [] f0 [(13, .slice v_2_A v_2.length v_2_c)] ?_; refine l1 ?_; refine cl 14 (z_digest_Ints F v_2_A v_2_c v_2 _ hy_3) hT ⟨oa 0 et.a, trivial⟩ ?_; refine ra [(0, 0, 0, 0)] (fc (fun W => run_rem (T := 25) (k := .u64) (p := v_3) (q := 1073741789) (by decide) W) f0) [(6, I (IntKind.i64.wrap (Int.tmod v_3 1073741789)))] ?_; refine tN ?_; refine kR ?_; obtain rfl := Option.some.inj hG; exact rt []
def G_group_within (F : Nat) (p_0 : Int) (p_1 : Int) : Option (Bool) :=
  Option.bind (ifB (decide (p_1 ≤ p_0))
      (some (decide (p_0 < 1073741789)))
      (some false) : Option (Bool)) (fun (v_3 : Bool) => 
    some v_3)
set_option maxRecDepth 100000 in
set_option maxHeartbeats 16000000 in
theorem z_group_within (F : Nat) (p_0 : Int) (p_1 : Int) (r : Bool) (hG : G_group_within F p_0 p_1 = some r) :
  Cf Tryz.prog 96 [I p_0, I p_1] [] (B r) := by
 unfold G_group_within at hG; refine fi Tryz.func96 rfl rfl m0 fun S0 w0 hT => ?_
 refine sq ?_; refine rg ?_; refine ra [] f0 [] ?_; refine tN ?_; obtain ⟨o_2, hG, hG_2⟩ := bind_some hG; refine jn (fun K E a w => ∃ (v_3 : Bool), Js S0 w0 12 ([(4, B v_3)] ++ K) (se E []) (v_3 = o_2) a w) ?_ ?_
 ·replace hG := ifB_cases hG; rcases hG with ⟨h_1, hG⟩ | ⟨h_1, hG⟩
  ·refine rg ?_; refine rn 4 [] f0 [(8, B (decide (p_1 ≤ p_0)))] ?_; refine sb 8 (bt h_1) ?_; refine ra [] f0 [(4, B (decide (p_0 < 1073741789)))] ?_; refine tN ?_; exact fun a w S hK hE => ⟨decide (p_0 < 1073741789), S, hK.wk, hE.sel [], Option.some.inj hG⟩
  ·refine rg ?_; refine rn 4 [] f0 [(8, B (decide (p_1 ≤ p_0)))] ?_; refine sb 8 (bf h_1) ?_; refine ra [] f0 [(4, B false)] ?_; refine tN ?_; exact fun a w S hK hE => ⟨false, S, hK.wk, hE.sel [], Option.some.inj hG⟩
 ·rintro a w ⟨v_3, hJ⟩; refine hJ.go fun ho_ => ?_
  clear hJ; subst ho_; replace hG := hG_2; refine kR ?_; obtain rfl := Option.some.inj hG; exact rt []
def G_office_between (F : Nat) (p_0 : Int) (p_1 : Int) (p_2 : Int) : Option (Bool) :=
  Option.bind (ifB (decide (p_1 ≤ p_0))
      (some (decide (p_0 ≤ p_2)))
      (some false) : Option (Bool)) (fun (v_3 : Bool) => 
    some v_3)
set_option maxRecDepth 100000 in
set_option maxHeartbeats 16000000 in
theorem z_office_between (F : Nat) (p_0 : Int) (p_1 : Int) (p_2 : Int) (r : Bool) (hG : G_office_between F p_0 p_1 p_2 = some r) :
  Cf Tryz.prog 55 [I p_0, I p_1, I p_2] [] (B r) := by
 unfold G_office_between at hG; refine fi Tryz.func55 rfl rfl m0 fun S0 w0 hT => ?_
 refine sq ?_; refine rg ?_; refine ra [] f0 [] ?_; refine tN ?_; obtain ⟨o_2, hG, hG_2⟩ := bind_some hG; refine jn (fun K E a w => ∃ (v_3 : Bool), Js S0 w0 15 ([(6, B v_3)] ++ K) (se E []) (v_3 = o_2) a w) ?_ ?_
 ·replace hG := ifB_cases hG; rcases hG with ⟨h_1, hG⟩ | ⟨h_1, hG⟩
  ·refine rg ?_; refine rn 4 [] f0 [(10, B (decide (p_1 ≤ p_0)))] ?_; refine sb 10 (bt h_1) ?_; refine ra [] f0 [(6, B (decide (p_0 ≤ p_2)))] ?_; refine tN ?_; exact fun a w S hK hE => ⟨decide (p_0 ≤ p_2), S, hK.wk, hE.sel [], Option.some.inj hG⟩
  ·refine rg ?_; refine rn 4 [] f0 [(10, B (decide (p_1 ≤ p_0)))] ?_; refine sb 10 (bf h_1) ?_; refine ra [] f0 [(6, B false)] ?_; refine tN ?_; exact fun a w S hK hE => ⟨false, S, hK.wk, hE.sel [], Option.some.inj hG⟩
 ·rintro a w ⟨v_3, hJ⟩; refine hJ.go fun ho_ => ?_
  clear hJ; subst ho_; replace hG := hG_2; refine kR ?_; obtain rfl := Option.some.inj hG; exact rt []
def G_office_message (F : Nat) (p_0 : KHead) : Option ((List Int)) :=
 some ([p_0.Office, p_0.Size, IntKind.i64.wrap (Int.fdiv p_0.Root (2 ^ 32)), IntKind.i64.wrap (IntKind.u32.wrap p_0.Root)] : List Int)
set_option maxRecDepth 100000 in
set_option maxHeartbeats 16000000 in
theorem z_office_message (F : Nat) (p_0 : KHead) (r : (List Int)) (hG : G_office_message F p_0 = some r) :
  Cn Tryz.prog 58 [.agg #[I p_0.Office, I p_0.Size, U p_0.Root, I p_0.Sig.C, I p_0.Sig.S]] [] (fun q : KSintL => r = q.l) (fun q => .slice q.A q.l.length q.c) (fun q => [RowC q.A q.c c_i64 tr q.l]) := by
 unfold G_office_message at hG; refine fin Tryz.func58 rfl rfl m0 fun S0 w0 hT => ?_
 refine sq ?_; refine rg ?_; refine l1 ?_; refine nw 1 vp [I p_0.Office, I p_0.Size, U p_0.Root, I p_0.Sig.C, I p_0.Sig.S] 29 fun g_1 => ?_
 refine ra [] f0 [] ?_; refine tN ?_; refine sq ?_; refine rg ?_; refine rn 12 [(1, 1, 0, 0), (1, 1, 0, 1), (1, 1, 0, 2), (3, 1, 0, 2)] f0 [(4, I p_0.Office), (6, I p_0.Size), (10, I (IntKind.i64.wrap (Int.fdiv p_0.Root (2 ^ 32)))), (14, I (IntKind.i64.wrap (IntKind.u32.wrap p_0.Root)))] ?_; refine l1 ?_; refine nw 15 (vs 4) [I p_0.Office, I p_0.Size, I (IntKind.i64.wrap (Int.fdiv p_0.Root (2 ^ 32))), I (IntKind.i64.wrap (IntKind.u32.wrap p_0.Root))] 3 fun g_2 => ?_
 refine ra [] f0 [(2, Sb g_2 4 4)] ?_; refine tN ?_; refine kR ?_; obtain rfl := Option.some.inj hG; refine sB 0 g_2 c_i64 tr ([p_0.Office, p_0.Size, IntKind.i64.wrap (Int.fdiv p_0.Root (2 ^ 32)), IntKind.i64.wrap (IntKind.u32.wrap p_0.Root)] : List Int) tr_mv et ?_; exact rtn [] ⟨(some ⟨g_2, 0, none⟩), 4, ([p_0.Office, p_0.Size, IntKind.i64.wrap (Int.fdiv p_0.Root (2 ^ 32)), IntKind.i64.wrap (IntKind.u32.wrap p_0.Root)] : List Int)⟩ rfl ⟨gi 0, trivial⟩
def G_cross_Digest (F : Nat) (p_0 : KHead) : Option (Int) :=
 Option.bind (G_digest_Ints F ([p_0.Office, p_0.Size, IntKind.i64.wrap (Int.fdiv p_0.Root (2 ^ 32)), IntKind.i64.wrap (bits BinOp.and IntKind.u64 p_0.Root 4294967295), p_0.Sig.C, p_0.Sig.S] : List Int)) (fun v_3 =>
 some v_3)
set_option maxRecDepth 100000 in
set_option maxHeartbeats 16000000 in
theorem z_cross_Digest (F : Nat) (p_0 : KHead) (r : Int) (hG : G_cross_Digest F p_0 = some r) :
  Cf Tryz.prog 6 [.agg #[I p_0.Office, I p_0.Size, U p_0.Root, I p_0.Sig.C, I p_0.Sig.S]] [] (U r) := by
 unfold G_cross_Digest at hG; refine fi Tryz.func6 rfl rfl m0 fun S0 w0 hT => ?_
 refine sq ?_; refine rg ?_; refine l1 ?_; refine nw 1 vp [I p_0.Office, I p_0.Size, U p_0.Root, I p_0.Sig.C, I p_0.Sig.S] 29 fun g_1 => ?_
 refine ra [] f0 [] ?_; refine tN ?_; refine sq ?_; replace hG := bind_some hG; obtain ⟨v_3, hy_3, hG⟩ := hG; refine rg ?_; refine rn 18 [(1, 1, 0, 0), (1, 1, 0, 1), (1, 1, 0, 2), (3, 1, 0, 2), (4, 1, 0, 3), (2, 1, 0, 4)] f0 [(4, I p_0.Office), (6, I p_0.Size), (10, I (IntKind.i64.wrap (Int.fdiv p_0.Root (2 ^ 32)))), (14, I (IntKind.i64.wrap (bits BinOp.and IntKind.u64 p_0.Root 4294967295))), (17, I p_0.Sig.C), (20, I p_0.Sig.S)] ?_; refine l1 ?_; refine nw 21 (vs 6) [I p_0.Office, I p_0.Size, I (IntKind.i64.wrap (Int.fdiv p_0.Root (2 ^ 32))), I (IntKind.i64.wrap (bits BinOp.and IntKind.u64 p_0.Root 4294967295)), I p_0.Sig.C, I p_0.Sig.S] 3 fun g_2 => ?_
 refine l1 ?_; refine cl 22 (z_digest_Ints F (some ⟨g_2, 0, none⟩) 6 ([p_0.Office, p_0.Size, IntKind.i64.wrap (Int.fdiv p_0.Root (2 ^ 32)), IntKind.i64.wrap (bits BinOp.and IntKind.u64 p_0.Root 4294967295), p_0.Sig.C, p_0.Sig.S] : List Int) _ hy_3) hT ⟨ba 0 et.a, trivial⟩ ?_; refine ra [] f0 [(2, U v_3)] ?_; refine tN ?_; refine kR ?_; obtain rfl := Option.some.inj hG; exact rt []
def G_interval_Valid (F : Nat) (p_0 : KInterval) : Option (Bool) :=
  Option.bind (ifB (decide (0 ≤ p_0.Lo))
      (ifB (decide (p_0.Lo ≤ p_0.Hi))
        (some (decide (p_0.Hi ≤ 3000000000000000)))
        (some false))
      (some false) : Option (Bool)) (fun (v_5 : Bool) => 
    some v_5)
set_option maxRecDepth 100000 in
set_option maxHeartbeats 16000000 in
theorem z_interval_Valid (F : Nat) (p_0 : KInterval) (r : Bool) (hG : G_interval_Valid F p_0 = some r) :
  Cf Tryz.prog 102 [.agg #[I p_0.Lo, I p_0.Hi]] [] (B r) := by
 unfold G_interval_Valid at hG; refine fi Tryz.func102 rfl rfl m0 fun S0 w0 hT => ?_
 refine sq ?_; refine rg ?_; refine l1 ?_; refine nw 1 vp [I p_0.Lo, I p_0.Hi] 32 fun g_1 => ?_
 refine ra [] f0 [] ?_; refine tN ?_; obtain ⟨o_4, hG, hG_4⟩ := bind_some hG; refine jn (fun K E a w => ∃ (v_5 : Bool), Js S0 w0 18 ([(2, B v_5)] ++ K) (se E []) (v_5 = o_4) a w) ?_ ?_
 ·replace hG := ifB_cases hG; rcases hG with ⟨h_2, hG⟩ | ⟨h_2, hG⟩
  ·replace hG := ifB_cases hG; rcases hG with ⟨h_3, hG⟩ | ⟨h_3, hG⟩
   ·refine rg ?_; refine rn 4 [(1, 1, 0, 0)] f0 [(6, B (decide (0 ≤ p_0.Lo)))] ?_; refine sb 6 (bt h_2) ?_; refine rn 7 [(1, 1, 0, 0), (1, 1, 0, 1)] f0 [(13, B (decide (p_0.Lo ≤ p_0.Hi)))] ?_; refine sb 13 (bt h_3) ?_; refine ra [(1, 1, 0, 1)] f0 [(2, B (decide (p_0.Hi ≤ 3000000000000000)))] ?_; refine tN ?_; exact fun a w S hK hE => ⟨decide (p_0.Hi ≤ 3000000000000000), S, hK.wk, hE.sel [], Option.some.inj hG⟩
   ·refine rg ?_; refine rn 4 [(1, 1, 0, 0)] f0 [(6, B (decide (0 ≤ p_0.Lo)))] ?_; refine sb 6 (bt h_2) ?_; refine rn 7 [(1, 1, 0, 0), (1, 1, 0, 1)] f0 [(13, B (decide (p_0.Lo ≤ p_0.Hi)))] ?_; refine sb 13 (bf h_3) ?_; refine ra [] f0 [(2, B false)] ?_; refine tN ?_; exact fun a w S hK hE => ⟨false, S, hK.wk, hE.sel [], Option.some.inj hG⟩
  ·refine rg ?_; refine rn 4 [(1, 1, 0, 0)] f0 [(6, B (decide (0 ≤ p_0.Lo)))] ?_; refine sb 6 (bf h_2) ?_; refine ra [] f0 [(2, B false)] ?_; refine tN ?_; exact fun a w S hK hE => ⟨false, S, hK.wk, hE.sel [], Option.some.inj hG⟩
 ·rintro a w ⟨v_5, hJ⟩; refine hJ.go fun ho_ => ?_
  clear hJ; subst ho_; replace hG := hG_4; refine kR ?_; obtain rfl := Option.some.inj hG; exact rt []
def G_office_logged_value (F : Nat) (p_0 : Koffice_logged) : Option (Int) :=
 Option.bind (G_digest_Next F p_0.Entry.Doc ([p_0.Entry.Stamp.Lo, p_0.Entry.Stamp.Hi] : List Int)) (fun v_3 =>
 some v_3)
set_option maxRecDepth 100000 in
set_option maxHeartbeats 16000000 in
theorem z_office_logged_value (F : Nat) (p_0 : Koffice_logged) (r : Int) (hG : G_office_logged_value F p_0 = some r) :
  Cf Tryz.prog 106 [.agg #[U p_0.Entry.Doc, I p_0.Entry.Stamp.Lo, I p_0.Entry.Stamp.Hi]] [] (U r) := by
 unfold G_office_logged_value at hG; refine fi Tryz.func106 rfl rfl m0 fun S0 w0 hT => ?_
 refine sq ?_; refine rg ?_; refine l1 ?_; refine nw 1 vp [U p_0.Entry.Doc, I p_0.Entry.Stamp.Lo, I p_0.Entry.Stamp.Hi] 93 fun g_1 => ?_
 refine ra [] f0 [] ?_; refine tN ?_; refine sq ?_; replace hG := bind_some hG; obtain ⟨v_3, hy_3, hG⟩ := hG; refine rg ?_; refine rn 11 [(2, 1, 0, 0), (3, 1, 0, 1), (3, 1, 0, 2)] f0 [(5, U p_0.Entry.Doc), (9, I p_0.Entry.Stamp.Lo), (13, I p_0.Entry.Stamp.Hi)] ?_; refine l1 ?_; refine nw 14 (vs 2) [I p_0.Entry.Stamp.Lo, I p_0.Entry.Stamp.Hi] 3 fun g_2 => ?_
 refine l1 ?_; refine cl 15 (z_digest_Next F p_0.Entry.Doc (some ⟨g_2, 0, none⟩) 2 ([p_0.Entry.Stamp.Lo, p_0.Entry.Stamp.Hi] : List Int) _ hy_3) hT ⟨ba 0 et.a, trivial⟩ ?_; refine ra [] f0 [(2, U v_3)] ?_; refine tN ?_; refine kR ?_; obtain rfl := Option.some.inj hG; exact rt []
def G_regulatorref25_Few (F : Nat) (p_0 : KOffice) : Option (Bool) :=
 some (decide (((p_0.Entries.length : Nat) : Int) ≤ 40))
set_option maxRecDepth 100000 in
set_option maxHeartbeats 16000000 in
theorem z_regulatorref25_Few (F : Nat) (p_0 : KOfficeL) (r : Bool) (hG : G_regulatorref25_Few F p_0.p = some r) :
  Cf Tryz.prog 18 [.agg #[I p_0.ID, .slice p_0.Entries_A p_0.Entries.length p_0.Entries_c]] [KOfficeL.ok p_0] (B r) := by
 unfold G_regulatorref25_Few at hG; refine fi Tryz.func18 rfl rfl (mc KOfficeL.mv m0) fun S0 w0 hT => ?_
 refine sq ?_; refine rg ?_; refine l1 ?_; refine nw 1 vp [I p_0.ID, .slice p_0.Entries_A p_0.Entries.length p_0.Entries_c] 24 fun g_1 => ?_
 refine ra [] f0 [] ?_; refine tN ?_; refine sq ?_; refine rg ?_; refine ra [(1, 1, 0, 1)] f0 [(2, B (decide (((p_0.Entries.length : Nat) : Int) ≤ 40)))] ?_; refine tN ?_; refine kR ?_; obtain rfl := Option.some.inj hG; exact rt []
def G_regulatorref25_Leaf (F : Nat) (p_0 : KEntry) : Option (Int) :=
 Option.bind (G_regulatorref03_Next F p_0.Doc ([p_0.Stamp.Lo, p_0.Stamp.Hi] : List Int)) (fun v_3 =>
 some v_3)
set_option maxRecDepth 100000 in
set_option maxHeartbeats 16000000 in
theorem z_regulatorref25_Leaf (F : Nat) (p_0 : KEntry) (r : Int) (hG : G_regulatorref25_Leaf F p_0 = some r) :
  Cf Tryz.prog 17 [.agg #[U p_0.Doc, I p_0.Stamp.Lo, I p_0.Stamp.Hi]] [] (U r) := by
 unfold G_regulatorref25_Leaf at hG; refine fi Tryz.func17 rfl rfl m0 fun S0 w0 hT => ?_
 refine sq ?_; refine rg ?_; refine l1 ?_; refine nw 1 vp [U p_0.Doc, I p_0.Stamp.Lo, I p_0.Stamp.Hi] 34 fun g_1 => ?_
 refine ra [] f0 [] ?_; refine tN ?_; refine sq ?_; replace hG := bind_some hG; obtain ⟨v_3, hy_3, hG⟩ := hG; refine rg ?_; refine rn 8 [(1, 1, 0, 0), (2, 1, 0, 1), (2, 1, 0, 2)] f0 [(4, U p_0.Doc), (7, I p_0.Stamp.Lo), (10, I p_0.Stamp.Hi)] ?_; refine l1 ?_; refine nw 11 (vs 2) [I p_0.Stamp.Lo, I p_0.Stamp.Hi] 3 fun g_2 => ?_
 refine l1 ?_; refine cl 12 (z_regulatorref03_Next F p_0.Doc (some ⟨g_2, 0, none⟩) 2 ([p_0.Stamp.Lo, p_0.Stamp.Hi] : List Int) _ hy_3) hT ⟨ba 0 et.a, trivial⟩ ?_; refine ra [] f0 [(2, U v_3)] ?_; refine tN ?_; refine kR ?_; obtain rfl := Option.some.inj hG; exact rt []
def G_regulatorref06_Power (F : Nat) (p_0 : Int) (p_1 : Int) (p_2 : Int) : Option (Int) :=
  Option.bind (Option.bind (iter (σ := Int × Int × Int × Int) (ρ := Int) (un4 fun (v_19 : Int) (v_20 : Int) (v_21 : Int) (v_22 : Int) => 
        (ifB (decide (v_20 > 0))
          (Option.bind (ifB (((Int.tmod v_20 2) == 1))
              (Option.bind (whenG (!(v_21 == 0)) ()) (fun v_26 =>
              some (Int.tmod (IntKind.i64.wrap (v_22 * v_19)) v_21)))
              (some v_22) : Option (Int)) (fun (v_28 : Int) => 
            Option.bind (whenG (!(v_21 == 0)) ()) (fun v_29 =>
            some (.inl (Int.tmod (IntKind.i64.wrap (v_19 * v_19)) v_21, IntKind.i64.wrap (Int.tdiv v_20 2), v_21, v_28)))))
          (some (.inr v_22)) : Option ((Int × Int × Int × Int) ⊕ Int))) F (p_0, p_1, p_2, 1)) (fun (v_30 : Int) => 
      some v_30) : Option (Int)) (fun (v_32 : Int) => 
    some v_32)
set_option maxRecDepth 100000 in
set_option maxHeartbeats 16000000 in
theorem z_regulatorref06_Power (F : Nat) (p_0 : Int) (p_1 : Int) (p_2 : Int) (r : Int) (hG : G_regulatorref06_Power F p_0 p_1 p_2 = some r) :
  Cf Tryz.prog 117 [I p_0, I p_1, I p_2] [] (I r) := by
 unfold G_regulatorref06_Power at hG; refine fi Tryz.func117 rfl rfl m0 fun S0 w0 hT => ?_
 refine sq ?_; refine rg ?_; refine ra [] f0 [] ?_; refine tN ?_; refine sq ?_; refine rg ?_; refine ra [] f0 [(7, I 1)] ?_; refine tN ?_; obtain ⟨o_31, hG, hG_31⟩ := bind_some hG; refine jn (fun K E a w => ∃ (v_32 : Int), Js S0 w0 26 ([(7, I v_32)] ++ dk [0, 1, 2] K) (se E []) (v_32 = o_31) a w) ?_ ?_
 ·refine bk ?_; obtain ⟨e_23, hL, hG_23⟩ := bind_some hG; clear hG; obtain ⟨stp_23, hs_23, hL⟩ := iter_gen hL; refine lp (fun K E n_ a w => ∃ (v_19 : Int), ∃ (v_20 : Int), ∃ (v_21 : Int), ∃ (v_22 : Int), Js S0 w0 26 ([(0, I v_19), (1, I v_20), (2, I v_21), (7, I v_22)] ++ K) (se E []) (iter stp_23 n_ (v_19, v_20, v_21, v_22) = some e_23) a w) F ?_ ?_
  ·exact fun a w S hK hE => ⟨p_0, p_1, p_2, 1, S, hK.wk, hE.sel [], hL⟩
  ·clear hL; rintro n_23 a w ⟨v_19, v_20, v_21, v_22, hJ⟩; refine hJ.go fun hL => ?_
   clear hJ; obtain ⟨m_23, o_23, rfl, hG, hO1_23, hO2_23⟩ := iter_step hL; clear hL; rw [hs_23] at hG; refine sq ?_; refine sq ?_; refine rg ?_; refine ra [] f0 [(9, B (decide (v_20 > 0)))] ?_; refine tN ?_; rcases ifB_cases hG with ⟨h_24, hG⟩ | ⟨h_24, hG⟩
   ·refine sb 9 (bt h_24) ?_; refine ct ?_; refine kS ?_; refine tN ?_; refine bk ?_; obtain ⟨o_27, hG, hG_27⟩ := bind_some hG; refine jn (fun K E a w => ∃ (v_28 : Int), Js S0 w0 26 ([(7, I v_28)] ++ K) (se E []) (v_28 = o_27) a w) ?_ ?_
    ·refine sq ?_; refine rg ?_; refine ra [(1, 0, 0, 0)] (fc (fun W => run_rem (T := 3) (k := .i64) (p := v_20) (q := 2) (by decide) W) f0) [(12, B ((Int.tmod v_20 2) == 1))] ?_; refine tN ?_; rcases ifB_cases hG with ⟨h_25, hG⟩ | ⟨h_25, hG⟩
     ·refine sb 12 (bt h_25) ?_; refine ct ?_; replace hG := bind_some hG; obtain ⟨v_26, hy_26, hG⟩ := hG; refine rg ?_; refine ra [(4, 0, 0, 0)] (fc (fun W => run_rem (T := 3) (k := .i64) (p := IntKind.i64.wrap (v_22 * v_19)) (q := v_21) (nz_of (whenG_some hy_26).1) W) f0) [(7, I (Int.tmod (IntKind.i64.wrap (v_22 * v_19)) v_21))] ?_; refine tN ?_; exact fun a w S hK hE => ⟨Int.tmod (IntKind.i64.wrap (v_22 * v_19)) v_21, S, hK.wk, hE.sel [], Option.some.inj hG⟩
     ·refine sb 12 (bf h_25) ?_; refine cf ?_; refine kS ?_; refine tN ?_; exact fun a w S hK hE => ⟨v_22, S, hK.wk, hE.sel [], Option.some.inj hG⟩
    ·rintro a w ⟨v_28, hJ⟩; refine hJ.go fun ho_ => ?_
     clear hJ; subst ho_; replace hG := hG_27; refine sq ?_; replace hG := bind_some hG; obtain ⟨v_29, hy_29, hG⟩ := hG; refine rg ?_; refine ra [(4, 0, 0, 0)] (fc (fun W => run_rem (T := 3) (k := .i64) (p := IntKind.i64.wrap (v_19 * v_19)) (q := v_21) (nz_of (whenG_some hy_29).1) W) f0) [(0, I (Int.tmod (IntKind.i64.wrap (v_19 * v_19)) v_21))] ?_; refine tN ?_; refine rg ?_; refine ra [(1, 0, 0, 0)] (fc (fun W => run_quo (T := 3) (k := .i64) (p := v_20) (q := 2) (by decide) W) f0) [(1, I (IntKind.i64.wrap (Int.tdiv v_20 2)))] ?_; refine hN ?_; refine tN ?_; exact fun a w S hK hE => ⟨m_23, ⟨Int.tmod (IntKind.i64.wrap (v_19 * v_19)) v_21, IntKind.i64.wrap (Int.tdiv v_20 2), v_21, v_28, S, hK.wk, hE.sel [], hO1_23 _ (Option.some.inj hG).symm⟩, Nat.lt_succ_self _⟩
   ·refine sb 9 (bf h_24) ?_; refine cf ?_; refine kX ?_; refine tX ?_; refine tX ?_; have he_ := hO2_23 _ (Option.some.inj hG).symm; subst he_; replace hG := hG_23; refine hH ?_; refine tN ?_; exact fun a w S hK hE => ⟨v_22, S, hK.wk, hE.sel [], Option.some.inj hG⟩
 ·rintro a w ⟨v_32, hJ⟩; refine hJ.go fun ho_ => ?_
  clear hJ; subst ho_; replace hG := hG_31; refine sq ?_; refine rg ?_; refine ra [] f0 [(6, I v_32)] ?_; refine tN ?_; refine kR ?_; obtain rfl := Option.some.inj hG; exact rt []
def G_regulatorref02_Valid (F : Nat) (p_0 : KInterval) : Option (Bool) :=
  Option.bind (ifB (decide (0 ≤ p_0.Lo))
      (ifB (decide (p_0.Lo ≤ p_0.Hi))
        (some (decide (p_0.Hi ≤ 3000000000000000)))
        (some false))
      (some false) : Option (Bool)) (fun (v_5 : Bool) => 
    some v_5)
set_option maxRecDepth 100000 in
set_option maxHeartbeats 16000000 in
theorem z_regulatorref02_Valid (F : Nat) (p_0 : KInterval) (r : Bool) (hG : G_regulatorref02_Valid F p_0 = some r) :
  Cf Tryz.prog 74 [.agg #[I p_0.Lo, I p_0.Hi]] [] (B r) := by
 unfold G_regulatorref02_Valid at hG; refine fi Tryz.func74 rfl rfl m0 fun S0 w0 hT => ?_
 refine sq ?_; refine rg ?_; refine l1 ?_; refine nw 1 vp [I p_0.Lo, I p_0.Hi] 32 fun g_1 => ?_
 refine ra [] f0 [] ?_; refine tN ?_; obtain ⟨o_4, hG, hG_4⟩ := bind_some hG; refine jn (fun K E a w => ∃ (v_5 : Bool), Js S0 w0 18 ([(2, B v_5)] ++ K) (se E []) (v_5 = o_4) a w) ?_ ?_
 ·replace hG := ifB_cases hG; rcases hG with ⟨h_2, hG⟩ | ⟨h_2, hG⟩
  ·replace hG := ifB_cases hG; rcases hG with ⟨h_3, hG⟩ | ⟨h_3, hG⟩
   ·refine rg ?_; refine rn 4 [(1, 1, 0, 0)] f0 [(6, B (decide (0 ≤ p_0.Lo)))] ?_; refine sb 6 (bt h_2) ?_; refine rn 7 [(1, 1, 0, 0), (1, 1, 0, 1)] f0 [(13, B (decide (p_0.Lo ≤ p_0.Hi)))] ?_; refine sb 13 (bt h_3) ?_; refine ra [(1, 1, 0, 1)] f0 [(2, B (decide (p_0.Hi ≤ 3000000000000000)))] ?_; refine tN ?_; exact fun a w S hK hE => ⟨decide (p_0.Hi ≤ 3000000000000000), S, hK.wk, hE.sel [], Option.some.inj hG⟩
   ·refine rg ?_; refine rn 4 [(1, 1, 0, 0)] f0 [(6, B (decide (0 ≤ p_0.Lo)))] ?_; refine sb 6 (bt h_2) ?_; refine rn 7 [(1, 1, 0, 0), (1, 1, 0, 1)] f0 [(13, B (decide (p_0.Lo ≤ p_0.Hi)))] ?_; refine sb 13 (bf h_3) ?_; refine ra [] f0 [(2, B false)] ?_; refine tN ?_; exact fun a w S hK hE => ⟨false, S, hK.wk, hE.sel [], Option.some.inj hG⟩
  ·refine rg ?_; refine rn 4 [(1, 1, 0, 0)] f0 [(6, B (decide (0 ≤ p_0.Lo)))] ?_; refine sb 6 (bf h_2) ?_; refine ra [] f0 [(2, B false)] ?_; refine tN ?_; exact fun a w S hK hE => ⟨false, S, hK.wk, hE.sel [], Option.some.inj hG⟩
 ·rintro a w ⟨v_5, hJ⟩; refine hJ.go fun ho_ => ?_
  clear hJ; subst ho_; replace hG := hG_4; refine kR ?_; obtain rfl := Option.some.inj hG; exact rt []
def G_regulatorref06_Exponent (F : Nat) (p_0 : Int) : Option (Bool) :=
  Option.bind (ifB (decide (p_0 ≥ 0))
      (some (decide (p_0 < 1073741789)))
      (some false) : Option (Bool)) (fun (v_3 : Bool) => 
    some v_3)
set_option maxRecDepth 100000 in
set_option maxHeartbeats 16000000 in
theorem z_regulatorref06_Exponent (F : Nat) (p_0 : Int) (r : Bool) (hG : G_regulatorref06_Exponent F p_0 = some r) :
  Cf Tryz.prog 75 [I p_0] [] (B r) := by
 unfold G_regulatorref06_Exponent at hG; refine fi Tryz.func75 rfl rfl m0 fun S0 w0 hT => ?_
 refine sq ?_; refine rg ?_; refine ra [] f0 [] ?_; refine tN ?_; obtain ⟨o_2, hG, hG_2⟩ := bind_some hG; refine jn (fun K E a w => ∃ (v_3 : Bool), Js S0 w0 9 ([(2, B v_3)] ++ K) (se E []) (v_3 = o_2) a w) ?_ ?_
 ·replace hG := ifB_cases hG; rcases hG with ⟨h_1, hG⟩ | ⟨h_1, hG⟩
  ·refine rg ?_; refine rn 3 [] f0 [(5, B (decide (p_0 ≥ 0)))] ?_; refine sb 5 (bt h_1) ?_; refine ra [] f0 [(2, B (decide (p_0 < 1073741789)))] ?_; refine tN ?_; exact fun a w S hK hE => ⟨decide (p_0 < 1073741789), S, hK.wk, hE.sel [], Option.some.inj hG⟩
  ·refine rg ?_; refine rn 3 [] f0 [(5, B (decide (p_0 ≥ 0)))] ?_; refine sb 5 (bf h_1) ?_; refine ra [] f0 [(2, B false)] ?_; refine tN ?_; exact fun a w S hK hE => ⟨false, S, hK.wk, hE.sel [], Option.some.inj hG⟩
 ·rintro a w ⟨v_3, hJ⟩; refine hJ.go fun ho_ => ?_
  clear hJ; subst ho_; replace hG := hG_2; refine kR ?_; obtain rfl := Option.some.inj hG; exact rt []
def G_regulatorref06_Challenge (F : Nat) (p_0 : Int) (p_1 : Int) (p_2 : List Int) : Option (Int) :=
 Option.bind (apG 8 ([p_0, p_1] : List Int) p_2) (fun v_2 =>
 Option.bind (G_regulatorref03_Ints F v_2) (fun v_3 =>
 some (IntKind.i64.wrap (Int.tmod v_3 1073741789))))
set_option maxRecDepth 100000 in
set_option maxHeartbeats 16000000 in
theorem z_regulatorref06_Challenge (F : Nat) (p_0 : Int) (p_1 : Int) (p_2_A : Option Addr) (p_2_c : Nat) (p_2 : List Int) (r : Int) (hG : G_regulatorref06_Challenge F p_0 p_1 p_2 = some r) :
  Cf Tryz.prog 118 [I p_0, I p_1, .slice p_2_A p_2.length p_2_c] [RowC p_2_A p_2_c c_i64 tr p_2] (I r) := by
 unfold G_regulatorref06_Challenge at hG; refine fi Tryz.func118 rfl rfl (mr tr_mv m0) fun S0 w0 hT => ?_
 refine sq ?_; refine rg ?_; refine ra [] f0 [] ?_; refine tN ?_; refine sq ?_; refine rg ?_; refine rn 2 [] f0 [(8, I p_0), (9, I p_1)] ?_; refine l1 ?_; refine nw 10 (vs 2) [I p_0, I p_1] 3 fun g_1 => ?_
 refine ra [] f0 [(7, Sb g_1 2 2)] ?_; refine tN ?_; refine sq ?_; replace hG := bind_some hG; obtain ⟨v_2, hy_2, hG⟩ := hG; refine rg ?_; refine rn 2 [] f0 [(11, Sb g_1 2 2), (12, .slice p_2_A p_2.length p_2_c)] ?_; refine bo 0 1 2 g_1 3 [I p_0, I p_1] ?_; refine l1 ?_; refine ap 0 13 (some ⟨g_1, 0, none⟩) 2 ([p_0, p_1] : List Int) p_2 inf39 ((gd' (RowC p_2_A p_2_c c_i64 tr p_2) 1).a) hy_2 one_i64 fun v_2_A v_2_c _ => ?_
 refine ra [] f0 [(7, .slice v_2_A v_2.length v_2_c)] ?_; refine tN ?_; refine sq ?_; replace hG := bind_some hG; obtain ⟨v_3, hy_3, hG⟩ := hG; refine rg ?_; refine rn 1 [] f0 [(14, .slice v_2_A v_2.length v_2_c)] ?_; refine l1 ?_; refine cl 15 (z_regulatorref03_Ints F v_2_A v_2_c v_2 _ hy_3) hT ⟨oa 0 et.a, trivial⟩ ?_; refine ra [(0, 0, 0, 0)] (fc (fun W => run_rem (T := 25) (k := .u64) (p := v_3) (q := 1073741789) (by decide) W) f0) [(6, I (IntKind.i64.wrap (Int.tmod v_3 1073741789)))] ?_; refine tN ?_; refine kR ?_; obtain rfl := Option.some.inj hG; exact rt []
def G_regulatorref25_Message (F : Nat) (p_0 : KHead) : Option ((List Int)) :=
 some ([p_0.Office, p_0.Size, IntKind.i64.wrap (Int.fdiv p_0.Root (2 ^ 32)), IntKind.i64.wrap (bits BinOp.and IntKind.u64 p_0.Root 4294967295)] : List Int)
set_option maxRecDepth 100000 in
set_option maxHeartbeats 16000000 in
theorem z_regulatorref25_Message (F : Nat) (p_0 : KHead) (r : (List Int)) (hG : G_regulatorref25_Message F p_0 = some r) :
  Cn Tryz.prog 95 [.agg #[I p_0.Office, I p_0.Size, U p_0.Root, I p_0.Sig.C, I p_0.Sig.S]] [] (fun q : KSintL => r = q.l) (fun q => .slice q.A q.l.length q.c) (fun q => [RowC q.A q.c c_i64 tr q.l]) := by
 unfold G_regulatorref25_Message at hG; refine fin Tryz.func95 rfl rfl m0 fun S0 w0 hT => ?_
 refine sq ?_; refine rg ?_; refine l1 ?_; refine nw 1 vp [I p_0.Office, I p_0.Size, U p_0.Root, I p_0.Sig.C, I p_0.Sig.S] 29 fun g_1 => ?_
 refine ra [] f0 [] ?_; refine tN ?_; refine sq ?_; refine rg ?_; refine rn 12 [(1, 1, 0, 0), (1, 1, 0, 1), (1, 1, 0, 2), (3, 1, 0, 2)] f0 [(4, I p_0.Office), (6, I p_0.Size), (10, I (IntKind.i64.wrap (Int.fdiv p_0.Root (2 ^ 32)))), (14, I (IntKind.i64.wrap (bits BinOp.and IntKind.u64 p_0.Root 4294967295)))] ?_; refine l1 ?_; refine nw 15 (vs 4) [I p_0.Office, I p_0.Size, I (IntKind.i64.wrap (Int.fdiv p_0.Root (2 ^ 32))), I (IntKind.i64.wrap (bits BinOp.and IntKind.u64 p_0.Root 4294967295))] 3 fun g_2 => ?_
 refine ra [] f0 [(2, Sb g_2 4 4)] ?_; refine tN ?_; refine kR ?_; obtain rfl := Option.some.inj hG; refine sB 0 g_2 c_i64 tr ([p_0.Office, p_0.Size, IntKind.i64.wrap (Int.fdiv p_0.Root (2 ^ 32)), IntKind.i64.wrap (bits BinOp.and IntKind.u64 p_0.Root 4294967295)] : List Int) tr_mv et ?_; exact rtn [] ⟨(some ⟨g_2, 0, none⟩), 4, ([p_0.Office, p_0.Size, IntKind.i64.wrap (Int.fdiv p_0.Root (2 ^ 32)), IntKind.i64.wrap (bits BinOp.and IntKind.u64 p_0.Root 4294967295)] : List Int)⟩ rfl ⟨gi 0, trivial⟩
def G_regulatorref26_Digest (F : Nat) (p_0 : KHead) : Option (Int) :=
 Option.bind (G_regulatorref03_Ints F ([p_0.Office, p_0.Size, IntKind.i64.wrap (Int.fdiv p_0.Root (2 ^ 32)), IntKind.i64.wrap (bits BinOp.and IntKind.u64 p_0.Root 4294967295), p_0.Sig.C, p_0.Sig.S] : List Int)) (fun v_3 =>
 some v_3)
set_option maxRecDepth 100000 in
set_option maxHeartbeats 16000000 in
theorem z_regulatorref26_Digest (F : Nat) (p_0 : KHead) (r : Int) (hG : G_regulatorref26_Digest F p_0 = some r) :
  Cf Tryz.prog 7 [.agg #[I p_0.Office, I p_0.Size, U p_0.Root, I p_0.Sig.C, I p_0.Sig.S]] [] (U r) := by
 unfold G_regulatorref26_Digest at hG; refine fi Tryz.func7 rfl rfl m0 fun S0 w0 hT => ?_
 refine sq ?_; refine rg ?_; refine l1 ?_; refine nw 1 vp [I p_0.Office, I p_0.Size, U p_0.Root, I p_0.Sig.C, I p_0.Sig.S] 29 fun g_1 => ?_
 refine ra [] f0 [] ?_; refine tN ?_; refine sq ?_; replace hG := bind_some hG; obtain ⟨v_3, hy_3, hG⟩ := hG; refine rg ?_; refine rn 18 [(1, 1, 0, 0), (1, 1, 0, 1), (1, 1, 0, 2), (3, 1, 0, 2), (4, 1, 0, 3), (2, 1, 0, 4)] f0 [(4, I p_0.Office), (6, I p_0.Size), (10, I (IntKind.i64.wrap (Int.fdiv p_0.Root (2 ^ 32)))), (14, I (IntKind.i64.wrap (bits BinOp.and IntKind.u64 p_0.Root 4294967295))), (17, I p_0.Sig.C), (20, I p_0.Sig.S)] ?_; refine l1 ?_; refine nw 21 (vs 6) [I p_0.Office, I p_0.Size, I (IntKind.i64.wrap (Int.fdiv p_0.Root (2 ^ 32))), I (IntKind.i64.wrap (bits BinOp.and IntKind.u64 p_0.Root 4294967295)), I p_0.Sig.C, I p_0.Sig.S] 3 fun g_2 => ?_
 refine l1 ?_; refine cl 22 (z_regulatorref03_Ints F (some ⟨g_2, 0, none⟩) 6 ([p_0.Office, p_0.Size, IntKind.i64.wrap (Int.fdiv p_0.Root (2 ^ 32)), IntKind.i64.wrap (bits BinOp.and IntKind.u64 p_0.Root 4294967295), p_0.Sig.C, p_0.Sig.S] : List Int) _ hy_3) hT ⟨ba 0 et.a, trivial⟩ ?_; refine ra [] f0 [(2, U v_3)] ?_; refine tN ?_; refine kR ?_; obtain rfl := Option.some.inj hG; exact rt []
def G_regulatorref03_Same (F : Nat) (p_0 : List Int) (p_1 : List Int) : Option (Bool) :=
  ifB ((((p_0.length : Nat) : Int) == ((p_1.length : Nat) : Int)))
    (Option.bind (Option.bind (iter (σ := Int) (ρ := Unit ⊕ Unit) (fun (v_19 : Int) => 
          (ifB (decide (v_19 < ((p_0.length : Nat) : Int)))
            (Option.bind (ixI p_0 v_19) (fun v_22 =>
            Option.bind (ixI p_1 v_19) (fun v_25 =>
            ifB ((v_22 == v_25))
              (some (.inl (IntKind.i64.wrap (v_19 + 1))))
              (some (.inr (.inr ()))))))
            (some (.inr (.inl ()))) : Option (Int ⊕ (Unit ⊕ Unit)))) F 0) (Sum.elim (fun (_ : Unit) => 
        some (.inl ())) (fun (_ : Unit) => 
        some (.inr ()))) : Option (Unit ⊕ Unit)) (Sum.elim (fun (_ : Unit) => 
      some true) (fun (_ : Unit) => 
      some false)))
    (some false)
set_option maxRecDepth 100000 in
set_option maxHeartbeats 16000000 in
theorem z_regulatorref03_Same (F : Nat) (p_0_A : Option Addr) (p_0_c : Nat) (p_0 : List Int) (p_1_A : Option Addr) (p_1_c : Nat) (p_1 : List Int) (r : Bool) (hG : G_regulatorref03_Same F p_0 p_1 = some r) :
  Cf Tryz.prog 35 [.slice p_0_A p_0.length p_0_c, .slice p_1_A p_1.length p_1_c] [RowC p_0_A p_0_c c_u64 tr p_0, RowC p_1_A p_1_c c_u64 tr p_1] (B r) := by
 unfold G_regulatorref03_Same at hG; refine fi Tryz.func35 rfl rfl (mr tr_mv (mr tr_mv m0)) fun S0 w0 hT => ?_
 refine sq ?_; refine rg ?_; refine ra [] f0 [] ?_; refine tN ?_; refine sq ?_; refine sq ?_; refine rg ?_; refine ra [] f0 [(10, B (!(((p_0.length : Nat) : Int) == ((p_1.length : Nat) : Int))))] ?_; refine tN ?_; rcases ifB_cases hG with ⟨h_1, hG⟩ | ⟨h_1, hG⟩
 ·refine sb 10 (nt h_1) ?_; refine cf ?_; refine kS ?_; refine tN ?_; obtain ⟨o_29, hG, hG_29⟩ := bind_some hG; refine jn (fun K E a w => Js S0 w0 26 (K) (se E []) (.inl () = o_29) a w) ?_ ?_
  ·refine sq ?_; refine rg ?_; refine ra [] f0 [(5, I 0)] ?_; refine tN ?_; refine bk ?_; obtain ⟨e_20, hL, hG_20⟩ := bind_some hG; clear hG; obtain ⟨stp_20, hs_20, hL⟩ := iter_gen hL; refine lp (fun K E n_ a w => ∃ (v_19 : Int), Js S0 w0 26 ([(5, I v_19)] ++ K) (se E [0, 1]) (iter stp_20 n_ v_19 = some e_20) a w) F ?_ ?_
   ·exact fun a w S hK hE => ⟨0, S, hK.wk, hE.sel [0, 1], hL⟩
   ·clear hL; rintro n_20 a w ⟨v_19, hJ⟩; refine hJ.go fun hL => ?_
    clear hJ; obtain ⟨m_20, o_20, rfl, hG, hO1_20, hO2_20⟩ := iter_step hL; clear hL; rw [hs_20] at hG; refine sq ?_; refine sq ?_; refine rg ?_; refine ra [] f0 [(14, B (decide (v_19 < ((p_0.length : Nat) : Int))))] ?_; refine tN ?_; rcases ifB_cases hG with ⟨h_21, hG⟩ | ⟨h_21, hG⟩
    ·refine sb 14 (bt h_21) ?_; refine ct ?_; refine kS ?_; refine tN ?_; refine sq ?_; refine bk ?_; refine sq ?_; replace hG := bind_some hG; obtain ⟨v_22, hy_22, hG⟩ := hG; replace hG := bind_some hG; obtain ⟨v_25, hy_25, hG⟩ := hG; refine qb ?_; refine fx inf30 (gd' (RowC p_0_A p_0_c c_u64 tr p_0) 0) hy_22 fun b_23 o_24 hi_22 => ?_
     refine fx inf30 (gd' (RowC p_1_A p_1_c c_u64 tr p_1) 2) hy_25 fun b_26 o_27 hi_25 => ?_
     refine qa [(2, 0, 0, 0), (0, 1, 1, 0), (2, 0, 0, 0), (0, 1, 0, 0)] (fc (hi_22 .i64) (fc (hi_25 .i64) f0)) [(25, B (!(v_22 == v_25)))] ?_; refine tN ?_; rcases ifB_cases hG with ⟨h_28, hG⟩ | ⟨h_28, hG⟩
     ·refine sb 25 (nt h_28) ?_; refine cf ?_; refine kS ?_; refine hN ?_; refine tN ?_; refine rg ?_; refine ra [] f0 [(5, I (IntKind.i64.wrap (v_19 + 1)))] ?_; refine tN ?_; exact fun a w S hK hE => ⟨m_20, ⟨IntKind.i64.wrap (v_19 + 1), S, hK.wk, hE.sel [2, 3], hO1_20 _ (Option.some.inj hG).symm⟩, Nat.lt_succ_self _⟩
     ·refine sb 25 (nf h_28) ?_; refine ct ?_; refine sq ?_; refine rg ?_; refine ra [] f0 [(4, B false)] ?_; refine tN ?_; refine kR ?_; refine hR ?_; refine tR ?_; refine tR ?_; have he_ := hO2_20 _ (Option.some.inj hG).symm; subst he_; replace hG := hG_20; refine hR ?_; refine tR ?_; obtain rfl := Option.some.inj hG; replace hG := hG_29; obtain rfl := Option.some.inj hG; exact rt []
    ·refine sb 14 (bf h_21) ?_; refine cf ?_; refine kX ?_; refine tX ?_; refine tX ?_; have he_ := hO2_20 _ (Option.some.inj hG).symm; subst he_; replace hG := hG_20; refine hH ?_; refine tN ?_; exact fun a w S hK hE => ⟨S, hK.wk, hE.sel [], Option.some.inj hG⟩
  ·rintro a w hJ; refine hJ.go fun ho_ => ?_
   clear hJ; subst ho_; replace hG := hG_29; refine sq ?_; refine rg ?_; refine ra [] f0 [(4, B true)] ?_; refine tN ?_; refine kR ?_; obtain rfl := Option.some.inj hG; exact rt []
 ·refine sb 10 (nf h_1) ?_; refine ct ?_; refine sq ?_; refine rg ?_; refine ra [] f0 [(4, B false)] ?_; refine tN ?_; refine kR ?_; refine tR ?_; obtain rfl := Option.some.inj hG; exact rt []
def G_regulatorref25_SameReceipt (F : Nat) (p_0 : KReceipt) (p_1 : KReceipt) : Option (Bool) :=
  Option.bind (ifB (decide (p_0.Head = p_1.Head))
      (ifB ((p_0.Index == p_1.Index))
        (ifB (decide (p_0.Entry = p_1.Entry))
          (some (!(((p_0.Path.length : Nat) : Int) == ((p_1.Path.length : Nat) : Int))))
          (some true))
        (some true))
      (some true) : Option (Bool)) (fun (v_7 : Bool) => 
    ifB (v_7)
      (some false)
      (Option.bind (Option.bind (iter (σ := Int) (ρ := Unit ⊕ Unit) (fun (v_26 : Int) => 
            (ifB (decide (v_26 < ((p_0.Path.length : Nat) : Int)))
              (Option.bind (ixI p_0.Path v_26) (fun v_29 =>
              Option.bind (ixI p_1.Path v_26) (fun v_32 =>
              ifB ((v_29 == v_32))
                (some (.inl (IntKind.i64.wrap (v_26 + 1))))
                (some (.inr (.inr ()))))))
              (some (.inr (.inl ()))) : Option (Int ⊕ (Unit ⊕ Unit)))) F 0) (Sum.elim (fun (_ : Unit) => 
          some (.inl ())) (fun (_ : Unit) => 
          some (.inr ()))) : Option (Unit ⊕ Unit)) (Sum.elim (fun (_ : Unit) => 
        some true) (fun (_ : Unit) => 
        some false))))
set_option maxRecDepth 100000 in
set_option maxHeartbeats 16000000 in
theorem z_regulatorref25_SameReceipt (F : Nat) (p_0 : KReceiptL) (p_1 : KReceiptL) (r : Bool) (hG : G_regulatorref25_SameReceipt F p_0.p p_1.p = some r) :
  Cf Tryz.prog 36 [.agg #[I p_0.Head.Office, I p_0.Head.Size, U p_0.Head.Root, I p_0.Head.Sig.C, I p_0.Head.Sig.S, I p_0.Index, U p_0.Entry.Doc, I p_0.Entry.Stamp.Lo, I p_0.Entry.Stamp.Hi, .slice p_0.Path_A p_0.Path.length p_0.Path_c], .agg #[I p_1.Head.Office, I p_1.Head.Size, U p_1.Head.Root, I p_1.Head.Sig.C, I p_1.Head.Sig.S, I p_1.Index, U p_1.Entry.Doc, I p_1.Entry.Stamp.Lo, I p_1.Entry.Stamp.Hi, .slice p_1.Path_A p_1.Path.length p_1.Path_c]] [KReceiptL.ok p_0, KReceiptL.ok p_1] (B r) := by
 unfold G_regulatorref25_SameReceipt at hG; refine fi Tryz.func36 rfl rfl (mc KReceiptL.mv (mc KReceiptL.mv m0)) fun S0 w0 hT => ?_
 refine sq ?_; refine rg ?_; refine l1 ?_; refine nw 2 vp [I p_0.Head.Office, I p_0.Head.Size, U p_0.Head.Root, I p_0.Head.Sig.C, I p_0.Head.Sig.S, I p_0.Index, U p_0.Entry.Doc, I p_0.Entry.Stamp.Lo, I p_0.Entry.Stamp.Hi, .slice p_0.Path_A p_0.Path.length p_0.Path_c] 36 fun g_1 => ?_
 refine l1 ?_; refine nw 3 vp [I p_1.Head.Office, I p_1.Head.Size, U p_1.Head.Root, I p_1.Head.Sig.C, I p_1.Head.Sig.S, I p_1.Index, U p_1.Entry.Doc, I p_1.Entry.Stamp.Lo, I p_1.Entry.Stamp.Hi, .slice p_1.Path_A p_1.Path.length p_1.Path_c] 36 fun g_2 => ?_
 refine ra [] f0 [] ?_; refine tN ?_; refine sq ?_; obtain ⟨o_6, hG, hG_6⟩ := bind_some hG; refine jn (fun K E a w => ∃ (v_7 : Bool), Js S0 w0 52 ([(33, B v_7)] ++ K) ([.dat (RowC p_0.Path_A p_0.Path_c c_u64 tr p_0.Path), .dat (RowC p_1.Path_A p_1.Path_c c_u64 tr p_1.Path)] ++ se E [0, 1]) (v_7 = o_6) a w) ?_ ?_
 ·replace hG := ifB_cases hG; rcases hG with ⟨h_3, hG⟩ | ⟨h_3, hG⟩
  ·replace hG := ifB_cases hG; rcases hG with ⟨h_4, hG⟩ | ⟨h_4, hG⟩
   ·replace hG := ifB_cases hG; rcases hG with ⟨h_5, hG⟩ | ⟨h_5, hG⟩
    ·refine rg ?_; refine rn 6 [(1, 5, 1, 0), (1, 5, 0, 0), (0, 0, 0, 0)] (fc (neq_KHead p_0.Head p_1.Head) f0) [(11, B (!(decide (p_0.Head = p_1.Head))))] ?_; refine sb 11 (nt h_3) ?_; refine rn 7 [(1, 1, 1, 5), (1, 1, 0, 5)] f0 [(18, B (!(p_0.Index == p_1.Index)))] ?_; refine sb 18 (nt h_4) ?_; refine rn 7 [(1, 3, 1, 6), (1, 3, 0, 6), (0, 0, 0, 0)] (fc (neq_KEntry p_0.Entry p_1.Entry) f0) [(25, B (!(decide (p_0.Entry = p_1.Entry))))] ?_; refine sb 25 (nt h_5) ?_; refine ra [(1, 1, 1, 9), (2, 1, 0, 9)] f0 [(33, B (!(((p_0.Path.length : Nat) : Int) == ((p_1.Path.length : Nat) : Int))))] ?_; refine tN ?_; refine fm (RowC p_0.Path_A p_0.Path_c c_u64 tr p_0.Path) (gm (KReceiptL.ok p_0) 2 fun _ _ h => h.f_Path) ?_; refine fm (RowC p_1.Path_A p_1.Path_c c_u64 tr p_1.Path) (gm (KReceiptL.ok p_1) 4 fun _ _ h => h.f_Path) ?_; exact fun a w S hK hE => ⟨!(((p_0.Path.length : Nat) : Int) == ((p_1.Path.length : Nat) : Int)), S, hK.wk, hE.sel [1, 0, 2, 3], Option.some.inj hG⟩
    ·refine rg ?_; refine rn 6 [(1, 5, 1, 0), (1, 5, 0, 0), (0, 0, 0, 0)] (fc (neq_KHead p_0.Head p_1.Head) f0) [(11, B (!(decide (p_0.Head = p_1.Head))))] ?_; refine sb 11 (nt h_3) ?_; refine rn 7 [(1, 1, 1, 5), (1, 1, 0, 5)] f0 [(18, B (!(p_0.Index == p_1.Index)))] ?_; refine sb 18 (nt h_4) ?_; refine rn 7 [(1, 3, 1, 6), (1, 3, 0, 6), (0, 0, 0, 0)] (fc (neq_KEntry p_0.Entry p_1.Entry) f0) [(25, B (!(decide (p_0.Entry = p_1.Entry))))] ?_; refine sb 25 (nf h_5) ?_; refine ra [] f0 [(33, B true)] ?_; refine tN ?_; refine fm (RowC p_0.Path_A p_0.Path_c c_u64 tr p_0.Path) (gm (KReceiptL.ok p_0) 2 fun _ _ h => h.f_Path) ?_; refine fm (RowC p_1.Path_A p_1.Path_c c_u64 tr p_1.Path) (gm (KReceiptL.ok p_1) 4 fun _ _ h => h.f_Path) ?_; exact fun a w S hK hE => ⟨true, S, hK.wk, hE.sel [1, 0, 2, 3], Option.some.inj hG⟩
   ·refine rg ?_; refine rn 6 [(1, 5, 1, 0), (1, 5, 0, 0), (0, 0, 0, 0)] (fc (neq_KHead p_0.Head p_1.Head) f0) [(11, B (!(decide (p_0.Head = p_1.Head))))] ?_; refine sb 11 (nt h_3) ?_; refine rn 7 [(1, 1, 1, 5), (1, 1, 0, 5)] f0 [(18, B (!(p_0.Index == p_1.Index)))] ?_; refine sb 18 (nf h_4) ?_; refine ra [] f0 [(33, B true)] ?_; refine tN ?_; refine fm (RowC p_0.Path_A p_0.Path_c c_u64 tr p_0.Path) (gm (KReceiptL.ok p_0) 2 fun _ _ h => h.f_Path) ?_; refine fm (RowC p_1.Path_A p_1.Path_c c_u64 tr p_1.Path) (gm (KReceiptL.ok p_1) 4 fun _ _ h => h.f_Path) ?_; exact fun a w S hK hE => ⟨true, S, hK.wk, hE.sel [1, 0, 2, 3], Option.some.inj hG⟩
  ·refine rg ?_; refine rn 6 [(1, 5, 1, 0), (1, 5, 0, 0), (0, 0, 0, 0)] (fc (neq_KHead p_0.Head p_1.Head) f0) [(11, B (!(decide (p_0.Head = p_1.Head))))] ?_; refine sb 11 (nf h_3) ?_; refine ra [] f0 [(33, B true)] ?_; refine tN ?_; refine fm (RowC p_0.Path_A p_0.Path_c c_u64 tr p_0.Path) (gm (KReceiptL.ok p_0) 2 fun _ _ h => h.f_Path) ?_; refine fm (RowC p_1.Path_A p_1.Path_c c_u64 tr p_1.Path) (gm (KReceiptL.ok p_1) 4 fun _ _ h => h.f_Path) ?_; exact fun a w S hK hE => ⟨true, S, hK.wk, hE.sel [1, 0, 2, 3], Option.some.inj hG⟩
 ·rintro a w ⟨v_7, hJ⟩; refine hJ.go fun ho_ => ?_
  clear hJ; subst ho_; replace hG := hG_6; rcases ifB_cases hG with ⟨h_8, hG⟩ | ⟨h_8, hG⟩
  ·refine sb 33 (bt h_8) ?_; refine ct ?_; refine sq ?_; refine rg ?_; refine ra [] f0 [(4, B false)] ?_; refine tN ?_; refine kR ?_; refine tR ?_; obtain rfl := Option.some.inj hG; exact rt []
  ·refine sb 33 (bf h_8) ?_; refine cf ?_; refine kS ?_; refine tN ?_; obtain ⟨o_36, hG, hG_36⟩ := bind_some hG; refine jn (fun K E a w => Js S0 w0 52 (K) (se E []) (.inl () = o_36) a w) ?_ ?_
   ·refine sq ?_; refine rg ?_; refine ra [] f0 [(5, I 0)] ?_; refine tN ?_; refine bk ?_; obtain ⟨e_27, hL, hG_27⟩ := bind_some hG; clear hG; obtain ⟨stp_27, hs_27, hL⟩ := iter_gen hL; refine lp (fun K E n_ a w => ∃ (v_26 : Int), Js S0 w0 52 ([(5, I v_26)] ++ K) (se E [0, 1, 2, 3]) (iter stp_27 n_ v_26 = some e_27) a w) F ?_ ?_
    ·exact fun a w S hK hE => ⟨0, S, hK.wk, hE.sel [0, 1, 2, 3], hL⟩
    ·clear hL; rintro n_27 a w ⟨v_26, hJ⟩; refine hJ.go fun hL => ?_
     clear hJ; obtain ⟨m_27, o_27, rfl, hG, hO1_27, hO2_27⟩ := iter_step hL; clear hL; rw [hs_27] at hG; refine sq ?_; refine sq ?_; refine rg ?_; refine ra [(2, 1, 3, 9)] f0 [(38, B (decide (v_26 < ((p_0.Path.length : Nat) : Int))))] ?_; refine tN ?_; rcases ifB_cases hG with ⟨h_28, hG⟩ | ⟨h_28, hG⟩
     ·refine sb 38 (bt h_28) ?_; refine ct ?_; refine kS ?_; refine tN ?_; refine sq ?_; refine bk ?_; refine sq ?_; replace hG := bind_some hG; obtain ⟨v_29, hy_29, hG⟩ := hG; replace hG := bind_some hG; obtain ⟨v_32, hy_32, hG⟩ := hG; refine qb ?_; refine fx inf30 (gd' (RowC p_0.Path_A p_0.Path_c c_u64 tr p_0.Path) 0) hy_29 fun b_30 o_31 hi_29 => ?_
      refine fx inf30 (gd' (RowC p_1.Path_A p_1.Path_c c_u64 tr p_1.Path) 2) hy_32 fun b_33 o_34 hi_32 => ?_
      refine qa [(1, 1, 5, 9), (1, 0, 0, 0), (0, 1, 1, 0), (1, 1, 4, 9), (1, 0, 0, 0), (0, 1, 0, 0)] (fc (hi_29 .i64) (fc (hi_32 .i64) f0)) [(51, B (!(v_29 == v_32)))] ?_; refine tN ?_; rcases ifB_cases hG with ⟨h_35, hG⟩ | ⟨h_35, hG⟩
      ·refine sb 51 (nt h_35) ?_; refine cf ?_; refine kS ?_; refine hN ?_; refine tN ?_; refine rg ?_; refine ra [] f0 [(5, I (IntKind.i64.wrap (v_26 + 1)))] ?_; refine tN ?_; exact fun a w S hK hE => ⟨m_27, ⟨IntKind.i64.wrap (v_26 + 1), S, hK.wk, hE.sel [2, 3, 4, 5], hO1_27 _ (Option.some.inj hG).symm⟩, Nat.lt_succ_self _⟩
      ·refine sb 51 (nf h_35) ?_; refine ct ?_; refine sq ?_; refine rg ?_; refine ra [] f0 [(4, B false)] ?_; refine tN ?_; refine kR ?_; refine hR ?_; refine tR ?_; refine tR ?_; have he_ := hO2_27 _ (Option.some.inj hG).symm; subst he_; replace hG := hG_27; refine hR ?_; refine tR ?_; obtain rfl := Option.some.inj hG; replace hG := hG_36; obtain rfl := Option.some.inj hG; exact rt []
     ·refine sb 38 (bf h_28) ?_; refine cf ?_; refine kX ?_; refine tX ?_; refine tX ?_; have he_ := hO2_27 _ (Option.some.inj hG).symm; subst he_; replace hG := hG_27; refine hH ?_; refine tN ?_; exact fun a w S hK hE => ⟨S, hK.wk, hE.sel [], Option.some.inj hG⟩
   ·rintro a w hJ; refine hJ.go fun ho_ => ?_
    clear hJ; subst ho_; replace hG := hG_36; refine sq ?_; refine rg ?_; refine ra [] f0 [(4, B true)] ?_; refine tN ?_; refine kR ?_; obtain rfl := Option.some.inj hG; exact rt []
end Go.Proofs.YtiijddjfiojfaaaGreatDoor
namespace Go.Proofs.YtiijddjfiojfaaaGreatDoor
open Go.RowKit Go.Maps
def G_group_Member (F : Nat) (p_0 : Int) : Option (Bool) :=
  Option.bind (ifB (decide (0 < p_0))
      (ifB (decide (p_0 < 2147483579))
        (Option.bind (G_group_power F p_0 1073741789) (fun v_3 =>
        some (v_3 == 1)))
        (some false))
      (some false) : Option (Bool)) (fun (v_5 : Bool) => 
    some v_5)
set_option maxRecDepth 100000 in
set_option maxHeartbeats 16000000 in
theorem z_group_Member (F : Nat) (p_0 : Int) (r : Bool) (hG : G_group_Member F p_0 = some r) :
  Cf Tryz.prog 110 [I p_0] [] (B r) := by
 unfold G_group_Member at hG; refine fi Tryz.func110 rfl rfl m0 fun S0 w0 hT => ?_
 refine sq ?_; refine rg ?_; refine ra [] f0 [] ?_; refine tN ?_; obtain ⟨o_4, hG, hG_4⟩ := bind_some hG; refine jn (fun K E a w => ∃ (v_5 : Bool), Js S0 w0 14 ([(2, B v_5)] ++ K) (se E []) (v_5 = o_4) a w) ?_ ?_
 ·replace hG := ifB_cases hG; rcases hG with ⟨h_1, hG⟩ | ⟨h_1, hG⟩
  ·replace hG := ifB_cases hG; rcases hG with ⟨h_2, hG⟩ | ⟨h_2, hG⟩
   ·replace hG := bind_some hG; obtain ⟨v_3, hy_3, hG⟩ := hG; refine rg ?_; refine rn 3 [] f0 [(5, B (decide (0 < p_0)))] ?_; refine sb 5 (bt h_1) ?_; refine rn 4 [] f0 [(9, B (decide (p_0 < 2147483579)))] ?_; refine sb 9 (bt h_2) ?_; refine rn 1 [] f0 [(10, I p_0)] ?_; refine l1 ?_; refine cl 11 (z_group_power F p_0 1073741789 _ hy_3) hT trivial ?_; refine ra [] f0 [(2, B (v_3 == 1))] ?_; refine tN ?_; exact fun a w S hK hE => ⟨(v_3 == 1), S, hK.wk, hE.sel [], Option.some.inj hG⟩
   ·refine rg ?_; refine rn 3 [] f0 [(5, B (decide (0 < p_0)))] ?_; refine sb 5 (bt h_1) ?_; refine rn 4 [] f0 [(9, B (decide (p_0 < 2147483579)))] ?_; refine sb 9 (bf h_2) ?_; refine ra [] f0 [(2, B false)] ?_; refine tN ?_; exact fun a w S hK hE => ⟨false, S, hK.wk, hE.sel [], Option.some.inj hG⟩
  ·refine rg ?_; refine rn 3 [] f0 [(5, B (decide (0 < p_0)))] ?_; refine sb 5 (bf h_1) ?_; refine ra [] f0 [(2, B false)] ?_; refine tN ?_; exact fun a w S hK hE => ⟨false, S, hK.wk, hE.sel [], Option.some.inj hG⟩
 ·rintro a w ⟨v_5, hJ⟩; refine hJ.go fun ho_ => ?_
  clear hJ; subst ho_; replace hG := hG_4; refine kR ?_; obtain rfl := Option.some.inj hG; exact rt []
def G_office_formed (F : Nat) (p_0 : KHead) : Option (Bool) :=
 Option.bind (Option.bind (G_office_between F p_0.Office 1 16) (fun v_2 =>
  ifB (v_2)
   (Option.bind (G_office_between F p_0.Size 1 4096) (fun v_4 =>
   ifB (v_4)
    (Option.bind (G_office_between F p_0.Sig.C 0 1073741788) (fun v_6 =>
    ifB (v_6)
     (Option.bind (G_office_between F p_0.Sig.S 0 1073741788) (fun v_8 =>
     some v_8))
     (some false)))
    (some false)))
   (some false)) : Option (Bool)) (fun (v_10 : Bool) =>
  some v_10)
set_option maxRecDepth 100000 in
set_option maxHeartbeats 16000000 in
theorem z_office_formed (F : Nat) (p_0 : KHead) (r : Bool) (hG : G_office_formed F p_0 = some r) :
  Cf Tryz.prog 71 [.agg #[I p_0.Office, I p_0.Size, U p_0.Root, I p_0.Sig.C, I p_0.Sig.S]] [] (B r) := by
 unfold G_office_formed at hG; refine fi Tryz.func71 rfl rfl m0 fun S0 w0 hT => ?_
 refine sq ?_; refine rg ?_; refine l1 ?_; refine nw 1 vp [I p_0.Office, I p_0.Size, U p_0.Root, I p_0.Sig.C, I p_0.Sig.S] 29 fun g_1 => ?_
 refine ra [] f0 [] ?_; refine tN ?_; obtain ⟨o_9, hG, hG_9⟩ := bind_some hG; refine jn (fun K E a w => ∃ (v_10 : Bool), Js S0 w0 23 ([(2, B v_10)] ++ K) (se E []) (v_10 = o_9) a w) ?_ ?_
 ·replace hG := bind_some hG; obtain ⟨v_2, hy_2, hG⟩ := hG; replace hG := ifB_cases hG; rcases hG with ⟨h_3, hG⟩ | ⟨h_3, hG⟩
  ·replace hG := bind_some hG; obtain ⟨v_4, hy_4, hG⟩ := hG; replace hG := ifB_cases hG; rcases hG with ⟨h_5, hG⟩ | ⟨h_5, hG⟩
   ·replace hG := bind_some hG; obtain ⟨v_6, hy_6, hG⟩ := hG; replace hG := ifB_cases hG; rcases hG with ⟨h_7, hG⟩ | ⟨h_7, hG⟩
    ·replace hG := bind_some hG; obtain ⟨v_8, hy_8, hG⟩ := hG; refine rg ?_; refine rn 2 [(1, 1, 0, 0)] f0 [(4, I p_0.Office)] ?_; refine l1 ?_; refine cl 5 (z_office_between F p_0.Office 1 16 _ hy_2) hT trivial ?_; refine rn 1 [] f0 [(6, B v_2)] ?_; refine sb 6 (bt h_3) ?_; refine rn 2 [(1, 1, 0, 1)] f0 [(8, I p_0.Size)] ?_; refine l1 ?_; refine cl 9 (z_office_between F p_0.Size 1 4096 _ hy_4) hT trivial ?_; refine rn 2 [] f0 [(11, B v_4)] ?_; refine sb 11 (bt h_5) ?_; refine rn 3 [(2, 1, 0, 3)] f0 [(14, I p_0.Sig.C)] ?_; refine l1 ?_; refine cl 15 (z_office_between F p_0.Sig.C 0 1073741788 _ hy_6) hT trivial ?_; refine rn 2 [] f0 [(17, B v_6)] ?_; refine sb 17 (bt h_7) ?_; refine rn 3 [(2, 1, 0, 4)] f0 [(20, I p_0.Sig.S)] ?_; refine l1 ?_; refine cl 21 (z_office_between F p_0.Sig.S 0 1073741788 _ hy_8) hT trivial ?_; refine ra [] f0 [(2, B v_8)] ?_; refine tN ?_; exact fun a w S hK hE => ⟨v_8, S, hK.wk, hE.sel [], Option.some.inj hG⟩
    ·refine rg ?_; refine rn 2 [(1, 1, 0, 0)] f0 [(4, I p_0.Office)] ?_; refine l1 ?_; refine cl 5 (z_office_between F p_0.Office 1 16 _ hy_2) hT trivial ?_; refine rn 1 [] f0 [(6, B v_2)] ?_; refine sb 6 (bt h_3) ?_; refine rn 2 [(1, 1, 0, 1)] f0 [(8, I p_0.Size)] ?_; refine l1 ?_; refine cl 9 (z_office_between F p_0.Size 1 4096 _ hy_4) hT trivial ?_; refine rn 2 [] f0 [(11, B v_4)] ?_; refine sb 11 (bt h_5) ?_; refine rn 3 [(2, 1, 0, 3)] f0 [(14, I p_0.Sig.C)] ?_; refine l1 ?_; refine cl 15 (z_office_between F p_0.Sig.C 0 1073741788 _ hy_6) hT trivial ?_; refine rn 2 [] f0 [(17, B v_6)] ?_; refine sb 17 (bf h_7) ?_; refine ra [] f0 [(2, B false)] ?_; refine tN ?_; exact fun a w S hK hE => ⟨false, S, hK.wk, hE.sel [], Option.some.inj hG⟩
   ·refine rg ?_; refine rn 2 [(1, 1, 0, 0)] f0 [(4, I p_0.Office)] ?_; refine l1 ?_; refine cl 5 (z_office_between F p_0.Office 1 16 _ hy_2) hT trivial ?_; refine rn 1 [] f0 [(6, B v_2)] ?_; refine sb 6 (bt h_3) ?_; refine rn 2 [(1, 1, 0, 1)] f0 [(8, I p_0.Size)] ?_; refine l1 ?_; refine cl 9 (z_office_between F p_0.Size 1 4096 _ hy_4) hT trivial ?_; refine rn 2 [] f0 [(11, B v_4)] ?_; refine sb 11 (bf h_5) ?_; refine ra [] f0 [(2, B false)] ?_; refine tN ?_; exact fun a w S hK hE => ⟨false, S, hK.wk, hE.sel [], Option.some.inj hG⟩
  ·refine rg ?_; refine rn 2 [(1, 1, 0, 0)] f0 [(4, I p_0.Office)] ?_; refine l1 ?_; refine cl 5 (z_office_between F p_0.Office 1 16 _ hy_2) hT trivial ?_; refine rn 1 [] f0 [(6, B v_2)] ?_; refine sb 6 (bf h_3) ?_; refine ra [] f0 [(2, B false)] ?_; refine tN ?_; exact fun a w S hK hE => ⟨false, S, hK.wk, hE.sel [], Option.some.inj hG⟩
 ·rintro a w ⟨v_10, hJ⟩; refine hJ.go fun ho_ => ?_
  clear hJ; subst ho_; replace hG := hG_9; refine kR ?_; obtain rfl := Option.some.inj hG; exact rt []
def G_office_logged_formed (F : Nat) (p_0 : Koffice_logged) : Option (Bool) :=
 Option.bind (G_interval_Valid F p_0.Entry.Stamp) (fun v_2 =>
 some v_2)
set_option maxRecDepth 100000 in
set_option maxHeartbeats 16000000 in
theorem z_office_logged_formed (F : Nat) (p_0 : Koffice_logged) (r : Bool) (hG : G_office_logged_formed F p_0 = some r) :
  Cf Tryz.prog 64 [.agg #[U p_0.Entry.Doc, I p_0.Entry.Stamp.Lo, I p_0.Entry.Stamp.Hi]] [] (B r) := by
 unfold G_office_logged_formed at hG; refine fi Tryz.func64 rfl rfl m0 fun S0 w0 hT => ?_
 refine sq ?_; refine rg ?_; refine l1 ?_; refine nw 1 vp [U p_0.Entry.Doc, I p_0.Entry.Stamp.Lo, I p_0.Entry.Stamp.Hi] 93 fun g_1 => ?_
 refine ra [] f0 [] ?_; refine tN ?_; refine sq ?_; replace hG := bind_some hG; obtain ⟨v_2, hy_2, hG⟩ := hG; refine rg ?_; refine rn 3 [(2, 2, 0, 1)] f0 [(5, .agg #[I p_0.Entry.Stamp.Lo, I p_0.Entry.Stamp.Hi])] ?_; refine l1 ?_; refine cl 6 (z_interval_Valid F p_0.Entry.Stamp _ hy_2) hT trivial ?_; refine ra [] f0 [(2, B v_2)] ?_; refine tN ?_; refine kR ?_; obtain rfl := Option.some.inj hG; exact rt []
def G_office_Leaf (F : Nat) (p_0 : KEntry) : Option (Int) :=
 Option.bind (G_office_logged_value F (⟨p_0⟩ : Koffice_logged)) (fun v_2 =>
 some v_2)
set_option maxRecDepth 100000 in
set_option maxHeartbeats 16000000 in
theorem z_office_Leaf (F : Nat) (p_0 : KEntry) (r : Int) (hG : G_office_Leaf F p_0 = some r) :
  Cf Tryz.prog 70 [.agg #[U p_0.Doc, I p_0.Stamp.Lo, I p_0.Stamp.Hi]] [] (U r) := by
 unfold G_office_Leaf at hG; refine fi Tryz.func70 rfl rfl m0 fun S0 w0 hT => ?_
 refine sq ?_; refine rg ?_; refine l1 ?_; refine nw 1 vp [U p_0.Doc, I p_0.Stamp.Lo, I p_0.Stamp.Hi] 34 fun g_1 => ?_
 refine ra [] f0 [] ?_; refine tN ?_; refine sq ?_; replace hG := bind_some hG; obtain ⟨v_2, hy_2, hG⟩ := hG; refine rg ?_; refine rn 2 [(0, 3, 0, 0)] f0 [(4, .agg #[U p_0.Doc, I p_0.Stamp.Lo, I p_0.Stamp.Hi])] ?_; refine l1 ?_; refine cl 5 (z_office_logged_value F (⟨p_0⟩ : Koffice_logged) _ hy_2) hT trivial ?_; refine ra [] f0 [(2, U v_2)] ?_; refine tN ?_; refine kR ?_; obtain rfl := Option.some.inj hG; exact rt []
def G_regulatorlaw26_few (F : Nat) (p_0 : KOffice) (p_1 : KOffice) : Option (Bool) :=
 Option.bind (Option.bind (G_regulatorref25_Few F p_0) (fun v_3 =>
  ifB (v_3)
   (Option.bind (G_regulatorref25_Few F p_1) (fun v_5 =>
   some v_5))
   (some false)) : Option (Bool)) (fun (v_7 : Bool) =>
  some v_7)
set_option maxRecDepth 100000 in
set_option maxHeartbeats 16000000 in
theorem z_regulatorlaw26_few (F : Nat) (p_0 : KOfficeL) (p_1 : KOfficeL) (r : Bool) (hG : G_regulatorlaw26_few F p_0.p p_1.p = some r) :
  Cf Tryz.prog 5 [.agg #[I p_0.ID, .slice p_0.Entries_A p_0.Entries.length p_0.Entries_c], .agg #[I p_1.ID, .slice p_1.Entries_A p_1.Entries.length p_1.Entries_c]] [KOfficeL.ok p_0, KOfficeL.ok p_1] (B r) := by
 unfold G_regulatorlaw26_few at hG; refine fi Tryz.func5 rfl rfl (mc KOfficeL.mv (mc KOfficeL.mv m0)) fun S0 w0 hT => ?_
 refine sq ?_; refine rg ?_; refine l1 ?_; refine nw 2 vp [I p_0.ID, .slice p_0.Entries_A p_0.Entries.length p_0.Entries_c] 24 fun g_1 => ?_
 refine l1 ?_; refine nw 3 vp [I p_1.ID, .slice p_1.Entries_A p_1.Entries.length p_1.Entries_c] 24 fun g_2 => ?_
 refine ra [] f0 [] ?_; refine tN ?_; obtain ⟨o_6, hG, hG_6⟩ := bind_some hG; refine jn (fun K E a w => ∃ (v_7 : Bool), Js S0 w0 11 ([(4, B v_7)] ++ K) (se E []) (v_7 = o_6) a w) ?_ ?_
 ·replace hG := bind_some hG; obtain ⟨v_3, hy_3, hG⟩ := hG; replace hG := ifB_cases hG; rcases hG with ⟨h_4, hG⟩ | ⟨h_4, hG⟩
  ·replace hG := bind_some hG; obtain ⟨v_5, hy_5, hG⟩ := hG; refine rg ?_; refine rn 1 [(0, 2, 1, 0)] f0 [(5, .agg #[I p_0.ID, .slice p_0.Entries_A p_0.Entries.length p_0.Entries_c])] ?_; refine l1 ?_; refine cl 6 (z_regulatorref25_Few F p_0 _ hy_3) hT ⟨(gi 2).a, trivial⟩ ?_; refine rn 1 [] f0 [(7, B v_3)] ?_; refine sb 7 (bt h_4) ?_; refine rn 1 [(0, 2, 0, 0)] f0 [(8, .agg #[I p_1.ID, .slice p_1.Entries_A p_1.Entries.length p_1.Entries_c])] ?_; refine l1 ?_; refine cl 9 (z_regulatorref25_Few F p_1 _ hy_5) hT ⟨(gi 3).a, trivial⟩ ?_; refine ra [] f0 [(4, B v_5)] ?_; refine tN ?_; exact fun a w S hK hE => ⟨v_5, S, hK.wk, hE.sel [], Option.some.inj hG⟩
  ·refine rg ?_; refine rn 1 [(0, 2, 1, 0)] f0 [(5, .agg #[I p_0.ID, .slice p_0.Entries_A p_0.Entries.length p_0.Entries_c])] ?_; refine l1 ?_; refine cl 6 (z_regulatorref25_Few F p_0 _ hy_3) hT ⟨(gi 2).a, trivial⟩ ?_; refine rn 1 [] f0 [(7, B v_3)] ?_; refine sb 7 (bf h_4) ?_; refine ra [] f0 [(4, B false)] ?_; refine tN ?_; exact fun a w S hK hE => ⟨false, S, hK.wk, hE.sel [], Option.some.inj hG⟩
 ·rintro a w ⟨v_7, hJ⟩; refine hJ.go fun ho_ => ?_
  clear hJ; subst ho_; replace hG := hG_6; refine kR ?_; obtain rfl := Option.some.inj hG; exact rt []
def G_group_Sign (F : Nat) (p_0 : Int) (p_1 : Int) (p_2 : List Int) : Option (KSig × Int) :=
 Option.bind (Option.bind (G_group_within F p_0 1) (fun v_2 =>
  ifB (v_2)
   (Option.bind (G_group_within F p_1 1) (fun v_4 =>
   some (!v_4, p_2)))
   (some (true, p_2))) : Option ((Bool × (List Int)))) (un2 fun (v_6 : Bool) (v_7 : (List Int)) =>
  ifB (v_6)
   (some ((⟨0, 0⟩ : KSig), 1))
   (Option.bind (G_group_power F 4 p_1) (fun v_11 =>
   Option.bind (G_group_power F 4 p_0) (fun v_12 =>
   Option.bind (G_group_challenge F v_11 v_12 v_7) (fun v_13 =>
   some ((⟨v_13, Int.tmod (IntKind.i64.wrap (p_1 + (IntKind.i64.wrap (v_13 * p_0)))) 1073741789⟩ : KSig), 0))))))
set_option maxRecDepth 100000 in
set_option maxHeartbeats 16000000 in
theorem z_group_Sign (F : Nat) (p_0 : Int) (p_1 : Int) (p_2_A : Option Addr) (p_2_c : Nat) (p_2 : List Int) (r : KSig × Int) (hG : G_group_Sign F p_0 p_1 p_2 = some r) :
  Cf Tryz.prog 57 [I p_0, I p_1, .slice p_2_A p_2.length p_2_c] [RowC p_2_A p_2_c c_i64 tr p_2] (.tuple #[.agg #[I r.1.C, I r.1.S], I r.2]) := by
 unfold G_group_Sign at hG; refine fi Tryz.func57 rfl rfl (mr tr_mv m0) fun S0 w0 hT => ?_
 refine sq ?_; refine rg ?_; refine l1 ?_; refine nw 6 vp [I 0, I 0] 27 fun g_1 => ?_
 refine ra [] f0 [] ?_; refine tN ?_; refine sq ?_; obtain ⟨o_5, hG, hG_5⟩ := bind_some hG; refine jn (fun K E a w => ∃ (v_6 : Bool), ∃ (v_7 : List Int), ∃ (v_8_A : Option Addr), ∃ (v_9_c : Nat), Js S0 w0 32 ([(2, .slice v_8_A v_7.length v_9_c), (16, B v_6)] ++ K) ([.dat (RowC v_8_A v_9_c c_i64 tr v_7)] ++ se E [0]) ((v_6, v_7) = o_5) a w) ?_ ?_
 ·replace hG := bind_some hG; obtain ⟨v_2, hy_2, hG⟩ := hG; replace hG := ifB_cases hG; rcases hG with ⟨h_3, hG⟩ | ⟨h_3, hG⟩
  ·replace hG := bind_some hG; obtain ⟨v_4, hy_4, hG⟩ := hG; refine rg ?_; refine rn 1 [] f0 [(9, I p_0)] ?_; refine l1 ?_; refine cl 10 (z_group_within F p_0 1 _ hy_2) hT trivial ?_; refine rn 2 [] f0 [(12, B (!v_2))] ?_; refine sb 12 (nt h_3) ?_; refine rn 1 [] f0 [(13, I p_1)] ?_; refine l1 ?_; refine cl 14 (z_group_within F p_1 1 _ hy_4) hT trivial ?_; refine ra [] f0 [(16, B (!v_4))] ?_; refine tN ?_; exact fun a w S hK hE => ⟨!v_4, p_2, p_2_A, p_2_c, S, hK.wk, hE.sel [1, 0], Option.some.inj hG⟩
  ·refine rg ?_; refine rn 1 [] f0 [(9, I p_0)] ?_; refine l1 ?_; refine cl 10 (z_group_within F p_0 1 _ hy_2) hT trivial ?_; refine rn 2 [] f0 [(12, B (!v_2))] ?_; refine sb 12 (nf h_3) ?_; refine ra [] f0 [(16, B true)] ?_; refine tN ?_; exact fun a w S hK hE => ⟨true, p_2, p_2_A, p_2_c, S, hK.wk, hE.sel [1, 0], Option.some.inj hG⟩
 ·rintro a w ⟨v_6, v_7, v_8_A, v_9_c, hJ⟩; refine hJ.go fun ho_ => ?_
  clear hJ; subst ho_; replace hG := hG_5; rcases ifB_cases hG with ⟨h_10, hG⟩ | ⟨h_10, hG⟩
  ·refine sb 16 (bt h_10) ?_; refine ct ?_; refine sq ?_; refine rg ?_; refine rn 1 [] f0 [(17, .agg #[I 0, I 0])] ?_; refine l1 ?_; refine sr 1 g_1 [(0, I 0), (1, I 0)] ?_; refine ra [] f0 [(7, I 1)] ?_; refine tN ?_; refine kR ?_; refine tR ?_; obtain rfl := Option.some.inj hG; exact rt [(1, 0, 2)]
  ·refine sb 16 (bf h_10) ?_; refine cf ?_; refine kS ?_; refine tN ?_; refine sq ?_; replace hG := bind_some hG; obtain ⟨v_11, hy_11, hG⟩ := hG; replace hG := bind_some hG; obtain ⟨v_12, hy_12, hG⟩ := hG; replace hG := bind_some hG; obtain ⟨v_13, hy_13, hG⟩ := hG; refine rg ?_; refine rn 1 [] f0 [(18, I p_1)] ?_; refine l1 ?_; refine cl 19 (z_group_power F 4 p_1 _ hy_11) hT trivial ?_; refine rn 1 [] f0 [(20, I p_0)] ?_; refine l1 ?_; refine cl 21 (z_group_power F 4 p_0 _ hy_12) hT trivial ?_; refine rn 1 [] f0 [(22, .slice v_8_A v_7.length v_9_c)] ?_; refine l1 ?_; refine cl 23 (z_group_challenge F v_11 v_12 v_8_A v_9_c v_7 _ hy_13) hT ⟨ga 0, trivial⟩ ?_; refine ra [] f0 [(8, I v_13)] ?_; refine tN ?_; refine sq ?_; refine rg ?_; refine rn 8 [(6, 0, 0, 0)] (fc (fun W => run_rem (T := 3) (k := .i64) (p := IntKind.i64.wrap (p_1 + (IntKind.i64.wrap (v_13 * p_0)))) (q := 1073741789) (by decide) W) f0) [(31, .agg #[I v_13, I (Int.tmod (IntKind.i64.wrap (p_1 + (IntKind.i64.wrap (v_13 * p_0)))) 1073741789)])] ?_; refine l1 ?_; refine sr 1 g_1 [(0, I v_13), (1, I (Int.tmod (IntKind.i64.wrap (p_1 + (IntKind.i64.wrap (v_13 * p_0)))) 1073741789))] ?_; refine ra [] f0 [(7, I 0)] ?_; refine tN ?_; refine kR ?_; obtain rfl := Option.some.inj hG; exact rt [(1, 0, 2)]
def G_regulatorref06_Member (F : Nat) (p_0 : Int) : Option (Bool) :=
  Option.bind (ifB (decide (p_0 ≥ 1))
      (ifB (decide (p_0 < 2147483579))
        (Option.bind (G_regulatorref06_Power F p_0 1073741789 2147483579) (fun v_3 =>
        some (v_3 == 1)))
        (some false))
      (some false) : Option (Bool)) (fun (v_5 : Bool) => 
    some v_5)
set_option maxRecDepth 100000 in
set_option maxHeartbeats 16000000 in
theorem z_regulatorref06_Member (F : Nat) (p_0 : Int) (r : Bool) (hG : G_regulatorref06_Member F p_0 = some r) :
  Cf Tryz.prog 93 [I p_0] [] (B r) := by
 unfold G_regulatorref06_Member at hG; refine fi Tryz.func93 rfl rfl m0 fun S0 w0 hT => ?_
 refine sq ?_; refine rg ?_; refine ra [] f0 [] ?_; refine tN ?_; obtain ⟨o_4, hG, hG_4⟩ := bind_some hG; refine jn (fun K E a w => ∃ (v_5 : Bool), Js S0 w0 14 ([(2, B v_5)] ++ K) (se E []) (v_5 = o_4) a w) ?_ ?_
 ·replace hG := ifB_cases hG; rcases hG with ⟨h_1, hG⟩ | ⟨h_1, hG⟩
  ·replace hG := ifB_cases hG; rcases hG with ⟨h_2, hG⟩ | ⟨h_2, hG⟩
   ·replace hG := bind_some hG; obtain ⟨v_3, hy_3, hG⟩ := hG; refine rg ?_; refine rn 3 [] f0 [(5, B (decide (p_0 ≥ 1)))] ?_; refine sb 5 (bt h_1) ?_; refine rn 4 [] f0 [(9, B (decide (p_0 < 2147483579)))] ?_; refine sb 9 (bt h_2) ?_; refine rn 1 [] f0 [(10, I p_0)] ?_; refine l1 ?_; refine cl 11 (z_regulatorref06_Power F p_0 1073741789 2147483579 _ hy_3) hT trivial ?_; refine ra [] f0 [(2, B (v_3 == 1))] ?_; refine tN ?_; exact fun a w S hK hE => ⟨(v_3 == 1), S, hK.wk, hE.sel [], Option.some.inj hG⟩
   ·refine rg ?_; refine rn 3 [] f0 [(5, B (decide (p_0 ≥ 1)))] ?_; refine sb 5 (bt h_1) ?_; refine rn 4 [] f0 [(9, B (decide (p_0 < 2147483579)))] ?_; refine sb 9 (bf h_2) ?_; refine ra [] f0 [(2, B false)] ?_; refine tN ?_; exact fun a w S hK hE => ⟨false, S, hK.wk, hE.sel [], Option.some.inj hG⟩
  ·refine rg ?_; refine rn 3 [] f0 [(5, B (decide (p_0 ≥ 1)))] ?_; refine sb 5 (bf h_1) ?_; refine ra [] f0 [(2, B false)] ?_; refine tN ?_; exact fun a w S hK hE => ⟨false, S, hK.wk, hE.sel [], Option.some.inj hG⟩
 ·rintro a w ⟨v_5, hJ⟩; refine hJ.go fun ho_ => ?_
  clear hJ; subst ho_; replace hG := hG_4; refine kR ?_; obtain rfl := Option.some.inj hG; exact rt []
def G_regulatorref25_Form (F : Nat) (p_0 : KHead) : Option (Bool) :=
  Option.bind (G_regulatorref06_Exponent F p_0.Sig.C) (fun v_2 =>
  Option.bind (G_regulatorref06_Exponent F p_0.Sig.S) (fun v_3 =>
  Option.bind (ifB (decide (p_0.Office ≥ 1))
      (ifB (decide (p_0.Office ≤ 16))
        (ifB (decide (p_0.Size ≥ 1))
          (ifB (decide (p_0.Size ≤ 4096))
            (ifB (v_2)
              (some v_3)
              (some false))
            (some false))
          (some false))
        (some false))
      (some false) : Option (Bool)) (fun (v_10 : Bool) => 
    some v_10)))
set_option maxRecDepth 100000 in
set_option maxHeartbeats 16000000 in
theorem z_regulatorref25_Form (F : Nat) (p_0 : KHead) (r : Bool) (hG : G_regulatorref25_Form F p_0 = some r) :
  Cf Tryz.prog 30 [.agg #[I p_0.Office, I p_0.Size, U p_0.Root, I p_0.Sig.C, I p_0.Sig.S]] [] (B r) := by
 unfold G_regulatorref25_Form at hG; refine fi Tryz.func30 rfl rfl m0 fun S0 w0 hT => ?_
 refine sq ?_; refine rg ?_; refine l1 ?_; refine nw 1 vp [I p_0.Office, I p_0.Size, U p_0.Root, I p_0.Sig.C, I p_0.Sig.S] 29 fun g_1 => ?_
 refine ra [] f0 [] ?_; refine tN ?_; refine sq ?_; replace hG := bind_some hG; obtain ⟨v_2, hy_2, hG⟩ := hG; refine rg ?_; refine rn 3 [(2, 1, 0, 3)] f0 [(7, I p_0.Sig.C)] ?_; refine l1 ?_; refine cl 8 (z_regulatorref06_Exponent F p_0.Sig.C _ hy_2) hT trivial ?_; refine ra [] f0 [(3, B v_2)] ?_; refine tN ?_; refine sq ?_; replace hG := bind_some hG; obtain ⟨v_3, hy_3, hG⟩ := hG; refine rg ?_; refine rn 3 [(2, 1, 0, 4)] f0 [(11, I p_0.Sig.S)] ?_; refine l1 ?_; refine cl 12 (z_regulatorref06_Exponent F p_0.Sig.S _ hy_3) hT trivial ?_; refine ra [] f0 [(4, B v_3)] ?_; refine tN ?_; obtain ⟨o_9, hG, hG_9⟩ := bind_some hG; refine jn (fun K E a w => ∃ (v_10 : Bool), Js S0 w0 37 ([(2, B v_10)] ++ K) (se E []) (v_10 = o_9) a w) ?_ ?_
 ·replace hG := ifB_cases hG; rcases hG with ⟨h_4, hG⟩ | ⟨h_4, hG⟩
  ·replace hG := ifB_cases hG; rcases hG with ⟨h_5, hG⟩ | ⟨h_5, hG⟩
   ·replace hG := ifB_cases hG; rcases hG with ⟨h_6, hG⟩ | ⟨h_6, hG⟩
    ·replace hG := ifB_cases hG; rcases hG with ⟨h_7, hG⟩ | ⟨h_7, hG⟩
     ·replace hG := ifB_cases hG; rcases hG with ⟨h_8, hG⟩ | ⟨h_8, hG⟩
      ·refine rg ?_; refine rn 4 [(1, 1, 0, 0)] f0 [(16, B (decide (p_0.Office ≥ 1)))] ?_; refine sb 16 (bt h_4) ?_; refine rn 5 [(1, 1, 0, 0)] f0 [(21, B (decide (p_0.Office ≤ 16)))] ?_; refine sb 21 (bt h_5) ?_; refine rn 5 [(1, 1, 0, 1)] f0 [(26, B (decide (p_0.Size ≥ 1)))] ?_; refine sb 26 (bt h_6) ?_; refine rn 5 [(1, 1, 0, 1)] f0 [(31, B (decide (p_0.Size ≤ 4096)))] ?_; refine sb 31 (bt h_7) ?_; refine rn 3 [] f0 [(34, B v_2)] ?_; refine sb 34 (bt h_8) ?_; refine ra [] f0 [(2, B v_3)] ?_; refine tN ?_; exact fun a w S hK hE => ⟨v_3, S, hK.wk, hE.sel [], Option.some.inj hG⟩
      ·refine rg ?_; refine rn 4 [(1, 1, 0, 0)] f0 [(16, B (decide (p_0.Office ≥ 1)))] ?_; refine sb 16 (bt h_4) ?_; refine rn 5 [(1, 1, 0, 0)] f0 [(21, B (decide (p_0.Office ≤ 16)))] ?_; refine sb 21 (bt h_5) ?_; refine rn 5 [(1, 1, 0, 1)] f0 [(26, B (decide (p_0.Size ≥ 1)))] ?_; refine sb 26 (bt h_6) ?_; refine rn 5 [(1, 1, 0, 1)] f0 [(31, B (decide (p_0.Size ≤ 4096)))] ?_; refine sb 31 (bt h_7) ?_; refine rn 3 [] f0 [(34, B v_2)] ?_; refine sb 34 (bf h_8) ?_; refine ra [] f0 [(2, B false)] ?_; refine tN ?_; exact fun a w S hK hE => ⟨false, S, hK.wk, hE.sel [], Option.some.inj hG⟩
     ·refine rg ?_; refine rn 4 [(1, 1, 0, 0)] f0 [(16, B (decide (p_0.Office ≥ 1)))] ?_; refine sb 16 (bt h_4) ?_; refine rn 5 [(1, 1, 0, 0)] f0 [(21, B (decide (p_0.Office ≤ 16)))] ?_; refine sb 21 (bt h_5) ?_; refine rn 5 [(1, 1, 0, 1)] f0 [(26, B (decide (p_0.Size ≥ 1)))] ?_; refine sb 26 (bt h_6) ?_; refine rn 5 [(1, 1, 0, 1)] f0 [(31, B (decide (p_0.Size ≤ 4096)))] ?_; refine sb 31 (bf h_7) ?_; refine ra [] f0 [(2, B false)] ?_; refine tN ?_; exact fun a w S hK hE => ⟨false, S, hK.wk, hE.sel [], Option.some.inj hG⟩
    ·refine rg ?_; refine rn 4 [(1, 1, 0, 0)] f0 [(16, B (decide (p_0.Office ≥ 1)))] ?_; refine sb 16 (bt h_4) ?_; refine rn 5 [(1, 1, 0, 0)] f0 [(21, B (decide (p_0.Office ≤ 16)))] ?_; refine sb 21 (bt h_5) ?_; refine rn 5 [(1, 1, 0, 1)] f0 [(26, B (decide (p_0.Size ≥ 1)))] ?_; refine sb 26 (bf h_6) ?_; refine ra [] f0 [(2, B false)] ?_; refine tN ?_; exact fun a w S hK hE => ⟨false, S, hK.wk, hE.sel [], Option.some.inj hG⟩
   ·refine rg ?_; refine rn 4 [(1, 1, 0, 0)] f0 [(16, B (decide (p_0.Office ≥ 1)))] ?_; refine sb 16 (bt h_4) ?_; refine rn 5 [(1, 1, 0, 0)] f0 [(21, B (decide (p_0.Office ≤ 16)))] ?_; refine sb 21 (bf h_5) ?_; refine ra [] f0 [(2, B false)] ?_; refine tN ?_; exact fun a w S hK hE => ⟨false, S, hK.wk, hE.sel [], Option.some.inj hG⟩
  ·refine rg ?_; refine rn 4 [(1, 1, 0, 0)] f0 [(16, B (decide (p_0.Office ≥ 1)))] ?_; refine sb 16 (bf h_4) ?_; refine ra [] f0 [(2, B false)] ?_; refine tN ?_; exact fun a w S hK hE => ⟨false, S, hK.wk, hE.sel [], Option.some.inj hG⟩
 ·rintro a w ⟨v_10, hJ⟩; refine hJ.go fun ho_ => ?_
  clear hJ; subst ho_; replace hG := hG_9; refine kR ?_; obtain rfl := Option.some.inj hG; exact rt []
def G_regulatorref06_Back (F : Nat) (p_0 : Int) (p_1 : KSig) : Option (Int) :=
 Option.bind (G_regulatorref06_Power F 4 p_1.S 2147483579) (fun v_2 =>
 Option.bind (G_regulatorref06_Power F p_0 (Int.tmod (IntKind.i64.wrap (1073741789 - p_1.C)) 1073741789) 2147483579) (fun v_3 =>
 some (Int.tmod (IntKind.i64.wrap (v_2 * v_3)) 2147483579)))
set_option maxRecDepth 100000 in
set_option maxHeartbeats 16000000 in
theorem z_regulatorref06_Back (F : Nat) (p_0 : Int) (p_1 : KSig) (r : Int) (hG : G_regulatorref06_Back F p_0 p_1 = some r) :
  Cf Tryz.prog 119 [I p_0, .agg #[I p_1.C, I p_1.S]] [] (I r) := by
 unfold G_regulatorref06_Back at hG; refine fi Tryz.func119 rfl rfl m0 fun S0 w0 hT => ?_
 refine sq ?_; refine rg ?_; refine l1 ?_; refine nw 3 vp [I p_1.C, I p_1.S] 27 fun g_1 => ?_
 refine ra [] f0 [] ?_; refine tN ?_; refine sq ?_; replace hG := bind_some hG; obtain ⟨v_2, hy_2, hG⟩ := hG; replace hG := bind_some hG; obtain ⟨v_3, hy_3, hG⟩ := hG; refine qb ?_; refine qn 2 [(1, 1, 0, 1)] f0 [(6, I p_1.S)] ?_; refine qc 7 (z_regulatorref06_Power F 4 p_1.S 2147483579 _ hy_2) hT trivial ?_; refine qn 5 [(2, 1, 0, 0), (1, 0, 0, 0)] (fc (fun W => run_rem (T := 3) (k := .i64) (p := IntKind.i64.wrap (1073741789 - p_1.C)) (q := 1073741789) (by decide) W) f0) [(8, I p_0), (12, I (Int.tmod (IntKind.i64.wrap (1073741789 - p_1.C)) 1073741789))] ?_; refine qc 13 (z_regulatorref06_Power F p_0 (Int.tmod (IntKind.i64.wrap (1073741789 - p_1.C)) 1073741789) 2147483579 _ hy_3) hT trivial ?_; refine qa [(1, 0, 0, 0)] (fc (fun W => run_rem (T := 3) (k := .i64) (p := IntKind.i64.wrap (v_2 * v_3)) (q := 2147483579) (by decide) W) f0) [(4, I (Int.tmod (IntKind.i64.wrap (v_2 * v_3)) 2147483579))] ?_; refine tN ?_; refine kR ?_; obtain rfl := Option.some.inj hG; exact rt []
def G_regulatorref26_Same (F : Nat) (p_0 : KHop) (p_1 : KHop) : Option (Bool) :=
  Option.bind (G_regulatorref03_Same F p_0.Grow p_1.Grow) (fun v_3 =>
  Option.bind (G_regulatorref25_SameReceipt F p_0.By p_1.By) (fun v_4 =>
  Option.bind (ifB (decide (p_0.Of = p_1.Of))
      (ifB (v_3)
        (some v_4)
        (some false))
      (some false) : Option (Bool)) (fun (v_8 : Bool) => 
    some v_8)))
set_option maxRecDepth 100000 in
set_option maxHeartbeats 16000000 in
theorem z_regulatorref26_Same (F : Nat) (p_0 : KHopL) (p_1 : KHopL) (r : Bool) (hG : G_regulatorref26_Same F p_0.p p_1.p = some r) :
  Cf Tryz.prog 10 [.agg #[I p_0.Of.Office, I p_0.Of.Size, U p_0.Of.Root, I p_0.Of.Sig.C, I p_0.Of.Sig.S, .slice p_0.Grow_A p_0.Grow.length p_0.Grow_c, I p_0.By.Head.Office, I p_0.By.Head.Size, U p_0.By.Head.Root, I p_0.By.Head.Sig.C, I p_0.By.Head.Sig.S, I p_0.By.Index, U p_0.By.Entry.Doc, I p_0.By.Entry.Stamp.Lo, I p_0.By.Entry.Stamp.Hi, .slice p_0.By.Path_A p_0.By.Path.length p_0.By.Path_c], .agg #[I p_1.Of.Office, I p_1.Of.Size, U p_1.Of.Root, I p_1.Of.Sig.C, I p_1.Of.Sig.S, .slice p_1.Grow_A p_1.Grow.length p_1.Grow_c, I p_1.By.Head.Office, I p_1.By.Head.Size, U p_1.By.Head.Root, I p_1.By.Head.Sig.C, I p_1.By.Head.Sig.S, I p_1.By.Index, U p_1.By.Entry.Doc, I p_1.By.Entry.Stamp.Lo, I p_1.By.Entry.Stamp.Hi, .slice p_1.By.Path_A p_1.By.Path.length p_1.By.Path_c]] [KHopL.ok p_0, KHopL.ok p_1] (B r) := by
 unfold G_regulatorref26_Same at hG; refine fi Tryz.func10 rfl rfl (mc KHopL.mv (mc KHopL.mv m0)) fun S0 w0 hT => ?_
 refine sq ?_; refine rg ?_; refine l1 ?_; refine nw 2 vp [I p_0.Of.Office, I p_0.Of.Size, U p_0.Of.Root, I p_0.Of.Sig.C, I p_0.Of.Sig.S, .slice p_0.Grow_A p_0.Grow.length p_0.Grow_c, I p_0.By.Head.Office, I p_0.By.Head.Size, U p_0.By.Head.Root, I p_0.By.Head.Sig.C, I p_0.By.Head.Sig.S, I p_0.By.Index, U p_0.By.Entry.Doc, I p_0.By.Entry.Stamp.Lo, I p_0.By.Entry.Stamp.Hi, .slice p_0.By.Path_A p_0.By.Path.length p_0.By.Path_c] 38 fun g_1 => ?_
 refine l1 ?_; refine nw 3 vp [I p_1.Of.Office, I p_1.Of.Size, U p_1.Of.Root, I p_1.Of.Sig.C, I p_1.Of.Sig.S, .slice p_1.Grow_A p_1.Grow.length p_1.Grow_c, I p_1.By.Head.Office, I p_1.By.Head.Size, U p_1.By.Head.Root, I p_1.By.Head.Sig.C, I p_1.By.Head.Sig.S, I p_1.By.Index, U p_1.By.Entry.Doc, I p_1.By.Entry.Stamp.Lo, I p_1.By.Entry.Stamp.Hi, .slice p_1.By.Path_A p_1.By.Path.length p_1.By.Path_c] 38 fun g_2 => ?_
 refine ra [] f0 [] ?_; refine tN ?_; refine sq ?_; replace hG := bind_some hG; obtain ⟨v_3, hy_3, hG⟩ := hG; refine rg ?_; refine rn 4 [(1, 1, 1, 5), (1, 1, 0, 5)] f0 [(8, .slice p_0.Grow_A p_0.Grow.length p_0.Grow_c), (10, .slice p_1.Grow_A p_1.Grow.length p_1.Grow_c)] ?_; refine l1 ?_; refine cl 11 (z_regulatorref03_Same F p_0.Grow_A p_0.Grow_c p_0.Grow p_1.Grow_A p_1.Grow_c p_1.Grow _ hy_3) hT ⟨(gm (KHopL.ok p_0) 2 fun _ _ h => h.f_Grow).a, (gm (KHopL.ok p_1) 3 fun _ _ h => h.f_Grow).a, trivial⟩ ?_; refine ra [] f0 [(5, B v_3)] ?_; refine tN ?_; refine sq ?_; replace hG := bind_some hG; obtain ⟨v_4, hy_4, hG⟩ := hG; refine rg ?_; refine rn 4 [(1, 10, 1, 6), (1, 10, 0, 6)] f0 [(13, .agg #[I p_0.By.Head.Office, I p_0.By.Head.Size, U p_0.By.Head.Root, I p_0.By.Head.Sig.C, I p_0.By.Head.Sig.S, I p_0.By.Index, U p_0.By.Entry.Doc, I p_0.By.Entry.Stamp.Lo, I p_0.By.Entry.Stamp.Hi, .slice p_0.By.Path_A p_0.By.Path.length p_0.By.Path_c]), (15, .agg #[I p_1.By.Head.Office, I p_1.By.Head.Size, U p_1.By.Head.Root, I p_1.By.Head.Sig.C, I p_1.By.Head.Sig.S, I p_1.By.Index, U p_1.By.Entry.Doc, I p_1.By.Entry.Stamp.Lo, I p_1.By.Entry.Stamp.Hi, .slice p_1.By.Path_A p_1.By.Path.length p_1.By.Path_c])] ?_; refine l1 ?_; refine cl 16 (z_regulatorref25_SameReceipt F p_0.By p_1.By _ hy_4) hT ⟨(gm (KHopL.ok p_0) 2 fun _ _ h => h.b_By).a, (gm (KHopL.ok p_1) 3 fun _ _ h => h.b_By).a, trivial⟩ ?_; refine ra [] f0 [(6, B v_4)] ?_; refine tN ?_; obtain ⟨o_7, hG, hG_7⟩ := bind_some hG; refine jn (fun K E a w => ∃ (v_8 : Bool), Js S0 w0 28 ([(4, B v_8)] ++ K) (se E []) (v_8 = o_7) a w) ?_ ?_
 ·replace hG := ifB_cases hG; rcases hG with ⟨h_5, hG⟩ | ⟨h_5, hG⟩
  ·replace hG := ifB_cases hG; rcases hG with ⟨h_6, hG⟩ | ⟨h_6, hG⟩
   ·refine rg ?_; refine rn 6 [(1, 5, 1, 0), (1, 5, 0, 0), (0, 0, 0, 0)] (fc (eql_KHead p_0.Of p_1.Of) f0) [(22, B (decide (p_0.Of = p_1.Of)))] ?_; refine sb 22 (bt h_5) ?_; refine rn 3 [] f0 [(25, B v_3)] ?_; refine sb 25 (bt h_6) ?_; refine ra [] f0 [(4, B v_4)] ?_; refine tN ?_; exact fun a w S hK hE => ⟨v_4, S, hK.wk, hE.sel [], Option.some.inj hG⟩
   ·refine rg ?_; refine rn 6 [(1, 5, 1, 0), (1, 5, 0, 0), (0, 0, 0, 0)] (fc (eql_KHead p_0.Of p_1.Of) f0) [(22, B (decide (p_0.Of = p_1.Of)))] ?_; refine sb 22 (bt h_5) ?_; refine rn 3 [] f0 [(25, B v_3)] ?_; refine sb 25 (bf h_6) ?_; refine ra [] f0 [(4, B false)] ?_; refine tN ?_; exact fun a w S hK hE => ⟨false, S, hK.wk, hE.sel [], Option.some.inj hG⟩
  ·refine rg ?_; refine rn 6 [(1, 5, 1, 0), (1, 5, 0, 0), (0, 0, 0, 0)] (fc (eql_KHead p_0.Of p_1.Of) f0) [(22, B (decide (p_0.Of = p_1.Of)))] ?_; refine sb 22 (bf h_5) ?_; refine ra [] f0 [(4, B false)] ?_; refine tN ?_; exact fun a w S hK hE => ⟨false, S, hK.wk, hE.sel [], Option.some.inj hG⟩
 ·rintro a w ⟨v_8, hJ⟩; refine hJ.go fun ho_ => ?_
  clear hJ; subst ho_; replace hG := hG_7; refine kR ?_; obtain rfl := Option.some.inj hG; exact rt []
def G_regulatorref25_Valid (F : Nat) (p_0 : KOffice) : Option (Bool) :=
  Option.bind (ifB (decide (p_0.ID < 1))
      (some true)
      (ifB (decide (p_0.ID > 16))
        (some true)
        (some (decide (((p_0.Entries.length : Nat) : Int) > 4096)))) : Option (Bool)) (fun (v_5 : Bool) => 
    ifB (v_5)
      (some false)
      (Option.bind (Option.bind (iter (σ := Int) (ρ := Unit ⊕ Unit) (fun (v_33 : Int) => 
            (ifB (decide (v_33 < ((p_0.Entries.length : Nat) : Int)))
              (Option.bind (ixI p_0.Entries v_33) (fun v_36 =>
              Option.bind (G_regulatorref02_Valid F v_36.Stamp) (fun v_39 =>
              Option.bind (ifB (v_39)
                  (ifB (decide (v_33 > 0))
                    (Option.bind (ixI p_0.Entries v_33) (fun v_42 =>
                    Option.bind (ixI p_0.Entries (IntKind.i64.wrap (v_33 - 1))) (fun v_45 =>
                    some (decide (v_42.Stamp.Lo < v_45.Stamp.Lo)))))
                    (some false))
                  (some true) : Option (Bool)) (fun (v_49 : Bool) => 
                ifB (v_49)
                  (some (.inr (.inr ())))
                  (some (.inl (IntKind.i64.wrap (v_33 + 1))))))))
              (some (.inr (.inl ()))) : Option (Int ⊕ (Unit ⊕ Unit)))) F 0) (Sum.elim (fun (_ : Unit) => 
          some (.inl ())) (fun (_ : Unit) => 
          some (.inr ()))) : Option (Unit ⊕ Unit)) (Sum.elim (fun (_ : Unit) => 
        some true) (fun (_ : Unit) => 
        some false))))
set_option maxRecDepth 100000 in
set_option maxHeartbeats 16000000 in
theorem z_regulatorref25_Valid (F : Nat) (p_0 : KOfficeL) (r : Bool) (hG : G_regulatorref25_Valid F p_0.p = some r) :
  Cf Tryz.prog 29 [.agg #[I p_0.ID, .slice p_0.Entries_A p_0.Entries.length p_0.Entries_c]] [KOfficeL.ok p_0] (B r) := by
 unfold G_regulatorref25_Valid at hG; refine fi Tryz.func29 rfl rfl (mc KOfficeL.mv m0) fun S0 w0 hT => ?_
 refine sq ?_; refine rg ?_; refine l1 ?_; refine nw 1 vp [I p_0.ID, .slice p_0.Entries_A p_0.Entries.length p_0.Entries_c] 24 fun g_1 => ?_
 refine ra [] f0 [] ?_; refine tN ?_; refine sq ?_; obtain ⟨o_4, hG, hG_4⟩ := bind_some hG; refine jn (fun K E a w => ∃ (v_5 : Bool), Js S0 w0 57 ([(18, B v_5)] ++ K) ([.dat (RowC p_0.Entries_A p_0.Entries_c KEntry.cells tr p_0.Entries)] ++ se E [0]) (v_5 = o_4) a w) ?_ ?_
 ·replace hG := ifB_cases hG; rcases hG with ⟨h_2, hG⟩ | ⟨h_2, hG⟩
  ·refine rg ?_; refine rn 4 [(1, 1, 0, 0)] f0 [(8, B (decide (p_0.ID < 1)))] ?_; refine sb 8 (bt h_2) ?_; refine ra [] f0 [(18, B true)] ?_; refine tN ?_; refine fm (RowC p_0.Entries_A p_0.Entries_c KEntry.cells tr p_0.Entries) (gm (KOfficeL.ok p_0) 1 fun _ _ h => h.f_Entries) ?_; exact fun a w S hK hE => ⟨true, S, hK.wk, hE.sel [0, 1], Option.some.inj hG⟩
  ·replace hG := ifB_cases hG; rcases hG with ⟨h_3, hG⟩ | ⟨h_3, hG⟩
   ·refine rg ?_; refine rn 4 [(1, 1, 0, 0)] f0 [(8, B (decide (p_0.ID < 1)))] ?_; refine sb 8 (bf h_2) ?_; refine rn 5 [(1, 1, 0, 0)] f0 [(13, B (decide (p_0.ID > 16)))] ?_; refine sb 13 (bt h_3) ?_; refine ra [] f0 [(18, B true)] ?_; refine tN ?_; refine fm (RowC p_0.Entries_A p_0.Entries_c KEntry.cells tr p_0.Entries) (gm (KOfficeL.ok p_0) 1 fun _ _ h => h.f_Entries) ?_; exact fun a w S hK hE => ⟨true, S, hK.wk, hE.sel [0, 1], Option.some.inj hG⟩
   ·refine rg ?_; refine rn 4 [(1, 1, 0, 0)] f0 [(8, B (decide (p_0.ID < 1)))] ?_; refine sb 8 (bf h_2) ?_; refine rn 5 [(1, 1, 0, 0)] f0 [(13, B (decide (p_0.ID > 16)))] ?_; refine sb 13 (bf h_3) ?_; refine ra [(1, 1, 0, 1)] f0 [(18, B (decide (((p_0.Entries.length : Nat) : Int) > 4096)))] ?_; refine tN ?_; refine fm (RowC p_0.Entries_A p_0.Entries_c KEntry.cells tr p_0.Entries) (gm (KOfficeL.ok p_0) 1 fun _ _ h => h.f_Entries) ?_; exact fun a w S hK hE => ⟨decide (((p_0.Entries.length : Nat) : Int) > 4096), S, hK.wk, hE.sel [0, 1], Option.some.inj hG⟩
 ·rintro a w ⟨v_5, hJ⟩; refine hJ.go fun ho_ => ?_
  clear hJ; subst ho_; replace hG := hG_4; rcases ifB_cases hG with ⟨h_6, hG⟩ | ⟨h_6, hG⟩
  ·refine sb 18 (bt h_6) ?_; refine ct ?_; refine sq ?_; refine rg ?_; refine ra [] f0 [(2, B false)] ?_; refine tN ?_; refine kR ?_; refine tR ?_; obtain rfl := Option.some.inj hG; exact rt []
  ·refine sb 18 (bf h_6) ?_; refine cf ?_; refine kS ?_; refine tN ?_; obtain ⟨o_51, hG, hG_51⟩ := bind_some hG; refine jn (fun K E a w => Js S0 w0 57 (K) (se E []) (.inl () = o_51) a w) ?_ ?_
   ·refine sq ?_; refine rg ?_; refine ra [] f0 [(3, I 0)] ?_; refine tN ?_; refine bk ?_; obtain ⟨e_34, hL, hG_34⟩ := bind_some hG; clear hG; obtain ⟨stp_34, hs_34, hL⟩ := iter_gen hL; refine lp (fun K E n_ a w => ∃ (v_33 : Int), Js S0 w0 57 ([(3, I v_33)] ++ K) (se E [0, 1]) (iter stp_34 n_ v_33 = some e_34) a w) F ?_ ?_
    ·exact fun a w S hK hE => ⟨0, S, hK.wk, hE.sel [0, 1], hL⟩
    ·clear hL; rintro n_34 a w ⟨v_33, hJ⟩; refine hJ.go fun hL => ?_
     clear hJ; obtain ⟨m_34, o_34, rfl, hG, hO1_34, hO2_34⟩ := iter_step hL; clear hL; rw [hs_34] at hG; refine sq ?_; refine sq ?_; refine rg ?_; refine ra [(2, 1, 1, 1)] f0 [(23, B (decide (v_33 < ((p_0.Entries.length : Nat) : Int))))] ?_; refine tN ?_; rcases ifB_cases hG with ⟨h_35, hG⟩ | ⟨h_35, hG⟩
     ·refine sb 23 (bt h_35) ?_; refine ct ?_; refine kS ?_; refine tN ?_; refine sq ?_; refine bk ?_; refine sq ?_; replace hG := bind_some hG; obtain ⟨v_36, hy_36, hG⟩ := hG; replace hG := bind_some hG; obtain ⟨v_39, hy_39, hG⟩ := hG; refine rg ?_; refine fx inf22 (gd' (RowC p_0.Entries_A p_0.Entries_c KEntry.cells tr p_0.Entries) 0) hy_36 fun b_37 o_38 hi_36 => ?_
      refine rn 6 [(1, 1, 2, 1), (1, 0, 0, 0), (1, 2, 0, 1)] (fc (hi_36 .i64) f0) [(31, .agg #[I v_36.Stamp.Lo, I v_36.Stamp.Hi])] ?_; refine l1 ?_; refine cl 32 (z_regulatorref02_Valid F v_36.Stamp _ hy_39) hT trivial ?_; refine ra [] f0 [(4, B v_39)] ?_; refine tN ?_; obtain ⟨o_48, hG, hG_48⟩ := bind_some hG; refine jn (fun K E a w => ∃ (v_49 : Bool), Js S0 w0 57 ([(56, B v_49)] ++ K) (se E [1, 2]) (v_49 = o_48) a w) ?_ ?_
      ·replace hG := ifB_cases hG; rcases hG with ⟨h_40, hG⟩ | ⟨h_40, hG⟩
       ·replace hG := ifB_cases hG; rcases hG with ⟨h_41, hG⟩ | ⟨h_41, hG⟩
        ·replace hG := bind_some hG; obtain ⟨v_42, hy_42, hG⟩ := hG; replace hG := bind_some hG; obtain ⟨v_45, hy_45, hG⟩ := hG; refine qb ?_; refine qn 3 [] f0 [(35, B (!v_39))] ?_; refine sb 35 (nt h_40) ?_; refine qn 3 [] f0 [(38, B (decide (v_33 > 0)))] ?_; refine sb 38 (bt h_41) ?_; refine fx inf22 (gd' (RowC p_0.Entries_A p_0.Entries_c KEntry.cells tr p_0.Entries) 1) hy_42 fun b_43 o_44 hi_42 => ?_
         refine fx inf22 (gd' (RowC p_0.Entries_A p_0.Entries_c KEntry.cells tr p_0.Entries) 2) hy_45 fun b_46 o_47 hi_45 => ?_
         refine qa [(1, 1, 4, 1), (1, 0, 0, 0), (2, 1, 1, 1), (1, 1, 4, 1), (2, 0, 0, 0), (2, 1, 0, 1)] (fc (hi_42 .i64) (fc (hi_45 .i64) f0)) [(56, B (decide (v_42.Stamp.Lo < v_45.Stamp.Lo)))] ?_; refine tN ?_; exact fun a w S hK hE => ⟨decide (v_42.Stamp.Lo < v_45.Stamp.Lo), S, hK.wk, hE.sel [3, 4], Option.some.inj hG⟩
        ·refine qb ?_; refine qn 3 [] f0 [(35, B (!v_39))] ?_; refine sb 35 (nt h_40) ?_; refine qn 3 [] f0 [(38, B (decide (v_33 > 0)))] ?_; refine sb 38 (bf h_41) ?_; refine qa [] f0 [(56, B false)] ?_; refine tN ?_; exact fun a w S hK hE => ⟨false, S, hK.wk, hE.sel [1, 2], Option.some.inj hG⟩
       ·refine qb ?_; refine qn 3 [] f0 [(35, B (!v_39))] ?_; refine sb 35 (nf h_40) ?_; refine qa [] f0 [(56, B true)] ?_; refine tN ?_; exact fun a w S hK hE => ⟨true, S, hK.wk, hE.sel [1, 2], Option.some.inj hG⟩
      ·rintro a w ⟨v_49, hJ⟩; refine hJ.go fun ho_ => ?_
       clear hJ; subst ho_; replace hG := hG_48; rcases ifB_cases hG with ⟨h_50, hG⟩ | ⟨h_50, hG⟩
       ·refine sb 56 (bt h_50) ?_; refine ct ?_; refine sq ?_; refine rg ?_; refine ra [] f0 [(2, B false)] ?_; refine tN ?_; refine kR ?_; refine hR ?_; refine tR ?_; refine tR ?_; have he_ := hO2_34 _ (Option.some.inj hG).symm; subst he_; replace hG := hG_34; refine hR ?_; refine tR ?_; obtain rfl := Option.some.inj hG; replace hG := hG_51; obtain rfl := Option.some.inj hG; exact rt []
       ·refine sb 56 (bf h_50) ?_; refine cf ?_; refine kS ?_; refine hN ?_; refine tN ?_; refine rg ?_; refine ra [] f0 [(3, I (IntKind.i64.wrap (v_33 + 1)))] ?_; refine tN ?_; exact fun a w S hK hE => ⟨m_34, ⟨IntKind.i64.wrap (v_33 + 1), S, hK.wk, hE.sel [0, 1], hO1_34 _ (Option.some.inj hG).symm⟩, Nat.lt_succ_self _⟩
     ·refine sb 23 (bf h_35) ?_; refine cf ?_; refine kX ?_; refine tX ?_; refine tX ?_; have he_ := hO2_34 _ (Option.some.inj hG).symm; subst he_; replace hG := hG_34; refine hH ?_; refine tN ?_; exact fun a w S hK hE => ⟨S, hK.wk, hE.sel [], Option.some.inj hG⟩
   ·rintro a w hJ; refine hJ.go fun ho_ => ?_
    clear hJ; subst ho_; replace hG := hG_51; refine sq ?_; refine rg ?_; refine ra [] f0 [(2, B true)] ?_; refine tN ?_; refine kR ?_; obtain rfl := Option.some.inj hG; exact rt []
def G_regulatorref25_Values (F : Nat) (p_0 : KOffice) (p_1 : Int) : Option ((List Int)) :=
  Option.bind (Option.bind (iter (σ := (List Int) × Int) (ρ := (List Int)) (un2 fun (v_20 : (List Int)) (v_23 : Int) => 
        (ifB (decide (v_23 < p_1))
          (Option.bind (ixI p_0.Entries v_23) (fun v_26 =>
          Option.bind (G_regulatorref25_Leaf F v_26) (fun v_29 =>
          Option.bind (apG 8 v_20 ([v_29] : List Int)) (fun v_31 =>
          some (.inl (v_31, IntKind.i64.wrap (v_23 + 1)))))))
          (some (.inr v_20)) : Option (((List Int) × Int) ⊕ (List Int)))) F (([] : List Int), 0)) (fun (v_32 : (List Int)) => 
      some v_32) : Option ((List Int))) (fun (v_36 : (List Int)) => 
    some v_36)
set_option maxRecDepth 100000 in
set_option maxHeartbeats 16000000 in
theorem z_regulatorref25_Values (F : Nat) (p_0 : KOfficeL) (p_1 : Int) (r : (List Int)) (hG : G_regulatorref25_Values F p_0.p p_1 = some r) :
  Cn Tryz.prog 33 [.agg #[I p_0.ID, .slice p_0.Entries_A p_0.Entries.length p_0.Entries_c], I p_1] [KOfficeL.ok p_0] (fun q : KSuint64L => r = q.l) (fun q => .slice q.A q.l.length q.c) (fun q => [RowC q.A q.c c_u64 tr q.l]) := by
 unfold G_regulatorref25_Values at hG; refine fin Tryz.func33 rfl rfl (mc KOfficeL.mv m0) fun S0 w0 hT => ?_
 refine sq ?_; refine rg ?_; refine l1 ?_; refine nw 2 vp [I p_0.ID, .slice p_0.Entries_A p_0.Entries.length p_0.Entries_c] 24 fun g_1 => ?_
 refine ra [] f0 [] ?_; refine tN ?_; refine sq ?_; refine rg ?_; refine ra [] f0 [(5, .slice none 0 0)] ?_; refine tN ?_; obtain ⟨o_35, hG, hG_35⟩ := bind_some hG; refine jn (fun K E a w => ∃ (v_36 : List Int), ∃ (v_37_A : Option Addr), ∃ (v_38_c : Nat), Js S0 w0 22 ([(5, .slice v_37_A v_36.length v_38_c)] ++ K) ([.own 25 1 (.slice v_37_A v_36.length v_38_c) v_36.length (v_36.flatMap c_u64)]) (v_36 = o_35) a w) ?_ ?_
 ·refine sq ?_; refine rg ?_; refine ra [] f0 [(6, I 0)] ?_; refine tN ?_; refine bk ?_; obtain ⟨e_24, hL, hG_24⟩ := bind_some hG; clear hG; obtain ⟨stp_24, hs_24, hL⟩ := iter_gen hL; refine lp (fun K E n_ a w => ∃ (v_20 : List Int), ∃ (v_21_A : Option Addr), ∃ (v_22_c : Nat), ∃ (v_23 : Int), Js S0 w0 22 ([(5, .slice v_21_A v_20.length v_22_c), (6, I v_23)] ++ K) ([.dat (RowC p_0.Entries_A p_0.Entries_c KEntry.cells tr p_0.Entries), .own 25 1 (.slice v_21_A v_20.length v_22_c) v_20.length (v_20.flatMap c_u64)] ++ se E [0]) (iter stp_24 n_ (v_20, v_23) = some e_24) a w) F ?_ ?_
  ·refine fm (RowC p_0.Entries_A p_0.Entries_c KEntry.cells tr p_0.Entries) (gm (KOfficeL.ok p_0) 1 fun _ _ h => h.f_Entries) ?_; refine on 25 1 ?_; exact fun a w S hK hE => ⟨([] : List Int), none, 0, 0, S, hK.wk, hE.sel [1, 0, 2], hL⟩
  ·clear hL; rintro n_24 a w ⟨v_20, v_21_A, v_22_c, v_23, hJ⟩; refine hJ.go fun hL => ?_
   clear hJ; obtain ⟨m_24, o_24, rfl, hG, hO1_24, hO2_24⟩ := iter_step hL; clear hL; rw [hs_24] at hG; refine sq ?_; refine sq ?_; refine rg ?_; refine ra [] f0 [(9, B (decide (v_23 < p_1)))] ?_; refine tN ?_; rcases ifB_cases hG with ⟨h_25, hG⟩ | ⟨h_25, hG⟩
   ·refine sb 9 (bt h_25) ?_; refine ct ?_; refine kS ?_; refine tN ?_; refine sq ?_; refine bk ?_; replace hG := bind_some hG; obtain ⟨v_26, hy_26, hG⟩ := hG; replace hG := bind_some hG; obtain ⟨v_29, hy_29, hG⟩ := hG; replace hG := bind_some hG; obtain ⟨v_31, hy_31, hG⟩ := hG; refine rg ?_; refine fx inf22 (gd' (RowC p_0.Entries_A p_0.Entries_c KEntry.cells tr p_0.Entries) 0) hy_26 fun b_27 o_28 hi_26 => ?_
    refine rn 6 [(2, 1, 3, 1), (1, 0, 0, 0), (0, 3, 0, 0)] (fc (hi_26 .i64) f0) [(12, .slice v_21_A v_20.length v_22_c), (17, .agg #[U v_26.Doc, I v_26.Stamp.Lo, I v_26.Stamp.Hi])] ?_; refine l1 ?_; refine cl 18 (z_regulatorref25_Leaf F v_26 _ hy_29) hT trivial ?_; refine l1 ?_; refine nw 19 (vs 1) [U v_29] 25 fun g_30 => ?_
    refine l1 ?_; refine ap 3 20 v_21_A v_22_c v_20 ([v_29] : List Int) inf30 (bA (f := c_u64) (ok := tr) (l := ([v_29] : List Int)) g_30 0 et.a) hy_31 one_u64 fun v_31_A v_31_c _ => ?_
    refine ra [] f0 [(5, .slice v_31_A v_31.length v_31_c)] ?_; refine hN ?_; refine tN ?_; refine rg ?_; refine ra [] f0 [(6, I (IntKind.i64.wrap (v_23 + 1)))] ?_; refine tN ?_; exact fun a w S hK hE => ⟨m_24, ⟨v_31, v_31_A, v_31_c, IntKind.i64.wrap (v_23 + 1), S, hK.wk, hE.sel [2, 3, 4], hO1_24 _ (Option.some.inj hG).symm⟩, Nat.lt_succ_self _⟩
   ·refine sb 9 (bf h_25) ?_; refine cf ?_; refine kX ?_; refine tX ?_; refine tX ?_; have he_ := hO2_24 _ (Option.some.inj hG).symm; subst he_; replace hG := hG_24; refine hH ?_; refine tN ?_; exact fun a w S hK hE => ⟨v_20, v_21_A, v_22_c, S, hK.wk, hE.sel [1], Option.some.inj hG⟩
 ·rintro a w ⟨v_36, v_37_A, v_38_c, hJ⟩; refine hJ.go fun ho_ => ?_
  clear hJ; subst ho_; replace hG := hG_35; refine sq ?_; refine rg ?_; refine ra [] f0 [(4, .slice v_37_A v_36.length v_38_c)] ?_; refine tN ?_; refine kR ?_; obtain rfl := Option.some.inj hG; refine so (A := v_37_A) (c := v_38_c) 0 c_u64 tr v_36 tr_mv et ?_; exact rtn [] ⟨v_37_A, v_38_c, v_36⟩ rfl ⟨gi 0, trivial⟩
end Go.Proofs.YtiijddjfiojfaaaGreatDoor
namespace Go.Proofs.YtiijddjfiojfaaaGreatDoor
open Go.RowKit Go.Maps
def G_group_Verify (F : Nat) (p_0 : Int) (p_1 : KSig) (p_2 : List Int) : Option (Bool × Int) :=
 Option.bind (Option.bind (G_group_Member F p_0) (fun v_2 =>
  ifB (v_2)
   (Option.bind (G_group_within F p_1.C 0) (fun v_4 =>
   ifB (v_4)
    (Option.bind (G_group_within F p_1.S 0) (fun v_6 =>
    some (p_2, !v_6)))
    (some (p_2, true))))
   (some (p_2, true))) : Option (((List Int) × Bool))) (un2 fun (v_8 : (List Int)) (v_11 : Bool) =>
  ifB (v_11)
   (some (false, 1))
   (Option.bind (G_group_power F 4 p_1.S) (fun v_13 =>
   Option.bind (G_group_power F p_0 (IntKind.i64.wrap (1073741789 - p_1.C))) (fun v_14 =>
   Option.bind (G_group_challenge F (Int.tmod (IntKind.i64.wrap (v_13 * v_14)) 2147483579) p_0 v_8) (fun v_15 =>
   some (decide (p_1 = (⟨v_15, p_1.S⟩ : KSig)), 0))))))
set_option maxRecDepth 100000 in
set_option maxHeartbeats 16000000 in
theorem z_group_Verify (F : Nat) (p_0 : Int) (p_1 : KSig) (p_2_A : Option Addr) (p_2_c : Nat) (p_2 : List Int) (r : Bool × Int) (hG : G_group_Verify F p_0 p_1 p_2 = some r) :
  Cf Tryz.prog 92 [I p_0, .agg #[I p_1.C, I p_1.S], .slice p_2_A p_2.length p_2_c] [RowC p_2_A p_2_c c_i64 tr p_2] (.tuple #[B r.1, I r.2]) := by
 unfold G_group_Verify at hG; refine fi Tryz.func92 rfl rfl (mr tr_mv m0) fun S0 w0 hT => ?_
 refine sq ?_; refine rg ?_; refine l1 ?_; refine nw 4 vp [I p_1.C, I p_1.S] 27 fun g_1 => ?_
 refine ra [] f0 [] ?_; refine tN ?_; refine sq ?_; obtain ⟨o_7, hG, hG_7⟩ := bind_some hG; refine jn (fun K E a w => ∃ (v_8 : List Int), ∃ (v_9_A : Option Addr), ∃ (v_10_c : Nat), ∃ (v_11 : Bool), Js S0 w0 43 ([(2, .slice v_9_A v_8.length v_10_c), (23, B v_11)] ++ K) ([.dat (RowC v_9_A v_10_c c_i64 tr v_8)] ++ se E [0]) ((v_8, v_11) = o_7) a w) ?_ ?_
 ·replace hG := bind_some hG; obtain ⟨v_2, hy_2, hG⟩ := hG; replace hG := ifB_cases hG; rcases hG with ⟨h_3, hG⟩ | ⟨h_3, hG⟩
  ·replace hG := bind_some hG; obtain ⟨v_4, hy_4, hG⟩ := hG; replace hG := ifB_cases hG; rcases hG with ⟨h_5, hG⟩ | ⟨h_5, hG⟩
   ·replace hG := bind_some hG; obtain ⟨v_6, hy_6, hG⟩ := hG; refine rg ?_; refine rn 1 [] f0 [(9, I p_0)] ?_; refine l1 ?_; refine cl 10 (z_group_Member F p_0 _ hy_2) hT trivial ?_; refine rn 2 [] f0 [(12, B (!v_2))] ?_; refine sb 12 (nt h_3) ?_; refine rn 2 [(1, 1, 0, 0)] f0 [(14, I p_1.C)] ?_; refine l1 ?_; refine cl 15 (z_group_within F p_1.C 0 _ hy_4) hT trivial ?_; refine rn 3 [] f0 [(18, B (!v_4))] ?_; refine sb 18 (nt h_5) ?_; refine rn 2 [(1, 1, 0, 1)] f0 [(20, I p_1.S)] ?_; refine l1 ?_; refine cl 21 (z_group_within F p_1.S 0 _ hy_6) hT trivial ?_; refine ra [] f0 [(23, B (!v_6))] ?_; refine tN ?_; exact fun a w S hK hE => ⟨p_2, p_2_A, p_2_c, !v_6, S, hK.wk, hE.sel [1, 0], Option.some.inj hG⟩
   ·refine rg ?_; refine rn 1 [] f0 [(9, I p_0)] ?_; refine l1 ?_; refine cl 10 (z_group_Member F p_0 _ hy_2) hT trivial ?_; refine rn 2 [] f0 [(12, B (!v_2))] ?_; refine sb 12 (nt h_3) ?_; refine rn 2 [(1, 1, 0, 0)] f0 [(14, I p_1.C)] ?_; refine l1 ?_; refine cl 15 (z_group_within F p_1.C 0 _ hy_4) hT trivial ?_; refine rn 3 [] f0 [(18, B (!v_4))] ?_; refine sb 18 (nf h_5) ?_; refine ra [] f0 [(23, B true)] ?_; refine tN ?_; exact fun a w S hK hE => ⟨p_2, p_2_A, p_2_c, true, S, hK.wk, hE.sel [1, 0], Option.some.inj hG⟩
  ·refine rg ?_; refine rn 1 [] f0 [(9, I p_0)] ?_; refine l1 ?_; refine cl 10 (z_group_Member F p_0 _ hy_2) hT trivial ?_; refine rn 2 [] f0 [(12, B (!v_2))] ?_; refine sb 12 (nf h_3) ?_; refine ra [] f0 [(23, B true)] ?_; refine tN ?_; exact fun a w S hK hE => ⟨p_2, p_2_A, p_2_c, true, S, hK.wk, hE.sel [1, 0], Option.some.inj hG⟩
 ·rintro a w ⟨v_8, v_9_A, v_10_c, v_11, hJ⟩; refine hJ.go fun ho_ => ?_
  clear hJ; subst ho_; replace hG := hG_7; rcases ifB_cases hG with ⟨h_12, hG⟩ | ⟨h_12, hG⟩
  ·refine sb 23 (bt h_12) ?_; refine ct ?_; refine sq ?_; refine rg ?_; refine ra [] f0 [(6, B false), (7, I 1)] ?_; refine tN ?_; refine kR ?_; refine tR ?_; obtain rfl := Option.some.inj hG; exact rt []
  ·refine sb 23 (bf h_12) ?_; refine cf ?_; refine kS ?_; refine tN ?_; refine sq ?_; replace hG := bind_some hG; obtain ⟨v_13, hy_13, hG⟩ := hG; replace hG := bind_some hG; obtain ⟨v_14, hy_14, hG⟩ := hG; refine qb ?_; refine qn 2 [(1, 1, 1, 1)] f0 [(25, I p_1.S)] ?_; refine qc 26 (z_group_power F 4 p_1.S _ hy_13) hT trivial ?_; refine qn 4 [(2, 1, 1, 0)] f0 [(27, I p_0), (30, I (IntKind.i64.wrap (1073741789 - p_1.C)))] ?_; refine qc 31 (z_group_power F p_0 (IntKind.i64.wrap (1073741789 - p_1.C)) _ hy_14) hT trivial ?_; refine qa [(1, 0, 0, 0)] (fc (fun W => run_rem (T := 3) (k := .i64) (p := IntKind.i64.wrap (v_13 * v_14)) (q := 2147483579) (by decide) W) f0) [(8, I (Int.tmod (IntKind.i64.wrap (v_13 * v_14)) 2147483579))] ?_; refine tN ?_; refine sq ?_; replace hG := bind_some hG; obtain ⟨v_15, hy_15, hG⟩ := hG; refine qb ?_; refine qn 4 [(0, 2, 1, 0)] f0 [(34, .agg #[I p_1.C, I p_1.S]), (35, I (Int.tmod (IntKind.i64.wrap (v_13 * v_14)) 2147483579)), (36, I p_0), (37, .slice v_9_A v_8.length v_10_c)] ?_; refine qc 38 (z_group_challenge F (Int.tmod (IntKind.i64.wrap (v_13 * v_14)) 2147483579) p_0 v_9_A v_10_c v_8 _ hy_15) hT ⟨ga 0, trivial⟩ ?_; refine qa [(1, 1, 1, 1), (1, 0, 0, 0)] (fc (eql_KSig p_1 (⟨v_15, p_1.S⟩ : KSig)) f0) [(6, B (decide (p_1 = (⟨v_15, p_1.S⟩ : KSig)))), (7, I 0)] ?_; refine tN ?_; refine kR ?_; obtain rfl := Option.some.inj hG; exact rt []
def G_office_isPublic (F : Nat) (p_0 : Int) : Option (Bool) :=
  Option.bind (ifB ((p_0 == 1))
      (some false)
      (Option.bind (G_group_Member F p_0) (fun v_2 =>
      some v_2)) : Option (Bool)) (fun (v_4 : Bool) => 
    some v_4)
set_option maxRecDepth 100000 in
set_option maxHeartbeats 16000000 in
theorem z_office_isPublic (F : Nat) (p_0 : Int) (r : Bool) (hG : G_office_isPublic F p_0 = some r) :
  Cf Tryz.prog 80 [I p_0] [] (B r) := by
 unfold G_office_isPublic at hG; refine fi Tryz.func80 rfl rfl m0 fun S0 w0 hT => ?_
 refine sq ?_; refine rg ?_; refine ra [] f0 [] ?_; refine tN ?_; obtain ⟨o_3, hG, hG_3⟩ := bind_some hG; refine jn (fun K E a w => ∃ (v_4 : Bool), Js S0 w0 9 ([(2, B v_4)] ++ K) (se E []) (v_4 = o_3) a w) ?_ ?_
 ·replace hG := ifB_cases hG; rcases hG with ⟨h_1, hG⟩ | ⟨h_1, hG⟩
  ·refine rg ?_; refine rn 3 [] f0 [(5, B (!(p_0 == 1)))] ?_; refine sb 5 (nt h_1) ?_; refine ra [] f0 [(2, B false)] ?_; refine tN ?_; exact fun a w S hK hE => ⟨false, S, hK.wk, hE.sel [], Option.some.inj hG⟩
  ·replace hG := bind_some hG; obtain ⟨v_2, hy_2, hG⟩ := hG; refine rg ?_; refine rn 3 [] f0 [(5, B (!(p_0 == 1)))] ?_; refine sb 5 (nf h_1) ?_; refine rn 1 [] f0 [(6, I p_0)] ?_; refine l1 ?_; refine cl 7 (z_group_Member F p_0 _ hy_2) hT trivial ?_; refine ra [] f0 [(2, B v_2)] ?_; refine tN ?_; exact fun a w S hK hE => ⟨v_2, S, hK.wk, hE.sel [], Option.some.inj hG⟩
 ·rintro a w ⟨v_4, hJ⟩; refine hJ.go fun ho_ => ?_
  clear hJ; subst ho_; replace hG := hG_3; refine kR ?_; obtain rfl := Option.some.inj hG; exact rt []
def G_cross_values (F : Nat) (p_0 : KOffice) (p_1 : Int) : Option ((List Int)) :=
  Option.bind (Option.bind (slI p_0.Entries 0 p_1) (fun v_2 =>
    Option.bind (iter (σ := Int × (List Int)) (ρ := (List Int)) (un2 fun (v_23 : Int) (v_24 : (List Int)) => 
        (ifB (decide (v_23 < ((v_2.length : Nat) : Int)))
          (Option.bind (ixI v_2 v_23) (fun v_29 =>
          Option.bind (G_office_Leaf F v_29) (fun v_33 =>
          Option.bind (apG 8 v_24 ([v_33] : List Int)) (fun v_35 =>
          some (.inl (IntKind.i64.wrap (v_23 + 1), v_35))))))
          (some (.inr v_24)) : Option ((Int × (List Int)) ⊕ (List Int)))) F (0, ([] : List Int))) (fun (v_36 : (List Int)) => 
      some v_36)) : Option ((List Int))) (fun (v_40 : (List Int)) => 
    some v_40)
set_option maxRecDepth 100000 in
set_option maxHeartbeats 16000000 in
theorem z_cross_values (F : Nat) (p_0 : KOfficeL) (p_1 : Int) (r : (List Int)) (hG : G_cross_values F p_0.p p_1 = some r) :
  Cn Tryz.prog 27 [.agg #[I p_0.ID, .slice p_0.Entries_A p_0.Entries.length p_0.Entries_c], I p_1] [KOfficeL.ok p_0] (fun q : KSuint64L => r = q.l) (fun q => .slice q.A q.l.length q.c) (fun q => [RowC q.A q.c c_u64 tr q.l]) := by
 unfold G_cross_values at hG; refine fin Tryz.func27 rfl rfl (mc KOfficeL.mv m0) fun S0 w0 hT => ?_
 refine sq ?_; refine rg ?_; refine l1 ?_; refine nw 2 vp [I p_0.ID, .slice p_0.Entries_A p_0.Entries.length p_0.Entries_c] 24 fun g_1 => ?_
 refine ra [] f0 [] ?_; refine tN ?_; refine sq ?_; refine rg ?_; refine ra [] f0 [(5, .slice none 0 0)] ?_; refine tN ?_; obtain ⟨o_39, hG, hG_39⟩ := bind_some hG; refine jn (fun K E a w => ∃ (v_40 : List Int), ∃ (v_41_A : Option Addr), ∃ (v_42_c : Nat), Js S0 w0 24 ([(5, .slice v_41_A v_40.length v_42_c)] ++ K) ([.own 25 1 (.slice v_41_A v_40.length v_42_c) v_40.length (v_40.flatMap c_u64)]) (v_40 = o_39) a w) ?_ ?_
 ·refine sq ?_; replace hG := bind_some hG; obtain ⟨v_2, hy_2, hG⟩ := hG; refine rg ?_; refine fp false true inf22 (gm (KOfficeL.ok p_0) 1 fun _ _ h => h.f_Entries) hy_2 fun v_2_A v_2_c hp_2 => ?_
  refine ra [(1, 1, 1, 1), (1, 0, 0, 0)] (fc (hp_2 .i64 .i64) f0) [(11, .slice v_2_A v_2.length v_2_c), (12, I ((v_2.length : Nat) : Int)), (13, I 0)] ?_; refine tN ?_; refine bk ?_; obtain ⟨e_27, hL, hG_27⟩ := bind_some hG; clear hG; obtain ⟨stp_27, hs_27, hL⟩ := iter_gen hL; refine lp (fun K E n_ a w => ∃ (v_23 : Int), ∃ (v_24 : List Int), ∃ (v_25_A : Option Addr), ∃ (v_26_c : Nat), Js S0 w0 24 ([(5, .slice v_25_A v_24.length v_26_c), (13, I v_23)] ++ K) ([.own 25 1 (.slice v_25_A v_24.length v_26_c) v_24.length (v_24.flatMap c_u64)] ++ se E [0]) (iter stp_27 n_ (v_23, v_24) = some e_27) a w) F ?_ ?_
  ·refine on 25 1 ?_; exact fun a w S hK hE => ⟨0, ([] : List Int), none, 0, S, hK.wk, hE.sel [0, 1], hL⟩
  ·clear hL; rintro n_27 a w ⟨v_23, v_24, v_25_A, v_26_c, hJ⟩; refine hJ.go fun hL => ?_
   clear hJ; obtain ⟨m_27, o_27, rfl, hG, hO1_27, hO2_27⟩ := iter_step hL; clear hL; rw [hs_27] at hG; refine sq ?_; refine rg ?_; refine ra [] f0 [(14, B (decide (v_23 < ((v_2.length : Nat) : Int))))] ?_; refine tN ?_; refine sq ?_; rcases ifB_cases hG with ⟨h_28, hG⟩ | ⟨h_28, hG⟩
   ·refine sb 14 (bt h_28) ?_; refine ct ?_; refine kS ?_; refine tN ?_; refine sq ?_; refine bk ?_; refine sq ?_; replace hG := bind_some hG; obtain ⟨v_29, hy_29, hG⟩ := hG; refine rg ?_; refine fx inf22 (gd' (RowC v_2_A v_2_c KEntry.cells tr v_2) 1) hy_29 fun b_30 o_31 hi_29 => ?_
    refine rn 2 [(0, 0, 0, 0), (0, 3, 0, 0)] (fc (hi_29 .i64) f0) [(16, .agg #[U v_29.Doc, I v_29.Stamp.Lo, I v_29.Stamp.Hi])] ?_; refine l1 ?_; refine nw 7 vp [U 0, I 0, I 0] 34 fun g_32 => ?_
    refine l1 ?_; refine sr 0 g_32 [(0, U v_29.Doc), (1, I v_29.Stamp.Lo), (2, I v_29.Stamp.Hi)] ?_; refine nl ?_; refine tN ?_; replace hG := bind_some hG; obtain ⟨v_33, hy_33, hG⟩ := hG; replace hG := bind_some hG; obtain ⟨v_35, hy_35, hG⟩ := hG; refine rg ?_; refine rn 2 [(1, 3, 0, 0)] f0 [(17, .slice v_25_A v_24.length v_26_c), (18, .agg #[U v_29.Doc, I v_29.Stamp.Lo, I v_29.Stamp.Hi])] ?_; refine l1 ?_; refine cl 19 (z_office_Leaf F v_29 _ hy_33) hT trivial ?_; refine l1 ?_; refine nw 20 (vs 1) [U v_33] 25 fun g_34 => ?_
    refine l1 ?_; refine ap 3 21 v_25_A v_26_c v_24 ([v_33] : List Int) inf30 (bA (f := c_u64) (ok := tr) (l := ([v_33] : List Int)) g_34 0 et.a) hy_35 one_u64 fun v_35_A v_35_c _ => ?_
    refine ra [] f0 [(5, .slice v_35_A v_35.length v_35_c)] ?_; refine hN ?_; refine tN ?_; refine rg ?_; refine ra [] f0 [(13, I (IntKind.i64.wrap (v_23 + 1)))] ?_; refine tN ?_; exact fun a w S hK hE => ⟨m_27, ⟨IntKind.i64.wrap (v_23 + 1), v_35, v_35_A, v_35_c, S, hK.wk, hE.sel [3, 4], hO1_27 _ (Option.some.inj hG).symm⟩, Nat.lt_succ_self _⟩
   ·refine sb 14 (bf h_28) ?_; refine cf ?_; refine kX ?_; refine tX ?_; refine tX ?_; have he_ := hO2_27 _ (Option.some.inj hG).symm; subst he_; replace hG := hG_27; refine hH ?_; refine tN ?_; exact fun a w S hK hE => ⟨v_24, v_25_A, v_26_c, S, hK.wk, hE.sel [0], Option.some.inj hG⟩
 ·rintro a w ⟨v_40, v_41_A, v_42_c, hJ⟩; refine hJ.go fun ho_ => ?_
  clear hJ; subst ho_; replace hG := hG_39; refine sq ?_; refine rg ?_; refine ra [] f0 [(4, .slice v_41_A v_40.length v_42_c)] ?_; refine tN ?_; refine kR ?_; obtain rfl := Option.some.inj hG; refine so (A := v_41_A) (c := v_42_c) 0 c_u64 tr v_40 tr_mv et ?_; exact rtn [] ⟨v_41_A, v_42_c, v_40⟩ rfl ⟨gi 0, trivial⟩
def G_office_Valid (F : Nat) (p_0 : KOffice) : Option (Bool) :=
  Option.bind (Option.bind (iter (σ := Int) (ρ := Unit ⊕ Unit) (fun (v_27 : Int) => 
        (ifB (decide (v_27 < ((p_0.Entries.length : Nat) : Int)))
          (Option.bind (ixI p_0.Entries v_27) (fun v_30 =>
          Option.bind (Option.bind (G_office_logged_formed F (⟨v_30⟩ : Koffice_logged)) (fun v_34 =>
            ifB (v_34)
              (ifB (decide (v_27 > 0))
                (Option.bind (ixI p_0.Entries (IntKind.i64.wrap (v_27 - 1))) (fun v_37 =>
                some (decide (v_30.Stamp.Lo < v_37.Stamp.Lo))))
                (some false))
              (some true)) : Option (Bool)) (fun (v_41 : Bool) => 
            ifB (v_41)
              (some (.inr (.inr ())))
              (some (.inl (IntKind.i64.wrap (v_27 + 1)))))))
          (some (.inr (.inl ()))) : Option (Int ⊕ (Unit ⊕ Unit)))) F 0) (Sum.elim (fun (_ : Unit) => 
      some (.inl ())) (fun (_ : Unit) => 
      some (.inr ()))) : Option (Unit ⊕ Unit)) (Sum.elim (fun (_ : Unit) => 
    Option.bind (Option.bind (G_office_between F p_0.ID 1 16) (fun v_44 =>
      ifB (v_44)
        (some (decide (((p_0.Entries.length : Nat) : Int) ≤ 4096)))
        (some false)) : Option (Bool)) (fun (v_47 : Bool) => 
      some v_47)) (fun (_ : Unit) => 
    some false))
set_option maxRecDepth 100000 in
set_option maxHeartbeats 16000000 in
theorem z_office_Valid (F : Nat) (p_0 : KOfficeL) (r : Bool) (hG : G_office_Valid F p_0.p = some r) :
  Cf Tryz.prog 21 [.agg #[I p_0.ID, .slice p_0.Entries_A p_0.Entries.length p_0.Entries_c]] [KOfficeL.ok p_0] (B r) := by
 unfold G_office_Valid at hG; refine fi Tryz.func21 rfl rfl (mc KOfficeL.mv m0) fun S0 w0 hT => ?_
 refine sq ?_; refine rg ?_; refine l1 ?_; refine nw 1 vp [I p_0.ID, .slice p_0.Entries_A p_0.Entries.length p_0.Entries_c] 24 fun g_1 => ?_
 refine ra [] f0 [] ?_; refine tN ?_; obtain ⟨o_43, hG, hG_43⟩ := bind_some hG; refine jn (fun K E a w => Js S0 w0 45 (K) ([.dat (RowC p_0.Entries_A p_0.Entries_c KEntry.cells tr p_0.Entries)] ++ se E [0]) (.inl () = o_43) a w) ?_ ?_
 ·refine sq ?_; refine rg ?_; refine ra [(1, 1, 0, 1)] f0 [(6, .slice p_0.Entries_A p_0.Entries.length p_0.Entries_c), (7, I ((p_0.Entries.length : Nat) : Int)), (8, I 0)] ?_; refine tN ?_; refine bk ?_; obtain ⟨e_28, hL, hG_28⟩ := bind_some hG; clear hG; obtain ⟨stp_28, hs_28, hL⟩ := iter_gen hL; refine lp (fun K E n_ a w => ∃ (v_27 : Int), Js S0 w0 45 ([(8, I v_27)] ++ K) ([.dat (RowC p_0.Entries_A p_0.Entries_c KEntry.cells tr p_0.Entries)] ++ se E [0]) (iter stp_28 n_ v_27 = some e_28) a w) F ?_ ?_
  ·refine fm (RowC p_0.Entries_A p_0.Entries_c KEntry.cells tr p_0.Entries) (gm (KOfficeL.ok p_0) 1 fun _ _ h => h.f_Entries) ?_; exact fun a w S hK hE => ⟨0, S, hK.wk, hE.sel [0, 1], hL⟩
  ·clear hL; rintro n_28 a w ⟨v_27, hJ⟩; refine hJ.go fun hL => ?_
   clear hJ; obtain ⟨m_28, o_28, rfl, hG, hO1_28, hO2_28⟩ := iter_step hL; clear hL; rw [hs_28] at hG; refine sq ?_; refine rg ?_; refine ra [] f0 [(9, B (decide (v_27 < ((p_0.Entries.length : Nat) : Int))))] ?_; refine tN ?_; refine sq ?_; rcases ifB_cases hG with ⟨h_29, hG⟩ | ⟨h_29, hG⟩
   ·refine sb 9 (bt h_29) ?_; refine ct ?_; refine kS ?_; refine tN ?_; refine sq ?_; refine bk ?_; refine sq ?_; replace hG := bind_some hG; obtain ⟨v_30, hy_30, hG⟩ := hG; refine rg ?_; refine fx inf22 (gd' (RowC p_0.Entries_A p_0.Entries_c KEntry.cells tr p_0.Entries) 0) hy_30 fun b_31 o_32 hi_30 => ?_
    refine rn 3 [(1, 0, 0, 0), (0, 3, 0, 0)] (fc (hi_30 .i64) f0) [(10, I v_27), (12, .agg #[U v_30.Doc, I v_30.Stamp.Lo, I v_30.Stamp.Hi])] ?_; refine l1 ?_; refine nw 4 vp [U 0, I 0, I 0] 34 fun g_33 => ?_
    refine rn 1 [] f0 [(3, I v_27)] ?_; refine l1 ?_; refine sr 0 g_33 [(0, U v_30.Doc), (1, I v_30.Stamp.Lo), (2, I v_30.Stamp.Hi)] ?_; refine nl ?_; refine tN ?_; obtain ⟨o_40, hG, hG_40⟩ := bind_some hG; refine jn (fun K E a w => ∃ (v_41 : Bool), Js S0 w0 45 ([(34, B v_41)] ++ K) (se E [2, 3]) (v_41 = o_40) a w) ?_ ?_
    ·replace hG := bind_some hG; obtain ⟨v_34, hy_34, hG⟩ := hG; replace hG := ifB_cases hG; rcases hG with ⟨h_35, hG⟩ | ⟨h_35, hG⟩
     ·replace hG := ifB_cases hG; rcases hG with ⟨h_36, hG⟩ | ⟨h_36, hG⟩
      ·replace hG := bind_some hG; obtain ⟨v_37, hy_37, hG⟩ := hG; refine qb ?_; refine qn 2 [(0, 3, 0, 0)] f0 [(14, .agg #[U v_30.Doc, I v_30.Stamp.Lo, I v_30.Stamp.Hi])] ?_; refine qc 15 (z_office_logged_formed F (⟨v_30⟩ : Koffice_logged) _ hy_34) hT trivial ?_; refine qn 2 [] f0 [(17, B (!v_34))] ?_; refine sb 17 (nt h_35) ?_; refine qn 3 [] f0 [(20, B (decide (v_27 > 0)))] ?_; refine sb 20 (bt h_36) ?_; refine fx inf22 (gd' (RowC p_0.Entries_A p_0.Entries_c KEntry.cells tr p_0.Entries) 2) hy_37 fun b_38 o_39 hi_37 => ?_
       refine qa [(2, 1, 1, 1), (1, 1, 4, 1), (2, 0, 0, 0), (2, 1, 0, 1)] (fc (hi_37 .i64) f0) [(34, B (decide (v_30.Stamp.Lo < v_37.Stamp.Lo)))] ?_; refine tN ?_; exact fun a w S hK hE => ⟨decide (v_30.Stamp.Lo < v_37.Stamp.Lo), S, hK.wk, hE.sel [3, 4], Option.some.inj hG⟩
      ·refine qb ?_; refine qn 2 [(0, 3, 0, 0)] f0 [(14, .agg #[U v_30.Doc, I v_30.Stamp.Lo, I v_30.Stamp.Hi])] ?_; refine qc 15 (z_office_logged_formed F (⟨v_30⟩ : Koffice_logged) _ hy_34) hT trivial ?_; refine qn 2 [] f0 [(17, B (!v_34))] ?_; refine sb 17 (nt h_35) ?_; refine qn 3 [] f0 [(20, B (decide (v_27 > 0)))] ?_; refine sb 20 (bf h_36) ?_; refine qa [] f0 [(34, B false)] ?_; refine tN ?_; exact fun a w S hK hE => ⟨false, S, hK.wk, hE.sel [2, 3], Option.some.inj hG⟩
     ·refine qb ?_; refine qn 2 [(0, 3, 0, 0)] f0 [(14, .agg #[U v_30.Doc, I v_30.Stamp.Lo, I v_30.Stamp.Hi])] ?_; refine qc 15 (z_office_logged_formed F (⟨v_30⟩ : Koffice_logged) _ hy_34) hT trivial ?_; refine qn 2 [] f0 [(17, B (!v_34))] ?_; refine sb 17 (nf h_35) ?_; refine qa [] f0 [(34, B true)] ?_; refine tN ?_; exact fun a w S hK hE => ⟨true, S, hK.wk, hE.sel [2, 3], Option.some.inj hG⟩
    ·rintro a w ⟨v_41, hJ⟩; refine hJ.go fun ho_ => ?_
     clear hJ; subst ho_; replace hG := hG_40; rcases ifB_cases hG with ⟨h_42, hG⟩ | ⟨h_42, hG⟩
     ·refine sb 34 (bt h_42) ?_; refine ct ?_; refine sq ?_; refine rg ?_; refine ra [] f0 [(2, B false)] ?_; refine tN ?_; refine kR ?_; refine hR ?_; refine tR ?_; refine tR ?_; have he_ := hO2_28 _ (Option.some.inj hG).symm; subst he_; replace hG := hG_28; refine hR ?_; refine tR ?_; obtain rfl := Option.some.inj hG; replace hG := hG_43; obtain rfl := Option.some.inj hG; exact rt []
     ·refine sb 34 (bf h_42) ?_; refine cf ?_; refine kS ?_; refine hN ?_; refine tN ?_; refine rg ?_; refine ra [] f0 [(8, I (IntKind.i64.wrap (v_27 + 1)))] ?_; refine tN ?_; exact fun a w S hK hE => ⟨m_28, ⟨IntKind.i64.wrap (v_27 + 1), S, hK.wk, hE.sel [0, 1], hO1_28 _ (Option.some.inj hG).symm⟩, Nat.lt_succ_self _⟩
   ·refine sb 9 (bf h_29) ?_; refine cf ?_; refine kX ?_; refine tX ?_; refine tX ?_; have he_ := hO2_28 _ (Option.some.inj hG).symm; subst he_; replace hG := hG_28; refine hH ?_; refine tN ?_; exact fun a w S hK hE => ⟨S, hK.wk, hE.sel [0, 1], Option.some.inj hG⟩
 ·rintro a w hJ; refine hJ.go fun ho_ => ?_
  clear hJ; subst ho_; replace hG := hG_43; obtain ⟨o_46, hG, hG_46⟩ := bind_some hG; refine jn (fun K E a w => ∃ (v_47 : Bool), Js S0 w0 45 ([(2, B v_47)] ++ K) (se E []) (v_47 = o_46) a w) ?_ ?_
  ·replace hG := bind_some hG; obtain ⟨v_44, hy_44, hG⟩ := hG; replace hG := ifB_cases hG; rcases hG with ⟨h_45, hG⟩ | ⟨h_45, hG⟩
   ·refine rg ?_; refine rn 2 [(1, 1, 1, 0)] f0 [(37, I p_0.ID)] ?_; refine l1 ?_; refine cl 38 (z_office_between F p_0.ID 1 16 _ hy_44) hT trivial ?_; refine rn 1 [] f0 [(39, B v_44)] ?_; refine sb 39 (bt h_45) ?_; refine ra [(1, 1, 1, 1)] f0 [(2, B (decide (((p_0.Entries.length : Nat) : Int) ≤ 4096)))] ?_; refine tN ?_; exact fun a w S hK hE => ⟨decide (((p_0.Entries.length : Nat) : Int) ≤ 4096), S, hK.wk, hE.sel [], Option.some.inj hG⟩
   ·refine rg ?_; refine rn 2 [(1, 1, 1, 0)] f0 [(37, I p_0.ID)] ?_; refine l1 ?_; refine cl 38 (z_office_between F p_0.ID 1 16 _ hy_44) hT trivial ?_; refine rn 1 [] f0 [(39, B v_44)] ?_; refine sb 39 (bf h_45) ?_; refine ra [] f0 [(2, B false)] ?_; refine tN ?_; exact fun a w S hK hE => ⟨false, S, hK.wk, hE.sel [], Option.some.inj hG⟩
  ·rintro a w ⟨v_47, hJ⟩; refine hJ.go fun ho_ => ?_
   clear hJ; subst ho_; replace hG := hG_46; refine kR ?_; obtain rfl := Option.some.inj hG; exact rt []
def G_office_root (F : Nat) (p_0 : KOffice) (p_1 : Int) : Option (Int × Int) :=
  Option.bind (slI p_0.Entries 0 p_1) (fun v_2 =>
  Option.bind (Option.bind (Option.bind (iter (σ := Int × (List Int)) (ρ := (List Int)) (un2 fun (v_23 : Int) (v_24 : (List Int)) => 
          (ifB (decide (v_23 < ((v_2.length : Nat) : Int)))
            (Option.bind (ixI v_2 v_23) (fun v_29 =>
            Option.bind (G_office_Leaf F v_29) (fun v_33 =>
            Option.bind (apG 8 v_24 ([v_33] : List Int)) (fun v_35 =>
            some (.inl (IntKind.i64.wrap (v_23 + 1), v_35))))))
            (some (.inr v_24)) : Option ((Int × (List Int)) ⊕ (List Int)))) F (0, ([] : List Int))) (fun (v_36 : (List Int)) => 
        some v_36) : Option ((List Int))) (fun (v_40 : (List Int)) => 
      some v_40) : Option ((List Int))) (fun (v_43 : (List Int)) => 
    Option.bind (G_tree_Root F v_43) (un2 fun v_47 v_48 =>
    some (v_47, v_48))))
set_option maxRecDepth 100000 in
set_option maxHeartbeats 16000000 in
theorem z_office_root (F : Nat) (p_0 : KOfficeL) (p_1 : Int) (r : Int × Int) (hG : G_office_root F p_0.p p_1 = some r) :
  Cf Tryz.prog 56 [.agg #[I p_0.ID, .slice p_0.Entries_A p_0.Entries.length p_0.Entries_c], I p_1] [KOfficeL.ok p_0] (.tuple #[U r.1, I r.2]) := by
 unfold G_office_root at hG; refine fi Tryz.func56 rfl rfl (mc KOfficeL.mv m0) fun S0 w0 hT => ?_
 refine sq ?_; refine rg ?_; refine l1 ?_; refine nw 2 vp [I p_0.ID, .slice p_0.Entries_A p_0.Entries.length p_0.Entries_c] 24 fun g_1 => ?_
 refine ra [] f0 [] ?_; refine tN ?_; refine sq ?_; replace hG := bind_some hG; obtain ⟨v_2, hy_2, hG⟩ := hG; replace hG := bind_some hG; obtain ⟨v_43o, hy_46, hG⟩ := hG; replace hG := bind_some hG; obtain ⟨⟨v_47, v_48⟩, hy_47, hG⟩ := hG; refine rg ?_; refine fp false true inf22 (gm (KOfficeL.ok p_0) 1 fun _ _ h => h.f_Entries) hy_2 fun v_2_A v_2_c hp_2 => ?_
 refine rn 4 [(1, 1, 1, 1), (1, 0, 0, 0)] (fc (hp_2 .i64 .i64) f0) [(9, .slice v_2_A v_2.length v_2_c)] ?_; refine l1 ?_; refine ci 10 (args := [.slice v_2_A v_2.length v_2_c, .func (.func 70) #[] #[]]) (fun E e w => ∃ (v_43 : List Int), ∃ (v_44_A : Option Addr), ∃ (v_45_c : Nat), Rs S0 w0 (.slice v_44_A v_43.length v_45_c) ([.dat (RowC p_0.Entries_A p_0.Entries_c KEntry.cells tr p_0.Entries), .own 25 1 (.slice v_44_A v_43.length v_45_c) v_43.length (v_43.flatMap c_u64)] ++ se E [0, 1]) (v_43 = v_43o) e w) Tryz.func73 rfl rfl ?_ ?_
 ·replace hG := hy_46; refine sq ?_; refine rg ?_; refine ra [] f0 [] ?_; refine tN ?_; refine sq ?_; refine rg ?_; refine ra [] f0 [(5, .slice none 0 0)] ?_; refine tN ?_; obtain ⟨o_85, hG, hG_85⟩ := bind_some hG; refine jn (fun K E a w => ∃ (v_86 : List Int), ∃ (v_87_A : Option Addr), ∃ (v_88_c : Nat), Js S0 w0 22 ([(5, .slice v_87_A v_86.length v_88_c)] ++ K) ([.dat (RowC p_0.Entries_A p_0.Entries_c KEntry.cells tr p_0.Entries), .own 25 1 (.slice v_87_A v_86.length v_88_c) v_86.length (v_86.flatMap c_u64)] ++ se E [0, 1]) (v_86 = o_85) a w) ?_ ?_
  ·refine sq ?_; refine rg ?_; refine ra [] f0 [(8, .slice v_2_A v_2.length v_2_c), (9, I ((v_2.length : Nat) : Int)), (10, I 0)] ?_; refine tN ?_; refine bk ?_; obtain ⟨e_73, hL, hG_73⟩ := bind_some hG; clear hG; obtain ⟨stp_73, hs_73, hL⟩ := iter_gen hL; refine lp (fun K E n_ a w => ∃ (v_69 : Int), ∃ (v_70 : List Int), ∃ (v_71_A : Option Addr), ∃ (v_72_c : Nat), Js S0 w0 22 ([(5, .slice v_71_A v_70.length v_72_c), (10, I v_69)] ++ K) ([.dat (RowC p_0.Entries_A p_0.Entries_c KEntry.cells tr p_0.Entries), .own 25 1 (.slice v_71_A v_70.length v_72_c) v_70.length (v_70.flatMap c_u64)] ++ se E [0, 1]) (iter stp_73 n_ (v_69, v_70) = some e_73) a w) F ?_ ?_
   ·refine fm (RowC p_0.Entries_A p_0.Entries_c KEntry.cells tr p_0.Entries) (gm (KOfficeL.ok p_0) 2 fun _ _ h => h.f_Entries) ?_; refine on 25 1 ?_; exact fun a w S hK hE => ⟨0, ([] : List Int), none, 0, S, hK.wk, hE.sel [1, 0, 2, 3], hL⟩
   ·clear hL; rintro n_73 a w ⟨v_69, v_70, v_71_A, v_72_c, hJ⟩; refine hJ.go fun hL => ?_
    clear hJ; obtain ⟨m_73, o_73, rfl, hG, hO1_73, hO2_73⟩ := iter_step hL; clear hL; rw [hs_73] at hG; refine sq ?_; refine rg ?_; refine ra [] f0 [(11, B (decide (v_69 < ((v_2.length : Nat) : Int))))] ?_; refine tN ?_; refine sq ?_; rcases ifB_cases hG with ⟨h_74, hG⟩ | ⟨h_74, hG⟩
    ·refine sb 11 (bt h_74) ?_; refine ct ?_; refine kS ?_; refine tN ?_; refine sq ?_; refine bk ?_; refine sq ?_; replace hG := bind_some hG; obtain ⟨v_75, hy_75, hG⟩ := hG; refine rg ?_; refine fx inf22 (gd' (RowC v_2_A v_2_c KEntry.cells tr v_2) 2) hy_75 fun b_76 o_77 hi_75 => ?_
     refine rn 2 [(0, 0, 0, 0), (0, 3, 0, 0)] (fc (hi_75 .i64) f0) [(13, .agg #[U v_75.Doc, I v_75.Stamp.Lo, I v_75.Stamp.Hi])] ?_; refine l1 ?_; refine nw 7 vp [U 0, I 0, I 0] 34 fun g_78 => ?_
     refine l1 ?_; refine sr 0 g_78 [(0, U v_75.Doc), (1, I v_75.Stamp.Lo), (2, I v_75.Stamp.Hi)] ?_; refine nl ?_; refine tN ?_; replace hG := bind_some hG; obtain ⟨v_79, hy_79, hG⟩ := hG; replace hG := bind_some hG; obtain ⟨v_81, hy_81, hG⟩ := hG; refine rg ?_; refine rn 3 [(2, 3, 0, 0)] f0 [(14, .slice v_71_A v_70.length v_72_c), (15, .func (.func 70) #[] #[]), (16, .agg #[U v_75.Doc, I v_75.Stamp.Lo, I v_75.Stamp.Hi])] ?_; refine l1 ?_; refine cl 17 (z_office_Leaf F v_75 _ hy_79) hT trivial ?_; refine l1 ?_; refine nw 18 (vs 1) [U v_79] 25 fun g_80 => ?_
     refine l1 ?_; refine ap 4 19 v_71_A v_72_c v_70 ([v_79] : List Int) inf30 (bA (f := c_u64) (ok := tr) (l := ([v_79] : List Int)) g_80 0 et.a) hy_81 one_u64 fun v_81_A v_81_c _ => ?_
     refine ra [] f0 [(5, .slice v_81_A v_81.length v_81_c)] ?_; refine hN ?_; refine tN ?_; refine rg ?_; refine ra [] f0 [(10, I (IntKind.i64.wrap (v_69 + 1)))] ?_; refine tN ?_; exact fun a w S hK hE => ⟨m_73, ⟨IntKind.i64.wrap (v_69 + 1), v_81, v_81_A, v_81_c, S, hK.wk, hE.sel [3, 4, 5, 6], hO1_73 _ (Option.some.inj hG).symm⟩, Nat.lt_succ_self _⟩
    ·refine sb 11 (bf h_74) ?_; refine cf ?_; refine kX ?_; refine tX ?_; refine tX ?_; have he_ := hO2_73 _ (Option.some.inj hG).symm; subst he_; replace hG := hG_73; refine hH ?_; refine tN ?_; exact fun a w S hK hE => ⟨v_70, v_71_A, v_72_c, S, hK.wk, hE.sel [0, 1, 2, 3], Option.some.inj hG⟩
  ·rintro a w ⟨v_86, v_87_A, v_88_c, hJ⟩; refine hJ.go fun ho_ => ?_
   clear hJ; subst ho_; replace hG := hG_85; refine sq ?_; refine rg ?_; refine ra [] f0 [(4, .slice v_87_A v_86.length v_88_c)] ?_; refine tN ?_; refine kR ?_; refine ri [] (.slice v_87_A v_86.length v_88_c) ?_; exact fun a w S hK hE => ⟨v_86, v_87_A, v_88_c, rfl, ⟨S, hE.sel [0, 1, 2, 3]⟩, Option.some.inj hG⟩
 ·rintro e w ⟨v_43, v_44_A, v_45_c, hJ⟩; refine hJ.go fun ho_ => ?_
  clear hJ; subst ho_; refine l1 ?_; refine cl 11 (z_tree_Root F v_44_A v_45_c v_43 _ hy_47) hT ⟨oa 1 et.a, trivial⟩ ?_; refine ra [] f0 [(4, U v_47), (5, I v_48)] ?_; refine tN ?_; refine kR ?_; obtain rfl := Option.some.inj hG; exact rt []
def G_regulatorref25_Public (F : Nat) (p_0 : Int) : Option (Bool) :=
  Option.bind (G_regulatorref06_Member F p_0) (fun v_1 =>
  Option.bind (ifB (v_1)
      (some (!(p_0 == 1)))
      (some false) : Option (Bool)) (fun (v_4 : Bool) => 
    some v_4))
set_option maxRecDepth 100000 in
set_option maxHeartbeats 16000000 in
theorem z_regulatorref25_Public (F : Nat) (p_0 : Int) (r : Bool) (hG : G_regulatorref25_Public F p_0 = some r) :
  Cf Tryz.prog 53 [I p_0] [] (B r) := by
 unfold G_regulatorref25_Public at hG; refine fi Tryz.func53 rfl rfl m0 fun S0 w0 hT => ?_
 refine sq ?_; refine rg ?_; refine ra [] f0 [] ?_; refine tN ?_; refine sq ?_; replace hG := bind_some hG; obtain ⟨v_1, hy_1, hG⟩ := hG; refine rg ?_; refine rn 1 [] f0 [(4, I p_0)] ?_; refine l1 ?_; refine cl 5 (z_regulatorref06_Member F p_0 _ hy_1) hT trivial ?_; refine ra [] f0 [(3, B v_1)] ?_; refine tN ?_; obtain ⟨o_3, hG, hG_3⟩ := bind_some hG; refine jn (fun K E a w => ∃ (v_4 : Bool), Js S0 w0 11 ([(2, B v_4)] ++ K) (se E []) (v_4 = o_3) a w) ?_ ?_
 ·replace hG := ifB_cases hG; rcases hG with ⟨h_2, hG⟩ | ⟨h_2, hG⟩
  ·refine rg ?_; refine rn 2 [] f0 [(7, B v_1)] ?_; refine sb 7 (bt h_2) ?_; refine ra [] f0 [(2, B (!(p_0 == 1)))] ?_; refine tN ?_; exact fun a w S hK hE => ⟨!(p_0 == 1), S, hK.wk, hE.sel [], Option.some.inj hG⟩
  ·refine rg ?_; refine rn 2 [] f0 [(7, B v_1)] ?_; refine sb 7 (bf h_2) ?_; refine ra [] f0 [(2, B false)] ?_; refine tN ?_; exact fun a w S hK hE => ⟨false, S, hK.wk, hE.sel [], Option.some.inj hG⟩
 ·rintro a w ⟨v_4, hJ⟩; refine hJ.go fun ho_ => ?_
  clear hJ; subst ho_; replace hG := hG_3; refine kR ?_; obtain rfl := Option.some.inj hG; exact rt []
def G_regulatorref25_Receipt (F : Nat) (p_0 : KReceipt) : Option (Bool) :=
  Option.bind (G_regulatorref25_Form F p_0.Head) (fun v_2 =>
  Option.bind (G_regulatorref02_Valid F p_0.Entry.Stamp) (fun v_3 =>
  Option.bind (ifB (v_2)
      (ifB (v_3)
        (ifB (decide (p_0.Index ≥ 0))
          (ifB (decide (p_0.Index < p_0.Head.Size))
            (some (decide (((p_0.Path.length : Nat) : Int) ≤ 20)))
            (some false))
          (some false))
        (some false))
      (some false) : Option (Bool)) (fun (v_9 : Bool) => 
    some v_9)))
set_option maxRecDepth 100000 in
set_option maxHeartbeats 16000000 in
theorem z_regulatorref25_Receipt (F : Nat) (p_0 : KReceiptL) (r : Bool) (hG : G_regulatorref25_Receipt F p_0.p = some r) :
  Cf Tryz.prog 89 [.agg #[I p_0.Head.Office, I p_0.Head.Size, U p_0.Head.Root, I p_0.Head.Sig.C, I p_0.Head.Sig.S, I p_0.Index, U p_0.Entry.Doc, I p_0.Entry.Stamp.Lo, I p_0.Entry.Stamp.Hi, .slice p_0.Path_A p_0.Path.length p_0.Path_c]] [KReceiptL.ok p_0] (B r) := by
 unfold G_regulatorref25_Receipt at hG; refine fi Tryz.func89 rfl rfl (mc KReceiptL.mv m0) fun S0 w0 hT => ?_
 refine sq ?_; refine rg ?_; refine l1 ?_; refine nw 1 vp [I p_0.Head.Office, I p_0.Head.Size, U p_0.Head.Root, I p_0.Head.Sig.C, I p_0.Head.Sig.S, I p_0.Index, U p_0.Entry.Doc, I p_0.Entry.Stamp.Lo, I p_0.Entry.Stamp.Hi, .slice p_0.Path_A p_0.Path.length p_0.Path_c] 36 fun g_1 => ?_
 refine ra [] f0 [] ?_; refine tN ?_; refine sq ?_; replace hG := bind_some hG; obtain ⟨v_2, hy_2, hG⟩ := hG; refine rg ?_; refine rn 2 [(1, 5, 0, 0)] f0 [(6, .agg #[I p_0.Head.Office, I p_0.Head.Size, U p_0.Head.Root, I p_0.Head.Sig.C, I p_0.Head.Sig.S])] ?_; refine l1 ?_; refine cl 7 (z_regulatorref25_Form F p_0.Head _ hy_2) hT trivial ?_; refine ra [] f0 [(3, B v_2)] ?_; refine tN ?_; refine sq ?_; replace hG := bind_some hG; obtain ⟨v_3, hy_3, hG⟩ := hG; refine rg ?_; refine rn 3 [(2, 2, 0, 7)] f0 [(10, .agg #[I p_0.Entry.Stamp.Lo, I p_0.Entry.Stamp.Hi])] ?_; refine l1 ?_; refine cl 11 (z_regulatorref02_Valid F p_0.Entry.Stamp _ hy_3) hT trivial ?_; refine ra [] f0 [(4, B v_3)] ?_; refine tN ?_; obtain ⟨o_8, hG, hG_8⟩ := bind_some hG; refine jn (fun K E a w => ∃ (v_9 : Bool), Js S0 w0 35 ([(2, B v_9)] ++ K) (se E []) (v_9 = o_8) a w) ?_ ?_
 ·replace hG := ifB_cases hG; rcases hG with ⟨h_4, hG⟩ | ⟨h_4, hG⟩
  ·replace hG := ifB_cases hG; rcases hG with ⟨h_5, hG⟩ | ⟨h_5, hG⟩
   ·replace hG := ifB_cases hG; rcases hG with ⟨h_6, hG⟩ | ⟨h_6, hG⟩
    ·replace hG := ifB_cases hG; rcases hG with ⟨h_7, hG⟩ | ⟨h_7, hG⟩
     ·refine rg ?_; refine rn 2 [] f0 [(13, B v_2)] ?_; refine sb 13 (bt h_4) ?_; refine rn 3 [] f0 [(16, B v_3)] ?_; refine sb 16 (bt h_5) ?_; refine rn 5 [(1, 1, 0, 5)] f0 [(21, B (decide (p_0.Index ≥ 0)))] ?_; refine sb 21 (bt h_6) ?_; refine rn 8 [(1, 1, 0, 5), (2, 1, 0, 1)] f0 [(29, B (decide (p_0.Index < p_0.Head.Size)))] ?_; refine sb 29 (bt h_7) ?_; refine ra [(1, 1, 0, 9)] f0 [(2, B (decide (((p_0.Path.length : Nat) : Int) ≤ 20)))] ?_; refine tN ?_; exact fun a w S hK hE => ⟨decide (((p_0.Path.length : Nat) : Int) ≤ 20), S, hK.wk, hE.sel [], Option.some.inj hG⟩
     ·refine rg ?_; refine rn 2 [] f0 [(13, B v_2)] ?_; refine sb 13 (bt h_4) ?_; refine rn 3 [] f0 [(16, B v_3)] ?_; refine sb 16 (bt h_5) ?_; refine rn 5 [(1, 1, 0, 5)] f0 [(21, B (decide (p_0.Index ≥ 0)))] ?_; refine sb 21 (bt h_6) ?_; refine rn 8 [(1, 1, 0, 5), (2, 1, 0, 1)] f0 [(29, B (decide (p_0.Index < p_0.Head.Size)))] ?_; refine sb 29 (bf h_7) ?_; refine ra [] f0 [(2, B false)] ?_; refine tN ?_; exact fun a w S hK hE => ⟨false, S, hK.wk, hE.sel [], Option.some.inj hG⟩
    ·refine rg ?_; refine rn 2 [] f0 [(13, B v_2)] ?_; refine sb 13 (bt h_4) ?_; refine rn 3 [] f0 [(16, B v_3)] ?_; refine sb 16 (bt h_5) ?_; refine rn 5 [(1, 1, 0, 5)] f0 [(21, B (decide (p_0.Index ≥ 0)))] ?_; refine sb 21 (bf h_6) ?_; refine ra [] f0 [(2, B false)] ?_; refine tN ?_; exact fun a w S hK hE => ⟨false, S, hK.wk, hE.sel [], Option.some.inj hG⟩
   ·refine rg ?_; refine rn 2 [] f0 [(13, B v_2)] ?_; refine sb 13 (bt h_4) ?_; refine rn 3 [] f0 [(16, B v_3)] ?_; refine sb 16 (bf h_5) ?_; refine ra [] f0 [(2, B false)] ?_; refine tN ?_; exact fun a w S hK hE => ⟨false, S, hK.wk, hE.sel [], Option.some.inj hG⟩
  ·refine rg ?_; refine rn 2 [] f0 [(13, B v_2)] ?_; refine sb 13 (bf h_4) ?_; refine ra [] f0 [(2, B false)] ?_; refine tN ?_; exact fun a w S hK hE => ⟨false, S, hK.wk, hE.sel [], Option.some.inj hG⟩
 ·rintro a w ⟨v_9, hJ⟩; refine hJ.go fun ho_ => ?_
  clear hJ; subst ho_; replace hG := hG_8; refine kR ?_; obtain rfl := Option.some.inj hG; exact rt []
def G_regulatorref06_Verify (F : Nat) (p_0 : Int) (p_1 : KSig) (p_2 : List Int) : Option (Bool × Int) :=
 Option.bind (Option.bind (G_regulatorref06_Member F p_0) (fun v_2 =>
  ifB (v_2)
   (Option.bind (G_regulatorref06_Exponent F p_1.C) (fun v_4 =>
   ifB (v_4)
    (Option.bind (G_regulatorref06_Exponent F p_1.S) (fun v_6 =>
    some (p_2, !v_6)))
    (some (p_2, true))))
   (some (p_2, true))) : Option (((List Int) × Bool))) (un2 fun (v_8 : (List Int)) (v_11 : Bool) =>
  ifB (v_11)
   (some (false, 1))
   (Option.bind (G_regulatorref06_Back F p_0 p_1) (fun v_13 =>
   Option.bind (G_regulatorref06_Challenge F v_13 p_0 v_8) (fun v_14 =>
   some ((v_14 == p_1.C), 0)))))
set_option maxRecDepth 100000 in
set_option maxHeartbeats 16000000 in
theorem z_regulatorref06_Verify (F : Nat) (p_0 : Int) (p_1 : KSig) (p_2_A : Option Addr) (p_2_c : Nat) (p_2 : List Int) (r : Bool × Int) (hG : G_regulatorref06_Verify F p_0 p_1 p_2 = some r) :
  Cf Tryz.prog 94 [I p_0, .agg #[I p_1.C, I p_1.S], .slice p_2_A p_2.length p_2_c] [RowC p_2_A p_2_c c_i64 tr p_2] (.tuple #[B r.1, I r.2]) := by
 unfold G_regulatorref06_Verify at hG; refine fi Tryz.func94 rfl rfl (mr tr_mv m0) fun S0 w0 hT => ?_
 refine sq ?_; refine rg ?_; refine l1 ?_; refine nw 4 vp [I p_1.C, I p_1.S] 27 fun g_1 => ?_
 refine ra [] f0 [] ?_; refine tN ?_; refine sq ?_; obtain ⟨o_7, hG, hG_7⟩ := bind_some hG; refine jn (fun K E a w => ∃ (v_8 : List Int), ∃ (v_9_A : Option Addr), ∃ (v_10_c : Nat), ∃ (v_11 : Bool), Js S0 w0 32 ([(2, .slice v_9_A v_8.length v_10_c), (22, B v_11)] ++ K) ([.dat (RowC v_9_A v_10_c c_i64 tr v_8)] ++ se E [0]) ((v_8, v_11) = o_7) a w) ?_ ?_
 ·replace hG := bind_some hG; obtain ⟨v_2, hy_2, hG⟩ := hG; replace hG := ifB_cases hG; rcases hG with ⟨h_3, hG⟩ | ⟨h_3, hG⟩
  ·replace hG := bind_some hG; obtain ⟨v_4, hy_4, hG⟩ := hG; replace hG := ifB_cases hG; rcases hG with ⟨h_5, hG⟩ | ⟨h_5, hG⟩
   ·replace hG := bind_some hG; obtain ⟨v_6, hy_6, hG⟩ := hG; refine rg ?_; refine rn 1 [] f0 [(8, I p_0)] ?_; refine l1 ?_; refine cl 9 (z_regulatorref06_Member F p_0 _ hy_2) hT trivial ?_; refine rn 2 [] f0 [(11, B (!v_2))] ?_; refine sb 11 (nt h_3) ?_; refine rn 2 [(1, 1, 0, 0)] f0 [(13, I p_1.C)] ?_; refine l1 ?_; refine cl 14 (z_regulatorref06_Exponent F p_1.C _ hy_4) hT trivial ?_; refine rn 3 [] f0 [(17, B (!v_4))] ?_; refine sb 17 (nt h_5) ?_; refine rn 2 [(1, 1, 0, 1)] f0 [(19, I p_1.S)] ?_; refine l1 ?_; refine cl 20 (z_regulatorref06_Exponent F p_1.S _ hy_6) hT trivial ?_; refine ra [] f0 [(22, B (!v_6))] ?_; refine tN ?_; exact fun a w S hK hE => ⟨p_2, p_2_A, p_2_c, !v_6, S, hK.wk, hE.sel [1, 0], Option.some.inj hG⟩
   ·refine rg ?_; refine rn 1 [] f0 [(8, I p_0)] ?_; refine l1 ?_; refine cl 9 (z_regulatorref06_Member F p_0 _ hy_2) hT trivial ?_; refine rn 2 [] f0 [(11, B (!v_2))] ?_; refine sb 11 (nt h_3) ?_; refine rn 2 [(1, 1, 0, 0)] f0 [(13, I p_1.C)] ?_; refine l1 ?_; refine cl 14 (z_regulatorref06_Exponent F p_1.C _ hy_4) hT trivial ?_; refine rn 3 [] f0 [(17, B (!v_4))] ?_; refine sb 17 (nf h_5) ?_; refine ra [] f0 [(22, B true)] ?_; refine tN ?_; exact fun a w S hK hE => ⟨p_2, p_2_A, p_2_c, true, S, hK.wk, hE.sel [1, 0], Option.some.inj hG⟩
  ·refine rg ?_; refine rn 1 [] f0 [(8, I p_0)] ?_; refine l1 ?_; refine cl 9 (z_regulatorref06_Member F p_0 _ hy_2) hT trivial ?_; refine rn 2 [] f0 [(11, B (!v_2))] ?_; refine sb 11 (nf h_3) ?_; refine ra [] f0 [(22, B true)] ?_; refine tN ?_; exact fun a w S hK hE => ⟨p_2, p_2_A, p_2_c, true, S, hK.wk, hE.sel [1, 0], Option.some.inj hG⟩
 ·rintro a w ⟨v_8, v_9_A, v_10_c, v_11, hJ⟩; refine hJ.go fun ho_ => ?_
  clear hJ; subst ho_; replace hG := hG_7; rcases ifB_cases hG with ⟨h_12, hG⟩ | ⟨h_12, hG⟩
  ·refine sb 22 (bt h_12) ?_; refine ct ?_; refine sq ?_; refine rg ?_; refine ra [] f0 [(6, B false), (7, I 1)] ?_; refine tN ?_; refine kR ?_; refine tR ?_; obtain rfl := Option.some.inj hG; exact rt []
  ·refine sb 22 (bf h_12) ?_; refine cf ?_; refine kS ?_; refine tN ?_; refine sq ?_; replace hG := bind_some hG; obtain ⟨v_13, hy_13, hG⟩ := hG; replace hG := bind_some hG; obtain ⟨v_14, hy_14, hG⟩ := hG; refine qb ?_; refine qn 2 [(1, 2, 1, 0)] f0 [(23, I p_0), (24, .agg #[I p_1.C, I p_1.S])] ?_; refine qc 25 (z_regulatorref06_Back F p_0 p_1 _ hy_13) hT trivial ?_; refine qn 2 [] f0 [(26, I p_0), (27, .slice v_9_A v_8.length v_10_c)] ?_; refine qc 28 (z_regulatorref06_Challenge F v_13 p_0 v_9_A v_10_c v_8 _ hy_14) hT ⟨ga 0, trivial⟩ ?_; refine qa [(1, 1, 1, 0)] f0 [(6, B (v_14 == p_1.C)), (7, I 0)] ?_; refine tN ?_; refine kR ?_; obtain rfl := Option.some.inj hG; exact rt []
def G_regulatorref25_Prove (F : Nat) (p_0 : KOffice) (p_1 : KHead) (p_2 : Int) : Option (KReceipt × Int) :=
  Option.bind (G_regulatorref25_Valid F p_0) (fun v_4 =>
  Option.bind (G_regulatorref25_Form F p_1) (fun v_5 =>
  Option.bind (ifB (v_4)
      (ifB (v_5)
        (ifB (decide (p_1.Size > ((p_0.Entries.length : Nat) : Int)))
          (some true)
          (ifB (decide (p_2 < 0))
            (some true)
            (some (decide (p_2 ≥ p_1.Size)))))
        (some true))
      (some true) : Option (Bool)) (fun (v_11 : Bool) => 
    ifB (v_11)
      (some ((⟨(⟨0, 0, 0, (⟨0, 0⟩ : KSig)⟩ : KHead), 0, (⟨0, (⟨0, 0⟩ : KInterval)⟩ : KEntry), ([] : List Int)⟩ : KReceipt), 1))
      (Option.bind (G_regulatorref25_Values F p_0 p_1.Size) (fun v_13 =>
      Option.bind (G_regulatorref24_Root F v_13) (un2 fun v_14 v_15 =>
      Option.bind (ifB ((p_1.Office == p_0.ID))
          (some (!(p_1.Root == v_14)))
          (some true) : Option (Bool)) (fun (v_18 : Bool) => 
        ifB (v_18)
          (some ((⟨(⟨0, 0, 0, (⟨0, 0⟩ : KSig)⟩ : KHead), 0, (⟨0, (⟨0, 0⟩ : KInterval)⟩ : KEntry), ([] : List Int)⟩ : KReceipt), 33))
          (Option.bind (G_regulatorref24_Include F v_13 p_2) (un2 fun v_20 v_21 =>
          Option.bind (ixI p_0.Entries p_2) (fun v_22 =>
          some ((⟨p_1, p_2, v_22, v_20⟩ : KReceipt), 0)))))))))))
set_option maxRecDepth 100000 in
set_option maxHeartbeats 16000000 in
theorem z_regulatorref25_Prove (F : Nat) (p_0 : KOfficeL) (p_1 : KHead) (p_2 : Int) (r : KReceipt × Int) (hG : G_regulatorref25_Prove F p_0.p p_1 p_2 = some r) :
  Cn Tryz.prog 34 [.agg #[I p_0.ID, .slice p_0.Entries_A p_0.Entries.length p_0.Entries_c], .agg #[I p_1.Office, I p_1.Size, U p_1.Root, I p_1.Sig.C, I p_1.Sig.S], I p_2] [KOfficeL.ok p_0] (fun q : KReceiptL => r.1 = q.p) (fun q => .tuple #[.agg #[I q.Head.Office, I q.Head.Size, U q.Head.Root, I q.Head.Sig.C, I q.Head.Sig.S, I q.Index, U q.Entry.Doc, I q.Entry.Stamp.Lo, I q.Entry.Stamp.Hi, .slice q.Path_A q.Path.length q.Path_c], I r.2]) (fun q => [KReceiptL.ok q]) := by
 unfold G_regulatorref25_Prove at hG; refine fin Tryz.func34 rfl rfl (mc KOfficeL.mv m0) fun S0 w0 hT => ?_
 refine sq ?_; refine rg ?_; refine l1 ?_; refine nw 3 vp [I p_0.ID, .slice p_0.Entries_A p_0.Entries.length p_0.Entries_c] 24 fun g_1 => ?_
 refine l1 ?_; refine nw 4 vp [I p_1.Office, I p_1.Size, U p_1.Root, I p_1.Sig.C, I p_1.Sig.S] 29 fun g_2 => ?_
 refine l1 ?_; refine nw 6 vp [I 0, I 0, U 0, I 0, I 0, I 0, U 0, I 0, I 0, .slice none 0 0] 36 fun g_3 => ?_
 refine ra [] f0 [] ?_; refine tN ?_; refine sq ?_; replace hG := bind_some hG; obtain ⟨v_4, hy_4, hG⟩ := hG; refine rg ?_; refine rn 1 [(0, 2, 2, 0)] f0 [(15, .agg #[I p_0.ID, .slice p_0.Entries_A p_0.Entries.length p_0.Entries_c])] ?_; refine l1 ?_; refine cl 16 (z_regulatorref25_Valid F p_0 _ hy_4) hT ⟨(gi 3).a, trivial⟩ ?_; refine ra [] f0 [(8, B v_4)] ?_; refine tN ?_; refine sq ?_; replace hG := bind_some hG; obtain ⟨v_5, hy_5, hG⟩ := hG; refine rg ?_; refine rn 1 [(0, 5, 1, 0)] f0 [(17, .agg #[I p_1.Office, I p_1.Size, U p_1.Root, I p_1.Sig.C, I p_1.Sig.S])] ?_; refine l1 ?_; refine cl 18 (z_regulatorref25_Form F p_1 _ hy_5) hT trivial ?_; refine ra [] f0 [(9, B v_5)] ?_; refine tN ?_; refine sq ?_; obtain ⟨o_10, hG, hG_10⟩ := bind_some hG; refine jn (fun K E a w => ∃ (v_11 : Bool), Js S0 w0 80 ([(42, B v_11)] ++ K) ([.dat (RowC p_0.Entries_A p_0.Entries_c KEntry.cells tr p_0.Entries)] ++ se E [0, 1, 2]) (v_11 = o_10) a w) ?_ ?_
 ·replace hG := ifB_cases hG; rcases hG with ⟨h_6, hG⟩ | ⟨h_6, hG⟩
  ·replace hG := ifB_cases hG; rcases hG with ⟨h_7, hG⟩ | ⟨h_7, hG⟩
   ·replace hG := ifB_cases hG; rcases hG with ⟨h_8, hG⟩ | ⟨h_8, hG⟩
    ·refine rg ?_; refine rn 3 [] f0 [(21, B (!v_4))] ?_; refine sb 21 (nt h_6) ?_; refine rn 4 [] f0 [(25, B (!v_5))] ?_; refine sb 25 (nt h_7) ?_; refine rn 8 [(1, 1, 1, 1), (1, 1, 2, 1)] f0 [(33, B (decide (p_1.Size > ((p_0.Entries.length : Nat) : Int))))] ?_; refine sb 33 (bt h_8) ?_; refine ra [] f0 [(42, B true)] ?_; refine tN ?_; refine fm (RowC p_0.Entries_A p_0.Entries_c KEntry.cells tr p_0.Entries) (gm (KOfficeL.ok p_0) 3 fun _ _ h => h.f_Entries) ?_; exact fun a w S hK hE => ⟨true, S, hK.wk, hE.sel [0, 1, 2, 3], Option.some.inj hG⟩
    ·replace hG := ifB_cases hG; rcases hG with ⟨h_9, hG⟩ | ⟨h_9, hG⟩
     ·refine rg ?_; refine rn 3 [] f0 [(21, B (!v_4))] ?_; refine sb 21 (nt h_6) ?_; refine rn 4 [] f0 [(25, B (!v_5))] ?_; refine sb 25 (nt h_7) ?_; refine rn 8 [(1, 1, 1, 1), (1, 1, 2, 1)] f0 [(33, B (decide (p_1.Size > ((p_0.Entries.length : Nat) : Int))))] ?_; refine sb 33 (bf h_8) ?_; refine rn 4 [] f0 [(37, B (decide (p_2 < 0)))] ?_; refine sb 37 (bt h_9) ?_; refine ra [] f0 [(42, B true)] ?_; refine tN ?_; refine fm (RowC p_0.Entries_A p_0.Entries_c KEntry.cells tr p_0.Entries) (gm (KOfficeL.ok p_0) 3 fun _ _ h => h.f_Entries) ?_; exact fun a w S hK hE => ⟨true, S, hK.wk, hE.sel [0, 1, 2, 3], Option.some.inj hG⟩
     ·refine rg ?_; refine rn 3 [] f0 [(21, B (!v_4))] ?_; refine sb 21 (nt h_6) ?_; refine rn 4 [] f0 [(25, B (!v_5))] ?_; refine sb 25 (nt h_7) ?_; refine rn 8 [(1, 1, 1, 1), (1, 1, 2, 1)] f0 [(33, B (decide (p_1.Size > ((p_0.Entries.length : Nat) : Int))))] ?_; refine sb 33 (bf h_8) ?_; refine rn 4 [] f0 [(37, B (decide (p_2 < 0)))] ?_; refine sb 37 (bf h_9) ?_; refine ra [(2, 1, 1, 1)] f0 [(42, B (decide (p_2 ≥ p_1.Size)))] ?_; refine tN ?_; refine fm (RowC p_0.Entries_A p_0.Entries_c KEntry.cells tr p_0.Entries) (gm (KOfficeL.ok p_0) 3 fun _ _ h => h.f_Entries) ?_; exact fun a w S hK hE => ⟨decide (p_2 ≥ p_1.Size), S, hK.wk, hE.sel [0, 1, 2, 3], Option.some.inj hG⟩
   ·refine rg ?_; refine rn 3 [] f0 [(21, B (!v_4))] ?_; refine sb 21 (nt h_6) ?_; refine rn 4 [] f0 [(25, B (!v_5))] ?_; refine sb 25 (nf h_7) ?_; refine ra [] f0 [(42, B true)] ?_; refine tN ?_; refine fm (RowC p_0.Entries_A p_0.Entries_c KEntry.cells tr p_0.Entries) (gm (KOfficeL.ok p_0) 3 fun _ _ h => h.f_Entries) ?_; exact fun a w S hK hE => ⟨true, S, hK.wk, hE.sel [0, 1, 2, 3], Option.some.inj hG⟩
  ·refine rg ?_; refine rn 3 [] f0 [(21, B (!v_4))] ?_; refine sb 21 (nf h_6) ?_; refine ra [] f0 [(42, B true)] ?_; refine tN ?_; refine fm (RowC p_0.Entries_A p_0.Entries_c KEntry.cells tr p_0.Entries) (gm (KOfficeL.ok p_0) 3 fun _ _ h => h.f_Entries) ?_; exact fun a w S hK hE => ⟨true, S, hK.wk, hE.sel [0, 1, 2, 3], Option.some.inj hG⟩
 ·rintro a w ⟨v_11, hJ⟩; refine hJ.go fun ho_ => ?_
  clear hJ; subst ho_; replace hG := hG_10; rcases ifB_cases hG with ⟨h_12, hG⟩ | ⟨h_12, hG⟩
  ·refine sb 42 (bt h_12) ?_; refine ct ?_; refine sq ?_; refine rg ?_; refine rn 1 [] f0 [(43, .agg #[I 0, I 0, U 0, I 0, I 0, I 0, U 0, I 0, I 0, .slice none 0 0])] ?_; refine l1 ?_; refine sr 1 g_3 [(0, I 0), (1, I 0), (2, U 0), (3, I 0), (4, I 0), (5, I 0), (6, U 0), (7, I 0), (8, I 0), (9, .slice none 0 0)] ?_; refine ra [] f0 [(7, I 1)] ?_; refine tN ?_; refine kR ?_; refine tR ?_; obtain rfl := Option.some.inj hG; exact rtn [(1, 0, 10)] (⟨(⟨0, 0, 0, (⟨0, 0⟩ : KSig)⟩ : KHead), 0, (⟨0, (⟨0, 0⟩ : KInterval)⟩ : KEntry), none, 0, ([] : List Int)⟩ : KReceiptL) rfl ⟨(((gn : Fd _ (RowC none 0 c_u64 tr ([] : List Int)))).m fun _ _ h => ⟨h⟩), trivial⟩
  ·refine sb 42 (bf h_12) ?_; refine cf ?_; refine kS ?_; refine tN ?_; refine sq ?_; replace hG := bind_some hG; obtain ⟨v_13o, hy_13, hG⟩ := hG; refine rg ?_; refine rn 3 [(0, 2, 3, 0), (1, 1, 2, 1)] f0 [(44, .agg #[I p_0.ID, .slice p_0.Entries_A p_0.Entries.length p_0.Entries_c]), (46, I p_1.Size)] ?_; refine l1 ?_; refine cn 47 (z_regulatorref25_Values F p_0 p_1.Size _ hy_13) hT (fun _ => (mr tr_mv m0)) ⟨(((gd' (RowC p_0.Entries_A p_0.Entries_c KEntry.cells tr p_0.Entries) 0)).m fun _ _ h => ⟨h⟩), trivial⟩ ?_; rintro ⟨v_13_A, v_13_c, v_13⟩ hq_13; obtain rfl : v_13 = v_13o := hq_13.symm; refine ra [] f0 [(10, .slice v_13_A v_13.length v_13_c)] ?_; refine tN ?_; refine sq ?_; replace hG := bind_some hG; obtain ⟨⟨v_14, v_15⟩, hy_14, hG⟩ := hG; refine rg ?_; refine rn 1 [] f0 [(49, .slice v_13_A v_13.length v_13_c)] ?_; refine l1 ?_; refine cl 50 (z_regulatorref24_Root F v_13_A v_13_c v_13 _ hy_14) hT ⟨ga 0, trivial⟩ ?_; refine ra [] f0 [(11, U v_14)] ?_; refine tN ?_; refine sq ?_; obtain ⟨o_17, hG, hG_17⟩ := bind_some hG; refine jn (fun K E a w => ∃ (v_18 : Bool), Js S0 w0 80 ([(63, B v_18)] ++ K) (se E [0, 1, 2, 3, 4]) (v_18 = o_17) a w) ?_ ?_
   ·replace hG := ifB_cases hG; rcases hG with ⟨h_16, hG⟩ | ⟨h_16, hG⟩
    ·refine rg ?_; refine rn 6 [(1, 1, 3, 0), (1, 1, 4, 0)] f0 [(58, B (!(p_1.Office == p_0.ID)))] ?_; refine sb 58 (nt h_16) ?_; refine ra [(1, 1, 3, 2)] f0 [(63, B (!(p_1.Root == v_14)))] ?_; refine tN ?_; exact fun a w S hK hE => ⟨!(p_1.Root == v_14), S, hK.wk, hE.sel [0, 1, 2, 3, 4], Option.some.inj hG⟩
    ·refine rg ?_; refine rn 6 [(1, 1, 3, 0), (1, 1, 4, 0)] f0 [(58, B (!(p_1.Office == p_0.ID)))] ?_; refine sb 58 (nf h_16) ?_; refine ra [] f0 [(63, B true)] ?_; refine tN ?_; exact fun a w S hK hE => ⟨true, S, hK.wk, hE.sel [0, 1, 2, 3, 4], Option.some.inj hG⟩
   ·rintro a w ⟨v_18, hJ⟩; refine hJ.go fun ho_ => ?_
    clear hJ; subst ho_; replace hG := hG_17; rcases ifB_cases hG with ⟨h_19, hG⟩ | ⟨h_19, hG⟩
    ·refine sb 63 (bt h_19) ?_; refine ct ?_; refine sq ?_; refine rg ?_; refine rn 1 [] f0 [(64, .agg #[I 0, I 0, U 0, I 0, I 0, I 0, U 0, I 0, I 0, .slice none 0 0])] ?_; refine l1 ?_; refine sr 2 g_3 [(0, I 0), (1, I 0), (2, U 0), (3, I 0), (4, I 0), (5, I 0), (6, U 0), (7, I 0), (8, I 0), (9, .slice none 0 0)] ?_; refine ra [] f0 [(7, I 33)] ?_; refine tN ?_; refine kR ?_; refine tR ?_; obtain rfl := Option.some.inj hG; exact rtn [(2, 0, 10)] (⟨(⟨0, 0, 0, (⟨0, 0⟩ : KSig)⟩ : KHead), 0, (⟨0, (⟨0, 0⟩ : KInterval)⟩ : KEntry), none, 0, ([] : List Int)⟩ : KReceiptL) rfl ⟨(((gn : Fd _ (RowC none 0 c_u64 tr ([] : List Int)))).m fun _ _ h => ⟨h⟩), trivial⟩
    ·refine sb 63 (bf h_19) ?_; refine cf ?_; refine kS ?_; refine tN ?_; refine sq ?_; replace hG := bind_some hG; obtain ⟨⟨v_20o, v_21⟩, hy_20, hG⟩ := hG; refine rg ?_; refine rn 2 [] f0 [(66, .slice v_13_A v_13.length v_13_c), (67, I p_2)] ?_; refine l1 ?_; refine cn 68 (z_regulatorref24_Include F v_13_A v_13_c v_13 p_2 _ hy_20) hT (fun _ => (mr tr_mv m0)) ⟨gi 0, trivial⟩ ?_; rintro ⟨v_20_A, v_20_c, v_20⟩ hq_20; obtain rfl : v_20 = v_20o := hq_20.symm; refine ra [] f0 [(13, .slice v_20_A v_20.length v_20_c)] ?_; refine tN ?_; refine sq ?_; replace hG := bind_some hG; obtain ⟨v_22, hy_22, hG⟩ := hG; refine fx inf22 (gd' (RowC p_0.Entries_A p_0.Entries_c KEntry.cells tr p_0.Entries) 2) hy_22 fun b_23 o_24 hi_22 => ?_
     refine hb [0, 1, 2, 3, 5, 6] ?_; refine ht [0, 1, 2, 3, 5, 6] [0, 1, 2, 3, 4, 5, 6, 7, 8] [(0, 5, 4, 0), (2, 1, 5, 1), (1, 0, 0, 0), (0, 3, 0, 0)] (fc (hi_22 .i64) f0) [(79, .agg #[I p_1.Office, I p_1.Size, U p_1.Root, I p_1.Sig.C, I p_1.Sig.S, I p_2, U v_22.Doc, I v_22.Stamp.Lo, I v_22.Stamp.Hi, .slice v_20_A v_20.length v_20_c])] ?_; refine ho [9] ⟨?_, trivial⟩; refine h1 ?_; refine sr 4 g_3 [(0, I p_1.Office), (1, I p_1.Size), (2, U p_1.Root), (3, I p_1.Sig.C), (4, I p_1.Sig.S), (5, I p_2), (6, U v_22.Doc), (7, I v_22.Stamp.Lo), (8, I v_22.Stamp.Hi), (9, .slice v_20_A v_20.length v_20_c)] ?_; refine hk [0, 1, 2, 3, 5, 6] ?_; refine ht [0, 1, 2, 3, 5, 6] [10] [] f0 [(7, I 0)] ?_; refine he ?_; refine tN ?_; refine kR ?_; obtain rfl := Option.some.inj hG; exact rtn [(4, 0, 10)] (⟨p_1, p_2, v_22, v_20_A, v_20_c, v_20⟩ : KReceiptL) rfl ⟨(((gd' (RowC v_20_A v_20_c c_u64 tr v_20) 1)).m fun _ _ h => ⟨h⟩), trivial⟩
def G_regulatorref26_of (F : Nat) (p_0 : KOffice) (p_1 : KHead) : Option (Bool) :=
  Option.bind (ifB ((p_1.Office == p_0.ID))
      (some (decide (p_1.Size > ((p_0.Entries.length : Nat) : Int))))
      (some true) : Option (Bool)) (fun (v_5 : Bool) => 
    ifB (v_5)
      (some false)
      (Option.bind (G_regulatorref25_Values F p_0 p_1.Size) (fun v_7 =>
      Option.bind (G_regulatorref24_Root F v_7) (un2 fun v_8 v_9 =>
      some (v_8 == p_1.Root)))))
set_option maxRecDepth 100000 in
set_option maxHeartbeats 16000000 in
theorem z_regulatorref26_of (F : Nat) (p_0 : KOfficeL) (p_1 : KHead) (r : Bool) (hG : G_regulatorref26_of F p_0.p p_1 = some r) :
  Cf Tryz.prog 31 [.agg #[I p_0.ID, .slice p_0.Entries_A p_0.Entries.length p_0.Entries_c], .agg #[I p_1.Office, I p_1.Size, U p_1.Root, I p_1.Sig.C, I p_1.Sig.S]] [KOfficeL.ok p_0] (B r) := by
 unfold G_regulatorref26_of at hG; refine fi Tryz.func31 rfl rfl (mc KOfficeL.mv m0) fun S0 w0 hT => ?_
 refine sq ?_; refine rg ?_; refine l1 ?_; refine nw 2 vp [I p_0.ID, .slice p_0.Entries_A p_0.Entries.length p_0.Entries_c] 24 fun g_1 => ?_
 refine l1 ?_; refine nw 3 vp [I p_1.Office, I p_1.Size, U p_1.Root, I p_1.Sig.C, I p_1.Sig.S] 29 fun g_2 => ?_
 refine ra [] f0 [] ?_; refine tN ?_; refine sq ?_; obtain ⟨o_4, hG, hG_4⟩ := bind_some hG; refine jn (fun K E a w => ∃ (v_5 : Bool), Js S0 w0 32 ([(19, B v_5)] ++ K) ([.dat (RowC p_0.Entries_A p_0.Entries_c KEntry.cells tr p_0.Entries)] ++ se E [0, 1]) (v_5 = o_4) a w) ?_ ?_
 ·replace hG := ifB_cases hG; rcases hG with ⟨h_3, hG⟩ | ⟨h_3, hG⟩
  ·refine rg ?_; refine rn 6 [(1, 1, 0, 0), (1, 1, 1, 0)] f0 [(12, B (!(p_1.Office == p_0.ID)))] ?_; refine sb 12 (nt h_3) ?_; refine ra [(1, 1, 0, 1), (1, 1, 1, 1)] f0 [(19, B (decide (p_1.Size > ((p_0.Entries.length : Nat) : Int))))] ?_; refine tN ?_; refine fm (RowC p_0.Entries_A p_0.Entries_c KEntry.cells tr p_0.Entries) (gm (KOfficeL.ok p_0) 2 fun _ _ h => h.f_Entries) ?_; exact fun a w S hK hE => ⟨decide (p_1.Size > ((p_0.Entries.length : Nat) : Int)), S, hK.wk, hE.sel [0, 1, 2], Option.some.inj hG⟩
  ·refine rg ?_; refine rn 6 [(1, 1, 0, 0), (1, 1, 1, 0)] f0 [(12, B (!(p_1.Office == p_0.ID)))] ?_; refine sb 12 (nf h_3) ?_; refine ra [] f0 [(19, B true)] ?_; refine tN ?_; refine fm (RowC p_0.Entries_A p_0.Entries_c KEntry.cells tr p_0.Entries) (gm (KOfficeL.ok p_0) 2 fun _ _ h => h.f_Entries) ?_; exact fun a w S hK hE => ⟨true, S, hK.wk, hE.sel [0, 1, 2], Option.some.inj hG⟩
 ·rintro a w ⟨v_5, hJ⟩; refine hJ.go fun ho_ => ?_
  clear hJ; subst ho_; replace hG := hG_4; rcases ifB_cases hG with ⟨h_6, hG⟩ | ⟨h_6, hG⟩
  ·refine sb 19 (bt h_6) ?_; refine ct ?_; refine sq ?_; refine rg ?_; refine ra [] f0 [(4, B false)] ?_; refine tN ?_; refine kR ?_; refine tR ?_; obtain rfl := Option.some.inj hG; exact rt []
  ·refine sb 19 (bf h_6) ?_; refine cf ?_; refine kS ?_; refine tN ?_; refine sq ?_; replace hG := bind_some hG; obtain ⟨v_7o, hy_7, hG⟩ := hG; replace hG := bind_some hG; obtain ⟨⟨v_8, v_9⟩, hy_8, hG⟩ := hG; refine rg ?_; refine rn 3 [(0, 2, 2, 0), (1, 1, 1, 1)] f0 [(21, .agg #[I p_0.ID, .slice p_0.Entries_A p_0.Entries.length p_0.Entries_c]), (23, I p_1.Size)] ?_; refine l1 ?_; refine cn 24 (z_regulatorref25_Values F p_0 p_1.Size _ hy_7) hT (fun _ => (mr tr_mv m0)) ⟨(((gd' (RowC p_0.Entries_A p_0.Entries_c KEntry.cells tr p_0.Entries) 0)).m fun _ _ h => ⟨h⟩), trivial⟩ ?_; rintro ⟨v_7_A, v_7_c, v_7⟩ hq_7; obtain rfl : v_7 = v_7o := hq_7.symm; refine l1 ?_; refine cl 25 (z_regulatorref24_Root F v_7_A v_7_c v_7 _ hy_8) hT ⟨ga 0, trivial⟩ ?_; refine ra [] f0 [(5, U v_8)] ?_; refine tN ?_; refine sq ?_; refine rg ?_; refine ra [(2, 1, 2, 2)] f0 [(4, B (v_8 == p_1.Root))] ?_; refine tN ?_; refine kR ?_; obtain rfl := Option.some.inj hG; exact rt []
end Go.Proofs.YtiijddjfiojfaaaGreatDoor
namespace Go.Proofs.YtiijddjfiojfaaaGreatDoor
open Go.RowKit Go.Maps
def G_office_Right (F : Nat) (p_0 : Int) (p_1 : KHead) : Option (Bool × Int) :=
 Option.bind (Option.bind (G_office_isPublic F p_0) (fun v_2 =>
  ifB (v_2)
   (Option.bind (G_office_formed F p_1) (fun v_4 =>
   some (!v_4)))
   (some true)) : Option (Bool)) (fun (v_6 : Bool) =>
  ifB (v_6)
   (some (false, 1))
   (Option.bind (G_office_message F p_1) (fun v_8 =>
   Option.bind (G_group_Verify F p_0 p_1.Sig v_8) (un2 fun v_9 v_10 =>
   some (v_9, v_10)))))
set_option maxRecDepth 100000 in
set_option maxHeartbeats 16000000 in
theorem z_office_Right (F : Nat) (p_0 : Int) (p_1 : KHead) (r : Bool × Int) (hG : G_office_Right F p_0 p_1 = some r) :
  Cf Tryz.prog 52 [I p_0, .agg #[I p_1.Office, I p_1.Size, U p_1.Root, I p_1.Sig.C, I p_1.Sig.S]] [] (.tuple #[B r.1, I r.2]) := by
 unfold G_office_Right at hG; refine fi Tryz.func52 rfl rfl m0 fun S0 w0 hT => ?_
 refine sq ?_; refine rg ?_; refine l1 ?_; refine nw 3 vp [I p_1.Office, I p_1.Size, U p_1.Root, I p_1.Sig.C, I p_1.Sig.S] 29 fun g_1 => ?_
 refine ra [] f0 [] ?_; refine tN ?_; refine sq ?_; obtain ⟨o_5, hG, hG_5⟩ := bind_some hG; refine jn (fun K E a w => ∃ (v_6 : Bool), Js S0 w0 22 ([(13, B v_6)] ++ K) (se E [0]) (v_6 = o_5) a w) ?_ ?_
 ·replace hG := bind_some hG; obtain ⟨v_2, hy_2, hG⟩ := hG; replace hG := ifB_cases hG; rcases hG with ⟨h_3, hG⟩ | ⟨h_3, hG⟩
  ·replace hG := bind_some hG; obtain ⟨v_4, hy_4, hG⟩ := hG; refine rg ?_; refine rn 1 [] f0 [(6, I p_0)] ?_; refine l1 ?_; refine cl 7 (z_office_isPublic F p_0 _ hy_2) hT trivial ?_; refine rn 2 [] f0 [(9, B (!v_2))] ?_; refine sb 9 (nt h_3) ?_; refine rn 1 [(0, 5, 0, 0)] f0 [(10, .agg #[I p_1.Office, I p_1.Size, U p_1.Root, I p_1.Sig.C, I p_1.Sig.S])] ?_; refine l1 ?_; refine cl 11 (z_office_formed F p_1 _ hy_4) hT trivial ?_; refine ra [] f0 [(13, B (!v_4))] ?_; refine tN ?_; exact fun a w S hK hE => ⟨!v_4, S, hK.wk, hE.sel [0], Option.some.inj hG⟩
  ·refine rg ?_; refine rn 1 [] f0 [(6, I p_0)] ?_; refine l1 ?_; refine cl 7 (z_office_isPublic F p_0 _ hy_2) hT trivial ?_; refine rn 2 [] f0 [(9, B (!v_2))] ?_; refine sb 9 (nf h_3) ?_; refine ra [] f0 [(13, B true)] ?_; refine tN ?_; exact fun a w S hK hE => ⟨true, S, hK.wk, hE.sel [0], Option.some.inj hG⟩
 ·rintro a w ⟨v_6, hJ⟩; refine hJ.go fun ho_ => ?_
  clear hJ; subst ho_; replace hG := hG_5; rcases ifB_cases hG with ⟨h_7, hG⟩ | ⟨h_7, hG⟩
  ·refine sb 13 (bt h_7) ?_; refine ct ?_; refine sq ?_; refine rg ?_; refine ra [] f0 [(4, B false), (5, I 1)] ?_; refine tN ?_; refine kR ?_; refine tR ?_; obtain rfl := Option.some.inj hG; exact rt []
  ·refine sb 13 (bf h_7) ?_; refine cf ?_; refine kS ?_; refine tN ?_; refine sq ?_; replace hG := bind_some hG; obtain ⟨v_8o, hy_8, hG⟩ := hG; replace hG := bind_some hG; obtain ⟨⟨v_9, v_10⟩, hy_9, hG⟩ := hG; refine hb [0] ?_; refine ht [0] [0, 1, 2, 3] [(2, 2, 0, 3), (0, 5, 0, 0)] f0 [(14, I p_0), (16, .agg #[I p_1.Sig.C, I p_1.Sig.S]), (17, .agg #[I p_1.Office, I p_1.Size, U p_1.Root, I p_1.Sig.C, I p_1.Sig.S])] ?_; refine ho [4] ⟨?_, trivial⟩; refine h1 ?_; refine cn 18 (z_office_message F p_1 _ hy_8) hT (fun _ => (mr tr_mv m0)) trivial ?_; rintro ⟨v_8_A, v_8_c, v_8⟩ hq_8; obtain rfl : v_8 = v_8o := hq_8.symm; refine hk [1] ?_; refine ho [5] ⟨?_, trivial⟩; refine h1 ?_; refine cl 19 (z_group_Verify F p_0 p_1.Sig v_8_A v_8_c v_8 _ hy_9) hT ⟨ga 0, trivial⟩ ?_; refine hk [1] ?_; refine ht [1] [6, 7, 8, 9] [] f0 [(4, B v_9), (5, I v_10)] ?_; refine he ?_; refine tN ?_; refine kR ?_; obtain rfl := Option.some.inj hG; exact rt []
def G_cross_has (F : Nat) (p_0 : KOffice) (p_1 : KHead) : Option (Bool) :=
  Option.bind (ifB ((p_1.Office == p_0.ID))
      (some (decide (p_1.Size > ((p_0.Entries.length : Nat) : Int))))
      (some true) : Option (Bool)) (fun (v_5 : Bool) => 
    ifB (v_5)
      (some false)
      (Option.bind (G_cross_values F p_0 p_1.Size) (fun v_7 =>
      Option.bind (G_tree_Root F v_7) (un2 fun v_8 v_9 =>
      Option.bind (ifB ((v_9 == 0))
          (some (v_8 == p_1.Root))
          (some false) : Option (Bool)) (fun (v_12 : Bool) => 
        some v_12)))))
set_option maxRecDepth 100000 in
set_option maxHeartbeats 16000000 in
theorem z_cross_has (F : Nat) (p_0 : KOfficeL) (p_1 : KHead) (r : Bool) (hG : G_cross_has F p_0.p p_1 = some r) :
  Cf Tryz.prog 23 [.agg #[I p_0.ID, .slice p_0.Entries_A p_0.Entries.length p_0.Entries_c], .agg #[I p_1.Office, I p_1.Size, U p_1.Root, I p_1.Sig.C, I p_1.Sig.S]] [KOfficeL.ok p_0] (B r) := by
 unfold G_cross_has at hG; refine fi Tryz.func23 rfl rfl (mc KOfficeL.mv m0) fun S0 w0 hT => ?_
 refine sq ?_; refine rg ?_; refine l1 ?_; refine nw 2 vp [I p_0.ID, .slice p_0.Entries_A p_0.Entries.length p_0.Entries_c] 24 fun g_1 => ?_
 refine l1 ?_; refine nw 3 vp [I p_1.Office, I p_1.Size, U p_1.Root, I p_1.Sig.C, I p_1.Sig.S] 29 fun g_2 => ?_
 refine ra [] f0 [] ?_; refine tN ?_; refine sq ?_; obtain ⟨o_4, hG, hG_4⟩ := bind_some hG; refine jn (fun K E a w => ∃ (v_5 : Bool), Js S0 w0 36 ([(19, B v_5)] ++ K) ([.dat (RowC p_0.Entries_A p_0.Entries_c KEntry.cells tr p_0.Entries)] ++ se E [0, 1]) (v_5 = o_4) a w) ?_ ?_
 ·replace hG := ifB_cases hG; rcases hG with ⟨h_3, hG⟩ | ⟨h_3, hG⟩
  ·refine rg ?_; refine rn 6 [(1, 1, 0, 0), (1, 1, 1, 0)] f0 [(12, B (!(p_1.Office == p_0.ID)))] ?_; refine sb 12 (nt h_3) ?_; refine ra [(1, 1, 0, 1), (1, 1, 1, 1)] f0 [(19, B (decide (p_1.Size > ((p_0.Entries.length : Nat) : Int))))] ?_; refine tN ?_; refine fm (RowC p_0.Entries_A p_0.Entries_c KEntry.cells tr p_0.Entries) (gm (KOfficeL.ok p_0) 2 fun _ _ h => h.f_Entries) ?_; exact fun a w S hK hE => ⟨decide (p_1.Size > ((p_0.Entries.length : Nat) : Int)), S, hK.wk, hE.sel [0, 1, 2], Option.some.inj hG⟩
  ·refine rg ?_; refine rn 6 [(1, 1, 0, 0), (1, 1, 1, 0)] f0 [(12, B (!(p_1.Office == p_0.ID)))] ?_; refine sb 12 (nf h_3) ?_; refine ra [] f0 [(19, B true)] ?_; refine tN ?_; refine fm (RowC p_0.Entries_A p_0.Entries_c KEntry.cells tr p_0.Entries) (gm (KOfficeL.ok p_0) 2 fun _ _ h => h.f_Entries) ?_; exact fun a w S hK hE => ⟨true, S, hK.wk, hE.sel [0, 1, 2], Option.some.inj hG⟩
 ·rintro a w ⟨v_5, hJ⟩; refine hJ.go fun ho_ => ?_
  clear hJ; subst ho_; replace hG := hG_4; rcases ifB_cases hG with ⟨h_6, hG⟩ | ⟨h_6, hG⟩
  ·refine sb 19 (bt h_6) ?_; refine ct ?_; refine sq ?_; refine rg ?_; refine ra [] f0 [(4, B false)] ?_; refine tN ?_; refine kR ?_; refine tR ?_; obtain rfl := Option.some.inj hG; exact rt []
  ·refine sb 19 (bf h_6) ?_; refine cf ?_; refine kS ?_; refine tN ?_; refine sq ?_; replace hG := bind_some hG; obtain ⟨v_7o, hy_7, hG⟩ := hG; replace hG := bind_some hG; obtain ⟨⟨v_8, v_9⟩, hy_8, hG⟩ := hG; refine rg ?_; refine rn 3 [(0, 2, 2, 0), (1, 1, 1, 1)] f0 [(21, .agg #[I p_0.ID, .slice p_0.Entries_A p_0.Entries.length p_0.Entries_c]), (23, I p_1.Size)] ?_; refine l1 ?_; refine cn 24 (z_cross_values F p_0 p_1.Size _ hy_7) hT (fun _ => (mr tr_mv m0)) ⟨(((gd' (RowC p_0.Entries_A p_0.Entries_c KEntry.cells tr p_0.Entries) 0)).m fun _ _ h => ⟨h⟩), trivial⟩ ?_; rintro ⟨v_7_A, v_7_c, v_7⟩ hq_7; obtain rfl : v_7 = v_7o := hq_7.symm; refine l1 ?_; refine cl 25 (z_tree_Root F v_7_A v_7_c v_7 _ hy_8) hT ⟨ga 0, trivial⟩ ?_; refine ra [] f0 [(5, U v_8), (6, I v_9)] ?_; refine tN ?_; obtain ⟨o_11, hG, hG_11⟩ := bind_some hG; refine jn (fun K E a w => ∃ (v_12 : Bool), Js S0 w0 36 ([(4, B v_12)] ++ K) (se E []) (v_12 = o_11) a w) ?_ ?_
   ·replace hG := ifB_cases hG; rcases hG with ⟨h_10, hG⟩ | ⟨h_10, hG⟩
    ·refine rg ?_; refine rn 3 [] f0 [(30, B (v_9 == 0))] ?_; refine sb 30 (bt h_10) ?_; refine ra [(2, 1, 2, 2)] f0 [(4, B (v_8 == p_1.Root))] ?_; refine tN ?_; exact fun a w S hK hE => ⟨(v_8 == p_1.Root), S, hK.wk, hE.sel [], Option.some.inj hG⟩
    ·refine rg ?_; refine rn 3 [] f0 [(30, B (v_9 == 0))] ?_; refine sb 30 (bf h_10) ?_; refine ra [] f0 [(4, B false)] ?_; refine tN ?_; exact fun a w S hK hE => ⟨false, S, hK.wk, hE.sel [], Option.some.inj hG⟩
   ·rintro a w ⟨v_12, hJ⟩; refine hJ.go fun ho_ => ?_
    clear hJ; subst ho_; replace hG := hG_11; refine kR ?_; obtain rfl := Option.some.inj hG; exact rt []
def G_office_Prove (F : Nat) (p_0 : KOffice) (p_1 : KHead) (p_2 : Int) : Option (KReceipt × Int) :=
  Option.bind (Option.bind (G_office_Valid F p_0) (fun v_4 =>
    ifB (v_4)
      (Option.bind (G_office_formed F p_1) (fun v_6 =>
      ifB (v_6)
        (ifB (decide (p_1.Size > ((p_0.Entries.length : Nat) : Int)))
          (some true)
          (Option.bind (G_office_between F p_2 0 (IntKind.i64.wrap (p_1.Size - 1))) (fun v_9 =>
          some (!v_9))))
        (some true)))
      (some true)) : Option (Bool)) (fun (v_11 : Bool) => 
    ifB (v_11)
      (some ((⟨(⟨0, 0, 0, (⟨0, 0⟩ : KSig)⟩ : KHead), 0, (⟨0, (⟨0, 0⟩ : KInterval)⟩ : KEntry), ([] : List Int)⟩ : KReceipt), 1))
      (Option.bind (G_office_root F p_0 p_1.Size) (un2 fun v_13 v_14 =>
      Option.bind (ifB ((v_14 == 0))
          (ifB ((p_1.Office == p_0.ID))
            (some (!(v_13 == p_1.Root)))
            (some true))
          (some true) : Option (Bool)) (fun (v_18 : Bool) => 
        ifB (v_18)
          (some ((⟨(⟨0, 0, 0, (⟨0, 0⟩ : KSig)⟩ : KHead), 0, (⟨0, (⟨0, 0⟩ : KInterval)⟩ : KEntry), ([] : List Int)⟩ : KReceipt), 33))
          (Option.bind (slI p_0.Entries 0 p_1.Size) (fun v_20 =>
          Option.bind (Option.bind (Option.bind (iter (σ := Int × (List Int)) (ρ := (List Int)) (un2 fun (v_41 : Int) (v_42 : (List Int)) => 
                  (ifB (decide (v_41 < ((v_20.length : Nat) : Int)))
                    (Option.bind (ixI v_20 v_41) (fun v_47 =>
                    Option.bind (G_office_Leaf F v_47) (fun v_51 =>
                    Option.bind (apG 8 v_42 ([v_51] : List Int)) (fun v_53 =>
                    some (.inl (IntKind.i64.wrap (v_41 + 1), v_53))))))
                    (some (.inr v_42)) : Option ((Int × (List Int)) ⊕ (List Int)))) F (0, ([] : List Int))) (fun (v_54 : (List Int)) => 
                some v_54) : Option ((List Int))) (fun (v_58 : (List Int)) => 
              some v_58) : Option ((List Int))) (fun (v_61 : (List Int)) => 
            Option.bind (G_tree_Include F v_61 p_2) (un2 fun v_65 v_66 =>
            ifB ((v_66 == 0))
              (Option.bind (ixI p_0.Entries p_2) (fun v_108 =>
              some ((⟨p_1, p_2, v_108, v_65⟩ : KReceipt), 0)))
              (some ((⟨(⟨0, 0, 0, (⟨0, 0⟩ : KSig)⟩ : KHead), 0, (⟨0, (⟨0, 0⟩ : KInterval)⟩ : KEntry), ([] : List Int)⟩ : KReceipt), v_66))))))))))
set_option maxRecDepth 100000 in
set_option maxHeartbeats 16000000 in
theorem z_office_Prove (F : Nat) (p_0 : KOfficeL) (p_1 : KHead) (p_2 : Int) (r : KReceipt × Int) (hG : G_office_Prove F p_0.p p_1 p_2 = some r) :
  Cn Tryz.prog 28 [.agg #[I p_0.ID, .slice p_0.Entries_A p_0.Entries.length p_0.Entries_c], .agg #[I p_1.Office, I p_1.Size, U p_1.Root, I p_1.Sig.C, I p_1.Sig.S], I p_2] [KOfficeL.ok p_0] (fun q : KReceiptL => r.1 = q.p) (fun q => .tuple #[.agg #[I q.Head.Office, I q.Head.Size, U q.Head.Root, I q.Head.Sig.C, I q.Head.Sig.S, I q.Index, U q.Entry.Doc, I q.Entry.Stamp.Lo, I q.Entry.Stamp.Hi, .slice q.Path_A q.Path.length q.Path_c], I r.2]) (fun q => [KReceiptL.ok q]) := by
 unfold G_office_Prove at hG; refine fin Tryz.func28 rfl rfl (mc KOfficeL.mv m0) fun S0 w0 hT => ?_
 refine sq ?_; refine rg ?_; refine l1 ?_; refine nw 3 vp [I p_0.ID, .slice p_0.Entries_A p_0.Entries.length p_0.Entries_c] 24 fun g_1 => ?_
 refine l1 ?_; refine nw 4 vp [I p_1.Office, I p_1.Size, U p_1.Root, I p_1.Sig.C, I p_1.Sig.S] 29 fun g_2 => ?_
 refine l1 ?_; refine nw 6 vp [I 0, I 0, U 0, I 0, I 0, I 0, U 0, I 0, I 0, .slice none 0 0] 36 fun g_3 => ?_
 refine ra [] f0 [] ?_; refine tN ?_; refine sq ?_; obtain ⟨o_10, hG, hG_10⟩ := bind_some hG; refine jn (fun K E a w => ∃ (v_11 : Bool), Js S0 w0 84 ([(35, B v_11)] ++ K) ([.dat (RowC p_0.Entries_A p_0.Entries_c KEntry.cells tr p_0.Entries)] ++ se E [0, 1, 2]) (v_11 = o_10) a w) ?_ ?_
 ·replace hG := bind_some hG; obtain ⟨v_4, hy_4, hG⟩ := hG; replace hG := ifB_cases hG; rcases hG with ⟨h_5, hG⟩ | ⟨h_5, hG⟩
  ·replace hG := bind_some hG; obtain ⟨v_6, hy_6, hG⟩ := hG; replace hG := ifB_cases hG; rcases hG with ⟨h_7, hG⟩ | ⟨h_7, hG⟩
   ·replace hG := ifB_cases hG; rcases hG with ⟨h_8, hG⟩ | ⟨h_8, hG⟩
    ·refine rg ?_; refine rn 1 [(0, 2, 2, 0)] f0 [(12, .agg #[I p_0.ID, .slice p_0.Entries_A p_0.Entries.length p_0.Entries_c])] ?_; refine l1 ?_; refine cl 13 (z_office_Valid F p_0 _ hy_4) hT ⟨(gi 3).a, trivial⟩ ?_; refine rn 2 [] f0 [(15, B (!v_4))] ?_; refine sb 15 (nt h_5) ?_; refine rn 1 [(0, 5, 1, 0)] f0 [(16, .agg #[I p_1.Office, I p_1.Size, U p_1.Root, I p_1.Sig.C, I p_1.Sig.S])] ?_; refine l1 ?_; refine cl 17 (z_office_formed F p_1 _ hy_6) hT trivial ?_; refine rn 3 [] f0 [(20, B (!v_6))] ?_; refine sb 20 (nt h_7) ?_; refine rn 8 [(1, 1, 1, 1), (1, 1, 2, 1)] f0 [(28, B (decide (p_1.Size > ((p_0.Entries.length : Nat) : Int))))] ?_; refine sb 28 (bt h_8) ?_; refine ra [] f0 [(35, B true)] ?_; refine tN ?_; refine fm (RowC p_0.Entries_A p_0.Entries_c KEntry.cells tr p_0.Entries) (gm (KOfficeL.ok p_0) 3 fun _ _ h => h.f_Entries) ?_; exact fun a w S hK hE => ⟨true, S, hK.wk, hE.sel [0, 1, 2, 3], Option.some.inj hG⟩
    ·replace hG := bind_some hG; obtain ⟨v_9, hy_9, hG⟩ := hG; refine rg ?_; refine rn 1 [(0, 2, 2, 0)] f0 [(12, .agg #[I p_0.ID, .slice p_0.Entries_A p_0.Entries.length p_0.Entries_c])] ?_; refine l1 ?_; refine cl 13 (z_office_Valid F p_0 _ hy_4) hT ⟨(gi 3).a, trivial⟩ ?_; refine rn 2 [] f0 [(15, B (!v_4))] ?_; refine sb 15 (nt h_5) ?_; refine rn 1 [(0, 5, 1, 0)] f0 [(16, .agg #[I p_1.Office, I p_1.Size, U p_1.Root, I p_1.Sig.C, I p_1.Sig.S])] ?_; refine l1 ?_; refine cl 17 (z_office_formed F p_1 _ hy_6) hT trivial ?_; refine rn 3 [] f0 [(20, B (!v_6))] ?_; refine sb 20 (nt h_7) ?_; refine rn 8 [(1, 1, 1, 1), (1, 1, 2, 1)] f0 [(28, B (decide (p_1.Size > ((p_0.Entries.length : Nat) : Int))))] ?_; refine sb 28 (bf h_8) ?_; refine rn 4 [(2, 1, 1, 1)] f0 [(29, I p_2), (32, I (IntKind.i64.wrap (p_1.Size - 1)))] ?_; refine l1 ?_; refine cl 33 (z_office_between F p_2 0 (IntKind.i64.wrap (p_1.Size - 1)) _ hy_9) hT trivial ?_; refine ra [] f0 [(35, B (!v_9))] ?_; refine tN ?_; refine fm (RowC p_0.Entries_A p_0.Entries_c KEntry.cells tr p_0.Entries) (gm (KOfficeL.ok p_0) 3 fun _ _ h => h.f_Entries) ?_; exact fun a w S hK hE => ⟨!v_9, S, hK.wk, hE.sel [0, 1, 2, 3], Option.some.inj hG⟩
   ·refine rg ?_; refine rn 1 [(0, 2, 2, 0)] f0 [(12, .agg #[I p_0.ID, .slice p_0.Entries_A p_0.Entries.length p_0.Entries_c])] ?_; refine l1 ?_; refine cl 13 (z_office_Valid F p_0 _ hy_4) hT ⟨(gi 3).a, trivial⟩ ?_; refine rn 2 [] f0 [(15, B (!v_4))] ?_; refine sb 15 (nt h_5) ?_; refine rn 1 [(0, 5, 1, 0)] f0 [(16, .agg #[I p_1.Office, I p_1.Size, U p_1.Root, I p_1.Sig.C, I p_1.Sig.S])] ?_; refine l1 ?_; refine cl 17 (z_office_formed F p_1 _ hy_6) hT trivial ?_; refine rn 3 [] f0 [(20, B (!v_6))] ?_; refine sb 20 (nf h_7) ?_; refine ra [] f0 [(35, B true)] ?_; refine tN ?_; refine fm (RowC p_0.Entries_A p_0.Entries_c KEntry.cells tr p_0.Entries) (gm (KOfficeL.ok p_0) 3 fun _ _ h => h.f_Entries) ?_; exact fun a w S hK hE => ⟨true, S, hK.wk, hE.sel [0, 1, 2, 3], Option.some.inj hG⟩
  ·refine rg ?_; refine rn 1 [(0, 2, 2, 0)] f0 [(12, .agg #[I p_0.ID, .slice p_0.Entries_A p_0.Entries.length p_0.Entries_c])] ?_; refine l1 ?_; refine cl 13 (z_office_Valid F p_0 _ hy_4) hT ⟨(gi 3).a, trivial⟩ ?_; refine rn 2 [] f0 [(15, B (!v_4))] ?_; refine sb 15 (nf h_5) ?_; refine ra [] f0 [(35, B true)] ?_; refine tN ?_; refine fm (RowC p_0.Entries_A p_0.Entries_c KEntry.cells tr p_0.Entries) (gm (KOfficeL.ok p_0) 3 fun _ _ h => h.f_Entries) ?_; exact fun a w S hK hE => ⟨true, S, hK.wk, hE.sel [0, 1, 2, 3], Option.some.inj hG⟩
 ·rintro a w ⟨v_11, hJ⟩; refine hJ.go fun ho_ => ?_
  clear hJ; subst ho_; replace hG := hG_10; rcases ifB_cases hG with ⟨h_12, hG⟩ | ⟨h_12, hG⟩
  ·refine sb 35 (bt h_12) ?_; refine ct ?_; refine sq ?_; refine rg ?_; refine rn 1 [] f0 [(36, .agg #[I 0, I 0, U 0, I 0, I 0, I 0, U 0, I 0, I 0, .slice none 0 0])] ?_; refine l1 ?_; refine sr 1 g_3 [(0, I 0), (1, I 0), (2, U 0), (3, I 0), (4, I 0), (5, I 0), (6, U 0), (7, I 0), (8, I 0), (9, .slice none 0 0)] ?_; refine ra [] f0 [(7, I 1)] ?_; refine tN ?_; refine kR ?_; refine tR ?_; obtain rfl := Option.some.inj hG; exact rtn [(1, 0, 10)] (⟨(⟨0, 0, 0, (⟨0, 0⟩ : KSig)⟩ : KHead), 0, (⟨0, (⟨0, 0⟩ : KInterval)⟩ : KEntry), none, 0, ([] : List Int)⟩ : KReceiptL) rfl ⟨(((gn : Fd _ (RowC none 0 c_u64 tr ([] : List Int)))).m fun _ _ h => ⟨h⟩), trivial⟩
  ·refine sb 35 (bf h_12) ?_; refine cf ?_; refine kS ?_; refine tN ?_; refine sq ?_; refine sq ?_; replace hG := bind_some hG; obtain ⟨⟨v_13, v_14⟩, hy_13, hG⟩ := hG; refine rg ?_; refine rn 3 [(0, 2, 3, 0), (1, 1, 2, 1)] f0 [(38, .agg #[I p_0.ID, .slice p_0.Entries_A p_0.Entries.length p_0.Entries_c]), (40, I p_1.Size)] ?_; refine l1 ?_; refine cl 41 (z_office_root F p_0 p_1.Size _ hy_13) hT ⟨(((gd' (RowC p_0.Entries_A p_0.Entries_c KEntry.cells tr p_0.Entries) 0)).m fun _ _ h => ⟨h⟩).a, trivial⟩ ?_; refine ra [] f0 [(8, U v_13), (9, I v_14)] ?_; refine tN ?_; obtain ⟨o_17, hG, hG_17⟩ := bind_some hG; refine jn (fun K E a w => ∃ (v_18 : Bool), Js S0 w0 84 ([(58, B v_18)] ++ K) (se E [0, 1, 2, 3]) (v_18 = o_17) a w) ?_ ?_
   ·replace hG := ifB_cases hG; rcases hG with ⟨h_15, hG⟩ | ⟨h_15, hG⟩
    ·replace hG := ifB_cases hG; rcases hG with ⟨h_16, hG⟩ | ⟨h_16, hG⟩
     ·refine rg ?_; refine rn 3 [] f0 [(46, B (!(v_14 == 0)))] ?_; refine sb 46 (nt h_15) ?_; refine rn 7 [(1, 1, 2, 0), (1, 1, 3, 0)] f0 [(53, B (!(p_1.Office == p_0.ID)))] ?_; refine sb 53 (nt h_16) ?_; refine ra [(2, 1, 2, 2)] f0 [(58, B (!(v_13 == p_1.Root)))] ?_; refine tN ?_; exact fun a w S hK hE => ⟨!(v_13 == p_1.Root), S, hK.wk, hE.sel [0, 1, 2, 3], Option.some.inj hG⟩
     ·refine rg ?_; refine rn 3 [] f0 [(46, B (!(v_14 == 0)))] ?_; refine sb 46 (nt h_15) ?_; refine rn 7 [(1, 1, 2, 0), (1, 1, 3, 0)] f0 [(53, B (!(p_1.Office == p_0.ID)))] ?_; refine sb 53 (nf h_16) ?_; refine ra [] f0 [(58, B true)] ?_; refine tN ?_; exact fun a w S hK hE => ⟨true, S, hK.wk, hE.sel [0, 1, 2, 3], Option.some.inj hG⟩
    ·refine rg ?_; refine rn 3 [] f0 [(46, B (!(v_14 == 0)))] ?_; refine sb 46 (nf h_15) ?_; refine ra [] f0 [(58, B true)] ?_; refine tN ?_; exact fun a w S hK hE => ⟨true, S, hK.wk, hE.sel [0, 1, 2, 3], Option.some.inj hG⟩
   ·rintro a w ⟨v_18, hJ⟩; refine hJ.go fun ho_ => ?_
    clear hJ; subst ho_; replace hG := hG_17; rcases ifB_cases hG with ⟨h_19, hG⟩ | ⟨h_19, hG⟩
    ·refine sb 58 (bt h_19) ?_; refine ct ?_; refine sq ?_; refine rg ?_; refine rn 1 [] f0 [(59, .agg #[I 0, I 0, U 0, I 0, I 0, I 0, U 0, I 0, I 0, .slice none 0 0])] ?_; refine l1 ?_; refine sr 1 g_3 [(0, I 0), (1, I 0), (2, U 0), (3, I 0), (4, I 0), (5, I 0), (6, U 0), (7, I 0), (8, I 0), (9, .slice none 0 0)] ?_; refine ra [] f0 [(7, I 33)] ?_; refine tN ?_; refine kR ?_; refine tR ?_; obtain rfl := Option.some.inj hG; exact rtn [(1, 0, 10)] (⟨(⟨0, 0, 0, (⟨0, 0⟩ : KSig)⟩ : KHead), 0, (⟨0, (⟨0, 0⟩ : KInterval)⟩ : KEntry), none, 0, ([] : List Int)⟩ : KReceiptL) rfl ⟨(((gn : Fd _ (RowC none 0 c_u64 tr ([] : List Int)))).m fun _ _ h => ⟨h⟩), trivial⟩
    ·refine sb 58 (bf h_19) ?_; refine cf ?_; refine kS ?_; refine tN ?_; refine sq ?_; replace hG := bind_some hG; obtain ⟨v_20, hy_20, hG⟩ := hG; replace hG := bind_some hG; obtain ⟨v_61o, hy_64, hG⟩ := hG; replace hG := bind_some hG; obtain ⟨⟨v_65o, v_66⟩, hy_65, hG⟩ := hG; refine rg ?_; refine fp false true inf22 (gd' (RowC p_0.Entries_A p_0.Entries_c KEntry.cells tr p_0.Entries) 0) hy_20 fun v_20_A v_20_c hp_20 => ?_
     refine rn 5 [(1, 1, 4, 1), (1, 1, 3, 1), (0, 0, 0, 0)] (fc (hp_20 .i64 .i64) f0) [(65, .slice v_20_A v_20.length v_20_c)] ?_; refine l1 ?_; refine ci 66 (args := [.slice v_20_A v_20.length v_20_c, .func (.func 70) #[] #[]]) (fun E e w => ∃ (v_61 : List Int), ∃ (v_62_A : Option Addr), ∃ (v_63_c : Nat), Rs S0 w0 (.slice v_62_A v_61.length v_63_c) ([.own 25 1 (.slice v_62_A v_61.length v_63_c) v_61.length (v_61.flatMap c_u64)] ++ se E [0, 1, 2, 3, 4]) (v_61 = v_61o) e w) Tryz.func73 rfl rfl ?_ ?_
     ·replace hG := hy_64; refine sq ?_; refine rg ?_; refine ra [] f0 [] ?_; refine tN ?_; refine sq ?_; refine rg ?_; refine ra [] f0 [(5, .slice none 0 0)] ?_; refine tN ?_; obtain ⟨o_103, hG, hG_103⟩ := bind_some hG; refine jn (fun K E a w => ∃ (v_104 : List Int), ∃ (v_105_A : Option Addr), ∃ (v_106_c : Nat), Js S0 w0 22 ([(5, .slice v_105_A v_104.length v_106_c)] ++ K) ([.own 25 1 (.slice v_105_A v_104.length v_106_c) v_104.length (v_104.flatMap c_u64)] ++ se E [0, 1, 2, 3, 4]) (v_104 = o_103) a w) ?_ ?_
      ·refine sq ?_; refine rg ?_; refine ra [] f0 [(8, .slice v_20_A v_20.length v_20_c), (9, I ((v_20.length : Nat) : Int)), (10, I 0)] ?_; refine tN ?_; refine bk ?_; obtain ⟨e_91, hL, hG_91⟩ := bind_some hG; clear hG; obtain ⟨stp_91, hs_91, hL⟩ := iter_gen hL; refine lp (fun K E n_ a w => ∃ (v_87 : Int), ∃ (v_88 : List Int), ∃ (v_89_A : Option Addr), ∃ (v_90_c : Nat), Js S0 w0 22 ([(5, .slice v_89_A v_88.length v_90_c), (10, I v_87)] ++ K) ([.own 25 1 (.slice v_89_A v_88.length v_90_c) v_88.length (v_88.flatMap c_u64)] ++ se E [0, 1, 2, 3, 4]) (iter stp_91 n_ (v_87, v_88) = some e_91) a w) F ?_ ?_
       ·refine on 25 1 ?_; exact fun a w S hK hE => ⟨0, ([] : List Int), none, 0, S, hK.wk, hE.sel [0, 1, 2, 3, 4, 5], hL⟩
       ·clear hL; rintro n_91 a w ⟨v_87, v_88, v_89_A, v_90_c, hJ⟩; refine hJ.go fun hL => ?_
        clear hJ; obtain ⟨m_91, o_91, rfl, hG, hO1_91, hO2_91⟩ := iter_step hL; clear hL; rw [hs_91] at hG; refine sq ?_; refine rg ?_; refine ra [] f0 [(11, B (decide (v_87 < ((v_20.length : Nat) : Int))))] ?_; refine tN ?_; refine sq ?_; rcases ifB_cases hG with ⟨h_92, hG⟩ | ⟨h_92, hG⟩
        ·refine sb 11 (bt h_92) ?_; refine ct ?_; refine kS ?_; refine tN ?_; refine sq ?_; refine bk ?_; refine sq ?_; replace hG := bind_some hG; obtain ⟨v_93, hy_93, hG⟩ := hG; refine rg ?_; refine fx inf22 (gd' (RowC v_20_A v_20_c KEntry.cells tr v_20) 1) hy_93 fun b_94 o_95 hi_93 => ?_
         refine rn 2 [(0, 0, 0, 0), (0, 3, 0, 0)] (fc (hi_93 .i64) f0) [(13, .agg #[U v_93.Doc, I v_93.Stamp.Lo, I v_93.Stamp.Hi])] ?_; refine l1 ?_; refine nw 7 vp [U 0, I 0, I 0] 34 fun g_96 => ?_
         refine l1 ?_; refine sr 0 g_96 [(0, U v_93.Doc), (1, I v_93.Stamp.Lo), (2, I v_93.Stamp.Hi)] ?_; refine nl ?_; refine tN ?_; replace hG := bind_some hG; obtain ⟨v_97, hy_97, hG⟩ := hG; replace hG := bind_some hG; obtain ⟨v_99, hy_99, hG⟩ := hG; refine rg ?_; refine rn 3 [(2, 3, 0, 0)] f0 [(14, .slice v_89_A v_88.length v_90_c), (15, .func (.func 70) #[] #[]), (16, .agg #[U v_93.Doc, I v_93.Stamp.Lo, I v_93.Stamp.Hi])] ?_; refine l1 ?_; refine cl 17 (z_office_Leaf F v_93 _ hy_97) hT trivial ?_; refine l1 ?_; refine nw 18 (vs 1) [U v_97] 25 fun g_98 => ?_
         refine l1 ?_; refine ap 3 19 v_89_A v_90_c v_88 ([v_97] : List Int) inf30 (bA (f := c_u64) (ok := tr) (l := ([v_97] : List Int)) g_98 0 et.a) hy_99 one_u64 fun v_99_A v_99_c _ => ?_
         refine ra [] f0 [(5, .slice v_99_A v_99.length v_99_c)] ?_; refine hN ?_; refine tN ?_; refine rg ?_; refine ra [] f0 [(10, I (IntKind.i64.wrap (v_87 + 1)))] ?_; refine tN ?_; exact fun a w S hK hE => ⟨m_91, ⟨IntKind.i64.wrap (v_87 + 1), v_99, v_99_A, v_99_c, S, hK.wk, hE.sel [3, 4, 5, 6, 7, 8], hO1_91 _ (Option.some.inj hG).symm⟩, Nat.lt_succ_self _⟩
        ·refine sb 11 (bf h_92) ?_; refine cf ?_; refine kX ?_; refine tX ?_; refine tX ?_; have he_ := hO2_91 _ (Option.some.inj hG).symm; subst he_; replace hG := hG_91; refine hH ?_; refine tN ?_; exact fun a w S hK hE => ⟨v_88, v_89_A, v_90_c, S, hK.wk, hE.sel [0, 1, 2, 3, 4, 5], Option.some.inj hG⟩
      ·rintro a w ⟨v_104, v_105_A, v_106_c, hJ⟩; refine hJ.go fun ho_ => ?_
       clear hJ; subst ho_; replace hG := hG_103; refine sq ?_; refine rg ?_; refine ra [] f0 [(4, .slice v_105_A v_104.length v_106_c)] ?_; refine tN ?_; refine kR ?_; refine ri [] (.slice v_105_A v_104.length v_106_c) ?_; exact fun a w S hK hE => ⟨v_104, v_105_A, v_106_c, rfl, ⟨S, hE.sel [0, 1, 2, 3, 4, 5]⟩, Option.some.inj hG⟩
     ·rintro e w ⟨v_61, v_62_A, v_63_c, hJ⟩; refine hJ.go fun ho_ => ?_
      clear hJ; subst ho_; refine rn 1 [] f0 [(67, I p_2)] ?_; refine so (A := v_62_A) (c := v_63_c) 0 c_u64 tr v_61 tr_mv et ?_; refine l1 ?_; refine cn 68 (z_tree_Include F v_62_A v_63_c v_61 p_2 _ hy_65) hT (fun _ => (mr tr_mv m0)) ⟨gi 0, trivial⟩ ?_; rintro ⟨v_65_A, v_65_c, v_65⟩ hq_65; obtain rfl : v_65 = v_65o := hq_65.symm; refine ra [] f0 [(10, .slice v_65_A v_65.length v_65_c), (11, I v_66)] ?_; refine tN ?_; refine sq ?_; refine sq ?_; refine rg ?_; refine ra [] f0 [(72, B (!(v_66 == 0)))] ?_; refine tN ?_; rcases ifB_cases hG with ⟨h_107, hG⟩ | ⟨h_107, hG⟩
      ·refine sb 72 (nt h_107) ?_; refine cf ?_; refine kS ?_; refine tN ?_; refine sq ?_; replace hG := bind_some hG; obtain ⟨v_108, hy_108, hG⟩ := hG; refine fx inf22 (gd' (RowC p_0.Entries_A p_0.Entries_c KEntry.cells tr p_0.Entries) 3) hy_108 fun b_109 o_110 hi_108 => ?_
       refine hb [0, 1, 2, 3, 4, 6, 7] ?_; refine ht [0, 1, 2, 3, 4, 6, 7] [0, 1, 2, 3, 4, 5, 6, 7, 8] [(0, 5, 5, 0), (2, 1, 6, 1), (1, 0, 0, 0), (0, 3, 0, 0)] (fc (hi_108 .i64) f0) [(83, .agg #[I p_1.Office, I p_1.Size, U p_1.Root, I p_1.Sig.C, I p_1.Sig.S, I p_2, U v_108.Doc, I v_108.Stamp.Lo, I v_108.Stamp.Hi, .slice v_65_A v_65.length v_65_c])] ?_; refine ho [9] ⟨?_, trivial⟩; refine h1 ?_; refine sr 5 g_3 [(0, I p_1.Office), (1, I p_1.Size), (2, U p_1.Root), (3, I p_1.Sig.C), (4, I p_1.Sig.S), (5, I p_2), (6, U v_108.Doc), (7, I v_108.Stamp.Lo), (8, I v_108.Stamp.Hi), (9, .slice v_65_A v_65.length v_65_c)] ?_; refine hk [0, 1, 2, 3, 4, 6, 7] ?_; refine ht [0, 1, 2, 3, 4, 6, 7] [10] [] f0 [(7, I 0)] ?_; refine he ?_; refine tN ?_; refine kR ?_; obtain rfl := Option.some.inj hG; exact rtn [(5, 0, 10)] (⟨p_1, p_2, v_108, v_65_A, v_65_c, v_65⟩ : KReceiptL) rfl ⟨(((gd' (RowC v_65_A v_65_c c_u64 tr v_65) 1)).m fun _ _ h => ⟨h⟩), trivial⟩
      ·refine sb 72 (nf h_107) ?_; refine ct ?_; refine sq ?_; refine rg ?_; refine rn 2 [] f0 [(73, .agg #[I 0, I 0, U 0, I 0, I 0, I 0, U 0, I 0, I 0, .slice none 0 0]), (74, I v_66)] ?_; refine l1 ?_; refine sr 4 g_3 [(0, I 0), (1, I 0), (2, U 0), (3, I 0), (4, I 0), (5, I 0), (6, U 0), (7, I 0), (8, I 0), (9, .slice none 0 0)] ?_; refine ra [] f0 [(7, I v_66)] ?_; refine tN ?_; refine kR ?_; refine tR ?_; obtain rfl := Option.some.inj hG; exact rtn [(4, 0, 10)] (⟨(⟨0, 0, 0, (⟨0, 0⟩ : KSig)⟩ : KHead), 0, (⟨0, (⟨0, 0⟩ : KInterval)⟩ : KEntry), none, 0, ([] : List Int)⟩ : KReceiptL) rfl ⟨(((gn : Fd _ (RowC none 0 c_u64 tr ([] : List Int)))).m fun _ _ h => ⟨h⟩), trivial⟩
def G_office_Sign (F : Nat) (p_0 : KOffice) (p_1 : Int) (p_2 : Int) (p_3 : Int) : Option (KHead × Int) :=
 Option.bind (Option.bind (G_office_Valid F p_0) (fun v_3 =>
  ifB (v_3)
   (Option.bind (G_office_between F p_1 1 ((p_0.Entries.length : Nat) : Int)) (fun v_5 =>
   some (!v_5, p_3)))
   (some (true, p_3))) : Option ((Bool × Int))) (un2 fun (v_7 : Bool) (v_8 : Int) =>
  ifB (v_7)
   (some ((⟨0, 0, 0, (⟨0, 0⟩ : KSig)⟩ : KHead), 1))
   (Option.bind (G_office_root F p_0 p_1) (un2 fun v_10 v_11 =>
   ifB ((v_11 == 0))
    (Option.bind (G_office_message F (⟨p_0.ID, p_1, v_10, (⟨0, 0⟩ : KSig)⟩ : KHead)) (fun v_14 =>
    Option.bind (G_group_Sign F p_2 v_8 v_14) (un2 fun v_15 v_16 =>
    ifB ((v_16 == 0))
     (some ((⟨p_0.ID, p_1, v_10, v_15⟩ : KHead), 0))
     (some ((⟨0, 0, 0, (⟨0, 0⟩ : KSig)⟩ : KHead), v_16)))))
    (some ((⟨0, 0, 0, (⟨0, 0⟩ : KSig)⟩ : KHead), v_11)))))
set_option maxRecDepth 100000 in
set_option maxHeartbeats 16000000 in
theorem z_office_Sign (F : Nat) (p_0 : KOfficeL) (p_1 : Int) (p_2 : Int) (p_3 : Int) (r : KHead × Int) (hG : G_office_Sign F p_0.p p_1 p_2 p_3 = some r) :
  Cf Tryz.prog 15 [.agg #[I p_0.ID, .slice p_0.Entries_A p_0.Entries.length p_0.Entries_c], I p_1, I p_2, I p_3] [KOfficeL.ok p_0] (.tuple #[.agg #[I r.1.Office, I r.1.Size, U r.1.Root, I r.1.Sig.C, I r.1.Sig.S], I r.2]) := by
 unfold G_office_Sign at hG; refine fi Tryz.func15 rfl rfl (mc KOfficeL.mv m0) fun S0 w0 hT => ?_
 refine sq ?_; refine rg ?_; refine l1 ?_; refine nw 4 vp [I p_0.ID, .slice p_0.Entries_A p_0.Entries.length p_0.Entries_c] 24 fun g_1 => ?_
 refine l1 ?_; refine nw 8 vp [I 0, I 0, U 0, I 0, I 0] 29 fun g_2 => ?_
 refine ra [] f0 [] ?_; refine tN ?_; refine sq ?_; obtain ⟨o_6, hG, hG_6⟩ := bind_some hG; refine jn (fun K E a w => ∃ (v_7 : Bool), ∃ (v_8 : Int), Js S0 w0 56 ([(3, I v_8), (24, B v_7)] ++ K) ([.dat (RowC p_0.Entries_A p_0.Entries_c KEntry.cells tr p_0.Entries)] ++ se E [0, 1]) ((v_7, v_8) = o_6) a w) ?_ ?_
 ·replace hG := bind_some hG; obtain ⟨v_3, hy_3, hG⟩ := hG; replace hG := ifB_cases hG; rcases hG with ⟨h_4, hG⟩ | ⟨h_4, hG⟩
  ·replace hG := bind_some hG; obtain ⟨v_5, hy_5, hG⟩ := hG; refine rg ?_; refine rn 1 [(0, 2, 1, 0)] f0 [(14, .agg #[I p_0.ID, .slice p_0.Entries_A p_0.Entries.length p_0.Entries_c])] ?_; refine l1 ?_; refine cl 15 (z_office_Valid F p_0 _ hy_3) hT ⟨(gi 2).a, trivial⟩ ?_; refine rn 2 [] f0 [(17, B (!v_3))] ?_; refine sb 17 (nt h_4) ?_; refine rn 4 [(2, 1, 1, 1)] f0 [(18, I p_1), (21, I ((p_0.Entries.length : Nat) : Int))] ?_; refine l1 ?_; refine cl 22 (z_office_between F p_1 1 ((p_0.Entries.length : Nat) : Int) _ hy_5) hT trivial ?_; refine ra [] f0 [(24, B (!v_5))] ?_; refine tN ?_; refine fm (RowC p_0.Entries_A p_0.Entries_c KEntry.cells tr p_0.Entries) (gm (KOfficeL.ok p_0) 2 fun _ _ h => h.f_Entries) ?_; exact fun a w S hK hE => ⟨!v_5, p_3, S, hK.wk, hE.sel [0, 1, 2], Option.some.inj hG⟩
  ·refine rg ?_; refine rn 1 [(0, 2, 1, 0)] f0 [(14, .agg #[I p_0.ID, .slice p_0.Entries_A p_0.Entries.length p_0.Entries_c])] ?_; refine l1 ?_; refine cl 15 (z_office_Valid F p_0 _ hy_3) hT ⟨(gi 2).a, trivial⟩ ?_; refine rn 2 [] f0 [(17, B (!v_3))] ?_; refine sb 17 (nf h_4) ?_; refine ra [] f0 [(24, B true)] ?_; refine tN ?_; refine fm (RowC p_0.Entries_A p_0.Entries_c KEntry.cells tr p_0.Entries) (gm (KOfficeL.ok p_0) 2 fun _ _ h => h.f_Entries) ?_; exact fun a w S hK hE => ⟨true, p_3, S, hK.wk, hE.sel [0, 1, 2], Option.some.inj hG⟩
 ·rintro a w ⟨v_7, v_8, hJ⟩; refine hJ.go fun ho_ => ?_
  clear hJ; subst ho_; replace hG := hG_6; rcases ifB_cases hG with ⟨h_9, hG⟩ | ⟨h_9, hG⟩
  ·refine sb 24 (bt h_9) ?_; refine ct ?_; refine sq ?_; refine rg ?_; refine rn 1 [] f0 [(25, .agg #[I 0, I 0, U 0, I 0, I 0])] ?_; refine l1 ?_; refine sr 1 g_2 [(0, I 0), (1, I 0), (2, U 0), (3, I 0), (4, I 0)] ?_; refine ra [] f0 [(9, I 1)] ?_; refine tN ?_; refine kR ?_; refine tR ?_; obtain rfl := Option.some.inj hG; exact rt [(1, 0, 5)]
  ·refine sb 24 (bf h_9) ?_; refine cf ?_; refine kS ?_; refine tN ?_; refine sq ?_; replace hG := bind_some hG; obtain ⟨⟨v_10, v_11⟩, hy_10, hG⟩ := hG; refine rg ?_; refine rn 2 [(0, 2, 2, 0)] f0 [(27, .agg #[I p_0.ID, .slice p_0.Entries_A p_0.Entries.length p_0.Entries_c]), (28, I p_1)] ?_; refine l1 ?_; refine cl 29 (z_office_root F p_0 p_1 _ hy_10) hT ⟨(((gd' (RowC p_0.Entries_A p_0.Entries_c KEntry.cells tr p_0.Entries) 0)).m fun _ _ h => ⟨h⟩).a, trivial⟩ ?_; refine ra [] f0 [(10, U v_10), (11, I v_11)] ?_; refine tN ?_; refine sq ?_; refine sq ?_; refine rg ?_; refine ra [] f0 [(33, B (!(v_11 == 0)))] ?_; refine tN ?_; rcases ifB_cases hG with ⟨h_12, hG⟩ | ⟨h_12, hG⟩
   ·refine sb 33 (nt h_12) ?_; refine cf ?_; refine kS ?_; refine tN ?_; refine sq ?_; refine rg ?_; refine rn 5 [(1, 1, 2, 0)] f0 [(40, .agg #[I p_0.ID, I p_1, U v_10, I 0, I 0])] ?_; refine l1 ?_; refine nw 12 vp [I 0, I 0, U 0, I 0, I 0] 29 fun g_13 => ?_
    refine l1 ?_; refine sr 0 g_13 [(0, I p_0.ID), (1, I p_1), (2, U v_10), (3, I 0), (4, I 0)] ?_; refine nl ?_; refine tN ?_; refine sq ?_; replace hG := bind_some hG; obtain ⟨v_14o, hy_14, hG⟩ := hG; replace hG := bind_some hG; obtain ⟨⟨v_15, v_16⟩, hy_15, hG⟩ := hG; refine rg ?_; refine rn 3 [(2, 5, 0, 0)] f0 [(42, I p_2), (43, I v_8), (44, .agg #[I p_0.ID, I p_1, U v_10, I 0, I 0])] ?_; refine l1 ?_; refine cn 45 (z_office_message F (⟨p_0.ID, p_1, v_10, (⟨0, 0⟩ : KSig)⟩ : KHead) _ hy_14) hT (fun _ => (mr tr_mv m0)) trivial ?_; rintro ⟨v_14_A, v_14_c, v_14⟩ hq_14; obtain rfl : v_14 = v_14o := hq_14.symm; refine l1 ?_; refine cl 46 (z_group_Sign F p_2 v_8 v_14_A v_14_c v_14 _ hy_15) hT ⟨ga 0, trivial⟩ ?_; refine rn 3 [] f0 [(47, .agg #[I v_15.C, I v_15.S]), (48, I v_16)] ?_; refine l1 ?_; refine nw 13 vp [I 0, I 0] 27 fun g_17 => ?_
    refine l1 ?_; refine sr 0 g_17 [(0, I v_15.C), (1, I v_15.S)] ?_; refine ra [] f0 [(11, I v_16)] ?_; refine tN ?_; refine sq ?_; refine sq ?_; refine rg ?_; refine ra [] f0 [(50, B (!(v_16 == 0)))] ?_; refine tN ?_; rcases ifB_cases hG with ⟨h_18, hG⟩ | ⟨h_18, hG⟩
    ·refine sb 50 (nt h_18) ?_; refine cf ?_; refine kS ?_; refine tN ?_; refine sq ?_; refine rg ?_; refine rn 2 [(0, 2, 0, 0)] f0 [(53, .agg #[I v_15.C, I v_15.S]), (54, Pt g_13 3)] ?_; refine l1 ?_; refine sr 2 g_13 [(3, I v_15.C), (4, I v_15.S)] ?_; refine nl ?_; refine tN ?_; refine sq ?_; refine rg ?_; refine rn 1 [(0, 5, 2, 0)] f0 [(55, .agg #[I p_0.ID, I p_1, U v_10, I v_15.C, I v_15.S])] ?_; refine l1 ?_; refine sr 4 g_2 [(0, I p_0.ID), (1, I p_1), (2, U v_10), (3, I v_15.C), (4, I v_15.S)] ?_; refine ra [] f0 [(9, I 0)] ?_; refine tN ?_; refine kR ?_; obtain rfl := Option.some.inj hG; exact rt [(4, 0, 5)]
    ·refine sb 50 (nf h_18) ?_; refine ct ?_; refine sq ?_; refine rg ?_; refine rn 2 [] f0 [(51, .agg #[I 0, I 0, U 0, I 0, I 0]), (52, I v_16)] ?_; refine l1 ?_; refine sr 4 g_2 [(0, I 0), (1, I 0), (2, U 0), (3, I 0), (4, I 0)] ?_; refine ra [] f0 [(9, I v_16)] ?_; refine tN ?_; refine kR ?_; refine tR ?_; obtain rfl := Option.some.inj hG; exact rt [(4, 0, 5)]
   ·refine sb 33 (nf h_12) ?_; refine ct ?_; refine sq ?_; refine rg ?_; refine rn 2 [] f0 [(34, .agg #[I 0, I 0, U 0, I 0, I 0]), (35, I v_11)] ?_; refine l1 ?_; refine sr 1 g_2 [(0, I 0), (1, I 0), (2, U 0), (3, I 0), (4, I 0)] ?_; refine ra [] f0 [(9, I v_11)] ?_; refine tN ?_; refine kR ?_; refine tR ?_; obtain rfl := Option.some.inj hG; exact rt [(1, 0, 5)]
def G_regulatorref25_Right (F : Nat) (p_0 : Int) (p_1 : KHead) : Option (Bool × Int) :=
  Option.bind (G_regulatorref25_Public F p_0) (fun v_2 =>
  Option.bind (G_regulatorref25_Form F p_1) (fun v_3 =>
  Option.bind (ifB (v_2)
      (some (!v_3))
      (some true) : Option (Bool)) (fun (v_6 : Bool) => 
    ifB (v_6)
      (some (false, 1))
      (Option.bind (G_regulatorref25_Message F p_1) (fun v_8 =>
      Option.bind (G_regulatorref06_Verify F p_0 p_1.Sig v_8) (un2 fun v_9 v_10 =>
      some (v_9, 0)))))))
set_option maxRecDepth 100000 in
set_option maxHeartbeats 16000000 in
theorem z_regulatorref25_Right (F : Nat) (p_0 : Int) (p_1 : KHead) (r : Bool × Int) (hG : G_regulatorref25_Right F p_0 p_1 = some r) :
  Cf Tryz.prog 54 [I p_0, .agg #[I p_1.Office, I p_1.Size, U p_1.Root, I p_1.Sig.C, I p_1.Sig.S]] [] (.tuple #[B r.1, I r.2]) := by
 unfold G_regulatorref25_Right at hG; refine fi Tryz.func54 rfl rfl m0 fun S0 w0 hT => ?_
 refine sq ?_; refine rg ?_; refine l1 ?_; refine nw 3 vp [I p_1.Office, I p_1.Size, U p_1.Root, I p_1.Sig.C, I p_1.Sig.S] 29 fun g_1 => ?_
 refine ra [] f0 [] ?_; refine tN ?_; refine sq ?_; replace hG := bind_some hG; obtain ⟨v_2, hy_2, hG⟩ := hG; refine rg ?_; refine rn 1 [] f0 [(10, I p_0)] ?_; refine l1 ?_; refine cl 11 (z_regulatorref25_Public F p_0 _ hy_2) hT trivial ?_; refine ra [] f0 [(6, B v_2)] ?_; refine tN ?_; refine sq ?_; replace hG := bind_some hG; obtain ⟨v_3, hy_3, hG⟩ := hG; refine rg ?_; refine rn 1 [(0, 5, 0, 0)] f0 [(12, .agg #[I p_1.Office, I p_1.Size, U p_1.Root, I p_1.Sig.C, I p_1.Sig.S])] ?_; refine l1 ?_; refine cl 13 (z_regulatorref25_Form F p_1 _ hy_3) hT trivial ?_; refine ra [] f0 [(7, B v_3)] ?_; refine tN ?_; refine sq ?_; obtain ⟨o_5, hG, hG_5⟩ := bind_some hG; refine jn (fun K E a w => ∃ (v_6 : Bool), Js S0 w0 30 ([(19, B v_6)] ++ K) (se E [0]) (v_6 = o_5) a w) ?_ ?_
 ·replace hG := ifB_cases hG; rcases hG with ⟨h_4, hG⟩ | ⟨h_4, hG⟩
  ·refine rg ?_; refine rn 3 [] f0 [(16, B (!v_2))] ?_; refine sb 16 (nt h_4) ?_; refine ra [] f0 [(19, B (!v_3))] ?_; refine tN ?_; exact fun a w S hK hE => ⟨!v_3, S, hK.wk, hE.sel [0], Option.some.inj hG⟩
  ·refine rg ?_; refine rn 3 [] f0 [(16, B (!v_2))] ?_; refine sb 16 (nf h_4) ?_; refine ra [] f0 [(19, B true)] ?_; refine tN ?_; exact fun a w S hK hE => ⟨true, S, hK.wk, hE.sel [0], Option.some.inj hG⟩
 ·rintro a w ⟨v_6, hJ⟩; refine hJ.go fun ho_ => ?_
  clear hJ; subst ho_; replace hG := hG_5; rcases ifB_cases hG with ⟨h_7, hG⟩ | ⟨h_7, hG⟩
  ·refine sb 19 (bt h_7) ?_; refine ct ?_; refine sq ?_; refine rg ?_; refine ra [] f0 [(4, B false), (5, I 1)] ?_; refine tN ?_; refine kR ?_; refine tR ?_; obtain rfl := Option.some.inj hG; exact rt []
  ·refine sb 19 (bf h_7) ?_; refine cf ?_; refine kS ?_; refine tN ?_; refine sq ?_; replace hG := bind_some hG; obtain ⟨v_8o, hy_8, hG⟩ := hG; replace hG := bind_some hG; obtain ⟨⟨v_9, v_10⟩, hy_9, hG⟩ := hG; refine hb [0] ?_; refine ht [0] [0, 1, 2, 3] [(2, 2, 0, 3), (0, 5, 0, 0)] f0 [(21, I p_0), (23, .agg #[I p_1.Sig.C, I p_1.Sig.S]), (24, .agg #[I p_1.Office, I p_1.Size, U p_1.Root, I p_1.Sig.C, I p_1.Sig.S])] ?_; refine ho [4] ⟨?_, trivial⟩; refine h1 ?_; refine cn 25 (z_regulatorref25_Message F p_1 _ hy_8) hT (fun _ => (mr tr_mv m0)) trivial ?_; rintro ⟨v_8_A, v_8_c, v_8⟩ hq_8; obtain rfl : v_8 = v_8o := hq_8.symm; refine hk [1] ?_; refine ho [5] ⟨?_, trivial⟩; refine h1 ?_; refine cl 26 (z_regulatorref06_Verify F p_0 p_1.Sig v_8_A v_8_c v_8 _ hy_9) hT ⟨ga 0, trivial⟩ ?_; refine hk [1] ?_; refine ht [1] [6, 7, 8, 9, 10] [] f0 [(8, B v_9)] ?_; refine he ?_; refine tN ?_; refine sq ?_; refine rg ?_; refine ra [] f0 [(4, B v_9), (5, I 0)] ?_; refine tN ?_; refine kR ?_; obtain rfl := Option.some.inj hG; exact rt []
def G_regulatorref26_Hop (F : Nat) (p_0 : KHop) : Option (Bool) :=
  Option.bind (G_regulatorref25_Form F p_0.Of) (fun v_2 =>
  Option.bind (G_regulatorref25_Receipt F p_0.By) (fun v_3 =>
  Option.bind (ifB (v_2)
      (ifB (v_3)
        (some (decide (((p_0.Grow.length : Nat) : Int) ≤ 20)))
        (some false))
      (some false) : Option (Bool)) (fun (v_7 : Bool) => 
    some v_7)))
set_option maxRecDepth 100000 in
set_option maxHeartbeats 16000000 in
theorem z_regulatorref26_Hop (F : Nat) (p_0 : KHopL) (r : Bool) (hG : G_regulatorref26_Hop F p_0.p = some r) :
  Cf Tryz.prog 48 [.agg #[I p_0.Of.Office, I p_0.Of.Size, U p_0.Of.Root, I p_0.Of.Sig.C, I p_0.Of.Sig.S, .slice p_0.Grow_A p_0.Grow.length p_0.Grow_c, I p_0.By.Head.Office, I p_0.By.Head.Size, U p_0.By.Head.Root, I p_0.By.Head.Sig.C, I p_0.By.Head.Sig.S, I p_0.By.Index, U p_0.By.Entry.Doc, I p_0.By.Entry.Stamp.Lo, I p_0.By.Entry.Stamp.Hi, .slice p_0.By.Path_A p_0.By.Path.length p_0.By.Path_c]] [KHopL.ok p_0] (B r) := by
 unfold G_regulatorref26_Hop at hG; refine fi Tryz.func48 rfl rfl (mc KHopL.mv m0) fun S0 w0 hT => ?_
 refine sq ?_; refine rg ?_; refine l1 ?_; refine nw 1 vp [I p_0.Of.Office, I p_0.Of.Size, U p_0.Of.Root, I p_0.Of.Sig.C, I p_0.Of.Sig.S, .slice p_0.Grow_A p_0.Grow.length p_0.Grow_c, I p_0.By.Head.Office, I p_0.By.Head.Size, U p_0.By.Head.Root, I p_0.By.Head.Sig.C, I p_0.By.Head.Sig.S, I p_0.By.Index, U p_0.By.Entry.Doc, I p_0.By.Entry.Stamp.Lo, I p_0.By.Entry.Stamp.Hi, .slice p_0.By.Path_A p_0.By.Path.length p_0.By.Path_c] 38 fun g_1 => ?_
 refine ra [] f0 [] ?_; refine tN ?_; refine sq ?_; replace hG := bind_some hG; obtain ⟨v_2, hy_2, hG⟩ := hG; refine rg ?_; refine rn 2 [(1, 5, 0, 0)] f0 [(6, .agg #[I p_0.Of.Office, I p_0.Of.Size, U p_0.Of.Root, I p_0.Of.Sig.C, I p_0.Of.Sig.S])] ?_; refine l1 ?_; refine cl 7 (z_regulatorref25_Form F p_0.Of _ hy_2) hT trivial ?_; refine ra [] f0 [(3, B v_2)] ?_; refine tN ?_; refine sq ?_; replace hG := bind_some hG; obtain ⟨v_3, hy_3, hG⟩ := hG; refine rg ?_; refine rn 2 [(1, 10, 0, 6)] f0 [(9, .agg #[I p_0.By.Head.Office, I p_0.By.Head.Size, U p_0.By.Head.Root, I p_0.By.Head.Sig.C, I p_0.By.Head.Sig.S, I p_0.By.Index, U p_0.By.Entry.Doc, I p_0.By.Entry.Stamp.Lo, I p_0.By.Entry.Stamp.Hi, .slice p_0.By.Path_A p_0.By.Path.length p_0.By.Path_c])] ?_; refine l1 ?_; refine cl 10 (z_regulatorref25_Receipt F p_0.By _ hy_3) hT ⟨(gm (KHopL.ok p_0) 1 fun _ _ h => h.b_By).a, trivial⟩ ?_; refine ra [] f0 [(4, B v_3)] ?_; refine tN ?_; obtain ⟨o_6, hG, hG_6⟩ := bind_some hG; refine jn (fun K E a w => ∃ (v_7 : Bool), Js S0 w0 21 ([(2, B v_7)] ++ K) (se E []) (v_7 = o_6) a w) ?_ ?_
 ·replace hG := ifB_cases hG; rcases hG with ⟨h_4, hG⟩ | ⟨h_4, hG⟩
  ·replace hG := ifB_cases hG; rcases hG with ⟨h_5, hG⟩ | ⟨h_5, hG⟩
   ·refine rg ?_; refine rn 2 [] f0 [(12, B v_2)] ?_; refine sb 12 (bt h_4) ?_; refine rn 3 [] f0 [(15, B v_3)] ?_; refine sb 15 (bt h_5) ?_; refine ra [(1, 1, 0, 5)] f0 [(2, B (decide (((p_0.Grow.length : Nat) : Int) ≤ 20)))] ?_; refine tN ?_; exact fun a w S hK hE => ⟨decide (((p_0.Grow.length : Nat) : Int) ≤ 20), S, hK.wk, hE.sel [], Option.some.inj hG⟩
   ·refine rg ?_; refine rn 2 [] f0 [(12, B v_2)] ?_; refine sb 12 (bt h_4) ?_; refine rn 3 [] f0 [(15, B v_3)] ?_; refine sb 15 (bf h_5) ?_; refine ra [] f0 [(2, B false)] ?_; refine tN ?_; exact fun a w S hK hE => ⟨false, S, hK.wk, hE.sel [], Option.some.inj hG⟩
  ·refine rg ?_; refine rn 2 [] f0 [(12, B v_2)] ?_; refine sb 12 (bf h_4) ?_; refine ra [] f0 [(2, B false)] ?_; refine tN ?_; exact fun a w S hK hE => ⟨false, S, hK.wk, hE.sel [], Option.some.inj hG⟩
 ·rintro a w ⟨v_7, hJ⟩; refine hJ.go fun ho_ => ?_
  clear hJ; subst ho_; replace hG := hG_6; refine kR ?_; obtain rfl := Option.some.inj hG; exact rt []
def G_regulatorref26_Pubs (F : Nat) (p_0 : List Int) : Option (Bool) :=
  Option.bind (Option.bind (iter (σ := Int) (ρ := Unit ⊕ Unit) (fun (v_24 : Int) => 
        (ifB (decide (v_24 < ((p_0.length : Nat) : Int)))
          (Option.bind (Option.bind (ixI p_0 v_24) (fun v_27 =>
            ifB ((v_27 == 0))
              (some (.inl ()))
              (Option.bind (ixI p_0 v_24) (fun v_31 =>
              Option.bind (G_regulatorref25_Public F v_31) (fun v_34 =>
              ifB (v_34)
                (some (.inl ()))
                (some (.inr ())))))) : Option (Unit ⊕ Unit)) (Sum.elim (fun (_ : Unit) => 
            some (.inl (IntKind.i64.wrap (v_24 + 1)))) (fun (_ : Unit) => 
            some (.inr (.inr ())))))
          (some (.inr (.inl ()))) : Option (Int ⊕ (Unit ⊕ Unit)))) F 0) (Sum.elim (fun (_ : Unit) => 
      some (.inl ())) (fun (_ : Unit) => 
      some (.inr ()))) : Option (Unit ⊕ Unit)) (Sum.elim (fun (_ : Unit) => 
    some (decide (((p_0.length : Nat) : Int) ≤ 16))) (fun (_ : Unit) => 
    some false))
set_option maxRecDepth 100000 in
set_option maxHeartbeats 16000000 in
theorem z_regulatorref26_Pubs (F : Nat) (p_0_A : Option Addr) (p_0_c : Nat) (p_0 : List Int) (r : Bool) (hG : G_regulatorref26_Pubs F p_0 = some r) :
  Cf Tryz.prog 47 [.slice p_0_A p_0.length p_0_c] [RowC p_0_A p_0_c c_i64 tr p_0] (B r) := by
 unfold G_regulatorref26_Pubs at hG; refine fi Tryz.func47 rfl rfl (mr tr_mv m0) fun S0 w0 hT => ?_
 refine sq ?_; refine rg ?_; refine ra [] f0 [] ?_; refine tN ?_; obtain ⟨o_37, hG, hG_37⟩ := bind_some hG; refine jn (fun K E a w => Js S0 w0 26 (K) (se E [0]) (.inl () = o_37) a w) ?_ ?_
 ·refine sq ?_; refine rg ?_; refine ra [] f0 [(3, I 0)] ?_; refine tN ?_; refine bk ?_; obtain ⟨e_25, hL, hG_25⟩ := bind_some hG; clear hG; obtain ⟨stp_25, hs_25, hL⟩ := iter_gen hL; refine lp (fun K E n_ a w => ∃ (v_24 : Int), Js S0 w0 26 ([(3, I v_24)] ++ K) (se E [0]) (iter stp_25 n_ v_24 = some e_25) a w) F ?_ ?_
  ·exact fun a w S hK hE => ⟨0, S, hK.wk, hE.sel [0], hL⟩
  ·clear hL; rintro n_25 a w ⟨v_24, hJ⟩; refine hJ.go fun hL => ?_
   clear hJ; obtain ⟨m_25, o_25, rfl, hG, hO1_25, hO2_25⟩ := iter_step hL; clear hL; rw [hs_25] at hG; refine sq ?_; refine sq ?_; refine rg ?_; refine ra [] f0 [(8, B (decide (v_24 < ((p_0.length : Nat) : Int))))] ?_; refine tN ?_; rcases ifB_cases hG with ⟨h_26, hG⟩ | ⟨h_26, hG⟩
   ·refine sb 8 (bt h_26) ?_; refine ct ?_; refine kS ?_; refine tN ?_; obtain ⟨o_36, hG, hG_36⟩ := bind_some hG; refine jn (fun K E a w => Js S0 w0 26 (K) (se E [0]) (.inl () = o_36) a w) ?_ ?_
    ·refine bk ?_; refine sq ?_; replace hG := bind_some hG; obtain ⟨v_27, hy_27, hG⟩ := hG; refine rg ?_; refine fx inf39 (gd' (RowC p_0_A p_0_c c_i64 tr p_0) 0) hy_27 fun b_28 o_29 hi_27 => ?_
     refine ra [(2, 0, 0, 0), (0, 1, 0, 0)] (fc (hi_27 .i64) f0) [(15, B (!(v_27 == 0)))] ?_; refine tN ?_; rcases ifB_cases hG with ⟨h_30, hG⟩ | ⟨h_30, hG⟩
     ·refine sb 15 (nt h_30) ?_; refine cf ?_; refine kS ?_; refine hN ?_; refine tN ?_; exact fun a w S hK hE => ⟨S, hK.wk, hE.sel [1], Option.some.inj hG⟩
     ·refine sb 15 (nf h_30) ?_; refine ct ?_; refine sq ?_; replace hG := bind_some hG; obtain ⟨v_31, hy_31, hG⟩ := hG; replace hG := bind_some hG; obtain ⟨v_34, hy_34, hG⟩ := hG; refine rg ?_; refine fx inf39 (gd' (RowC p_0_A p_0_c c_i64 tr p_0) 1) hy_31 fun b_32 o_33 hi_31 => ?_
      refine rn 4 [(2, 0, 0, 0), (0, 1, 0, 0)] (fc (hi_31 .i64) f0) [(19, I v_31)] ?_; refine l1 ?_; refine cl 20 (z_regulatorref25_Public F v_31 _ hy_34) hT trivial ?_; refine ra [] f0 [(4, B v_34)] ?_; refine tN ?_; refine sq ?_; refine rg ?_; refine ra [] f0 [(22, B (!v_34))] ?_; refine tN ?_; rcases ifB_cases hG with ⟨h_35, hG⟩ | ⟨h_35, hG⟩
      ·refine sb 22 (nt h_35) ?_; refine cf ?_; refine kS ?_; refine hN ?_; refine tN ?_; exact fun a w S hK hE => ⟨S, hK.wk, hE.sel [2], Option.some.inj hG⟩
      ·refine sb 22 (nf h_35) ?_; refine ct ?_; refine sq ?_; refine rg ?_; refine ra [] f0 [(2, B false)] ?_; refine tN ?_; refine kR ?_; refine hR ?_; refine tR ?_; obtain rfl := Option.some.inj hG; replace hG := hG_36; refine tR ?_; have he_ := hO2_25 _ (Option.some.inj hG).symm; subst he_; replace hG := hG_25; refine hR ?_; refine tR ?_; obtain rfl := Option.some.inj hG; replace hG := hG_37; obtain rfl := Option.some.inj hG; exact rt []
    ·rintro a w hJ; refine hJ.go fun ho_ => ?_
     clear hJ; subst ho_; replace hG := hG_36; refine rg ?_; refine ra [] f0 [(3, I (IntKind.i64.wrap (v_24 + 1)))] ?_; refine tN ?_; exact fun a w S hK hE => ⟨m_25, ⟨IntKind.i64.wrap (v_24 + 1), S, hK.wk, hE.sel [0], hO1_25 _ (Option.some.inj hG).symm⟩, Nat.lt_succ_self _⟩
   ·refine sb 8 (bf h_26) ?_; refine cf ?_; refine kX ?_; refine tX ?_; refine tX ?_; have he_ := hO2_25 _ (Option.some.inj hG).symm; subst he_; replace hG := hG_25; refine hH ?_; refine tN ?_; exact fun a w S hK hE => ⟨S, hK.wk, hE.sel [0], Option.some.inj hG⟩
 ·rintro a w hJ; refine hJ.go fun ho_ => ?_
  clear hJ; subst ho_; replace hG := hG_37; refine sq ?_; refine rg ?_; refine ra [] f0 [(2, B (decide (((p_0.length : Nat) : Int) ≤ 16)))] ?_; refine tN ?_; refine kR ?_; obtain rfl := Option.some.inj hG; exact rt []
end Go.Proofs.YtiijddjfiojfaaaGreatDoor
