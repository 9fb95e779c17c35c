import Derived.Test.YtggaodokkcoagaaGreatDoorCards
import Derived.Test.YtggaodokkcoagaaGreatDoorTie
import Derived.Deep.DeepHandedRow
import Derived.LaidMore
import Derived.Test.YtggaodokkcoagaaGreatDoorL66
import Derived.Test.YtggaodokkcoagaaGreatDoorL67
set_option linter.unusedSimpArgs false
set_option linter.unusedVariables false
set_option maxRecDepth 100000
set_option maxHeartbeats 16000000
namespace Go.Proofs.YtggaodokkcoagaaGreatDoor.orderTime
open Go.ChangeShapes Go.WideShapes Go.ChangeAt Go.RowKit Go.Deep
theorem contract (H : Type) (enc : TypeId × Value → H) (W : World) (base : Nat) (args : Array Value) (ds gs : List (DataW H)) (before : List MemPlace) (hT : Tb W)
  (hval0 : ∀ (j : Nat) t v, Tryz.f8.params[j]? = some t → args[j]? = some v → Value.okWide Tryz.prog W .any base t v)
  (hW : DataW.Whole enc Tryz.prog Tryz.f8.params.toList Rows.orderTimeSpec.vars false W args.toList ds gs before) :
  Calls Tryz.prog 8 args W fun e W' => ∃ v, e = .returned v ∧ Rows.orderTimeSpec.post enc Tryz.prog Tryz.f8 false true false false W args v W' := by
 have hval : ∀ (j : Nat) t v, Tryz.f8.params[j]? = some t → args[j]? = some v → Value.okWide Tryz.prog W .any base t v := hval0; have hW' := hW; obtain ⟨p, q, hA0, hV, rfl, hfz, hnd⟩ := hW; have hA : DataW.TrodAll enc Tryz.prog W 0 (fun _ => true) true Tryz.f8.params.toList args.toList ds p := hA0; rw [Tryz.params8] at hA hval; obtain ⟨v0, vs0, d0, ds0, p0, q0, hargs, rfl, rfl, h0, r0⟩ := trodAll_cons hA; obtain ⟨v1, vs1, d1, ds1, p1, q1, rfl, rfl, rfl, h1, r1⟩ := trodAll_cons r0; obtain ⟨v2, vs2, d2, ds2, p2, q2, rfl, rfl, rfl, h2, r2⟩ := trodAll_cons r1; obtain ⟨v3, vs3, d3, ds3, p3, q3, rfl, rfl, rfl, h3, r3⟩ := trodAll_cons r2; obtain ⟨rfl, rfl, rfl⟩ := trodAll_nil r3; obtain rfl : args = #[v0, v1, v2, v3] := by cases args; simp_all
 obtain ⟨rfl, rfl⟩ := trodVars_none hV; obtain ⟨A0, c0, x0, rfl, s0, z0⟩ := opn_Sl_regulatorlaw27_Act (hval 0 _ v0 rfl rfl) h0; obtain ⟨x1, rfl, z1⟩ := opn_uint64 (hval 1 _ v1 rfl rfl) h1; obtain ⟨x2, rfl, z2⟩ := opn_uint16 (hval 2 _ v2 rfl rfl) h2; obtain ⟨x3, rfl, z3⟩ := opn_uint16 (hval 3 _ v3 rfl rfl) h3; refine (zaw 30000 A0 c0 x0 x1 x2 x3 true (law27_time z0 z2 z3) (fun g => g < W.heap.size) W (fun _ h => h) hT ⟨s0, trivial⟩).mono fun e W2 hr => ?_
 obtain ⟨rfl, hb⟩ := hr; exact ⟨_, rfl, post_true (b := 4) laidOut (by rw [Tryz.params8]; intro t ht; simp only [List.mem_cons, List.not_mem_nil, or_false] at ht; (repeat' rcases ht with rfl | ht); all_goals first | (subst ht; exact ⟨by kernel_rfl, of_decide_eq_true (by kernel_rfl)⟩) | exact ⟨by kernel_rfl, of_decide_eq_true (by kernel_rfl)⟩) Tryz.underlying4 (by kernel_rfl) rfl hW' rfl rfl rfl hb⟩
theorem laid_met (os : Os) : laidMet Tryz.prog Rows.orderTimeRow.laid ((World.doorLaid Tryz.prog 24 os).forCall (fun _ _ => 0) ⟨#[], #[.slice none 0 0, .int .u64 0, .int .u16 0, .int .u16 0], []⟩).memory :=
 laidMet_of_run' 8 (by kernel_rfl) (by kernel_rfl)
theorem reads (os : Os) {H : Type} (enc : TypeId × Value → H) : ∃ places, DataW.whole enc Tryz.prog ((World.doorLaid Tryz.prog 24 os).forCall (fun _ _ => 0) ⟨#[], #[.slice none 0 0, .int .u64 0, .int .u16 0, .int .u16 0], []⟩).memory Tryz.f8.params.toList Rows.orderTimeSpec.vars false (#[.slice none 0 0, .int .u64 0, .int .u16 0, .int .u16 0] : Array Value).toList 8 = some ([.nil, .lit (.int .u64 0), .lit (.int .u16 0), .lit (.int .u16 0)], [], places) :=
 ⟨[], by kernel_rfl⟩
theorem lifted (os : Os) (started : os.Started) (H : Type) (enc : TypeId × Value → H) (F : Stop.Interp) :
  ReturnsInHanded {} Tryz.checked os 8 .any ((OpenSpec.ofChange Rows.orderTimeSpec).preRow enc Tryz.prog Tryz.f8 Rows.orderTimeRow.domain false Rows.orderTimeRow.laid) (((OpenSpec.ofChange Rows.orderTimeSpec).at F).post enc Tryz.prog Tryz.f8 false true false false) := by
 obtain ⟨places, hx⟩ := reads os enc; refine returnsInHanded_of_row (C := Tryz.checked) (s := OpenSpec.ofChange Rows.orderTimeSpec) own started (by kernel_rfl) Tryz.func8
  (witness_row_at (enc := enc) (C := Tryz.checked) false (World.doorLaid Tryz.prog 24 os) #[.slice none 0 0, .int .u64 0, .int .u16 0, .int .u16 0] rfl (by kernel_rfl) (by kernel_rfl) (by kernel_rfl)
   (OpenSpec.preRow_of_cond 8 hx (by kernel_rfl) (fun k hk => by cases hk) (by kernel_rfl) (laid_met os))) ?_
 intro W base args ds gs before hval hW _ _ _ hL _ _; exact contract H enc W base args ds gs before (tb_of hL (by unfold Rows.orderTimeRow; simp)) hval hW
theorem said : Rows.OrderTimeSaid :=
 OpenClaim.holds_of_cond 8 Tryz.f8 rfl rfl rfl rfl rfl rfl rfl ⟨rfl, rfl, rfl, rfl, rfl⟩ rfl rfl rfl rfl rfl (by kernel_rfl) Tryz.func8 (by kernel_rfl)
  (of_decide_eq_true (by kernel_rfl)) (by unfold Func.isWrapper; first | (rw [if_pos (by decide +kernel)]; kernel_rfl) | (rw [if_neg (by decide +kernel)]; exact ⟨rfl, rfl⟩))
  (fun os started H enc _ F => by rw [OpenClaim.pre_eq_preRow]; exact lifted os started H enc F)
theorem plain (f : FuncId) (fn : Func) (hf : Tryz.pinned.checked.prog.funcNamed "regulator/regulatorlaw27.OrderTime" = some f) (hfn : Tryz.pinned.checked.prog.funcs[f]? = some fn) :
  false = Tryz.pinned.checked.prog.looks [] ∧ ∀ (j : Nat) t, fn.params[j]? = some t → Tryz.pinned.checked.prog.wantsStandIn t = false := by
 obtain rfl : f = 8 := Option.some.inj ((show Tryz.prog.funcNamed "regulator/regulatorlaw27.OrderTime" = some 8 by kernel_rfl).symm.trans hf) |>.symm; obtain rfl : fn = Tryz.f8 := (Option.some.inj (Tryz.func8.symm.trans hfn)).symm; refine ⟨by kernel_rfl, fun j t ht => ?_⟩; rw [Tryz.params8] at ht; have hm : t ∈ [67, 23, 68, 68] := by simpa using Array.mem_of_getElem? ht
 have hall : ([67, 23, 68, 68].all fun u => !Tryz.prog.wantsStandIn u) = true := by kernel_rfl
 exact (show Tryz.prog.wantsStandIn t = false by simpa using List.all_eq_true.1 hall t hm)
theorem card : Rows.OrderTimeCardSaid :=
 Claim7.holds_tied_plain_at .later [] _ _ _ _ said (fun _ h => by cases h) (by kernel_rfl) (fun _ h => by cases h) orderTime_row_tie rfl ⟨rfl, rfl⟩ (by kernel_rfl) rfl plain (by kernel_rfl)
end Go.Proofs.YtggaodokkcoagaaGreatDoor.orderTime
