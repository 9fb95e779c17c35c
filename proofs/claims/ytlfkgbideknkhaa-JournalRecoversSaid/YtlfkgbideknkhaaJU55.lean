/-
  Texts joined: We37, Wf37, Sd37, Se37, Sf37, Sg37, Hh37, OpA, OpR, OpZ, Sh37, Si37, Sj37, Sk37, Sl37, Sm37, Ol.
-/
import Derived.Test.YtlfkgbideknkhaaRows
import Derived.ProofKit
import Derived.OpenShut
import Derived.Carry
import Derived.ChangeSame
import Derived.Deep.Slices
import Derived.Lib.SmallJoins
import Derived.Test.YtlfkgbideknkhaaJU50
import Derived.Test.YtlfkgbideknkhaaJU51
import Derived.Test.YtlfkgbideknkhaaJU54
set_option linter.unusedSimpArgs false
set_option linter.unusedVariables false
namespace Go.Proofs.Ytlfkgbideknkhaa
open Go.RowKit
def hd3 (n : Nat) : List Int := [0, ((n / 256 : Nat) : Int), ((n % 256 : Nat) : Int)]
def frmO (l : List Int) : List Int := hd3 (encL l).length ++ encL l
def frmS (l : List Int) : List Int := frmO l ++ s8 (sumB (frmO l))
theorem frmO_len (l : List Int) : (frmO l).length = (encL l).length + 3 := by simp [frmO, hd3]
theorem frm_len (l : List Int) : (frmS l).length = (encL l).length + 11 := by
 unfold frmS; rw [List.length_append, frmO_len, s8_len]
theorem frm_max {l : List Int} (h : OkL l) : (frmS l).length ≤ 10021 := by
 have := encL_len h; rw [frm_len]; omega
theorem frmO_by {l : List Int} (h : OkL l) : By (frmO l) := by
 have h1 := encL_len h; refine By.app (fun x hx => ?_) (encL_by h); simp only [hd3, List.mem_cons, List.not_mem_nil, or_false] at hx; omega
theorem frm_by {l : List Int} (h : OkL l) : By (frmS l) := (frmO_by h).app (s8_by _)
theorem frame_p {l : List Int} (h : OkL l) {F : Nat} (hF : 1000 < F) : G_codec_Frame F l = some (frmS l, 0) := by
 have h1 := encL_len h; unfold G_codec_Frame; rw [put_p h hF]; simp only [ob_some, un2]; rw [show ((0 : Int) == 0) = true from rfl, ifB_t]; have e : [IntKind.u8.wrap (Int.fdiv (((encL l).length : Nat) : Int) (2 ^ 16)), IntKind.u8.wrap (Int.fdiv (((encL l).length : Nat) : Int) (2 ^ 8)), IntKind.u8.wrap (((encL l).length : Nat) : Int)] = hd3 (encL l).length := by
  rw [Int.fdiv_eq_ediv_of_nonneg _ (by decide), Int.fdiv_eq_ediv_of_nonneg _ (by decide), IntKind.wrap_u8', IntKind.wrap_u8', IntKind.wrap_u8']; unfold hd3; simp only [List.cons.injEq, and_true]; omega
 rw [e, apG_ok (by simp only [hd3, List.length_cons, List.length_nil]; omega), ob_some]; rw [show hd3 (encL l).length ++ encL l = frmO l from rfl, sum_p (by rw [frmO_len]; omega) (by omega), ob_some]; rw [show [(k8s (sumB (frmO l))).f0, (k8s (sumB (frmO l))).f1, (k8s (sumB (frmO l))).f2, (k8s (sumB (frmO l))).f3, (k8s (sumB (frmO l))).f4, (k8s (sumB (frmO l))).f5, (k8s (sumB (frmO l))).f6, (k8s (sumB (frmO l))).f7] = s8 (sumB (frmO l)) from rfl, apG_ok (by rw [frmO_len, s8_len]; omega), ob_some]; rfl
def hdN (b0 b1 b2 : Int) : Nat := (b0 * 65536 + b1 * 256 + b2).toNat
def hdS : List Int → Option (List Int)
  | b0 :: b1 :: b2 :: r => if r.length < hdN b0 b1 b2 + 8 then none else
      if (r.drop (hdN b0 b1 b2)).take 8 = s8 (sumB (b0 :: b1 :: b2 :: r.take (hdN b0 b1 b2))) then
        match getS (r.take (hdN b0 b1 b2)) with
        | (l, 0) => some l
        | _ => none
      else none
  | _ => none
theorem hd_back {l rest : List Int} (h : OkL l) : hdS (frmS l ++ rest) = some l := by
 have h1 := encL_len h; have e : frmS l ++ rest = 0 :: (((encL l).length / 256 : Nat) : Int) :: (((encL l).length % 256 : Nat) : Int) :: (encL l ++ (s8 (sumB (frmO l)) ++ rest)) := by
  simp [frmS, frmO, hd3]
 have en : hdN 0 (((encL l).length / 256 : Nat) : Int) (((encL l).length % 256 : Nat) : Int) = (encL l).length := by unfold hdN; omega
 rw [e]; unfold hdS; simp only [en]; rw [if_neg (by simp only [List.length_append, s8_len]; omega), List.take_left' rfl, List.drop_left' rfl, List.take_left' (s8_len _)]; rw [if_pos (by rfl), get_back h]; rfl
theorem hd_only {b l : List Int} (hb : By b) (h : hdS b = some l) : OkL l ∧ ∃ rest, b = frmS l ++ rest := by
 unfold hdS at h
 split at h
 ·next b0 b1 b2 r =>
  have h0 := hb b0 (by simp); have h1 := hb b1 (by simp); have h2 := hb b2 (by simp)
  split at h
  ·cases h
  ·next hl =>
   split at h
   ·next hs =>
    split at h
    ·next l' hg =>
     cases h; have hr : By r := fun x hx => hb x (by simp [hx])
     obtain ⟨ho, he⟩ := get_only (hr.take _) hg; have hln := encL_len ho; have hlen := congrArg List.length he; rw [List.length_take, Nat.min_eq_left (by omega)] at hlen; refine ⟨ho, r.drop (hdN b0 b1 b2 + 8), ?_⟩; have e0 : b0 = 0 := by unfold hdN at hlen; omega
     have e1 : b1 = (((encL l).length / 256 : Nat) : Int) := by unfold hdN at hlen; omega
     have e2 : b2 = (((encL l).length % 256 : Nat) : Int) := by unfold hdN at hlen; omega
     have e3 : b0 :: b1 :: b2 :: r.take (hdN b0 b1 b2) = frmO l := by rw [he, e0, e1, e2]; rfl
     rw [e3] at hs; unfold frmS; rw [← hs, ← e3]; simp only [List.cons_append, List.append_assoc]; rw [← List.drop_drop, List.take_append_drop, List.take_append_drop]
    ·cases h
   ·cases h
 ·cases h
theorem bits_or64 (a b : Nat) (ha : a < 9223372036854775808) (hb : b < 9223372036854775808) : bits .or .i64 (a : Int) (b : Int) = IntKind.i64.wrap ((a ||| b : Nat) : Int) := by
 show IntKind.i64.wrap ((BitVec.ofInt 64 (a : Int) ||| BitVec.ofInt 64 (b : Int)).toNat : Int) = _
 rw [BitVec.toNat_or, BitVec.ofInt_natCast, BitVec.toNat_ofNat, BitVec.ofInt_natCast, BitVec.toNat_ofNat, Nat.mod_eq_of_lt (show a < 2 ^ 64 by omega), Nat.mod_eq_of_lt (show b < 2 ^ 64 by omega)]
theorem frm_N {b0 b1 b2 : Int} (h0 : 0 ≤ b0 ∧ b0 < 256) (h1 : 0 ≤ b1 ∧ b1 < 256) (h2 : 0 ≤ b2 ∧ b2 < 256) : frmN b0 b1 b2 = ((hdN b0 b1 b2 : Nat) : Int) := by
 obtain ⟨x, rfl⟩ : ∃ x : Nat, b0 = (x : Int) := ⟨b0.toNat, by omega⟩; obtain ⟨y, rfl⟩ : ∃ x : Nat, b1 = (x : Int) := ⟨b1.toNat, by omega⟩; obtain ⟨z, rfl⟩ : ∃ x : Nat, b2 = (x : Int) := ⟨b2.toNat, by omega⟩; unfold frmN hdN; have e1 : IntKind.i64.wrap (IntKind.i64.wrap (x : Int) * 2 ^ 16) = ((x * 2 ^ 16 : Nat) : Int) := by rw [IntKind.wrap_i64, IntKind.wrap_i64]; omega
 have e2 : IntKind.i64.wrap (IntKind.i64.wrap (y : Int) * 2 ^ 8) = ((y * 2 ^ 8 : Nat) : Int) := by rw [IntKind.wrap_i64, IntKind.wrap_i64]; omega
 have e3 : IntKind.i64.wrap (z : Int) = (z : Int) := by rw [IntKind.wrap_i64]; omega
 rw [e1, e2, e3, bits_or64 _ _ (by omega) (by omega), nat_join 16 (x * 2 ^ 16) (y * 2 ^ 8) (Nat.mul_mod_left _ _) (by omega)]; have e4 : IntKind.i64.wrap ((x * 2 ^ 16 + y * 2 ^ 8 : Nat) : Int) = ((x * 2 ^ 16 + y * 2 ^ 8 : Nat) : Int) := by rw [IntKind.wrap_i64]; omega
 rw [e4, bits_or64 _ _ (by omega) (by omega), nat_join 8 _ z (by omega) (by omega), IntKind.wrap_i64]; omega
theorem s8_k8 {d : List Int} (h : d.length = 8) : ∃ x, k8 d = some x ∧ ∀ y, decide (x = k8s y) = decide (d = s8 y) := by
 match d, h with
 | [d0, d1, d2, d3, d4, d5, d6, d7], _ =>
  refine ⟨_, rfl, fun y => ?_⟩; unfold k8s s8; simp only [K8_uint8.mk.injEq, List.cons.injEq, and_true]
def FstR (b : List Int) (x : List Int × Int × Bool) : Prop := match hdS b with
 | some l => x = (l, (((frmS l).length : Nat) : Int), true)
 | none => x.2.2 = false
theorem first_p {b : List Int} (hb : By b) (hl : b.length ≤ 1000000) {F : Nat} (hF : 64 ≤ F) : ∃ x, G_codec_first F b = some x ∧ FstR b x := by
 unfold FstR G_codec_first
 match b, hb, hl with
 | [], _, _ => exact ⟨_, rfl, rfl⟩
 | [_], _, _ => exact ⟨_, rfl, rfl⟩
 | [_, _], _, _ => exact ⟨_, rfl, rfl⟩
 | b0 :: b1 :: b2 :: r, hb, hl =>
  have h0 := hb b0 (by simp); have h1 := hb b1 (by simp); have h2 := hb b2 (by simp); have hr : By r := fun x hx => hb x (by simp [hx])
  have hn : hdN b0 b1 b2 ≤ 16777215 := by unfold hdN; omega
  simp only [List.length_cons] at hl; simp only [frm_N h0 h1 h2]; have hd0 : ∀ n l, hdN b0 b1 b2 = n → getS (r.take n) = (l, 0) → n ≤ r.length → (frmS l).length = n + 11 := fun n l hn hg hle => by
   obtain ⟨ho, he⟩ := get_only (hr.take _) hg; have hlen := congrArg List.length he; rw [List.length_take, Nat.min_eq_left hle] at hlen; rw [frm_len]; omega
  generalize hq : hdN b0 b1 b2 = n at hn hd0 ⊢; have e11 : IntKind.i64.wrap ((n : Int) + 11) = ((n + 11 : Nat) : Int) := by rw [IntKind.wrap_i64]; omega
  have e3 : IntKind.i64.wrap ((n : Int) + 3) = ((n + 3 : Nat) : Int) := by rw [IntKind.wrap_i64]; omega
  simp only [e11, e3]; simp only [hdS, hq]
  by_cases hlt : r.length < n + 8
  ·rw [if_pos hlt, decide_eq_true (by simp only [List.length_cons]; omega), ifB_t]; exact ⟨_, rfl, rfl⟩
  ·rw [if_neg hlt, decide_eq_false (by simp only [List.length_cons]; omega), ifB_f, slI_ok (by omega) (by simp only [List.length_cons]; omega), ob_some]; have ea : ((b0 :: b1 :: b2 :: r).take (n + 11)).drop (n + 3) = (r.drop n).take 8 := by
    rw [show n + 11 = (n + 3) + 8 by omega, List.drop_take, show n + 3 + 8 - (n + 3) = 8 by omega, show n + 3 = n + 1 + 1 + 1 by omega]; rfl
   rw [ea]; obtain ⟨x, hx, hxs⟩ := s8_k8 (d := (r.drop n).take 8) (by simp only [List.length_take, List.length_drop]; omega); have h03 := slI_ok (l := b0 :: b1 :: b2 :: r) (p := 0) (q := n + 3) (Nat.zero_le _) (by simp only [List.length_cons]; omega); rw [List.drop_zero, show ((0 : Nat) : Int) = 0 from rfl, show n + 3 = n + 1 + 1 + 1 from rfl] at h03; simp only [List.take_succ_cons] at h03; have h33 := slI_ok (l := b0 :: b1 :: b2 :: r) (p := 3) (q := n + 3) (by omega) (by simp only [List.length_cons]; omega); rw [show n + 3 = n + 1 + 1 + 1 from rfl] at h33; simp only [List.take_succ_cons, List.drop_succ_cons, List.drop_zero] at h33; rw [show ((3 : Nat) : Int) = 3 from rfl] at h33; rw [hx, ob_some, show n + 3 = n + 1 + 1 + 1 from rfl, h03, ob_some, sum_p (by simp only [List.length_cons, List.length_take]; omega) hF, ob_some, hxs, h33]
   by_cases hs : (r.drop n).take 8 = s8 (sumB (b0 :: b1 :: b2 :: r.take n))
   ·rw [if_pos hs, decide_eq_true hs, ifB_t, ob_some]; have hg : G_codec_Get F (r.take n) = some (getS (r.take n)) := if_pos (by simp only [List.length_take]; omega); rw [hg, ob_some]; rcases get_cases (r.take n) with e | ⟨l, e⟩
    ·rw [e]; exact ⟨_, rfl, rfl⟩
    ·have hlf := hd0 n l rfl e (by omega); rw [e]; refine ⟨(l, ((n + 11 : Nat) : Int), true), rfl, ?_⟩
     show (l, ((n + 11 : Nat) : Int), true) = (l, (((frmS l).length : Nat) : Int), true)
     rw [hlf]
   ·rw [if_neg hs, decide_eq_false hs, ifB_f]; exact ⟨_, rfl, rfl⟩
end Go.Proofs.Ytlfkgbideknkhaa
namespace Go.Proofs.Ytlfkgbideknkhaa
open Go.RowKit
def frs : Nat → List Int → List (List Int)
 | 0, _ => []
 | k + 1, b => match hdS b with
  | none => []
  | some l => l :: frs k (b.drop (frmS l).length)
theorem frm_pos (l : List Int) : 11 ≤ (frmS l).length := by rw [frm_len]; omega
theorem frs_fuel : ∀ {k m : Nat} {b : List Int}, By b → b.length ≤ k → b.length ≤ m → frs k b = frs m b
 | 0, m, b, hb, h1, h2 => by
  obtain rfl : b = [] := List.eq_nil_of_length_eq_zero (by omega); cases m <;> rfl
 | k + 1, 0, b, hb, h1, h2 => by
  obtain rfl : b = [] := List.eq_nil_of_length_eq_zero (by omega); rfl
 | k + 1, m + 1, b, hb, h1, h2 => by
  unfold frs; cases h : hdS b with
  | none => rfl
  | some l =>
   have := frm_pos l; simp only; rw [frs_fuel (k := k) (m := m) (hb.drop _) (by rw [List.length_drop]; omega) (by rw [List.length_drop]; omega)]
def frA (b : List Int) : List (List Int) := frs b.length b
theorem frA_none {b : List Int} (h : hdS b = none) : frA b = [] := by
 unfold frA; cases hb : b.length with
 | zero => rfl
 | succ k => unfold frs; rw [h]
theorem frA_some {b l : List Int} (hb : By b) (h : hdS b = some l) : frA b = l :: frA (b.drop (frmS l).length) := by
 obtain ⟨_, rest, he⟩ := hd_only hb h; have h1 := frm_pos l; have h2 := congrArg List.length he; rw [List.length_append] at h2; unfold frA; obtain ⟨k, hk⟩ : ∃ k, b.length = k + 1 := ⟨b.length - 1, by omega⟩; rw [hk, frs, h]; simp only; rw [frs_fuel (hb.drop _) (k := k) (m := (b.drop (frmS l).length).length) (by rw [List.length_drop]; omega) (Nat.le_refl _)]
theorem frA_cons {l rest : List Int} (h : OkL l) (hb : By rest) : frA (frmS l ++ rest) = l :: frA rest := by
 rw [frA_some ((frm_by h).app hb) (hd_back h), List.drop_left]
theorem frA_app : ∀ {ls : List (List Int)} {rest : List Int}, (∀ l ∈ ls, OkL l) → By rest → frA (ls.flatMap frmS ++ rest) = ls ++ frA rest
 | [], _, _, _ => rfl
 | l :: ls, rest, h, hb => by
  have h' : ∀ m ∈ ls, OkL m := fun m hm => h m (List.mem_cons_of_mem _ hm)
  have hby : By (ls.flatMap frmS) := fun x hx => by
   obtain ⟨m, hm, hx⟩ := List.mem_flatMap.1 hx; exact frm_by (h' m hm) x hx
  rw [List.flatMap_cons, List.append_assoc, frA_cons (h l List.mem_cons_self) (hby.app hb), frA_app h' hb]; rfl
theorem frA_parts : ∀ {n : Nat} {b : List Int}, b.length ≤ n → By b → ∃ rest, b = (frA b).flatMap frmS ++ rest ∧ (∀ l ∈ frA b, OkL l) ∧ hdS rest = none
 | n, b, hn, hb => by
  cases h : hdS b with
  | none => exact ⟨b, by rw [frA_none h]; rfl, by rw [frA_none h]; exact fun _ h => absurd h List.not_mem_nil, h⟩
  | some l =>
   obtain ⟨ho, rest, he⟩ := hd_only hb h; have h1 := frm_pos l; have h2 := congrArg List.length he; rw [List.length_append] at h2
   match n, hn with
   | 0, hn => omega
   | n + 1, hn =>
    have hbr : By rest := by rw [he] at hb; exact hb.r
    obtain ⟨rest', e1, e2, e3⟩ := frA_parts (n := n) (b := rest) (by omega) hbr; refine ⟨rest', ?_, ?_, e3⟩
    ·rw [frA_some hb h, he, List.drop_left, List.flatMap_cons, List.append_assoc, ← e1]
    ·rw [frA_some hb h, he, List.drop_left]; intro m hm; rcases List.mem_cons.1 hm with rfl | hm
     ·exact ho
     ·exact e2 m hm
def frL37 (ls : List (List Int)) : Nat := (ls.flatMap frmS).length
theorem frL37_cons (l : List Int) (ls : List (List Int)) : frL37 (l :: ls) = (frmS l).length + frL37 ls := by unfold frL37; rw [List.flatMap_cons, List.length_append]
theorem frames_loop {b : List Int} (hb : By b) (hl : b.length ≤ 100000) {F0 : Nat} (hF0 : 64 ≤ F0) : ∀ {m at_ F : Nat} {out : List (List Int)} {x : List Int × Int × Bool}, b.length ≤ at_ + m → at_ ≤ b.length → out.length ≤ at_ → G_codec_first F0 (b.drop at_) = some x → m < F →
    iter (σ := (List (List Int)) × Int × (List Int) × Int × Bool) (ρ := ((List (List Int)) × Int)) (un5 fun (v_28 : (List (List Int))) (v_31 : Int) (v_32 : (List Int)) (v_35 : Int) (v_36 : Bool) => 
          (ifB (v_36)
            (Option.bind (apG 24 v_28 ([v_32] : List (List Int))) (fun v_40 =>
            Option.bind (slI b (IntKind.i64.wrap (v_31 + v_35)) ((b.length : Nat) : Int)) (fun v_41 =>
            Option.bind (G_codec_first F0 v_41) (un3 fun v_42 v_43 v_44 =>
            some (.inl (v_40, IntKind.i64.wrap (v_31 + v_35), v_42, v_43, v_44))))))
            (some (.inr (v_28, v_31))) : Option (((List (List Int)) × Int × (List Int) × Int × Bool) ⊕ ((List (List Int)) × Int)))) F (out, (at_ : Int), x.1, x.2.1, x.2.2) = some (out ++ frA (b.drop at_), ((at_ + frL37 (frA (b.drop at_)) : Nat) : Int)) := by
  intro m
  induction m with
  | zero =>
    intro at_ F out x hm ha ho hx hF
    obtain ⟨F', rfl⟩ : ∃ F', F = F' + 1 := ⟨F - 1, by omega⟩
    have e : b.drop at_ = [] := List.drop_eq_nil_of_le (by omega)
    obtain ⟨y, h1, h2⟩ := first_p (hb.drop at_) (by rw [List.length_drop]; omega) hF0
    rw [hx] at h1
    obtain rfl := Option.some.inj h1
    have h3 : hdS (b.drop at_) = none := by rw [e]; rfl
    unfold FstR at h2
    rw [h3] at h2
    unfold iter
    simp only [un5]
    rw [show x.2.2 = false from h2, ifB_f, frA_none h3]
    simp [frL37]
  | succ m ih =>
    intro at_ F out x hm ha ho hx hF
    obtain ⟨F', rfl⟩ : ∃ F', F = F' + 1 := ⟨F - 1, by omega⟩
    obtain ⟨y, h1, h2⟩ := first_p (hb.drop at_) (by rw [List.length_drop]; omega) hF0
    rw [hx] at h1
    obtain rfl := Option.some.inj h1
    unfold FstR at h2
    cases h3 : hdS (b.drop at_) with
    | none =>
      rw [h3] at h2
      unfold iter
      simp only [un5]
      rw [show x.2.2 = false from h2, ifB_f, frA_none h3]
      simp [frL37]
    | some l =>
      rw [h3] at h2
      obtain rfl : x = _ := h2
      obtain ⟨hok, rest, he⟩ := hd_only (hb.drop at_) h3
      have h4 := frm_pos l
      have h5 := congrArg List.length he
      rw [List.length_drop, List.length_append] at h5
      obtain ⟨z, hz, _⟩ := first_p (hb.drop (at_ + (frmS l).length)) (by rw [List.length_drop]; omega) hF0
      have ew : IntKind.i64.wrap ((at_ : Int) + (((frmS l).length : Nat) : Int)) = ((at_ + (frmS l).length : Nat) : Int) := by rw [IntKind.wrap_i64]; omega
      unfold iter
      simp only [un5, un3]
      rw [ifB_t, apG_ok (by simp only [List.length_cons, List.length_nil]; omega), ob_some, ew, slI_ok (by omega) (Nat.le_refl _), ob_some, List.take_length, hz]
      simp only [ob_some]
      rw [ih (by omega) (by omega) (by simp only [List.length_append, List.length_cons, List.length_nil]; omega) hz (by omega), frA_some (hb.drop at_) h3, List.drop_drop, frL37_cons, List.append_assoc]
      simp [Nat.add_assoc]
theorem frames_p {b : List Int} (hb : By b) (hl : b.length ≤ 100000) {F : Nat} (hF : 200000 < F) : G_codec_Frames F b = some (frA b, ((frL37 (frA b) : Nat) : Int), 0) := by
 unfold G_codec_Frames; obtain ⟨x, hx, _⟩ := first_p hb (by omega) (F := F) (by omega); rw [decide_eq_false (by omega), ifB_f, hx]; obtain ⟨x1, x2, x3⟩ := x; simp only [ob_some, un3]; have := frames_loop hb hl (F0 := F) (by omega) (m := b.length) (at_ := 0) (F := F) (out := []) (x := (x1, x2, x3)) (by omega) (Nat.zero_le _) (Nat.zero_le _) (by rw [List.drop_zero]; exact hx) (by omega); rw [List.drop_zero, List.nil_append, Nat.zero_add] at this; rw [show ((0 : Nat) : Int) = 0 from rfl] at this; rw [this]; rfl
end Go.Proofs.Ytlfkgbideknkhaa
namespace Go.Proofs.Ytlfkgbideknkhaa
open Go.RowKit
def seI (s : KSeen) : List Int := [s.Key, s.Ts]
def wrI (w : KWrite) : List Int := [w.Key, w.Value, if w.Gone then 1 else 0]
def intsS (t : KTx) : List Int := t.ID :: t.Ts :: (t.Reads.length : Int) :: (t.Reads.flatMap seI ++ (t.Writes.length : Int) :: t.Writes.flatMap wrI)
theorem seI_len (l : List KSeen) : (l.flatMap seI).length = 2 * l.length := by
 induction l with
 | nil => rfl
 | cons x l ih => rw [List.flatMap_cons, List.length_append, ih, List.length_cons, show (seI x).length = 2 from rfl]; omega
theorem wrI_len (l : List KWrite) : (l.flatMap wrI).length = 3 * l.length := by
 induction l with
 | nil => rfl
 | cons x l ih => rw [List.flatMap_cons, List.length_append, ih, List.length_cons, show (wrI x).length = 3 from rfl]; omega
theorem ints_len (t : KTx) : (intsS t).length = 4 + 2 * t.Reads.length + 3 * t.Writes.length := by
 unfold intsS; simp only [List.length_cons, List.length_append, seI_len, wrI_len]; omega
theorem ints_p (t : KTx) (h : FewT t) {F : Nat} (hF : 64 ≤ F) : G_journal_ints F t = some (intsS t) := by
 have hr := h.r; have hw := h.w; unfold G_journal_ints; rw [iter_fold (fun b i => (i, b)) t.Reads (fun b x => b ++ seI x) id (fun k b => b.length = 3 + 2 * k) ?_ ?_ (by omega) [t.ID, t.Ts, ((t.Reads.length : Nat) : Int)] rfl]
 ·simp only [ob_some, id, foldl_fl]; rw [apG_ok (by simp only [List.length_append, List.length_cons, List.length_nil, seI_len]; omega), ob_some]; rw [iter_fold (fun b i => (b, i)) t.Writes (fun b x => b ++ wrI x) id (fun k b => b.length ≤ 100 + 3 * k) ?_ ?_ (by omega) _ (by simp only [List.length_append, List.length_cons, List.length_nil, seI_len]; omega)]
  ·simp only [ob_some, id, foldl_fl]
   simp [intsS]
  ·intro b _; simp only [un2, ltn, ifB_f, id]
  ·intro b k hk hb; simp only [un2, ltl hk, ifB_t, ixI_get hk, ob_some, w64_1 hk (by omega), List.length_append]; have e : (ifB t.Writes[k].Gone (some (1 : Int)) (some 0) : Option Int) = some (if t.Writes[k].Gone then 1 else 0) := by cases t.Writes[k].Gone <;> rfl
   rw [e, ob_some, apG_ok (by simp only [List.length_cons, List.length_nil]; omega), ob_some]; exact ⟨rfl, by simp only [wrI, List.length_cons, List.length_nil]; omega⟩
 ·intro b _; simp only [un2, ltn, ifB_f, id]
 ·intro b k hk hb; simp only [un2, ltl hk, ifB_t, ixI_get hk, ob_some, w64_1 hk (by omega), List.length_append]; rw [apG_ok (by simp only [List.length_cons, List.length_nil]; omega), ob_some]; exact ⟨rfl, by simp only [seI, List.length_cons, List.length_nil]; omega⟩
theorem Txs.ok {t : KTx} (h : Txs t) : OkL (intsS t) := by
 have hf := h.few; refine ⟨by rw [ints_len]; omega, fun n hn => ?_⟩; have hid := h.id; have hts := h.ts; simp only [intsS, List.mem_cons, List.mem_append, List.mem_flatMap] at hn; rcases hn with rfl | rfl | rfl | ⟨s, hs, hn⟩ | rfl | ⟨w, hw, hn⟩
 ·exact ⟨by omega, by omega⟩
 ·exact ⟨by omega, by omega⟩
 ·exact ⟨by omega, by omega⟩
 ·have h1 := h.rd s hs; have h2 := h.rp s hs; unfold seenB at h1; simp only [Bool.and_eq_true, decide_eq_true_eq] at h1; simp only [seI, List.mem_cons, List.not_mem_nil, or_false] at hn; rcases hn with rfl | rfl <;> exact ⟨by omega, by omega⟩
 ·exact ⟨by omega, by omega⟩
 ·have h1 := h.wr w hw; have h2 := h.wp w hw; unfold writB at h1; simp only [Bool.and_eq_true, decide_eq_true_eq] at h1; simp only [wrI, List.mem_cons, List.not_mem_nil, or_false] at hn; rcases hn with rfl | rfl | rfl
  ·exact ⟨by omega, by omega⟩
  ·exact ⟨by omega, by omega⟩
  ·split <;> exact ⟨by omega, by omega⟩
theorem Txs.fewT {t : KTx} (h : Txs t) : FewT t := ⟨by have := h.few.1; omega, by have := h.few.2; omega⟩
theorem rs_back : ∀ (l : List KSeen) (rest : List Int), rdSeen l.length (l.flatMap seI ++ rest) = some (l, rest)
 | [], _ => rfl
 | s :: l, rest => by
  show rdSeen (l.length + 1) (s.Key :: s.Ts :: (l.flatMap seI ++ rest)) = _
  rw [rdSeen, rs_back l rest]
theorem rs_only : ∀ {k : Nat} {b rest : List Int} {l : List KSeen}, rdSeen k b = some (l, rest) → l.length = k ∧ b = l.flatMap seI ++ rest
 | 0, b, rest, l, h => by simp only [rdSeen, Option.some.injEq, Prod.mk.injEq] at h; obtain ⟨rfl, rfl⟩ := h; exact ⟨rfl, rfl⟩
 | k + 1, [], rest, l, h => by cases h
 | k + 1, [_], rest, l, h => by cases h
 | k + 1, a :: c :: b, rest, l, h => by
  rw [rdSeen] at h
  split at h
  ·next s r hs =>
   cases h; obtain ⟨h1, h2⟩ := rs_only hs; exact ⟨by rw [List.length_cons, h1], by rw [h2]; rfl⟩
  ·cases h
theorem rw_back : ∀ (l : List KWrite) (rest : List Int), rdWr l.length (l.flatMap wrI ++ rest) = some (l, rest)
 | [], _ => rfl
 | w :: l, rest => by
  show rdWr (l.length + 1) (w.Key :: w.Value :: (if w.Gone then 1 else 0) :: (l.flatMap wrI ++ rest)) = _
  rw [rdWr, if_pos (by cases w.Gone <;> simp), rw_back l rest]; obtain ⟨a, b, g⟩ := w; cases g <;> rfl
theorem rw_only : ∀ {k : Nat} {b rest : List Int} {l : List KWrite}, rdWr k b = some (l, rest) → l.length = k ∧ b = l.flatMap wrI ++ rest
 | 0, b, rest, l, h => by simp only [rdWr, Option.some.injEq, Prod.mk.injEq] at h; obtain ⟨rfl, rfl⟩ := h; exact ⟨rfl, rfl⟩
 | k + 1, [], rest, l, h => by cases h
 | k + 1, [_], rest, l, h => by cases h
 | k + 1, [_, _], rest, l, h => by cases h
 | k + 1, a :: c :: v :: b, rest, l, h => by
  rw [rdWr] at h
  split at h
  ·next hv =>
   split at h
   ·next s r hs =>
    cases h; obtain ⟨h1, h2⟩ := rw_only hs; refine ⟨by rw [List.length_cons, h1], ?_⟩; rw [h2]; rcases hv with rfl | rfl <;> rfl
   ·cases h
  ·cases h
theorem rt_back (t : KTx) (hr : t.Reads.length ≤ 8) (hw : t.Writes.length ≤ 8) : readT (intsS t) = some t := by
 simp only [intsS, readT]; rw [if_pos (by omega), Int.toNat_natCast, rs_back]; simp only [fnS, List.nil_append, rdM]; rw [if_pos (by omega), Int.toNat_natCast]; have := rw_back t.Writes []; rw [List.append_nil] at this; rw [this]; rfl
theorem rt_only {l : List Int} {t : KTx} (h : readT l = some t) : l = intsS t ∧ t.Reads.length ≤ 8 ∧ t.Writes.length ≤ 8 := by
 unfold readT at h
 split at h
 ·next x y n r =>
  split at h
  ·next hn =>
   unfold fnS at h
   split at h
   ·next s l2 hs =>
    obtain ⟨h1, h2⟩ := rs_only hs; unfold rdM at h; rw [List.nil_append] at h
    split at h
    ·next m l3 =>
     split at h
     ·next hm =>
      unfold fnW at h
      split at h
      ·next u hu =>
       cases h; obtain ⟨h3, h4⟩ := rw_only hu; refine ⟨?_, by show s.length ≤ 8; omega, by show ([] ++ u).length ≤ 8; rw [List.nil_append]; omega⟩; unfold intsS; simp only [List.nil_append]; rw [h2, h4, h1, h3, List.append_nil, show ((n.toNat : Nat) : Int) = n by omega, show ((m.toNat : Nat) : Int) = m by omega]
      ·cases h
     ·cases h
    ·cases h
   ·cases h
  ·cases h
 ·cases h
def txO (l : List Int) : Option KTx := match readT l with
 | some t => if txS t = true then some t else none
 | none => none
theorem txO_back {t : KTx} (h : Txs t) : txO (intsS t) = some t := by
 unfold txO; rw [rt_back t h.few.1 h.few.2]; simp only; rw [if_pos ((txs_iff t).2 h)]
theorem txO_only {l : List Int} {t : KTx} (h : txO l = some t) : Txs t ∧ l = intsS t := by
 unfold txO at h
 split at h
 ·next t' ht =>
  split at h
  ·next hs =>
   cases h; exact ⟨(txs_iff t).1 hs, (rt_only ht).1⟩
  ·cases h
 ·cases h
def txR (o : Option KTx) : KTx × Bool := match o with
 | some t => (t, true)
 | none => (⟨0, 0, [], []⟩, false)
end Go.Proofs.Ytlfkgbideknkhaa
namespace Go.Proofs.Ytlfkgbideknkhaa
open Go.RowKit
theorem cmp_p (F : Nat) (a b : Int) : G_cmp_Compare_int F a b = some (cmpI a b) := by
 unfold G_cmp_Compare_int G_cmp_isNaN_int cmpI; simp only [beq_self_eq_true, Bool.not_true, ob_some, ifB_f]
 by_cases h : a < b
 ·rw [decide_eq_true h, ifB_t, if_pos h]
 ·rw [decide_eq_false h, ifB_f, if_neg h]
  by_cases h2 : b < a
  ·rw [decide_eq_true (p := a > b) h2, ifB_t, if_pos h2]
  ·rw [decide_eq_false (p := a > b) h2, ifB_f, if_neg h2]
theorem or_p (a b : Int) {F : Nat} (hF : 64 ≤ F) : G_cmp_Or_int F [a, b] = some (if a = 0 then b else a) := by
 obtain ⟨F', rfl⟩ : ∃ F', F = F' + 3 := ⟨F - 3, by omega⟩; unfold G_cmp_Or_int
 by_cases ha : a = 0
 ·subst ha
  by_cases hb : b = 0
  ·subst hb; rfl
  ·have e : ∀ x y : Option (Int ⊕ (Unit ⊕ Int)), ifB (b == 0) x y = y := fun x y => by rw [show (b == 0) = false from by simpa using hb]; rfl
   unfold iter; simp only [List.length_cons, List.length_nil]; rw [show decide ((0 : Int) < ((0 + 1 + 1 : Nat) : Int)) = true from rfl, ifB_t, show ixI [(0 : Int), b] 0 = some 0 from rfl, ob_some, show ((0 : Int) == 0) = true from rfl, ifB_t]; simp only; unfold iter; rw [show decide (IntKind.i64.wrap (0 + 1) < ((0 + 1 + 1 : Nat) : Int)) = true from by decide, ifB_t, show ixI [(0 : Int), b] (IntKind.i64.wrap (0 + 1)) = some b from rfl, ob_some, e]; rfl
 ·have e : ∀ x y : Option (Int ⊕ (Unit ⊕ Int)), ifB (a == 0) x y = y := fun x y => by rw [show (a == 0) = false from by simpa using ha]; rfl
  unfold iter; rw [show decide ((0 : Int) < (([a, b].length : Nat) : Int)) = true from rfl, ifB_t, show ixI [a, b] 0 = some a from rfl, ob_some, e, if_neg ha]; rfl
theorem order_p (a b : KVersion) {F : Nat} (hF : 64 ≤ F) : G_versions_order F a b = some (ordV a.v b.v) := by
 unfold G_versions_order; rw [cmp_p, ob_some, cmp_p, ob_some, or_p _ _ hF, ob_some]
 show some (if cmpI a.Key b.Key = 0 then cmpI a.Ts b.Ts else cmpI a.Key b.Key) = some (orL [cmpI a.Key b.Key, cmpI a.Ts b.Ts])
 simp only [orL]
 by_cases h : cmpI a.Key b.Key = 0
 ·rw [if_pos h, if_pos h]
  by_cases h2 : cmpI a.Ts b.Ts = 0
  ·rw [if_pos h2, h2]
  ·rw [if_neg h2]
 ·rw [if_neg h, if_neg h]
theorem wf_p (F : Nat) (v : KVersion) : G_versions_wellFormed F v = some (wfB v.v) := by
 unfold G_versions_wellFormed G_versions_isKey G_versions_isStamp; rw [win_p, win_p, win_p, wfB_eq]; unfold keyB stampB KVersion.v; simp only [ob_some]; cases decide (1 ≤ v.Key) <;> cases decide (v.Key ≤ 1000) <;> cases decide (1 ≤ v.Ts) <;> cases decide (v.Ts ≤ 3000000000000000) <;> cases decide (0 ≤ v.Value) <;> cases decide (v.Value ≤ 1000000) <;> cases v.Gone <;> rfl
theorem vval_p (l : List KVersion) (hl : l.length ≤ 100000) {F : Nat} (hF : l.length + 64 < F) : G_versions_Valid F l = some (validB (l.map KVersion.v)) := by
 unfold G_versions_Valid; rw [iter_chkU l (fun k _ => okAt (l.map KVersion.v) k) (.inl ()) (.inr ()) ?_ ?_ (by omega)]
 ·have e : frL (fun k (_ : KVersion) => okAt (l.map KVersion.v) k) l 0 = (List.range (l.map KVersion.v).length).all (okAt (l.map KVersion.v)) := by
   refine iff_bool ?_; rw [frL_iff, List.all_eq_true]; simp only [Nat.zero_add, List.mem_range, List.length_map]
  rw [e]; unfold validB; rw [deq (p := ((l.length : Nat) : Int) ≤ 4000) (q := (l.map KVersion.v).length ≤ 4000) (by rw [List.length_map]; omega)]; cases (List.range (l.map KVersion.v).length).all (okAt (l.map KVersion.v)) <;> rfl
 ·simp only [ltn, ifB_f]
 ·intro k h; simp only [ltl h, ifB_t, ixI_get h, ob_some, w64_1 h (by omega), wf_p]; rw [okAt_eq (by rw [List.length_map]; exact h)]; simp only [List.getElem_map]
  by_cases h0 : 0 < k
  ·rw [decide_eq_true (p := (k : Int) > 0) (by omega), ifB_t, w64_p h0 (by omega), ixI_get (by omega), ob_some, order_p _ _ (show 64 ≤ F by omega), ob_some, show (k == 0) = false by simpa using (by omega : k ≠ 0), Bool.false_or, dnot (p := ordV (l[k - 1]'(by omega)).v l[k].v ≥ 0) (q := ordV (l[k - 1]'(by omega)).v l[k].v < 0) (by omega)]; cases wfB l[k].v <;> cases decide (ordV (l[k - 1]'(by omega)).v l[k].v < 0) <;> rfl
  ·rw [decide_eq_false (p := (k : Int) > 0) (by omega), ifB_f, show (k == 0) = true by simpa using (by omega : k = 0), Bool.true_or, Bool.and_true]; cases wfB l[k].v <;> rfl
end Go.Proofs.Ytlfkgbideknkhaa
namespace Go.Proofs.Ytlfkgbideknkhaa
open Go.RowKit
def nW (l : List KTx) : Nat := (l.map fun t => t.Writes.length).foldr (· + ·) 0
def chnR : List KTx → Int → Option Int
 | [], a => some a
 | t :: ts, a => if (txF t && decide (a < t.Ts)) = true then chnR ts t.Ts else none
def maxV (l : List KVersion) : Int := l.foldl (fun a v => max a v.Ts) 0
def validL (x : KLeader) : Bool := validB (x.Store.map KVersion.v) && (decide (0 ≤ x.Last) && decide (x.Last ≤ 3000000000000000)) && decide (x.Open.length ≤ 2000) && decide (x.Store.length + nW x.Open ≤ 4000) &&
 match chnR x.Open (maxV x.Store) with | some a => decide (a ≤ x.Last) | none => false
theorem nW_cons (t : KTx) (l : List KTx) : nW (t :: l) = t.Writes.length + nW l := rfl
theorem foldl_nW : ∀ (l : List KTx) (b : Nat), l.foldl (fun b x => b + x.Writes.length) b = b + nW l
 | [], b => by simp [nW]
 | t :: l, b => by rw [List.foldl_cons, foldl_nW, nW_cons]; omega
theorem nW_le {l : List KTx} (h : ∀ t ∈ l, FewT t) : nW l ≤ 20 * l.length := by
 induction l with
 | nil => simp [nW]
 | cons t l ih =>
  have h1 := (h t List.mem_cons_self).w; have h2 := ih fun x hx => h x (List.mem_cons_of_mem _ hx)
  rw [nW_cons, List.length_cons]; omega
theorem size_p (x : KLeader) (hs : x.Store.length ≤ 5000) (hl : x.Open.length ≤ 5000) (h : ∀ t ∈ x.Open, FewT t) {F : Nat} (hF : 5001 ≤ F) : G_commit_size F x = some ((x.Store.length + nW x.Open : Nat) : Int) := by
 unfold G_commit_size; rw [iter_fold (fun (b : Nat) i => (i, (b : Int))) x.Open (fun b x => b + x.Writes.length) (fun b => (b : Int)) (fun k b => b ≤ 5000 + 20 * k) ?_ ?_ (by omega) x.Store.length (by omega)]
 ·rw [foldl_nW]; rfl
 ·intro b _; simp only [un2, ltn, ifB_f]
 ·intro b k hk hb; have h1 := (h _ (List.getElem_mem hk)).w; simp only [un2, ltl hk, ifB_t, ixI_get hk, ob_some, w64_1 hk (by omega)]; refine ⟨?_, by omega⟩; rw [show IntKind.i64.wrap ((b : Int) + ((x.Open[k].Writes.length : Nat) : Int)) = ((b + x.Open[k].Writes.length : Nat) : Int) from by rw [IntKind.wrap_i64]; omega]
theorem valid_p (x : KLeader) (hs : x.Store.length ≤ 5000) (hl : x.Open.length ≤ 5000) (h : ∀ t ∈ x.Open, FewT t) {F : Nat} (hF : 20000 ≤ F) : G_commit_Valid F x = some (validL x) := by
 unfold G_commit_Valid; rw [vval_p _ (by omega) (by omega), btw_p, size_p x hs hl h (by omega)]; simp only [ob_some]; rw [show decide (((x.Open.length : Nat) : Int) > 2000) = !decide (x.Open.length ≤ 2000) from dnot (by omega), show decide (((x.Store.length + nW x.Open : Nat) : Int) > 4000) = !decide (x.Store.length + nW x.Open ≤ 4000) from dnot (by omega)]; rw [iter_fold (fun b i => (b, i)) x.Store (fun a v => max a v.Ts) id (fun _ _ => True) (fun b _ => by simp only [un2, ltn, ifB_f, id]) (fun b k hk _ => ⟨by simp only [un2, ltl hk, ifB_t, ixI_get hk, ob_some, w64_1 hk (by omega)], trivial⟩) (by omega) 0 trivial]; simp only [ob_some, id]; rw [iter_foldX (τ := Unit) (fun b i => (b, i)) x.Open (fun a t => if (txF t && decide (a < t.Ts)) = true then .inl t.Ts else .inr ()) (fun a => .inl a) (fun _ => .inr ()) (fun _ _ => True) (fun l a => match chnR l a with | some b => .inl b | none => .inr ()) (fun _ => rfl) (fun t ts a => by rw [show chnR (t :: ts) a = if (txF t && decide (a < t.Ts)) = true then chnR ts t.Ts else none from rfl]; by_cases hc : (txF t && decide (a < t.Ts)) = true <;> simp [hc]) (fun b _ => by simp only [un2, ltn, ifB_f]) (fun b k hk _ => ⟨?_, fun _ _ => trivial⟩) (by omega) _ trivial]
 ·unfold validL maxV; cases validB (x.Store.map KVersion.v) <;> cases (decide (0 ≤ x.Last) && decide (x.Last ≤ 3000000000000000)) <;> cases decide (x.Open.length ≤ 2000) <;> cases decide (x.Store.length + nW x.Open ≤ 4000) <;> cases chnR x.Open (x.Store.foldl (fun a v => max a v.Ts) 0) <;> rfl
 ·simp only [un2, ltl hk, ifB_t, ixI_get hk, ob_some, w64_1 hk (by omega), formed_p _ (h _ (List.getElem_mem hk)) (show 64 ≤ F by omega)]; rw [dnot (p := x.Open[k].Ts ≤ b) (q := b < x.Open[k].Ts) (by omega)]; cases txF x.Open[k] <;> cases decide (b < x.Open[k].Ts) <;> rfl
theorem jformed_p (t : KTx) (h : FewT t) {F : Nat} (hF : 20000 ≤ F) : G_journal_formed F t = some (txS t) := by
 unfold G_journal_formed; rw [valid_p ⟨t.Ts, [], [t]⟩ (by simp) (by simp) (by simpa using h) hF, txS_F]; simp only [ob_some]; have hv : validL ⟨t.Ts, [], [t]⟩ = (validB [] && (decide (0 ≤ t.Ts) && decide (t.Ts ≤ 3000000000000000)) && decide (1 ≤ 2000) && decide (0 + (t.Writes.length + 0) ≤ 4000) && match (if (txF t && decide (0 < t.Ts)) = true then some t.Ts else none) with | some a => decide (a ≤ t.Ts) | none => false) := rfl; have hw := h.w; rw [hv, show validB [] = true from rfl, decide_eq_true (p := 1 ≤ 2000) (by omega), decide_eq_true (p := 0 + (t.Writes.length + 0) ≤ 4000) (by omega), show decide (t.Ts > 0) = decide (1 ≤ t.Ts) from deq (by omega)]
 by_cases h1 : 1 ≤ t.Ts
 ·rw [decide_eq_true h1, decide_eq_true (p := 0 ≤ t.Ts) (by omega), ifB_t, Bool.and_true]; cases hf : txF t with
  | false => cases decide (t.Ts ≤ 3000000000000000) <;> rfl
  | true =>
   have : t.Ts ≤ 3000000000000000 := by
    unfold txF at hf; simp only [Bool.and_eq_true, decide_eq_true_eq] at hf; omega
   rw [decide_eq_true this]
   simp
 ·rw [decide_eq_false h1, ifB_f, Bool.and_false]; rfl
theorem read_p (l : List Int) {F : Nat} (hF : 20000 ≤ F) : G_journal_read F l = some (txR (txO l)) := by
 unfold G_journal_read txO; cases h : readT l with
 | none => rfl
 | some t =>
  obtain ⟨_, h1, h2⟩ := rt_only h; simp only [readB]; rw [jformed_p t ⟨by omega, by omega⟩ hF, ob_some]; cases txS t <;> rfl
def recT (t : KTx) : List Int := frmS (intsS t)
def logB (ts : List KTx) : List Int := ts.flatMap recT
def recS : List (List Int) → Int → List KTx
 | [], _ => []
 | f :: fs, last => match txO f with
  | some t => if last < t.Ts then t :: recS fs t.Ts else []
  | none => []
theorem rec_p {F : Nat} (hF : 20000 ≤ F) : ∀ (fs : List (List Int)) (last : Int), recG F fs last = some (recS fs last)
 | [], _ => rfl
 | f :: fs, last => by
  unfold recG recS; rw [read_p f hF]; cases txO f with
  | none => rfl
  | some t =>
   simp only [ob_some, txR, un2, Bool.not_true, Bool.false_or]
   by_cases h : last < t.Ts
   ·rw [if_pos h, decide_eq_false (by omega), ifB_f, rec_p hF fs t.Ts]; rfl
   ·rw [if_neg h, decide_eq_true (by omega), ifB_t]
theorem rec_ris : ∀ {fs : List (List Int)} {a : Int}, (∀ t ∈ recS fs a, Txs t) ∧ (a :: (recS fs a).map (·.Ts)).Pairwise (· < ·) ∧ ∃ more, fs = (recS fs a).map intsS ++ more
 | [], a => ⟨fun _ h => absurd h List.not_mem_nil, by simp [recS], [], rfl⟩
 | f :: fs, a => by
  unfold recS; cases h : txO f with
  | none => exact ⟨fun _ h => absurd h List.not_mem_nil, by simp, f :: fs, rfl⟩
  | some t =>
   obtain ⟨h1, h2⟩ := txO_only h; simp only
   by_cases hl : a < t.Ts
   ·rw [if_pos hl]; obtain ⟨e1, e2, more, e3⟩ := rec_ris (fs := fs) (a := t.Ts); refine ⟨fun x hx => ?_, ?_, more, ?_⟩
    ·rcases List.mem_cons.1 hx with rfl | hx
     ·exact h1
     ·exact e1 x hx
    ·rw [List.map_cons, List.pairwise_cons]; refine ⟨fun x hx => ?_, e2⟩; rcases List.mem_cons.1 hx with rfl | hx
     ·exact hl
     ·exact Int.lt_trans hl ((List.pairwise_cons.1 e2).1 x hx)
    ·rw [List.map_cons, List.cons_append, ← e3, h2]
   ·rw [if_neg hl]; exact ⟨fun _ h => absurd h List.not_mem_nil, by simp, f :: fs, rfl⟩
def lastT (a : Int) (ts : List KTx) : Int := ts.foldl (fun _ t => t.Ts) a
theorem rec_app : ∀ {ts : List KTx} {fs : List (List Int)} {a : Int}, (∀ t ∈ ts, Txs t) → (a :: ts.map (·.Ts)).Pairwise (· < ·) → recS (ts.map intsS ++ fs) a = ts ++ recS fs (lastT a ts)
 | [], _, _, _, _ => rfl
 | t :: ts, fs, a, h, hp => by
  rw [List.map_cons, List.cons_append, recS, txO_back (h t List.mem_cons_self)]; simp only; rw [List.map_cons] at hp; have h1 := (List.pairwise_cons.1 hp).1 t.Ts List.mem_cons_self; rw [if_pos h1, rec_app (fun x hx => h x (List.mem_cons_of_mem _ hx)) (List.pairwise_cons.1 hp).2]; rfl
theorem logB_map (ts : List KTx) : logB ts = (ts.map intsS).flatMap frmS := by
 unfold logB recT; rw [List.flatMap_map]
theorem logB_by {ts : List KTx} (h : ∀ t ∈ ts, Txs t) : By (logB ts) := fun x hx => by
 obtain ⟨t, ht, hx⟩ := List.mem_flatMap.1 hx; exact frm_by (h t ht).ok x hx
theorem logB_cons (t : KTx) (ts : List KTx) : logB (t :: ts) = recT t ++ logB ts := List.flatMap_cons
theorem logB_app (ts us : List KTx) : logB (ts ++ us) = logB ts ++ logB us := List.flatMap_append
def txsS (b : List Int) : List KTx := recS (frA b) 0
theorem ris_log {ts : List KTx} : logS ts = true ↔ (∀ t ∈ ts, Txs t) ∧ (0 :: ts.map (·.Ts)).Pairwise (· < ·) := by
 unfold logS; rw [Bool.and_eq_true, List.all_eq_true, risF_iff]; simp only [txs_iff]
theorem txs_log (b : List Int) : logS (txsS b) = true := ris_log.2 ⟨rec_ris.1, rec_ris.2.1⟩
theorem txs_parts {b : List Int} (hb : By b) : ∃ rest, b = logB (txsS b) ++ rest := by
 obtain ⟨rest, e1, _, _⟩ := frA_parts (Nat.le_refl _) hb; obtain ⟨_, _, more, e2⟩ := rec_ris (fs := frA b) (a := 0); refine ⟨more.flatMap frmS ++ rest, ?_⟩; rw [← List.append_assoc]
 conv => lhs; rw [e1, e2, List.flatMap_append]
 rw [← logB_map]; rfl
theorem txs_len {b : List Int} (hb : By b) : (logB (txsS b)).length ≤ b.length := by
 obtain ⟨rest, e⟩ := txs_parts hb; have := congrArg List.length e; rw [List.length_append] at this; omega
theorem log_app {ts : List KTx} {rest : List Int} (h : logS ts = true) (hb : By rest) : txsS (logB ts ++ rest) = ts ++ recS (frA rest) (lastT 0 ts) := by
 obtain ⟨h1, h2⟩ := ris_log.1 h; unfold txsS; rw [logB_map, frA_app (fun l hl => by obtain ⟨t, ht, rfl⟩ := List.mem_map.1 hl; exact (h1 t ht).ok) hb, rec_app h1 h2]
theorem log_txs {ts : List KTx} (h : logS ts = true) : txsS (logB ts) = ts := by
 have := log_app h By.nil; rw [List.append_nil] at this; rw [this, show frA [] = [] from rfl]; exact List.append_nil ts
theorem logB_many (ts : List KTx) : 11 * ts.length ≤ (logB ts).length := by
 induction ts with
 | nil => simp
 | cons t ts ih =>
  have := frm_pos (intsS t); rw [logB_cons, List.length_append, List.length_cons]; unfold recT; omega
theorem txs_few {b : List Int} : ∀ t ∈ txsS b, FewT t := fun t ht => (rec_ris.1 t ht).fewT
theorem off_p {F : Nat} (hF : 20000 ≤ F) : ∀ {ts : List KTx} {o : Nat}, (∀ t ∈ ts, Txs t) → o + (logB ts).length ≤ 1000000 → offG F ts (o : Int) = some ((o + (logB ts).length : Nat) : Int)
 | [], o, _, _ => rfl
 | t :: ts, o, h, hl => by
  have ht := h t List.mem_cons_self; unfold offG; rw [ints_p t ht.fewT (by omega), ob_some, frame_p ht.ok (by omega)]; rw [logB_cons, List.length_append] at hl ⊢; simp only [ob_some, un2]; rw [show ((0 : Int) == 0) = true from rfl, ifB_t, show IntKind.i64.wrap ((o : Int) + (((frmS (intsS t)).length : Nat) : Int)) = ((o + (recT t).length : Nat) : Int) from by unfold recT at hl ⊢; rw [IntKind.wrap_i64]; omega, off_p hF (fun x hx => h x (List.mem_cons_of_mem _ hx)) (by omega), Nat.add_assoc]
theorem load_p {b : List Int} (hb : By b) (hl : b.length ≤ 100000) {F : Nat} (hF : 200000 < F) : G_journal_Load F b = some (txsS b, (((logB (txsS b)).length : Nat) : Int), 0) := by
 have h1 := txs_len hb; obtain ⟨rest, e, _, _⟩ := frA_parts (Nat.le_refl _) hb; unfold G_journal_Load; rw [frames_p hb hl hF]; simp only [ob_some, un3]; have hfr : (frA b).length ≤ b.length := by
  have key : ∀ ls : List (List Int), ls.length ≤ (ls.flatMap frmS).length := by
   intro ls
   induction ls with
   | nil => simp
   | cons l ls ih =>
    have := frm_pos l; rw [List.flatMap_cons, List.length_append, List.length_cons]; omega
  have h2 := key (frA b); have h3 := congrArg List.length e; rw [List.length_append] at h3; omega
 rw [show (!((0 : Int) == 0)) = false from rfl, ifB_f, decide_eq_true (by omega), ifB_t, rec_p (by omega)]; simp only [ob_some]; have := off_p (F := F) (by omega) (ts := recS (frA b) 0) (o := 0) rec_ris.1 (by show 0 + (logB (txsS b)).length ≤ _; omega); rw [show ((0 : Nat) : Int) = 0 from rfl] at this; rw [this, Nat.zero_add]; rfl
end Go.Proofs.Ytlfkgbideknkhaa
namespace Go.Proofs.Ytlfkgbideknkhaa
open Go.RowKit
def oldB (ts : List KTx) (t : KTx) : Bool := match ts.getLast? with
 | some x => decide (t.Ts ≤ x.Ts)
 | none => false
def appS (b : List Int) (t : KTx) : List Int × Int :=
 if txS t = true then
  if (logB (txsS b)).length = b.length then
   if oldB (txsS b) t = true then ([], 30)
   else if b.length + (recT t).length ≤ 100000 then (b ++ recT t, 0) else ([], 2)
  else ([], 6)
 else ([], 1)
theorem old_ix (ts : List KTx) (t : KTx) (hl : ts.length ≤ 1000000) : (Option.bind (ifB (decide (((ts.length : Nat) : Int) > 0)) (Option.bind (ixI ts (IntKind.i64.wrap (((ts.length : Nat) : Int) - 1))) (fun v_10 => some (decide (v_10.Ts ≥ t.Ts)))) (some false) : Option (Bool)) some) = some (oldB ts t) := by
 unfold oldB; cases h : ts.getLast? with
 | none =>
  rw [List.getLast?_eq_none_iff] at h; subst h; rfl
 | some x =>
  have hne : ts ≠ [] := fun e => by subst e; cases h
  have hp : 0 < ts.length := List.length_pos_iff.2 hne; rw [decide_eq_true (by omega), ifB_t, w64_p hp (by omega), ixI_get (by omega), ob_some, ob_some]; rw [List.getLast?_eq_getElem?, List.getElem?_eq_getElem (by omega)] at h; rw [Option.some.inj h]
theorem obs {α : Type} (o : Option α) : Option.bind o some = o := by cases o <;> rfl
theorem concat_p (a b : List Int) (hl : a.length + b.length ≤ 1000000) {F : Nat} (hF : 64 ≤ F) : G_slices_Concat_byte_byte F [a, b] = some (a ++ b) := by
 unfold G_slices_Concat_byte_byte; rw [iter_fold (fun (n : Int) i => (i, n)) [a, b] (fun n x => n + ((x.length : Nat) : Int)) id (fun k n => 0 ≤ n ∧ n ≤ 1000000 * (k : Int)) ?_ ?_ (by simp only [List.length_cons, List.length_nil]; omega) 0 (by omega)]
 ·simp only [ob_some, List.foldl_cons, List.foldl_nil, id]; rw [whenG_t (by rw [decide_eq_true_eq]; omega), ob_some, iter_fold (fun (n : List Int) i => (i, n)) [a, b] (fun n x => n ++ x) id (fun k n => n.length ≤ 1000000 * k) ?_ ?_ (by simp only [List.length_cons, List.length_nil]; omega) [] (by simp)]
  ·rfl
  ·intro n _; simp only [un2, ltn, ifB_f, id]
  ·intro n k hk hn; have hk2 : k < 2 := hk; have hw := w64_1 hk2 (by omega); have hm : ([a, b])[k].length ≤ 1000000 := by
    rcases List.mem_cons.1 (List.getElem_mem hk) with h | h
    ·rw [h]; omega
    ·rw [List.mem_singleton.1 h]; omega
   simp only [un2, ltl hk, ifB_t, ixI_get hk, ob_some, hw]; rw [apG_ok (by omega), ob_some, List.length_append]; exact ⟨rfl, by rw [Nat.mul_add]; omega⟩
 ·intro n _; simp only [un2, ltn, ifB_f, id]
 ·intro n k hk hn; have hk2 : k < 2 := hk; have hw := w64_1 hk2 (by omega); have hm : ([a, b])[k].length ≤ 1000000 := by
   rcases List.mem_cons.1 (List.getElem_mem hk) with h | h
   ·rw [h]; omega
   ·rw [List.mem_singleton.1 h]; omega
  simp only [un2, ltl hk, ifB_t, ixI_get hk, ob_some, hw]; rw [show IntKind.i64.wrap (n + (([a, b][k].length : Nat) : Int)) = n + (([a, b][k].length : Nat) : Int) from by rw [IntKind.wrap_i64]; omega, decide_eq_false (by omega), ifB_f]; exact ⟨rfl, by push_cast; omega⟩
theorem recT_len {t : KTx} (h : Txs t) : (recT t).length ≤ 10021 := frm_max h.ok
theorem txs_count {b : List Int} (hb : By b) : 11 * (txsS b).length ≤ b.length := Nat.le_trans (logB_many _) (txs_len hb)
theorem app_p {b : List Int} {t : KTx} (hb : By b) (hl : b.length ≤ 100000) (ht : FewT t) {F : Nat} (hF : 200000 < F) : G_journal_Append F b t = some (appS b t) := by
 have hc := txs_count hb; unfold G_journal_Append appS; rw [load_p hb hl hF]; simp only [ob_some, un3]; rw [show ((0 : Int) == 0) = true from rfl, ifB_t, jformed_p t ht (by omega)]; simp only [ob_some]; cases hf : txS t with
 | false => rfl
 | true =>
  have hx := (txs_iff t).1 hf; have hr := recT_len hx; rw [ifB_t, leq, if_pos rfl]
  by_cases h1 : (logB (txsS b)).length = b.length
  ·have ho := old_ix (txsS b) t (by omega); rw [obs] at ho; rw [decide_eq_true h1, ifB_t, if_pos h1, ho, ob_some]; cases oldB (txsS b) t with
   | true => rfl
   | false =>
    rw [ifB_f, ints_p t ht (by omega), ob_some, frame_p hx.ok (by omega)]; simp only [ob_some, un2]; rw [show ((0 : Int) == 0) = true from rfl, ifB_t, show frmS (intsS t) = recT t from rfl, show IntKind.i64.wrap (((b.length : Nat) : Int) + (((recT t).length : Nat) : Int)) = ((b.length + (recT t).length : Nat) : Int) from by rw [IntKind.wrap_i64]; omega]; rw [if_neg (by simp)]
    by_cases h2 : b.length + (recT t).length ≤ 100000
    ·rw [decide_eq_false (by omega), ifB_f, if_pos h2, concat_p _ _ (by omega) (by omega)]; rfl
    ·rw [decide_eq_true (by omega), ifB_t, if_neg h2]
  ·rw [decide_eq_false h1, ifB_f, if_neg h1]
def vsT (t : KTx) : List Ver := t.Writes.map fun w => ⟨w.Key, t.Ts, w.Value, w.Gone⟩
theorem vsOf_cons (t : KTx) (ts : List KTx) : vsOf (t :: ts) = vsT t ++ vsOf ts := List.flatMap_cons
theorem vsOf_one (t : KTx) : vsOf [t] = vsT t := by rw [vsOf_cons]; exact List.append_nil _
theorem map_vk (l : List Ver) : (l.map Ver.k).map KVersion.v = l := by rw [List.map_map]; exact List.map_id l
theorem map_kv (l : List KVersion) : (l.map KVersion.v).map Ver.k = l := by rw [List.map_map]; exact List.map_id l
theorem put_k (F : Nat) {m m' : List Ver} {v : KVersion} (hl : m.length ≤ 1000000) (h : putS m v.v = (m', 0)) : G_versions_Put F (m.map Ver.k) v = some (m'.map Ver.k, 0) := by
 unfold G_versions_Put; rw [if_pos (by rw [List.length_map]; omega), map_vk, h]; rfl
theorem puts_cons {v : Ver} {vs l m : List Ver} (h : putsS l (v :: vs) = (m, 0)) : ∃ m', putS l v = (m', 0) ∧ putsS m' vs = (m, 0) := by
 obtain ⟨m', h1, h2⟩ := puts_app (a := [v]) (b := vs) h; exact ⟨m', puts_one h1, h2⟩
theorem puts_take {vs l m : List Ver} (h : putsS l vs = (m, 0)) (k : Nat) (hk : k < vs.length) : ∃ m1 m2, putsS l (vs.take k) = (m1, 0) ∧ putS m1 vs[k] = (m2, 0) ∧ putsS l (vs.take (k + 1)) = (m2, 0) := by
 have e : vs = vs.take k ++ (vs[k] :: vs.drop (k + 1)) := by rw [← List.drop_eq_getElem_cons hk, List.take_append_drop]
 have e2 : vs = vs.take (k + 1) ++ vs.drop (k + 1) := (List.take_append_drop _ _).symm; obtain ⟨m1, h1, h2⟩ := puts_app (by rw [← e]; exact h); obtain ⟨m2, h3, h4⟩ := puts_cons h2; obtain ⟨m3, h5, _⟩ := puts_app (by rw [← e2]; exact h); rw [List.take_succ_eq_append_getElem hk] at h5 ⊢; obtain ⟨m4, h6, h7⟩ := puts_app h5; rw [h1] at h6; cases h6; have h8 := puts_one h7; rw [h3] at h8; cases h8; exact ⟨m1, m2, h1, h3, h5⟩
theorem puts_len : ∀ {vs l m : List Ver}, putsS l vs = (m, 0) → m.length = l.length + vs.length
 | [], l, m, h => by cases h; rfl
 | v :: vs, l, m, h => by
  obtain ⟨m', h1, h2⟩ := puts_cons h; have h3 := puts_len h2; have h4 : m'.length = l.length + 1 := by
   unfold putS at h1
   split at h1
   ·cases h1
   ·split at h1
    ·cases h1
    ·split at h1
     ·cases h1
     ·cases h1; have := (putL_perm l v).length_eq
      simpa using this
  rw [List.length_cons]; omega
theorem putT_p {t : KTx} {m m' : List Ver} (hw : t.Writes.length ≤ 20) (hm : m.length ≤ 100000) (h : putsS m (vsT t) = (m', 0)) {F0 F : Nat} (hF : 64 ≤ F) : iter (σ := Int × (List KVersion)) (ρ := (List KVersion) ⊕ Int) (un2 fun (v_137 : Int) (v_138 : (List KVersion)) => 
                  (ifB (decide (v_137 < ((t.Writes.length : Nat) : Int)))
                    (Option.bind (ixI t.Writes v_137) (fun v_143 =>
                    Option.bind (G_versions_Put F0 v_138 (⟨v_143.Key, t.Ts, v_143.Value, v_143.Gone⟩ : KVersion)) (un2 fun v_147 v_148 =>
                    ifB ((v_148 == 0))
                      (some (.inl (IntKind.i64.wrap (v_137 + 1), v_147)))
                      (some (.inr (.inr v_148))))))
                    (some (.inr (.inl v_138))) : Option ((Int × (List KVersion)) ⊕ ((List KVersion) ⊕ Int)))) F (0, m.map Ver.k) = some (.inl (m'.map Ver.k)) := by
  have hvl : (vsT t).length = t.Writes.length := List.length_map _
  have hl : t.Writes.length < F := by omega
  have := iter_seq (f := un2 fun (v_137 : Int) (v_138 : (List KVersion)) => 
                  (ifB (decide (v_137 < ((t.Writes.length : Nat) : Int)))
                    (Option.bind (ixI t.Writes v_137) (fun v_143 =>
                    Option.bind (G_versions_Put F0 v_138 (⟨v_143.Key, t.Ts, v_143.Value, v_143.Gone⟩ : KVersion)) (un2 fun v_147 v_148 =>
                    ifB ((v_148 == 0))
                      (some (.inl (IntKind.i64.wrap (v_137 + 1), v_147)))
                      (some (.inr (.inr v_148))))))
                    (some (.inr (.inl v_138))) : Option ((Int × (List KVersion)) ⊕ ((List KVersion) ⊕ Int)))) (fun k => ((k : Int), ((putsS m ((vsT t).take k)).1).map Ver.k)) t.Writes.length (.inl (m'.map Ver.k)) ?_ ?_ hl
  · exact this
  · intro k hk
    obtain ⟨m1, m2, h1, h2, h3⟩ := puts_take h k (by omega)
    have hl1 := puts_len h1
    rw [List.length_take] at hl1
    simp only [un2, ltl hk, ifB_t, ixI_get hk, ob_some]
    rw [h1, h3]
    have e : (vsT t)[k]'(by omega) = (⟨t.Writes[k].Key, t.Ts, t.Writes[k].Value, t.Writes[k].Gone⟩ : KVersion).v := by unfold vsT; rw [List.getElem_map]; rfl
    rw [e] at h2
    rw [put_k F0 (by omega) h2]
    simp only [ob_some, un2]
    rw [show ((0 : Int) == 0) = true from rfl, ifB_t, w64_nat (by omega)]
  · simp only [un2, ltn, ifB_f]
    rw [← hvl, List.take_length, h]
def stoS (ts : List KTx) : List Ver := (putsS [] (vsOf ts)).1
theorem stoS_ok {ts : List KTx} (h : logS ts = true) (hl : (vsOf ts).length ≤ 4000) : putsS [] (vsOf ts) = (stoS ts, 0) ∧ Sto (stoS ts) ∧ (stoS ts).length = (vsOf ts).length := by
 obtain ⟨m, h1, h2, h3, _⟩ := puts_nil (ins_of h) hl; have e : stoS ts = m := by unfold stoS; rw [h1]
 rw [e]; exact ⟨h1, h2, h3.length_eq⟩
theorem vsOf_take (ts : List KTx) (k : Nat) (hk : k < ts.length) : vsOf (ts.take (k + 1)) = vsOf (ts.take k) ++ vsT ts[k] := by
 rw [List.take_succ_eq_append_getElem hk, vs_app, vsOf_one]
theorem vsOf_len_take (ts : List KTx) (k : Nat) : (vsOf (ts.take k)).length ≤ (vsOf ts).length := by
 have : vsOf ts = vsOf (ts.take k) ++ vsOf (ts.drop k) := by rw [← vs_app, List.take_append_drop]
 rw [this, List.length_append]; omega
theorem sto_step {ts : List KTx} (h : logS ts = true) (hl : (vsOf ts).length ≤ 4000) (k : Nat) (hk : k < ts.length) : putsS (stoS (ts.take k)) (vsT ts[k]) = (stoS (ts.take (k + 1)), 0) := by
 obtain ⟨h1, _, _⟩ := stoS_ok (logS_take h k) (Nat.le_trans (vsOf_len_take ts k) hl); obtain ⟨h2, _, _⟩ := stoS_ok (logS_take h (k + 1)) (Nat.le_trans (vsOf_len_take ts (k + 1)) hl); rw [vsOf_take ts k hk] at h2; obtain ⟨m, h3, h4⟩ := puts_app h2; rw [h1] at h3; cases h3; exact h4
def ldr (ts : List KTx) : KLeader := ⟨lastT 0 ts, (stoS ts).map Ver.k, []⟩
theorem lastT_take (a : Int) (ts : List KTx) (k : Nat) (hk : k < ts.length) : lastT a (ts.take (k + 1)) = ts[k].Ts := by
 unfold lastT; rw [List.take_succ_eq_append_getElem hk, List.foldl_append]; rfl
theorem recover_p {b : List Int} (hb : By b) (hl : b.length ≤ 100000) (hv : (vsOf (txsS b)).length ≤ 4000) {F : Nat} (hF : 200000 < F) : G_journal_Recover F b = some (ldr (txsS b), (((logB (txsS b)).length : Nat) : Int), 0) := by
  have hc := txs_count hb
  unfold G_journal_Recover
  rw [load_p hb hl hF]
  simp only [ob_some, un3]
  rw [show ((0 : Int) == 0) = true from rfl, ifB_t]
  have hlog := txs_log b
  have hfew := txs_few (b := b)
  generalize txsS b = ts at hc hv hlog hfew ⊢
  have := iter_seq (f := un3 fun (v_106 : Int) (v_107 : Int) (v_108 : (List KVersion)) => 
          (ifB (decide (v_106 < ((ts.length : Nat) : Int)))
            (Option.bind (ixI ts v_106) (fun v_113 =>
            Option.bind (Option.bind (iter (σ := Int × (List KVersion)) (ρ := (List KVersion) ⊕ Int) (un2 fun (v_137 : Int) (v_138 : (List KVersion)) => 
                  (ifB (decide (v_137 < ((v_113.Writes.length : Nat) : Int)))
                    (Option.bind (ixI v_113.Writes v_137) (fun v_143 =>
                    Option.bind (G_versions_Put F v_138 (⟨v_143.Key, v_113.Ts, v_143.Value, v_143.Gone⟩ : KVersion)) (un2 fun v_147 v_148 =>
                    ifB ((v_148 == 0))
                      (some (.inl (IntKind.i64.wrap (v_137 + 1), v_147)))
                      (some (.inr (.inr v_148))))))
                    (some (.inr (.inl v_138))) : Option ((Int × (List KVersion)) ⊕ ((List KVersion) ⊕ Int)))) F (0, v_108)) (Sum.elim (fun (v_150 : (List KVersion)) => 
                some (.inl v_150)) (fun (v_153 : Int) => 
                some (.inr v_153))) : Option ((List KVersion) ⊕ Int)) (Sum.elim (fun (v_155 : (List KVersion)) => 
              some (.inl (IntKind.i64.wrap (v_106 + 1), v_113.Ts, v_155))) (fun (v_158 : Int) => 
              some (.inr (.inr v_158))))))
            (some (.inr (.inl (v_107, v_108)))) : Option ((Int × Int × (List KVersion)) ⊕ ((Int × (List KVersion)) ⊕ Int)))) (fun k => ((k : Int), lastT 0 (ts.take k), (stoS (ts.take k)).map Ver.k)) ts.length (.inl (lastT 0 ts, (stoS ts).map Ver.k)) ?_ ?_ (F := F) (by omega)
  · rw [show ((0 : Nat) : Int) = 0 from rfl] at this
    rw [show lastT 0 (ts.take 0) = 0 from rfl, show (stoS (ts.take 0)).map Ver.k = [] from rfl] at this
    rw [this]
    rfl
  · intro k hk
    have h1 := sto_step hlog hv k hk
    have hs := (stoS_ok (logS_take hlog k) (Nat.le_trans (vsOf_len_take ts k) hv)).2.2
    have hq := vsOf_len_take ts k
    simp only [un3, ltl hk, ifB_t, ixI_get hk, ob_some]
    rw [putT_p (by have := (hfew _ (List.getElem_mem hk)).w; omega) (by omega) h1 (by omega), lastT_take 0 ts k hk]
    simp only [ob_some, Sum.elim_inl]
    rw [w64_nat (by omega)]
  · simp only [un3, ltn, ifB_f, List.take_length]
end Go.Proofs.Ytlfkgbideknkhaa
namespace Go.Proofs.Ytlfkgbideknkhaa
set_option maxRecDepth 1000000 in
theorem head37n (n : Nat) : G_regulatorlaw37_head (n + 300000) = some true := by kernel_rfl
theorem head37 {F : Nat} (hF : 300000 ≤ F) : G_regulatorlaw37_head F = some true := by
 obtain ⟨n, rfl⟩ : ∃ n, F = n + 300000 := ⟨F - 300000, by omega⟩; exact head37n n
end Go.Proofs.Ytlfkgbideknkhaa
namespace Go.Proofs.Ytlfkgbideknkhaa
open Go.ChangeShapes Go.WideShapes Go.ChangeAt Go.RowKit Go.Deep
theorem own : ownKnob Try.prog.godebug = none := by kernel_rfl
theorem laidOut : laidOutB Try.prog = true := by kernel_rfl
section
variable {H : Type} {enc : TypeId × Value → H}
theorem trodAll_below {P : Program} (hl : laidOutB P = true) {W W' : World} (hb : Below W.heap.size W W') : ∀ {ts : List TypeId} {vs : List Value} {ds : List (DataW H)} {ps : List MemPlace},
  (∀ t ∈ ts, P.readableRec t = true ∧ t < P.types.size) → DataW.TrodAll enc P W 0 (fun _ => true) true ts vs ds ps → (∀ x ∈ ps, x.block < W.heap.size) →
  DataW.TrodAll enc P W' 0 (fun b => decide (b < W.heap.size)) true ts vs ds ps
 | [], vs, ds, ps, _, h, _ => by
  obtain ⟨rfl, rfl, rfl⟩ := trodAll_nil h; rfl
 | t :: ts, vs, ds, ps, hr, h, hlt => by
  obtain ⟨v, vs', d, ds', p, q, rfl, rfl, rfl, h1, h2⟩ := trodAll_cons h; have h0 := hr t (by simp); exact trodAll_cons_mk (Below.trod hl h0.1 h0.2 h1 hb (fun x hx => hlt x (by simp [hx]))) (trodAll_below hl hb (fun t ht => hr t (by simp [ht])) h2 (fun x hx => hlt x (by simp [hx])))
theorem post_true {P : Program} {fn : Func} {s : ChangeSpec} {W W' : World} {args : Array Value} {ds gs : List (DataW H)} {before : List MemPlace} {b : TypeId} (hl : laidOutB P = true)
  (hr : ∀ t ∈ fn.params.toList, P.readableRec t = true ∧ t < P.types.size) (hb4 : P.underlying b = some .bool) (hrt : fn.resultTypes = #[b]) (hs : s.vars = [])
  (hW : DataW.Whole enc P fn.params.toList s.vars false W args.toList ds gs before) (hres : (s.fn H (ds ++ gs)).results = [.lit (.bool true)]) (hargs : (s.fn H (ds ++ gs)).args = ds) (hvs : (s.fn H (ds ++ gs)).vars = [])
  (hb : Below W.heap.size W W') : s.post enc P fn false true false false W args (.bool true) W' := by
 have hW' := hW; obtain ⟨p, q, hA, hV, rfl, _, _⟩ := hW; rw [hs] at hV; obtain ⟨rfl, rfl⟩ := trodVars_none hV; refine ⟨_, _, _, [], p, [], hW', ?_, ?_, ?_, hb.frame _, fun h => by cases h⟩
 ·rw [hres, hrt]; exact trodAll_mk1 (shut_bool hb4 true)
 ·rw [hargs]; exact trodAll_below hl hb hr hA (fun x hx => by simpa using hW'.lt x (by simp [hx]))
 ·rw [hvs, hs]; rfl
end
end Go.Proofs.Ytlfkgbideknkhaa
namespace Go.Proofs.Ytlfkgbideknkhaa
open Go.ChangeShapes Go.WideShapes Go.ChangeAt Go.RowKit Go.Deep
def inKd (k : IntKind) (n : Int) : Prop := (Lit.int k n).wf = true
theorem inKd_u32 {n : Int} (h : inKd .u32 n) : 0 ≤ n ∧ n ≤ 4294967295 := by
 have : IntKind.u32.min ≤ n ∧ n ≤ IntKind.u32.max := by simpa [inKd, Lit.wf] using h
 rwa [show IntKind.u32.min = 0 by decide, show IntKind.u32.max = 4294967295 by decide] at this
theorem rowS_all {w : World} {A : Option Addr} {xs : List Value} (h : Rd w A xs) : RowS (fun g => g < w.heap.size) w A xs := ⟨h, fun hn => by obtain ⟨b, o, e, hb, _⟩ := h hn; exact ⟨b, o, e, hb⟩⟩
theorem choose_ltK {α : Type} [Inhabited α] {n : Nat} {p : Nat → α → Prop} (h : ∀ i, i < n → ∃ v, p i v) : ∃ V : Nat → α, ∀ i, i < n → p i (V i) := by
 have h' : ∀ i, ∃ v, i < n → p i v := fun i => by
  rcases Nat.lt_or_ge i n with hi | hi
  ·obtain ⟨v, hv⟩ := h i hi; exact ⟨v, fun _ => hv⟩
  ·exact ⟨default, fun h => absurd h (Nat.not_lt.2 hi)⟩
 exact ⟨fun i => Classical.choose (h' i), fun i => Classical.choose_spec (h' i)⟩
theorem flr_get {α : Type} (f : α → List Value) (m : Nat) (hm : ∀ x, (f x).length = m) : ∀ (l : List α) (k j : Nat) (hk : k < l.length), j < m → (l.flatMap f)[k * m + j]? = (f l[k])[j]?
 | [], k, j, hk, _ => absurd hk (Nat.not_lt_zero _)
 | x :: l, 0, j, _, hj => by
  rw [List.flatMap_cons, Nat.zero_mul, Nat.zero_add, List.getElem?_append_left (by rw [hm]; exact hj)]; rfl
 | x :: l, k + 1, j, hk, hj => by
  rw [List.flatMap_cons, List.getElem?_append_right (by rw [hm, Nat.add_mul]; omega), hm]; have := flr_get f m hm l k j (by simpa using hk) hj; rw [← show (k + 1) * m + j - m = k * m + j from by rw [Nat.add_mul]; omega] at this; exact this
theorem cell_ltK {w : World} {b o : Nat} {u : Value} (h : w.cell? ⟨b, o, none⟩ = some u) : b < w.heap.size := World.block_lt_of_cell? w ⟨b, o, none⟩ h
section
variable {α : Type} {f : α → List Value} {m : Nat} {w : World}
theorem rd_mk {b o : Nat} {l : List α} (hm : ∀ x, (f x).length = m) (h0 : 0 < m) (h : ∀ i (hi : i < l.length) j, j < m → w.cell? ⟨b, o + i * m + j, none⟩ = (f l[i])[j]?) : Rd w (some ⟨b, o, none⟩) (l.flatMap f) := fun hne => by
 have hl : 0 < l.length := by
  cases l with
  | nil => exact absurd rfl hne
  | cons _ _ => simp
 have hlen := fl_len f m hm l; refine ⟨b, o, rfl, ?_, fun j u hu => ?_⟩
 ·have h1 := h 0 hl 0 h0; have h2 : (f l[0])[0]? = some ((f l[0])[0]'(by rw [hm]; exact h0)) := List.getElem?_eq_getElem _; rw [h2] at h1; exact cell_ltK h1
 ·have hj : j < l.length * m := by
   have := (List.getElem?_eq_some_iff.1 hu).1
   rwa [hlen] at this
  have hi : j / m < l.length := Nat.div_lt_of_lt_mul (by rw [Nat.mul_comm]; exact hj); have hr : j % m < m := Nat.mod_lt _ h0; have he : j / m * m + j % m = j := by rw [Nat.mul_comm]; exact Nat.div_add_mod _ _
  have hg := flr_get f m hm l (j / m) (j % m) hi hr; rw [he] at hg; rw [hg] at hu; have := h (j / m) hi (j % m) hr; rw [Nat.add_assoc, he] at this; rw [this]; exact hu
end
section
variable {H : Type} {enc : TypeId × Value → H} {w : World} {base : Nat} {spare : Nat → Bool} {held : Bool}
theorem trod_rowS {α : Type} [Inhabited α] (f : α → List Value) {m : Nat} (h0 : 0 < m) (hm : ∀ x, (f x).length = m) {T E : TypeId} (hu : Try.prog.underlying T = some (.slice E)) (hc : Try.prog.cellsOf E = m) (Q : α → Prop)
  (hE : ∀ n cs x, DataW.trod enc Try.prog w base spare held n E cs = some x → ∃ v, cs = f v ∧ Q v) {fuel : Nat} {cs : List Value} {x : DataW H × List MemPlace} (h : DataW.trod enc Try.prog w base spare held fuel T cs = some x) :
  ∃ (A : Option Addr) (c : Nat) (l : List α), cs = [.slice A l.length c] ∧ l.length ≤ c ∧ c ≤ maxLen ∧ Rd w A (l.flatMap f) ∧ ∀ v ∈ l, Q v := by
 obtain ⟨d, p⟩ := x; rcases open_slice hu h with ⟨hcs, _⟩ | ⟨a, len, cap, mm, n, D, Pl, hcs, _, hl, hmx, hmm, _, hx⟩
 ·exact ⟨none, 0, [], hcs, Nat.le_refl _, Nat.zero_le _, Rd.nil _ _, fun v hv => by cases hv⟩
 ·have hlm : len ≤ mm := by rw [hmm]; split <;> omega
  have hex : ∀ i, i < len → ∃ v : α, (∀ j, j < m → w.cell? ((a.add (i * m)).add j) = (f v)[j]?) ∧ Q v := fun i hi => by
   obtain ⟨cs', h1, h2⟩ := hx i (by omega); rw [hc] at h1; obtain ⟨v, rfl, hq⟩ := hE _ _ _ h2; exact ⟨v, (World.cells?_some h1).2.2, hq⟩
  obtain ⟨V, hV⟩ := choose_ltK hex; refine ⟨some a, cap, (List.range len).map V, by rw [hcs]; simp, by simpa using hl, hmx, ?_, ?_⟩
  ·rcases Nat.eq_zero_or_pos len with h00 | h00
   ·subst h00; exact Rd.nil _ _
   obtain ⟨b, o, spot⟩ := a; have hs : spot = none := by
    have := (hV 0 h00).1 0 h0; simp only [Nat.zero_mul, Addr.add, if_true] at this; have h2 : (f (V 0))[0]? = some ((f (V 0))[0]'(by rw [hm]; exact h0)) := List.getElem?_eq_getElem _; rw [h2] at this; exact World.cell?_spot this
   subst hs; refine rd_mk hm h0 fun i hi j hj => ?_
   have hi' : i < len := by simpa using hi
   have e : ∀ j, (((⟨b, o, none⟩ : Addr).add (i * m)).add j) = ⟨b, o + i * m + j, none⟩ := fun j => by rw [add_addr, add_addr]
   have hcc := (hV i hi').1 j hj; rw [e] at hcc; simp only [List.getElem_map, List.getElem_range]; exact hcc
  ·intro v hv; obtain ⟨i, hi, rfl⟩ := List.mem_map.1 hv; exact (hV i (List.mem_range.1 hi)).2
end
end Go.Proofs.Ytlfkgbideknkhaa
namespace Go.Proofs.Ytlfkgbideknkhaa
open Go.ChangeShapes Go.WideShapes Go.ChangeAt Go.RowKit Go.Deep
section
variable {H : Type} {enc : TypeId × Value → H} {w : World} {base : Nat} {spare : Nat → Bool} {held : Bool}
set_option maxRecDepth 10000
theorem trod_int {n : Nat} {cs : List Value} {x : DataW H × List MemPlace} (h : DataW.trod enc Try.prog w base spare held n 3 cs = some x) : ∃ v : Int, cs = c_i64 v ∧ inKd .i64 v := by
 obtain ⟨a, e, _, hw⟩ := DataW.trod_int Try.underlying3 h; exact ⟨a, e, hw⟩
theorem cl_int : Try.prog.cellsOf 3 = 1 := by kernel_rfl
theorem cl_api_Seen : Try.prog.cellsOf 95 = 2 := by kernel_rfl
structure KSeen.rng (x : KSeen) : Prop where
 r_Key : inKd .i64 x.Key
 r_Ts : inKd .i64 x.Ts
theorem tf_api_Seen : ∃ f0 f1 : Field, Try.prog.underlying 95 = some (.struct #[f0, f1]) ∧ (f0.offset = 0 ∧ f0.type = 3) ∧ (f1.offset = 1 ∧ f1.type = 3) := ⟨_, _, Try.underlying95, ⟨by kernel_rfl, by kernel_rfl⟩, ⟨by kernel_rfl, by kernel_rfl⟩⟩
theorem trod_api_Seen {n : Nat} {cs : List Value} {x : DataW H × List MemPlace} (h : DataW.trod enc Try.prog w base spare held n 95 cs = some x) : ∃ v : KSeen, cs = v.cells ∧ KSeen.rng v := by
 obtain ⟨f0, f1, hu, ⟨o0, t0⟩, ⟨o1, t1⟩⟩ := tf_api_Seen; obtain ⟨xs, n', _, _, hlen, hxl, hf⟩ := DataW.trod_struct hu h; rw [cl_api_Seen] at hlen
 match cs, hlen with
 | [c0, c1], _ =>
  have q0 := hf 0 f0 rfl; obtain ⟨y0, hy0⟩ : ∃ y, xs[0]? = some y := ⟨_, List.getElem?_eq_getElem (by rw [hxl]; exact (by decide : 0 < 2))⟩; rw [hy0, o0, t0, cl_int] at q0; obtain ⟨v0, e0, hg0⟩ := trod_int q0; replace e0 : [c0] = [I v0] := e0; simp only [List.cons.injEq, and_true] at e0; obtain rfl := e0; have q1 := hf 1 f1 rfl; obtain ⟨y1, hy1⟩ : ∃ y, xs[1]? = some y := ⟨_, List.getElem?_eq_getElem (by rw [hxl]; exact (by decide : 1 < 2))⟩; rw [hy1, o1, t1, cl_int] at q1; obtain ⟨v1, e1, hg1⟩ := trod_int q1; replace e1 : [c1] = [I v1] := e1; simp only [List.cons.injEq, and_true] at e1; obtain rfl := e1; exact ⟨⟨v0, v1⟩, rfl, ⟨hg0, hg1⟩⟩
instance : Inhabited KSeen := ⟨⟨0, 0⟩⟩
theorem trod_Sl_api_Seen {n : Nat} {cs : List Value} {x : DataW H × List MemPlace} (h : DataW.trod enc Try.prog w base spare held n 23 cs = some x) :
  ∃ (A : Option Addr) (c : Nat) (l : List KSeen), cs = [.slice A l.length c] ∧ RowC A c KSeen.cells tr l (fun g => g < w.heap.size) w ∧ (∀ y ∈ l, KSeen.rng y) := by
 obtain ⟨A, c, l, h1, h2, h3, h4, h5⟩ := trod_rowS KSeen.cells (m := 2) (by decide) (fun _ => rfl) Try.underlying23 cl_api_Seen (fun v : KSeen => KSeen.rng v) (fun _ _ _ hx => trod_api_Seen hx) h; exact ⟨A, c, l, h1, ⟨rowS_all h4, h2, fun _ _ => trivial⟩, h5⟩
theorem cl_Sl_api_Seen : Try.prog.cellsOf 23 = 1 := by kernel_rfl
theorem trod_bool {n : Nat} {cs : List Value} {x : DataW H × List MemPlace} (h : DataW.trod enc Try.prog w base spare held n 4 cs = some x) : ∃ v : Bool, cs = c_bool v ∧ True := by
 obtain ⟨a, e, _⟩ := DataW.trod_bool Try.underlying4 h; exact ⟨a, e, trivial⟩
theorem cl_bool : Try.prog.cellsOf 4 = 1 := by kernel_rfl
theorem cl_api_Write : Try.prog.cellsOf 66 = 3 := by kernel_rfl
structure KWrite.rng (x : KWrite) : Prop where
 r_Key : inKd .i64 x.Key
 r_Value : inKd .i64 x.Value
 r_Gone : (fun _ : Bool => True) x.Gone
theorem tf_api_Write : ∃ f0 f1 f2 : Field, Try.prog.underlying 66 = some (.struct #[f0, f1, f2]) ∧ (f0.offset = 0 ∧ f0.type = 3) ∧ (f1.offset = 1 ∧ f1.type = 3) ∧ (f2.offset = 2 ∧ f2.type = 4) := ⟨_, _, _, Try.underlying66, ⟨by kernel_rfl, by kernel_rfl⟩, ⟨by kernel_rfl, by kernel_rfl⟩, ⟨by kernel_rfl, by kernel_rfl⟩⟩
theorem trod_api_Write {n : Nat} {cs : List Value} {x : DataW H × List MemPlace} (h : DataW.trod enc Try.prog w base spare held n 66 cs = some x) : ∃ v : KWrite, cs = v.cells ∧ KWrite.rng v := by
 obtain ⟨f0, f1, f2, hu, ⟨o0, t0⟩, ⟨o1, t1⟩, ⟨o2, t2⟩⟩ := tf_api_Write; obtain ⟨xs, n', _, _, hlen, hxl, hf⟩ := DataW.trod_struct hu h; rw [cl_api_Write] at hlen
 match cs, hlen with
 | [c0, c1, c2], _ =>
  have q0 := hf 0 f0 rfl; obtain ⟨y0, hy0⟩ : ∃ y, xs[0]? = some y := ⟨_, List.getElem?_eq_getElem (by rw [hxl]; exact (by decide : 0 < 3))⟩; rw [hy0, o0, t0, cl_int] at q0; obtain ⟨v0, e0, hg0⟩ := trod_int q0; replace e0 : [c0] = [I v0] := e0; simp only [List.cons.injEq, and_true] at e0; obtain rfl := e0; have q1 := hf 1 f1 rfl; obtain ⟨y1, hy1⟩ : ∃ y, xs[1]? = some y := ⟨_, List.getElem?_eq_getElem (by rw [hxl]; exact (by decide : 1 < 3))⟩; rw [hy1, o1, t1, cl_int] at q1; obtain ⟨v1, e1, hg1⟩ := trod_int q1; replace e1 : [c1] = [I v1] := e1; simp only [List.cons.injEq, and_true] at e1; obtain rfl := e1; have q2 := hf 2 f2 rfl; obtain ⟨y2, hy2⟩ : ∃ y, xs[2]? = some y := ⟨_, List.getElem?_eq_getElem (by rw [hxl]; exact (by decide : 2 < 3))⟩; rw [hy2, o2, t2, cl_bool] at q2; obtain ⟨v2, e2, hg2⟩ := trod_bool q2; replace e2 : [c2] = [B v2] := e2; simp only [List.cons.injEq, and_true] at e2; obtain rfl := e2; exact ⟨⟨v0, v1, v2⟩, rfl, ⟨hg0, hg1, hg2⟩⟩
instance : Inhabited KWrite := ⟨⟨0, 0, false⟩⟩
theorem trod_Sl_api_Write {n : Nat} {cs : List Value} {x : DataW H × List MemPlace} (h : DataW.trod enc Try.prog w base spare held n 24 cs = some x) :
  ∃ (A : Option Addr) (c : Nat) (l : List KWrite), cs = [.slice A l.length c] ∧ RowC A c KWrite.cells tr l (fun g => g < w.heap.size) w ∧ (∀ y ∈ l, KWrite.rng y) := by
 obtain ⟨A, c, l, h1, h2, h3, h4, h5⟩ := trod_rowS KWrite.cells (m := 3) (by decide) (fun _ => rfl) Try.underlying24 cl_api_Write (fun v : KWrite => KWrite.rng v) (fun _ _ _ hx => trod_api_Write hx) h; exact ⟨A, c, l, h1, ⟨rowS_all h4, h2, fun _ _ => trivial⟩, h5⟩
theorem cl_Sl_api_Write : Try.prog.cellsOf 24 = 1 := by kernel_rfl
theorem cl_api_Tx : Try.prog.cellsOf 26 = 4 := by kernel_rfl
structure KTx.rng (x : KTx) : Prop where
 r_ID : inKd .i64 x.ID
 r_Ts : inKd .i64 x.Ts
 r_Reads : (fun l : List KSeen => ∀ y ∈ l, KSeen.rng y) x.Reads
 r_Writes : (fun l : List KWrite => ∀ y ∈ l, KWrite.rng y) x.Writes
theorem tf_api_Tx : ∃ f0 f1 f2 f3 : Field, Try.prog.underlying 26 = some (.struct #[f0, f1, f2, f3]) ∧ (f0.offset = 0 ∧ f0.type = 3) ∧ (f1.offset = 1 ∧ f1.type = 3) ∧ (f2.offset = 2 ∧ f2.type = 23) ∧ (f3.offset = 3 ∧ f3.type = 24) := ⟨_, _, _, _, Try.underlying26, ⟨by kernel_rfl, by kernel_rfl⟩, ⟨by kernel_rfl, by kernel_rfl⟩, ⟨by kernel_rfl, by kernel_rfl⟩, ⟨by kernel_rfl, by kernel_rfl⟩⟩
theorem trod_api_Tx {n : Nat} {cs : List Value} {x : DataW H × List MemPlace} (h : DataW.trod enc Try.prog w base spare held n 26 cs = some x) : ∃ v : KTxL, cs = v.cells ∧ KTxL.ok v (fun g => g < w.heap.size) w ∧ KTx.rng v.p := by
 obtain ⟨f0, f1, f2, f3, hu, ⟨o0, t0⟩, ⟨o1, t1⟩, ⟨o2, t2⟩, ⟨o3, t3⟩⟩ := tf_api_Tx; obtain ⟨xs, n', _, _, hlen, hxl, hf⟩ := DataW.trod_struct hu h; rw [cl_api_Tx] at hlen
 match cs, hlen with
 | [c0, c1, c2, c3], _ =>
  have q0 := hf 0 f0 rfl; obtain ⟨y0, hy0⟩ : ∃ y, xs[0]? = some y := ⟨_, List.getElem?_eq_getElem (by rw [hxl]; exact (by decide : 0 < 4))⟩; rw [hy0, o0, t0, cl_int] at q0; obtain ⟨v0, e0, hg0⟩ := trod_int q0; replace e0 : [c0] = [I v0] := e0; simp only [List.cons.injEq, and_true] at e0; obtain rfl := e0; have q1 := hf 1 f1 rfl; obtain ⟨y1, hy1⟩ : ∃ y, xs[1]? = some y := ⟨_, List.getElem?_eq_getElem (by rw [hxl]; exact (by decide : 1 < 4))⟩; rw [hy1, o1, t1, cl_int] at q1; obtain ⟨v1, e1, hg1⟩ := trod_int q1; replace e1 : [c1] = [I v1] := e1; simp only [List.cons.injEq, and_true] at e1; obtain rfl := e1; have q2 := hf 2 f2 rfl; obtain ⟨y2, hy2⟩ : ∃ y, xs[2]? = some y := ⟨_, List.getElem?_eq_getElem (by rw [hxl]; exact (by decide : 2 < 4))⟩; rw [hy2, o2, t2, cl_Sl_api_Seen] at q2; obtain ⟨A2, k2, v2, e2, hr2, hg2⟩ := trod_Sl_api_Seen q2; replace e2 : [c2] = [.slice A2 v2.length k2] := e2; simp only [List.cons.injEq, and_true] at e2; obtain rfl := e2; have q3 := hf 3 f3 rfl; obtain ⟨y3, hy3⟩ : ∃ y, xs[3]? = some y := ⟨_, List.getElem?_eq_getElem (by rw [hxl]; exact (by decide : 3 < 4))⟩; rw [hy3, o3, t3, cl_Sl_api_Write] at q3; obtain ⟨A3, k3, v3, e3, hr3, hg3⟩ := trod_Sl_api_Write q3; replace e3 : [c3] = [.slice A3 v3.length k3] := e3; simp only [List.cons.injEq, and_true] at e3; obtain rfl := e3; exact ⟨⟨v0, v1, A2, k2, v2, A3, k3, v3⟩, rfl, ⟨hr2, hr3⟩, ⟨hg0, hg1, hg2, hg3⟩⟩
instance : Inhabited KTxL := ⟨⟨0, 0, none, 0, [], none, 0, []⟩⟩
theorem trod_Sl_api_Tx {n : Nat} {cs : List Value} {x : DataW H × List MemPlace} (h : DataW.trod enc Try.prog w base spare held n 30 cs = some x) :
  ∃ (A : Option Addr) (c : Nat) (l : List KTxL), cs = [.slice A l.length c] ∧ RowC A c KTxL.cells KTxL.ok l (fun g => g < w.heap.size) w ∧ (∀ y ∈ (l.map KTxL.p), KTx.rng y) := by
 obtain ⟨A, c, l, h1, h2, h3, h4, h5⟩ := trod_rowS KTxL.cells (m := 4) (by decide) (fun _ => rfl) Try.underlying30 cl_api_Tx (fun v : KTxL => KTxL.ok v (fun g => g < w.heap.size) w ∧ KTx.rng v.p) (fun _ _ _ hx => trod_api_Tx hx) h; exact ⟨A, c, l, h1, ⟨rowS_all h4, h2, fun y hy => (h5 y hy).1⟩, fun y hy => by obtain ⟨z, hz, rfl⟩ := List.mem_map.1 hy; exact (h5 z hz).2⟩
theorem opn_Sl_api_Tx {r : Reach} {b0 : Nat} {v : Value} {d : DataW H} {p : List MemPlace} (hv : Value.okWide Try.prog w r b0 30 v) (h : DataW.Trod enc Try.prog w base spare held 30 v d p) : ∃ (A : Option Addr) (c : Nat) (l : List KTxL), v = .slice A l.length c ∧ RowC A c KTxL.cells KTxL.ok l (fun g => g < w.heap.size) w ∧ (∀ y ∈ (l.map KTxL.p), KTx.rng y) := by
 obtain ⟨a0, len0, cap0, rfl⟩ := okWide_slice Try.underlying30 hv; obtain ⟨fuel, hf⟩ := h; obtain ⟨A, c, l, e, h1, h2⟩ := trod_Sl_api_Tx hf; simp only [Value.cells, List.cons.injEq, and_true] at e; exact ⟨A, c, l, e, h1, h2⟩
theorem opn_int {r : Reach} {b0 : Nat} {v : Value} {d : DataW H} {p : List MemPlace} (hv : Value.okWide Try.prog w r b0 3 v) (h : DataW.Trod enc Try.prog w base spare held 3 v d p) : ∃ x : Int, v = .int .i64 x ∧ inKd .i64 x := by
 obtain ⟨x, rfl, _, _, hw⟩ := open_int Try.underlying3 hv h; exact ⟨x, rfl, hw⟩
structure KInterval.rng (x : KInterval) : Prop where
 r_Lo : inKd .i64 x.Lo
 r_Hi : inKd .i64 x.Hi
theorem trod_uint32 {n : Nat} {cs : List Value} {x : DataW H × List MemPlace} (h : DataW.trod enc Try.prog w base spare held n 59 cs = some x) : ∃ v : Int, cs = c_u32 v ∧ inKd .u32 v := by
 obtain ⟨a, e, _, hw⟩ := DataW.trod_int Try.underlying59 h; exact ⟨a, e, hw⟩
theorem cl_uint32 : Try.prog.cellsOf 59 = 1 := by kernel_rfl
theorem trod_Sl_uint32 {n : Nat} {cs : List Value} {x : DataW H × List MemPlace} (h : DataW.trod enc Try.prog w base spare held n 57 cs = some x) :
  ∃ (A : Option Addr) (c : Nat) (l : List Int), cs = [.slice A l.length c] ∧ RowC A c c_u32 tr l (fun g => g < w.heap.size) w ∧ (∀ y ∈ l, inKd .u32 y) := by
 obtain ⟨A, c, l, h1, h2, h3, h4, h5⟩ := trod_rowS c_u32 (m := 1) (by decide) (fun _ => rfl) Try.underlying57 cl_uint32 (fun v : Int => inKd .u32 v) (fun _ _ _ hx => trod_uint32 hx) h; exact ⟨A, c, l, h1, ⟨rowS_all h4, h2, fun _ _ => trivial⟩, h5⟩
theorem opn_Sl_uint32 {r : Reach} {b0 : Nat} {v : Value} {d : DataW H} {p : List MemPlace} (hv : Value.okWide Try.prog w r b0 57 v) (h : DataW.Trod enc Try.prog w base spare held 57 v d p) : ∃ (A : Option Addr) (c : Nat) (l : List Int), v = .slice A l.length c ∧ RowC A c c_u32 tr l (fun g => g < w.heap.size) w ∧ (∀ y ∈ l, inKd .u32 y) := by
 obtain ⟨a0, len0, cap0, rfl⟩ := okWide_slice Try.underlying57 hv; obtain ⟨fuel, hf⟩ := h; obtain ⟨A, c, l, e, h1, h2⟩ := trod_Sl_uint32 hf; simp only [Value.cells, List.cons.injEq, and_true] at e; exact ⟨A, c, l, e, h1, h2⟩
end
end Go.Proofs.Ytlfkgbideknkhaa
namespace Go.Proofs.Ytlfkgbideknkhaa
open Go.RowKit
theorem old_spec {ts : List KTx} {t : KTx} : oldB ts t = false ↔ ∀ x, ts.getLast? = some x → x.Ts < t.Ts := by
 unfold oldB; cases h : ts.getLast? with
 | none => simp
 | some x => simp
theorem last_of (ts : List KTx) (a : Int) : lastT a ts = match ts.getLast? with | some x => x.Ts | none => a := by
 rcases List.eq_nil_or_concat ts with rfl | ⟨us, u, rfl⟩
 ·rfl
 ·rw [List.concat_eq_append, List.getLast?_append]; unfold lastT; rw [List.foldl_append]; rfl
theorem lastT_ge {a : Int} : ∀ {ts : List KTx}, (a :: ts.map (·.Ts)).Pairwise (· < ·) → (∀ x ∈ ts, x.Ts ≤ lastT a ts) ∧ a ≤ lastT a ts
 | [], _ => ⟨fun _ h => absurd h List.not_mem_nil, Int.le_refl _⟩
 | t :: ts, h => by
  rw [List.map_cons] at h; obtain ⟨h1, h2⟩ := List.pairwise_cons.1 h; obtain ⟨h3, h4⟩ := lastT_ge (a := t.Ts) h2; have h5 := h1 t.Ts List.mem_cons_self; refine ⟨fun x hx => ?_, ?_⟩
  ·rcases List.mem_cons.1 hx with rfl | hx
   ·exact h4
   ·exact h3 x hx
  ·show a ≤ lastT t.Ts ts
   omega
theorem log_snoc {ts : List KTx} {t : KTx} (h : logS ts = true) (ht : Txs t) (ho : lastT 0 ts < t.Ts) : logS (ts ++ [t]) = true := by
 obtain ⟨h1, h2⟩ := ris_log.1 h; refine ris_log.2 ⟨fun x hx => ?_, ?_⟩
 ·rcases List.mem_append.1 hx with hx | hx
  ·exact h1 x hx
  ·rw [List.mem_singleton.1 hx]; exact ht
 ·rw [List.map_append, ← List.cons_append, List.pairwise_append]; refine ⟨h2, by simp, fun x hx y hy => ?_⟩; simp only [List.map_cons, List.map_nil, List.mem_singleton] at hy; subst hy; obtain ⟨g1, g2⟩ := lastT_ge h2; rcases List.mem_cons.1 hx with rfl | hx
  ·omega
  ·obtain ⟨z, hz, rfl⟩ := List.mem_map.1 hx; have := g1 z hz; omega
theorem old_last {ts : List KTx} {t : KTx} (ht : Txs t) : oldB ts t = false ↔ lastT 0 ts < t.Ts := by
 rw [old_spec, last_of]; cases ts.getLast? with
 | none => have := ht.ts.1; simp; omega
 | some x => simp
end Go.Proofs.Ytlfkgbideknkhaa
namespace Go.Proofs.Ytlfkgbideknkhaa
open Go.RowKit
theorem rise_short {α : Type} (key : α → Int) {l : List α} (hb : ∀ x ∈ l, key x ≤ 1000) (h : risF 0 (l.map key) = true) : l.length ≤ 1000 := by
 rw [risF_iff] at h; have key2 : ∀ (n : Nat) (m : List Int) (a : Int), m.length = n → (a :: m).Pairwise (· < ·) → (∀ x ∈ m, x ≤ 1000) → a + n ≤ 1000 ∨ n = 0 := by
  intro n
  induction n with
  | zero => intro m a _ _ _; exact .inr rfl
  | succ n ih =>
   intro m a hm hp hx; cases m with
   | nil => simp at hm
   | cons x m =>
    obtain ⟨h1, h2⟩ := List.pairwise_cons.1 hp; have h3 := h1 x List.mem_cons_self; have h4 := hx x List.mem_cons_self; rcases ih m x (by simpa using hm) h2 (fun y hy => hx y (List.mem_cons_of_mem _ hy)) with h5 | h5
    ·left; omega
    ·left; omega
 rcases key2 l.length (l.map key) 0 (by simp) h (fun x hx => by obtain ⟨y, hy, rfl⟩ := List.mem_map.1 hx; exact hb y hy) with h1 | h1 <;> omega
theorem first_bad {p : Nat → Bool} : ∀ {n : Nat}, (∃ j, j < n ∧ p j = false) → ∃ j, j < n ∧ p j = false ∧ ∀ i, i < j → p i = true
 | 0, ⟨j, hj, _⟩ => absurd hj (Nat.not_lt_zero _)
 | n + 1, ⟨j, hj, hp⟩ => by
  by_cases h : ∃ j, j < n ∧ p j = false
  ·obtain ⟨i, h1, h2, h3⟩ := first_bad h; exact ⟨i, by omega, h2, h3⟩
  ·have : j = n := Classical.byContradiction fun hn => h ⟨j, by omega, hp⟩
   subst this; refine ⟨j, by omega, hp, fun i hi => ?_⟩; cases hq : p i with
   | true => rfl
   | false => exact absurd ⟨i, hi, hq⟩ h
theorem iter_bad {ρ α : Type} {f : Int → Option (Int ⊕ ρ)} (l : List α) (p : Nat → α → Bool) (r : ρ)
  (hk : ∀ k (h : k < l.length), k ≤ 2000 → f (k : Int) = some (if p k l[k] = true then .inl ((k : Int) + 1) else .inr r)) (hb : ∃ j, ∃ h : j < l.length, j ≤ 2000 ∧ p j l[j] = false) {F : Nat} (hF : 3000 < F) : iter f F 0 = some r := by
 obtain ⟨j0, h0, h1, h2⟩ := hb; obtain ⟨j, e1, e2, e3⟩ := first_bad (p := fun j => if h : j < l.length then p j l[j] else true) (n := 2001) ⟨j0, by omega, by rw [dif_pos h0]; exact h2⟩; have hj : j < l.length := by
  refine Classical.byContradiction fun hn => ?_
  rw [dif_neg hn] at e2; cases e2
 rw [dif_pos hj] at e2; have := iter_seq (f := f) (fun k => (k : Int)) j r (fun k hkj => by
  have h4 := e3 k hkj; rw [dif_pos (by omega)] at h4; rw [hk k (by omega) (by omega), h4, if_pos rfl]; rfl) (by rw [hk j hj (by omega), e2]; rfl) (F := F) (by omega)
 exact this
theorem long_bad {α : Type} (key : α → Int) (q : α → Bool) {l : List α} (hq : ∀ x, q x = true → key x ≤ 1000) (hl : 1500 < l.length) : ∃ j, ∃ h : j < l.length, j ≤ 2000 ∧ (q l[j] && (decide (1 ≤ key l[j]) && (j == 0 || decide ((l.map key).getD (j - 1) 0 < key l[j])))) = false := by
 refine Classical.byContradiction fun hn => ?_
 have hall : ∀ j (h : j < l.length), j ≤ 2000 → (q l[j] && (decide (1 ≤ key l[j]) && (j == 0 || decide ((l.map key).getD (j - 1) 0 < key l[j])))) = true := fun j h hj => by
  cases hc : (q l[j] && (decide (1 ≤ key l[j]) && (j == 0 || decide ((l.map key).getD (j - 1) 0 < key l[j])))) with
  | true => rfl
  | false => exact absurd ⟨j, h, hj, hc⟩ hn
 have h1 : (l.take 1500).length = 1500 := by rw [List.length_take]; omega
 have h2 : risF 0 ((l.take 1500).map key) = true := by
  rw [ris_ix, frL_iff]; intro j hj; rw [Nat.zero_add]; have h3 := hall j (by omega) (by omega); rw [Bool.and_eq_true] at h3; rw [List.getElem_take]; have h4 : ((l.take 1500).map key).getD (j - 1) 0 = (l.map key).getD (j - 1) 0 := by
   rw [List.getD_eq_getElem?_getD, List.getD_eq_getElem?_getD, List.map_take, List.getElem?_take_of_lt (by omega)]
  rw [h4]; exact h3.2
 have h3 := rise_short key (l := l.take 1500) (fun x hx => by
  obtain ⟨j, hj, rfl⟩ := List.getElem_of_mem hx; have := hall j (by omega) (by omega); rw [Bool.and_eq_true] at this; rw [List.getElem_take]; exact hq _ this.1) h2
 omega
theorem rd34_any (l : List KSeen) {F : Nat} (hF : 3000 < F) : G_regulatorref34_reads F l = some (l.all seenB && risF 0 (l.map (·.Key)) && decide (l.length ≤ 8)) := by
  have hstep : ∀ k (h : k < l.length), k ≤ 9000000000000000 → (Option.bind (ixI l (k : Int)) (fun v_52 =>
          Option.bind (G_regulatorref33_Key F v_52.Key) (fun v_55 =>
          Option.bind (ifB (v_55)
              (ifB (decide ((k : Int) > 0))
                (Option.bind (ixI l (k : Int)) (fun v_58 =>
                Option.bind (ixI l (IntKind.i64.wrap ((k : Int) - 1))) (fun v_61 =>
                ifB (decide (v_58.Key ≤ v_61.Key))
                  (some true)
                  (Option.bind (ixI l (k : Int)) (fun v_65 =>
                  ifB (decide (v_65.Ts < 0))
                    (some true)
                    (Option.bind (ixI l (k : Int)) (fun v_69 =>
                    some (decide (v_69.Ts > 3000000000000000)))))))))
                (Option.bind (ixI l (k : Int)) (fun v_72 =>
                ifB (decide (v_72.Ts < 0))
                  (some true)
                  (Option.bind (ixI l (k : Int)) (fun v_76 =>
                  some (decide (v_76.Ts > 3000000000000000)))))))
              (some true) : Option (Bool)) (fun (v_80 : Bool) => 
            ifB (v_80)
              (some (.inr (.inr ())))
              (some (.inl (IntKind.i64.wrap ((k : Int) + 1)))))) ) : Option (Int ⊕ (Unit ⊕ Unit))) = some (if (seenB l[k] && (decide (1 ≤ l[k].Key) && (k == 0 || decide ((l.map (·.Key)).getD (k - 1) 0 < l[k].Key)))) = true then .inl ((k : Int) + 1) else .inr (.inr ())) := by
    intro k h hk
    simp only [ixI_get h, ob_some, key_r]
    have hp : ∀ h0 : 0 < k, ixI l (IntKind.i64.wrap ((k : Int) - 1)) = some (l[k - 1]'(by omega)) := fun h0 => by rw [w64_p h0 (by omega)]; exact ixI_get (by omega)
    unfold seenB
    rw [show IntKind.i64.wrap ((k : Int) + 1) = (k : Int) + 1 from by rw [IntKind.wrap_i64]; omega, dnot (p := l[k].Ts < 0) (q := 0 ≤ l[k].Ts) (by omega), dnot (p := l[k].Ts > 3000000000000000) (q := l[k].Ts ≤ 3000000000000000) (by omega)]
    by_cases h0 : 0 < k
    · rw [decide_eq_true (p := (k : Int) > 0) (by omega), ifB_t, hp h0, ob_some, getD_map (fun x : KSeen => x.Key) (by omega), dnot (p := l[k].Key ≤ l[k - 1].Key) (q := l[k - 1].Key < l[k].Key) (by omega), show (k == 0) = false by simpa using (by omega : k ≠ 0)]
      cases decide (1 ≤ l[k].Key) <;> cases decide (l[k].Key ≤ 1000) <;> cases decide (0 ≤ l[k].Ts) <;> cases decide (l[k].Ts ≤ 3000000000000000) <;> cases decide (l[k - 1].Key < l[k].Key) <;> rfl
    · rw [decide_eq_false (p := (k : Int) > 0) (by omega), ifB_f, show (k == 0) = true by simpa using (by omega : k = 0)]
      cases decide (1 ≤ l[k].Key) <;> cases decide (l[k].Key ≤ 1000) <;> cases decide (0 ≤ l[k].Ts) <;> cases decide (l[k].Ts ≤ 3000000000000000) <;> rfl
  unfold G_regulatorref34_reads
  by_cases hl : l.length ≤ 2500
  · rw [iter_chkU l (fun k x => seenB x && (decide (1 ≤ x.Key) && (k == 0 || decide ((l.map (·.Key)).getD (k - 1) 0 < x.Key)))) (.inl ()) (.inr ()) ?_ ?_ (by omega)]
    · rw [frL_and, frL_all, ← ris_ix (fun x : KSeen => x.Key) l, deq (p := ((l.length : Nat) : Int) ≤ 8) (q := l.length ≤ 8) (by omega)]
      cases l.all seenB <;> cases risF 0 (l.map (·.Key)) <;> simp [ob_some]
    · simp only [ltn, ifB_f]
    · intro k h
      rw [ltl h, ifB_t]
      exact hstep k h (by omega)
  · rw [iter_bad l (fun k x => seenB x && (decide (1 ≤ x.Key) && (k == 0 || decide ((l.map (·.Key)).getD (k - 1) 0 < x.Key)))) (.inr ()) (fun k h hk => by
      rw [ltl h, ifB_t]
      exact hstep k h (by omega)) (long_bad (·.Key) seenB (fun x hx => by unfold seenB at hx; simp only [Bool.and_eq_true, decide_eq_true_eq] at hx; omega) (by omega)) hF]
    rw [decide_eq_false (show ¬ l.length ≤ 8 by omega), Bool.and_false]
    rfl
theorem wr34_any (l : List KWrite) {F : Nat} (hF : 3000 < F) : G_regulatorref34_writes F l = some (l.all writB && risF 0 (l.map (·.Key)) && decide (l.length ≤ 8)) := by
  by_cases hl : l.length ≤ 60
  · exact wr34_r l hl (by omega)
  unfold G_regulatorref34_writes
  have hstep : ∀ k (h : k < l.length), k ≤ 9000000000000000 → (Option.bind (ixI l (k : Int)) (fun v_76 =>
          Option.bind (G_regulatorref33_Key F v_76.Key) (fun v_79 =>
          Option.bind (ifB (v_79)
              (ifB (decide ((k : Int) > 0))
                (Option.bind (ixI l (k : Int)) (fun v_82 =>
                Option.bind (ixI l (IntKind.i64.wrap ((k : Int) - 1))) (fun v_85 =>
                ifB (decide (v_82.Key ≤ v_85.Key))
                  (some true)
                  (Option.bind (ixI l (k : Int)) (fun v_89 =>
                  ifB (decide (v_89.Value < 0))
                    (some true)
                    (Option.bind (ixI l (k : Int)) (fun v_93 =>
                    ifB (decide (v_93.Value > 1000000))
                      (some true)
                      (Option.bind (ixI l (k : Int)) (fun v_97 =>
                      ifB (v_97.Gone)
                        (Option.bind (ixI l (k : Int)) (fun v_101 =>
                        some (!(v_101.Value == 0))))
                        (some false))))))))))
                (Option.bind (ixI l (k : Int)) (fun v_104 =>
                ifB (decide (v_104.Value < 0))
                  (some true)
                  (Option.bind (ixI l (k : Int)) (fun v_108 =>
                  ifB (decide (v_108.Value > 1000000))
                    (some true)
                    (Option.bind (ixI l (k : Int)) (fun v_112 =>
                    ifB (v_112.Gone)
                      (Option.bind (ixI l (k : Int)) (fun v_116 =>
                      some (!(v_116.Value == 0))))
                      (some false))))))))
              (some true) : Option (Bool)) (fun (v_120 : Bool) => 
            ifB (v_120)
              (some (.inr (.inr ())))
              (some (.inl (IntKind.i64.wrap ((k : Int) + 1)))))) ) : Option (Int ⊕ (Unit ⊕ Unit))) = some (if (writB l[k] && (decide (1 ≤ l[k].Key) && (k == 0 || decide ((l.map (·.Key)).getD (k - 1) 0 < l[k].Key)))) = true then .inl ((k : Int) + 1) else .inr (.inr ())) := by
    intro k h hk
    simp only [ixI_get h, ob_some, key_r]
    have hp : ∀ h0 : 0 < k, ixI l (IntKind.i64.wrap ((k : Int) - 1)) = some (l[k - 1]'(by omega)) := fun h0 => by rw [w64_p h0 (by omega)]; exact ixI_get (by omega)
    unfold writB
    rw [show IntKind.i64.wrap ((k : Int) + 1) = (k : Int) + 1 from by rw [IntKind.wrap_i64]; omega, dnot (p := l[k].Value < 0) (q := 0 ≤ l[k].Value) (by omega), dnot (p := l[k].Value > 1000000) (q := l[k].Value ≤ 1000000) (by omega)]
    by_cases h0 : 0 < k
    · rw [decide_eq_true (p := (k : Int) > 0) (by omega), ifB_t, hp h0, ob_some, getD_map (fun x : KWrite => x.Key) (by omega), dnot (p := l[k].Key ≤ l[k - 1].Key) (q := l[k - 1].Key < l[k].Key) (by omega), show (k == 0) = false by simpa using (by omega : k ≠ 0)]
      cases decide (1 ≤ l[k].Key) <;> cases decide (l[k].Key ≤ 1000) <;> cases decide (0 ≤ l[k].Value) <;> cases decide (l[k].Value ≤ 1000000) <;> cases l[k].Gone <;> cases (l[k].Value == 0) <;> cases decide (l[k - 1].Key < l[k].Key) <;> rfl
    · rw [decide_eq_false (p := (k : Int) > 0) (by omega), ifB_f, show (k == 0) = true by simpa using (by omega : k = 0)]
      cases decide (1 ≤ l[k].Key) <;> cases decide (l[k].Key ≤ 1000) <;> cases decide (0 ≤ l[k].Value) <;> cases decide (l[k].Value ≤ 1000000) <;> cases l[k].Gone <;> cases (l[k].Value == 0) <;> rfl
  by_cases hl2 : l.length ≤ 2500
  · rw [iter_chkU l (fun k x => writB x && (decide (1 ≤ x.Key) && (k == 0 || decide ((l.map (·.Key)).getD (k - 1) 0 < x.Key)))) (.inl ()) (.inr ()) ?_ ?_ (by omega)]
    · rw [frL_and, frL_all, ← ris_ix (fun x : KWrite => x.Key) l, deq (p := ((l.length : Nat) : Int) ≤ 8) (q := l.length ≤ 8) (by omega)]
      cases l.all writB <;> cases risF 0 (l.map (·.Key)) <;> simp [ob_some]
    · simp only [ltn, ifB_f]
    · intro k h
      rw [ltl h, ifB_t]
      exact hstep k h (by omega)
  · rw [iter_bad l (fun k x => writB x && (decide (1 ≤ x.Key) && (k == 0 || decide ((l.map (·.Key)).getD (k - 1) 0 < x.Key)))) (.inr ()) (fun k h hk => by
      rw [ltl h, ifB_t]
      exact hstep k h (by omega)) (long_bad (·.Key) writB (fun x hx => by unfold writB at hx; simp only [Bool.and_eq_true, decide_eq_true_eq] at hx; omega) (by omega)) hF]
    rw [decide_eq_false (show ¬ l.length ≤ 8 by omega), Bool.and_false]
    rfl
theorem tx34_any (t : KTx) {F : Nat} (hF : 3000 < F) : G_regulatorref34_Tx F t = some (txF t) := by
 unfold G_regulatorref34_Tx; rw [rd34_any _ hF, wr34_any _ hF]; simp only [ob_some]; rw [show decide (t.ID ≥ 1) = decide (1 ≤ t.ID) from rfl, show decide (t.Ts ≥ 0) = decide (0 ≤ t.Ts) from rfl]; unfold txF; cases decide (1 ≤ t.ID) <;> cases decide (t.ID ≤ 1000000) <;> cases decide (0 ≤ t.Ts) <;> cases decide (t.Ts ≤ 3000000000000000) <;> cases decide (t.Reads.length ≤ 8) <;> cases decide (t.Writes.length ≤ 8) <;> cases t.Reads.all seenB <;> cases t.Writes.all writB <;> cases risF 0 (t.Reads.map (·.Key)) <;> cases risF 0 (t.Writes.map (·.Key)) <;> rfl
theorem chn_log : ∀ {l : List KTx} {a : Int}, 0 ≤ a → (chnR l a).isSome = (l.all txS && risF a (l.map (·.Ts)))
 | [], _, _ => rfl
 | t :: l, a, h => by
  unfold chnR; rw [List.all_cons, List.map_cons, risF, txS_F]
  by_cases hc : (txF t && decide (a < t.Ts)) = true
  ·rw [if_pos hc]; rw [Bool.and_eq_true, decide_eq_true_eq] at hc; rw [chn_log (by omega), hc.1, decide_eq_true hc.2, decide_eq_true (show 1 ≤ t.Ts by omega)]
   simp
  ·rw [if_neg hc]; cases h1 : txF t with
   | false => simp
   | true =>
    rw [h1, Bool.true_and] at hc; rw [Bool.eq_false_iff.2 hc]
    simp
end Go.Proofs.Ytlfkgbideknkhaa
namespace Go.Proofs.Ytlfkgbideknkhaa
open Go.RowKit
theorem recT_small {t : KTx} (h : Txs t) : (recT t).length ≤ 461 := by
 have h1 := encs_len h.ok.i; have h2 := encI_len (lenIn h.ok.n); have h3 := ints_len t; have h4 := h.few; unfold recT; rw [frm_len]; unfold encL; rw [List.length_append]; omega
theorem logB_small {ts : List KTx} (h : ∀ t ∈ ts, Txs t) : (logB ts).length ≤ 461 * ts.length := by
 induction ts with
 | nil => simp [logB]
 | cons t ts ih =>
  have h1 := recT_small (h t List.mem_cons_self); have h2 := ih fun x hx => h x (List.mem_cons_of_mem _ hx)
  rw [logB_cons, List.length_append, List.length_cons]; omega
end Go.Proofs.Ytlfkgbideknkhaa
namespace Go.Proofs.Ytlfkgbideknkhaa
open Go.RowKit
theorem copied_p {t : KTx} (h : FewT t) (F : Nat) : G_commit_copied F t = some t := by
 have hr := h.r; have hw := h.w; unfold G_commit_copied; rw [apG_ok (by simp only [List.length_nil]; omega), ob_some, apG_ok (by simp only [List.length_nil]; omega)]; rfl
theorem foldl_snoc {α : Type} : ∀ (l b : List α), l.foldl (fun b x => b ++ [x]) b = b ++ l
 | [], b => by simp
 | x :: l, b => by rw [List.foldl_cons, foldl_snoc, List.append_assoc]; rfl
theorem copies_p {l : List KTx} (h : ∀ t ∈ l, FewT t) (hl : l.length ≤ 5000) {F : Nat} (hF : 5001 ≤ F) : G_commit_copies F l = some l := by
 unfold G_commit_copies; rw [iter_fold (fun b i => (b, i)) l (fun b x => b ++ [x]) id (fun k b => b.length = k) ?_ ?_ (by omega) [] rfl]
 ·simp only [ob_some, id, foldl_snoc]; rfl
 ·intro b _; simp only [un2, ltn, ifB_f, id]
 ·intro b k hk hb; simp only [un2, ltl hk, ifB_t, ixI_get hk, ob_some, w64_1 hk (by omega), copied_p (h _ (List.getElem_mem hk))]; rw [apG_ok (by simp only [List.length_cons, List.length_nil]; omega), ob_some, List.length_append]; exact ⟨rfl, by simp only [List.length_cons, List.length_nil]; omega⟩
theorem past_all {x : KLeader} {a : Int} (h : ∀ t ∈ x.Open, t.Ts < a) (hl : x.Open.length ≤ 5000) {F : Nat} (hF : 5001 ≤ F) : G_commit_past F x a = some ((x.Open.length : Nat) : Int) := by
  have key : ∀ (m i F : Nat), x.Open.length ≤ i + m → i ≤ x.Open.length → m < F → iter (σ := Int × Int) (ρ := Int) (un2 fun (v_25 : Int) (v_26 : Int) => 
          (ifB (decide (v_25 < v_26))
            (Option.bind (Option.bind (ixI x.Open (IntKind.i64.wrap (Int.fdiv (IntKind.u64.wrap (IntKind.i64.wrap (v_25 + v_26))) (2 ^ 1)))) (fun v_29 =>
              some (decide (v_29.Ts ≥ a))) : Option (Bool)) (fun (v_32 : Bool) => 
              ifB (v_32)
                (some (.inl (v_25, IntKind.i64.wrap (Int.fdiv (IntKind.u64.wrap (IntKind.i64.wrap (v_25 + v_26))) (2 ^ 1)))))
                (some (.inl (IntKind.i64.wrap ((IntKind.i64.wrap (Int.fdiv (IntKind.u64.wrap (IntKind.i64.wrap (v_25 + v_26))) (2 ^ 1))) + 1), v_26)))))
            (some (.inr v_25)) : Option ((Int × Int) ⊕ Int))) F ((i : Int), ((x.Open.length : Nat) : Int)) = some ((x.Open.length : Nat) : Int) := by
    intro m
    induction m with
    | zero =>
      intro i F h1 h2 hF
      obtain ⟨F', rfl⟩ : ∃ F', F = F' + 1 := ⟨F - 1, by omega⟩
      unfold iter
      simp only [un2]
      rw [decide_eq_false (by omega), ifB_f]
      simp only [Option.some.injEq]
      omega
    | succ m ih =>
      intro i F h1 h2 hF
      obtain ⟨F', rfl⟩ : ∃ F', F = F' + 1 := ⟨F - 1, by omega⟩
      unfold iter
      simp only [un2]
      by_cases hi : i < x.Open.length
      · have ew : IntKind.i64.wrap (Int.fdiv (IntKind.u64.wrap (IntKind.i64.wrap ((i : Int) + ((x.Open.length : Nat) : Int)))) (2 ^ 1)) = (((i + x.Open.length) / 2 : Nat) : Int) := by
          rw [Int.fdiv_eq_ediv_of_nonneg _ (by decide), IntKind.wrap_i64, IntKind.wrap_u64, IntKind.wrap_i64]
          omega
        have hm : (i + x.Open.length) / 2 < x.Open.length := by omega
        have ht := h _ (List.getElem_mem hm)
        rw [decide_eq_true (by omega), ifB_t, ew, ixI_get hm]
        simp only [ob_some]
        rw [decide_eq_false (by omega), ifB_f, show IntKind.i64.wrap ((((i + x.Open.length) / 2 : Nat) : Int) + 1) = (((i + x.Open.length) / 2 + 1 : Nat) : Int) from by rw [IntKind.wrap_i64]; omega]
        exact ih _ F' (by omega) (by omega) (by omega)
      · rw [decide_eq_false (by omega), ifB_f]
        simp only [Option.some.injEq]
        omega
  unfold G_commit_past
  have := key x.Open.length 0 F (by omega) (Nat.zero_le _) (by omega)
  rw [show ((0 : Nat) : Int) = 0 from rfl] at this
  rw [this]
  rfl
def ivB (i : KInterval) : Bool := decide (0 ≤ i.Lo) && decide (i.Lo ≤ i.Hi) && decide (i.Hi ≤ 3000000000000000)
theorem vers_p {t : KTx} (h : FewT t) {F : Nat} (hF : 64 ≤ F) : G_commit_work_versions F ⟨t⟩ = some ((vsT t).map Ver.k) := by
 have hw := h.w; unfold G_commit_work_versions
 dsimp only
 rw [iter_fold (fun b i => (i, b)) t.Writes (fun b x => b ++ [(⟨x.Key, t.Ts, x.Value, x.Gone⟩ : KVersion)]) id (fun k b => b.length = k) ?_ ?_ (by omega) [] rfl]
 ·simp only [ob_some, id]
  congr 1
  have key : ∀ (l : List KWrite) (b : List KVersion), l.foldl (fun b x => b ++ [(⟨x.Key, t.Ts, x.Value, x.Gone⟩ : KVersion)]) b = b ++ (l.map fun w => (⟨w.Key, t.Ts, w.Value, w.Gone⟩ : Ver)).map Ver.k := by
   intro l
   induction l with
   | nil => intro b; simp
   | cons x l ih => intro b; rw [List.foldl_cons, ih, List.append_assoc]; rfl
  rw [key]; rfl
 ·intro b _; simp only [un2, ltn, ifB_f, id]
 ·intro b k hk hb; simp only [un2, ltl hk, ifB_t, ixI_get hk, ob_some, w64_1 hk (by omega)]; rw [apG_ok (by simp only [List.length_cons, List.length_nil]; omega), ob_some, List.length_append]; exact ⟨rfl, by simp only [List.length_cons, List.length_nil]; omega⟩
theorem putV_p {vs m m' : List Ver} (hw : vs.length ≤ 20) (hm : m.length ≤ 100000) (h : putsS m vs = (m', 0)) {F0 F : Nat} (hF : 64 ≤ F) : iter (σ := Int × (List KVersion)) (ρ := (List KVersion) ⊕ Int) (un2 fun (v_144 : Int) (v_145 : (List KVersion)) => 
                    (ifB (decide (v_144 < (((vs.map Ver.k).length : Nat) : Int)))
                      (Option.bind (ixI (vs.map Ver.k) v_144) (fun v_150 =>
                      Option.bind (G_versions_Put F0 v_145 v_150) (un2 fun v_154 v_155 =>
                      ifB ((v_155 == 0))
                        (some (.inl (IntKind.i64.wrap (v_144 + 1), v_154)))
                        (some (.inr (.inr v_155))))))
                      (some (.inr (.inl v_145))) : Option ((Int × (List KVersion)) ⊕ ((List KVersion) ⊕ Int)))) F (0, m.map Ver.k) = some (.inl (m'.map Ver.k)) := by
  have hvl : (vs.map Ver.k).length = vs.length := List.length_map _
  have := iter_seq (f := un2 fun (v_144 : Int) (v_145 : (List KVersion)) => 
                    (ifB (decide (v_144 < (((vs.map Ver.k).length : Nat) : Int)))
                      (Option.bind (ixI (vs.map Ver.k) v_144) (fun v_150 =>
                      Option.bind (G_versions_Put F0 v_145 v_150) (un2 fun v_154 v_155 =>
                      ifB ((v_155 == 0))
                        (some (.inl (IntKind.i64.wrap (v_144 + 1), v_154)))
                        (some (.inr (.inr v_155))))))
                      (some (.inr (.inl v_145))) : Option ((Int × (List KVersion)) ⊕ ((List KVersion) ⊕ Int)))) (fun k => ((k : Int), ((putsS m (vs.take k)).1).map Ver.k)) vs.length (.inl (m'.map Ver.k)) ?_ ?_ (F := F) (by omega)
  · exact this
  · intro k hk
    obtain ⟨m1, m2, h1, h2, h3⟩ := puts_take h k hk
    have hl1 := puts_len h1
    rw [List.length_take] at hl1
    have hk2 : k < (vs.map Ver.k).length := by omega
    simp only [un2, ltl hk2, ifB_t, ixI_get hk2, ob_some]
    rw [h1, h3, List.getElem_map, put_k F0 (v := (vs[k]).k) (by omega) h2]
    simp only [ob_some, un2]
    rw [show ((0 : Int) == 0) = true from rfl, ifB_t, w64_nat (by omega)]
  · simp only [un2, hvl, ltn, ifB_f]
    rw [List.take_length, h]
theorem vsOf_nW (l : List KTx) : (vsOf l).length = nW l := by
 induction l with
 | nil => rfl
 | cons t l ih => rw [vsOf_cons, List.length_append, ih, nW_cons, show (vsT t).length = t.Writes.length from List.length_map _]
theorem valid_iv (F : Nat) (i : KInterval) : G_interval_Valid F i = some (ivB i) := iv_p F i
theorem show_p {x : KLeader} {b : KInterval} {m : List Ver} (hv : validL x = true) (hi : ivB b = true) (hf : ∀ t ∈ x.Open, FewT t) (hp : ∀ t ∈ x.Open, t.Ts < b.Lo) (hm : putsS (x.Store.map KVersion.v) (vsOf x.Open) = (m, 0)) {F : Nat} (hF : 300000 ≤ F) : G_commit_Show F x b = some (⟨x.Last, m.map Ver.k, []⟩, x.Open, 0) := by
  have hv2 := hv
  unfold validL at hv2
  simp only [Bool.and_eq_true, decide_eq_true_eq] at hv2
  obtain ⟨⟨⟨_, h2000⟩, h4000⟩, _⟩ := hv2
  unfold G_commit_Show
  rw [valid_p x (by omega) (by omega) hf (by omega), hv]
  simp only [ob_some]
  rw [ifB_t, valid_iv, hi, ob_some, Bool.not_true, ob_some, ifB_f, past_all hp (by omega) (by omega), ob_some, apG_ok (by simp only [List.length_nil]; omega), ob_some]
  have hs0 := slI_ok (l := x.Open) (p := 0) (q := x.Open.length) (Nat.zero_le _) (Nat.le_refl _)
  rw [show ((0 : Nat) : Int) = 0 from rfl, List.drop_zero, List.take_length] at hs0
  have hs1 := slI_ok (l := x.Open) (p := x.Open.length) (q := x.Open.length) (Nat.le_refl _) (Nat.le_refl _)
  rw [List.take_length, List.drop_length] at hs1
  rw [hs0]
  simp only [ob_some]
  have hpre : ∀ k, ∃ mk, putsS (x.Store.map KVersion.v) (vsOf (x.Open.take k)) = (mk, 0) := fun k => by
    have e : vsOf x.Open = vsOf (x.Open.take k) ++ vsOf (x.Open.drop k) := by rw [← vs_app, List.take_append_drop]
    rw [e] at hm
    obtain ⟨mk, h1, _⟩ := puts_app hm
    exact ⟨mk, h1⟩
  have hln : ∀ k, (vsOf (x.Open.take k)).length ≤ 4000 := fun k => by
    have h1 := vsOf_len_take x.Open k
    have h2 := vsOf_nW x.Open
    omega
  have := iter_seq (f := un2 fun (v_113 : Int) (v_114 : (List KVersion)) => 
            (ifB (decide (v_113 < ((x.Open.length : Nat) : Int)))
              (Option.bind (Option.bind (ixI x.Open v_113) (fun v_119 =>
                Option.bind (G_commit_work_versions F (⟨v_119⟩ : Kcommit_work)) (fun v_123 =>
                Option.bind (iter (σ := Int × (List KVersion)) (ρ := (List KVersion) ⊕ Int) (un2 fun (v_144 : Int) (v_145 : (List KVersion)) => 
                    (ifB (decide (v_144 < ((v_123.length : Nat) : Int)))
                      (Option.bind (ixI v_123 v_144) (fun v_150 =>
                      Option.bind (G_versions_Put F v_145 v_150) (un2 fun v_154 v_155 =>
                      ifB ((v_155 == 0))
                        (some (.inl (IntKind.i64.wrap (v_144 + 1), v_154)))
                        (some (.inr (.inr v_155))))))
                      (some (.inr (.inl v_145))) : Option ((Int × (List KVersion)) ⊕ ((List KVersion) ⊕ Int)))) F (0, v_114)) (Sum.elim (fun (v_157 : (List KVersion)) => 
                  some (.inl v_157)) (fun (v_160 : Int) => 
                  some (.inr v_160))))) : Option ((List KVersion) ⊕ Int)) (Sum.elim (fun (v_162 : (List KVersion)) => 
                some (.inl (IntKind.i64.wrap (v_113 + 1), v_162))) (fun (v_165 : Int) => 
                some (.inr (.inr v_165)))))
              (some (.inr (.inl v_114))) : Option ((Int × (List KVersion)) ⊕ ((List KVersion) ⊕ Int)))) (fun k => ((k : Int), ((putsS (x.Store.map KVersion.v) (vsOf (x.Open.take k))).1).map Ver.k)) x.Open.length (.inl (m.map Ver.k)) ?_ ?_ (F := F) (by omega)
  · rw [show ((0 : Nat) : Int) = 0 from rfl, show (putsS (x.Store.map KVersion.v) (vsOf (x.Open.take 0))).1 = x.Store.map KVersion.v from rfl, map_kv] at this
    rw [this]
    simp only [ob_some, Sum.elim_inl]
    rw [hs1]
    simp only [ob_some]
    rw [copies_p (fun t ht => absurd ht List.not_mem_nil) (by simp) (by omega), copies_p hf (by omega) (by omega)]
    rfl
  · intro k hk
    obtain ⟨m1, e1⟩ := hpre k
    obtain ⟨m2, e2⟩ := hpre (k + 1)
    have hq := hln k
    have hl1 := puts_len e1
    rw [List.length_map] at hl1
    have e3 := e2
    rw [vsOf_take x.Open k hk] at e3
    obtain ⟨m3, e4, e5⟩ := puts_app e3
    rw [e1] at e4
    cases e4
    have hft := hf _ (List.getElem_mem hk)
    have hwt := hft.w
    simp only [un2, ltl hk, ifB_t, ixI_get hk, ob_some]
    rw [vers_p hft (by omega), e1, e2]
    simp only [ob_some]
    rw [putV_p (by rw [show (vsT x.Open[k]).length = x.Open[k].Writes.length from List.length_map _]; omega) (by omega) e5 (by omega)]
    simp only [ob_some, Sum.elim_inl]
    rw [w64_nat (by omega)]
  · simp only [un2, ltn, ifB_f]
    rw [List.take_length, hm]
theorem iter_ex {σ ρ α β : Type} {f : σ → Option (σ ⊕ ρ)} (e : β → Int → σ) (l : List α) (g : β → α → β) (fin : β → ρ) (hn : ∀ b, f (e b (l.length : Int)) = some (.inr (fin b)))
  (hk : ∀ b k (h : k < l.length), f (e b (k : Int)) = some (.inl (e (g b l[k]) ((k : Int) + 1)))) {F : Nat} (hF : l.length < F) (b : β) : ∃ r, iter f F (e b 0) = some (fin r) :=
 ⟨_, iter_fold e l g fin (fun _ _ => True) (fun b _ => hn b) (fun b k h _ => ⟨hk b k h, trivial⟩) hF b trivial⟩
def stT (x : KLeader) (t : KTx) (b : KInterval) : KTx := ⟨t.ID, max (x.Last + 1) b.Hi, t.Reads, t.Writes⟩
structure StOk (x : KLeader) (t : KTx) (b : KInterval) : Prop where
 v : validL x = true
 i : ivB b = true
 f : txF t = true
 z : t.Ts = 0
 n : x.Open.length ≠ 2000
 s : x.Store.length + nW x.Open + t.Writes.length ≤ 4000
 m : max (x.Last + 1) b.Hi ≤ 3000000000000000
theorem stamp_p {x : KLeader} {t : KTx} {b : KInterval} (hs : x.Store.length ≤ 4000) (ho : x.Open.length ≤ 2000) (hf : ∀ t ∈ x.Open, FewT t) (ht : FewT t) {F : Nat} (hF : 300000 ≤ F) : ∃ r, G_commit_Stamp F x t b = some r ∧ (r.2.2 = 0 → StOk x t b ∧ r = (⟨max (x.Last + 1) b.Hi, x.Store, x.Open ++ [stT x t b]⟩, stT x t b, 0)) ∧ (StOk x t b → t.Reads = [] → r = (⟨max (x.Last + 1) b.Hi, x.Store, x.Open ++ [stT x t b]⟩, stT x t b, 0)) := by
  have hr := ht.r
  have hw := ht.w
  unfold G_commit_Stamp
  rw [valid_p x (by omega) (by omega) hf (by omega), valid_iv, formed_p t ht (by omega)]
  simp only [ob_some]
  have ec : (ifB (validL x) (ifB (ivB b) (ifB (txF t) (some (!(t.Ts == 0))) (some true)) (some true)) (some true) : Option Bool) = some (!(validL x && ivB b && txF t && (t.Ts == 0))) := by
    cases validL x <;> cases ivB b <;> cases txF t <;> rfl
  rw [ec, ob_some]
  cases hc : (validL x && ivB b && txF t && (t.Ts == 0)) with
  | false =>
    refine ⟨_, rfl, fun h => ?_, fun h _ => ?_⟩
    · exact absurd (show (1 : Int) = 0 from h) (by decide)
    · rw [h.v, h.i, h.f, h.z] at hc
      cases hc
  | true =>
    simp only [Bool.and_eq_true, beq_iff_eq] at hc
    obtain ⟨⟨⟨hv, hi⟩, hff⟩, hz⟩ := hc
    have hlast : 0 ≤ x.Last ∧ x.Last ≤ 3000000000000000 := by
      unfold validL at hv
      simp only [Bool.and_eq_true, decide_eq_true_eq] at hv
      omega
    rw [Bool.not_true, ifB_f]
    obtain ⟨k1, e1⟩ := iter_ex (f := un2 fun (v_34 : Int) (v_35 : (List (Int × Int))) => 
              (ifB (decide (v_34 < ((x.Store.length : Nat) : Int)))
                (Option.bind (ixI x.Store v_34) (fun v_38 =>
                Option.bind (some (mpS v_35 v_38.Key (max (mpG v_35 v_38.Key 0) v_38.Ts))) (fun v_42 =>
                some (.inl (IntKind.i64.wrap (v_34 + 1), v_42)))))
                (some (.inr v_35)) : Option ((Int × (List (Int × Int))) ⊕ (List (Int × Int))))) (fun m i => (i, m)) x.Store (fun m v => mpS m v.Key (max (mpG m v.Key 0) v.Ts)) id (fun m => by simp only [un2, ltn, ifB_f, id]) (fun m k hk => by simp only [un2, ltl hk, ifB_t, ixI_get hk, ob_some, w64_1 hk (by omega)]) (F := F) (by omega) []
    simp only [ob_some] at e1
    rw [e1]
    simp only [ob_some, id]
    obtain ⟨k2, e2⟩ := iter_ex (f := un2 fun (v_110 : (List (Int × Int))) (v_111 : Int) => 
                (ifB (decide (v_111 < ((x.Open.length : Nat) : Int)))
                  (Option.bind (Option.bind (ixI x.Open v_111) (fun v_114 =>
                    Option.bind (iter (σ := (List (Int × Int)) × Int) (ρ := (List (Int × Int))) (un2 fun (v_132 : (List (Int × Int))) (v_133 : Int) => 
                        (ifB (decide (v_133 < ((v_114.Writes.length : Nat) : Int)))
                          (Option.bind (ixI v_114.Writes v_133) (fun v_136 =>
                          Option.bind (some (mpS v_132 v_136.Key v_114.Ts)) (fun v_140 =>
                          some (.inl (v_140, IntKind.i64.wrap (v_133 + 1))))))
                          (some (.inr v_132)) : Option (((List (Int × Int)) × Int) ⊕ (List (Int × Int))))) F (v_110, 0)) (fun (v_141 : (List (Int × Int))) => 
                      some v_141)) : Option ((List (Int × Int)))) (fun (v_143 : (List (Int × Int))) => 
                    some (.inl (v_143, IntKind.i64.wrap (v_111 + 1)))))
                  (some (.inr v_110)) : Option (((List (Int × Int)) × Int) ⊕ (List (Int × Int))))) (fun m i => (m, i)) x.Open (fun m t => t.Writes.foldl (fun m w => mpS m w.Key t.Ts) m) id (fun m => by simp only [un2, ltn, ifB_f, id]) (fun m k hk => by
        have hwk := (hf _ (List.getElem_mem hk)).w
        simp only [un2, ltl hk, ifB_t, ixI_get hk, ob_some, w64_1 hk (by omega)]
        rw [iter_fold (fun m i => (m, i)) x.Open[k].Writes (fun m w => mpS m w.Key x.Open[k].Ts) id (fun _ _ => True) (fun m _ => by simp only [un2, ltn, ifB_f, id]) (fun m j hj _ => ⟨by simp only [un2, ltl hj, ifB_t, ixI_get hj, ob_some, w64_1 hj (by omega)], trivial⟩) (by omega) m trivial]
        rfl) (F := F) (by omega) k1
    simp only [ob_some] at e2
    rw [e2]
    simp only [ob_some, id]
    rw [iter_fdL t.Reads (fun s => !(mpG k2 s.Key 0 == s.Ts)) (.inl ()) (fun k => .inr (k : Int)) (by simp only [ltn, ifB_f]) (fun k hk => by
      simp only [ltl hk, ifB_t, ixI_get hk, ob_some, w64_1 hk (by omega)]
      cases (mpG k2 t.Reads[k].Key 0 == t.Reads[k].Ts) <;> rfl) (by omega)]
    cases hfi : t.Reads.findIdx? (fun s => !(mpG k2 s.Key 0 == s.Ts)) with
    | some k =>
      simp only [ob_some, Sum.elim_inr]
      rw [decide_eq_true (show ((k : Nat) : Int) ≥ 0 by omega), ifB_t]
      refine ⟨_, rfl, fun h => ?_, fun _ h => ?_⟩
      · exact absurd (show (60 : Int) = 0 from h) (by decide)
      · rw [h] at hfi; cases hfi
    | none =>
      simp only [ob_some, Sum.elim_inl]
      rw [show decide ((-1 : Int) ≥ 0) = false from rfl]
      have hnw := nW_le hf
      rw [ifB_f, size_p x (by omega) (by omega) hf (by omega)]
      simp only [ob_some]
      have e5 : (ifB ((((x.Open.length : Nat) : Int) == 2000)) (some true) (some (decide ((IntKind.i64.wrap (((x.Store.length + nW x.Open : Nat) : Int) + ((t.Writes.length : Nat) : Int))) > 4000))) : Option Bool) = some (!(decide (x.Open.length ≠ 2000) && decide (x.Store.length + nW x.Open + t.Writes.length ≤ 4000))) := by
        rw [show IntKind.i64.wrap (((x.Store.length + nW x.Open : Nat) : Int) + ((t.Writes.length : Nat) : Int)) = ((x.Store.length + nW x.Open + t.Writes.length : Nat) : Int) from by rw [IntKind.wrap_i64]; omega, dnot (p := ((x.Store.length + nW x.Open + t.Writes.length : Nat) : Int) > 4000) (q := x.Store.length + nW x.Open + t.Writes.length ≤ 4000) (by omega)]
        by_cases h : x.Open.length = 2000
        · rw [show (((x.Open.length : Nat) : Int) == 2000) = true from by simp [h], decide_eq_false (show ¬ x.Open.length ≠ 2000 by omega)]; rfl
        · rw [show (((x.Open.length : Nat) : Int) == 2000) = false from by rw [beq_eq_false_iff_ne]; omega, decide_eq_true (show x.Open.length ≠ 2000 by omega)]
          cases decide (x.Store.length + nW x.Open + t.Writes.length ≤ 4000) <;> rfl
      rw [e5, ob_some]
      cases h5 : (decide (x.Open.length ≠ 2000) && decide (x.Store.length + nW x.Open + t.Writes.length ≤ 4000)) with
      | false =>
        refine ⟨_, rfl, fun h => ?_, fun h _ => ?_⟩
        · exact absurd (show (2 : Int) = 0 from h) (by decide)
        · rw [decide_eq_true h.n, decide_eq_true h.s] at h5
          cases h5
      | true =>
        simp only [Bool.and_eq_true, decide_eq_true_eq] at h5
        have e6 : IntKind.i64.wrap (x.Last + 1) = x.Last + 1 := by rw [IntKind.wrap_i64]; omega
        rw [Bool.not_true, ifB_f, copied_p ht, ob_some, e6]
        by_cases h6 : max (x.Last + 1) b.Hi ≤ 3000000000000000
        · rw [decide_eq_false (by omega), ifB_f, apG_ok (by simp only [List.length_nil]; omega), ob_some]
          have hc := copies_p hf (by omega) (F := F) (by omega)
          unfold G_commit_copies at hc
          rw [hc]
          simp only [ob_some]
          rw [copied_p (t := ⟨t.ID, max (x.Last + 1) b.Hi, t.Reads, t.Writes⟩) ⟨hr, hw⟩, ob_some, apG_ok (by simp only [List.length_cons, List.length_nil]; omega), ob_some]
          exact ⟨_, rfl, fun _ => ⟨⟨hv, hi, hff, hz, h5.1, h5.2, h6⟩, rfl⟩, fun _ _ => rfl⟩
        · rw [decide_eq_true (by omega), ifB_t]
          refine ⟨_, rfl, fun h => ?_, fun h _ => ?_⟩
          · exact absurd (show (3 : Int) = 0 from h) (by decide)
          · exact absurd h.m h6
end Go.Proofs.Ytlfkgbideknkhaa
namespace Go.Proofs.Ytlfkgbideknkhaa
open Go.RowKit
theorem last_rng {ts : List KTx} (h : logS ts = true) : 0 ≤ lastT 0 ts ∧ lastT 0 ts ≤ 3000000000000000 := by
 obtain ⟨h1, h2⟩ := ris_log.1 h; refine ⟨(lastT_ge h2).2, ?_⟩; rw [last_of]; cases hg : ts.getLast? with
 | none => decide
 | some x => exact (h1 x (List.mem_of_getLast? hg)).ts.2
theorem st_txs {x : KLeader} {t : KTx} {b : KInterval} (h : StOk x t b) : Txs (stT x t b) := by
 have hv := h.v; have hf := h.f; have hm := h.m; unfold validL at hv; simp only [Bool.and_eq_true, decide_eq_true_eq] at hv; refine (txs_iff _).1 ?_; unfold txF at hf; unfold txS stT; simp only [Bool.and_eq_true, decide_eq_true_eq] at hf ⊢; obtain ⟨⟨⟨⟨⟨⟨⟨⟨⟨h1, h2⟩, h3⟩, h4⟩, h5⟩, h6⟩, h7⟩, h8⟩, h9⟩, h10⟩ := hf; exact ⟨⟨⟨⟨⟨⟨⟨⟨⟨h1, h2⟩, by omega⟩, by omega⟩, h5⟩, h6⟩, h7⟩, h8⟩, h9⟩, h10⟩
theorem app_log {us : List KTx} {t : KTx} (h : logS us = true) (ht : Txs t) (ho : lastT 0 us < t.Ts) (hl : (logB us).length ≤ 90000) : appS (logB us) t = (logB (us ++ [t]), 0) := by
 have hr := recT_small ht; unfold appS; rw [(txs_iff _).2 ht, if_pos rfl, log_txs h, if_pos rfl, (old_last ht).2 ho, if_neg (by simp), if_pos (by omega), logB_app]; unfold logB; rw [List.flatMap_cons (x := t), List.flatMap_nil, List.append_nil]
theorem lastT_snoc (us : List KTx) (t : KTx) : lastT 0 (us ++ [t]) = t.Ts := by
 unfold lastT; rw [List.foldl_append]; rfl
end Go.Proofs.Ytlfkgbideknkhaa
namespace Go.Proofs.Ytlfkgbideknkhaa
open Go.RowKit
theorem upTo1_p (a b : KVersion) {F : Nat} (hF : 64 ≤ F) : G_versions_upTo_1 F a b = some (ordV a.v b.v) := by
 unfold G_versions_upTo_1; rw [order_p a b hF]; rfl
theorem mid_eq {i j : Nat} (h : i + j ≤ 1000000) : IntKind.i64.wrap (Int.fdiv (IntKind.u64.wrap (IntKind.i64.wrap ((i : Int) + (j : Int)))) (2 ^ 1)) = (((i + j) / 2 : Nat) : Int) := by
 have e1 : IntKind.i64.wrap ((i : Int) + (j : Int)) = ((i + j : Nat) : Int) := by rw [IntKind.wrap_i64]; omega
 have e2 : IntKind.u64.wrap ((i + j : Nat) : Int) = ((i + j : Nat) : Int) := by rw [IntKind.wrap_u64]; omega
 have e3 : Int.fdiv ((i + j : Nat) : Int) (2 ^ 1) = (((i + j) / 2 : Nat) : Int) := by rw [Int.fdiv_eq_ediv_of_nonneg _ (by decide)]; omega
 rw [e1, e2, e3, IntKind.wrap_i64]; omega
theorem upTo_ex (l : List KVersion) (k t : Int) (hl : l.length ≤ 5000) {F : Nat} (hF : 20000 ≤ F) : ∃ n : Nat, n ≤ l.length ∧ G_versions_upTo F l k t = some (n : Int) := by
  have key : ∀ (m i j F : Nat), j ≤ i + m → i ≤ j → j ≤ l.length → m < F → ∃ n : Nat, n ≤ l.length ∧ ∀ F0, 64 ≤ F0 → iter (σ := Int × Int) (ρ := Int) (un2 fun (v_17 : Int) (v_18 : Int) => 
          (ifB (decide (v_18 < v_17))
            (Option.bind (ixI l (IntKind.i64.wrap (Int.fdiv (IntKind.u64.wrap (IntKind.i64.wrap (v_18 + v_17))) (2 ^ 1)))) (fun v_21 =>
            Option.bind (G_versions_upTo_1 F0 v_21 (⟨k, t, 0, false⟩ : KVersion)) (fun v_24 =>
            ifB (decide (v_24 < 0))
              (some (.inl (v_17, IntKind.i64.wrap ((IntKind.i64.wrap (Int.fdiv (IntKind.u64.wrap (IntKind.i64.wrap (v_18 + v_17))) (2 ^ 1))) + 1))))
              (some (.inl (IntKind.i64.wrap (Int.fdiv (IntKind.u64.wrap (IntKind.i64.wrap (v_18 + v_17))) (2 ^ 1)), v_18))))))
            (some (.inr v_18)) : Option ((Int × Int) ⊕ Int))) F ((j : Int), (i : Int)) = some (n : Int) := by
    intro m
    induction m with
    | zero =>
      intro i j F h1 h2 h3 hF
      obtain ⟨F', rfl⟩ : ∃ F', F = F' + 1 := ⟨F - 1, by omega⟩
      refine ⟨i, by omega, fun F0 hF0 => ?_⟩
      unfold iter
      simp only [un2]
      rw [decide_eq_false (by omega), ifB_f]
    | succ m ih =>
      intro i j F h1 h2 h3 hF
      obtain ⟨F', rfl⟩ : ∃ F', F = F' + 1 := ⟨F - 1, by omega⟩
      by_cases hi : i < j
      · have ew := mid_eq (i := i) (j := j) (by omega)
        have hm : (i + j) / 2 < l.length := by omega
        by_cases hc : ordV (l[(i + j) / 2]).v (KVersion.v ⟨k, t, 0, false⟩) < 0
        · obtain ⟨n, e1, e2⟩ := ih ((i + j) / 2 + 1) j F' (by omega) (by omega) h3 (by omega)
          refine ⟨n, e1, fun F0 hF0 => ?_⟩
          unfold iter
          simp only [un2]
          rw [decide_eq_true (by omega), ifB_t, ew, ixI_get hm, ob_some, upTo1_p _ _ hF0, ob_some, decide_eq_true hc, ifB_t, show IntKind.i64.wrap ((((i + j) / 2 : Nat) : Int) + 1) = (((i + j) / 2 + 1 : Nat) : Int) from by rw [IntKind.wrap_i64]; omega]
          exact e2 F0 hF0
        · obtain ⟨n, e1, e2⟩ := ih i ((i + j) / 2) F' (by omega) (by omega) (by omega) (by omega)
          refine ⟨n, e1, fun F0 hF0 => ?_⟩
          unfold iter
          simp only [un2]
          rw [decide_eq_true (by omega), ifB_t, ew, ixI_get hm, ob_some, upTo1_p _ _ hF0, ob_some, decide_eq_false hc, ifB_f]
          exact e2 F0 hF0
      · refine ⟨i, by omega, fun F0 hF0 => ?_⟩
        unfold iter
        simp only [un2]
        rw [decide_eq_false (by omega), ifB_f]
  unfold G_versions_upTo
  obtain ⟨n, h1, h2⟩ := key l.length 0 l.length F (by omega) (Nat.zero_le _) (Nat.le_refl _) (by omega)
  have h3 := h2 F (by omega)
  rw [show ((0 : Nat) : Int) = 0 from rfl] at h3
  rw [h3]
  simp only [ob_some]
  by_cases hn : n < l.length
  · rw [decide_eq_true (by omega), ifB_t, ixI_get hn, ob_some, upTo1_p _ _ (show 64 ≤ F by omega)]
    simp only [ob_some, un3]
    cases (ordV (l[n]).v (KVersion.v ⟨k, t, 0, false⟩) == 0) with
    | true =>
      refine ⟨n + 1, by omega, ?_⟩
      rw [ifB_t, ob_some, w64_nat (by omega)]
    | false => exact ⟨n, by omega, rfl⟩
  · rw [decide_eq_false (by omega), ifB_f]
    simp only [ob_some, un3]
    exact ⟨n, h1, rfl⟩
theorem last_ex (l : List KVersion) (k t : Int) (hl : l.length ≤ 5000) {F : Nat} (hF : 20000 ≤ F) : ∃ v, G_versions_last F l k t = some v := by
 obtain ⟨n, h1, h2⟩ := upTo_ex l k t hl hF; unfold G_versions_last; rw [h2, ob_some]
 by_cases hn : 0 < n
 ·have h3 : n - 1 < l.length := by omega
  rw [decide_eq_true (by omega), ifB_t, w64_p hn (by omega), ixI_get h3, ob_some, ob_some]; cases (l[n - 1].Key == k) with
  | true => exact ⟨_, rfl⟩
  | false => exact ⟨_, rfl⟩
 ·rw [decide_eq_false (by omega), ifB_f]; exact ⟨_, rfl⟩
theorem at_ex (l : List KVersion) (k t : Int) (hl : l.length ≤ 5000) {F : Nat} (hF : 20000 ≤ F) : ∃ r, G_versions_At F l k t = some r := by
 unfold G_versions_At G_versions_isKey G_versions_isStamp; rw [vval_p l (by omega) (by omega), win_p, win_p]; simp only [ob_some]; obtain ⟨v, hv⟩ := last_ex l k t hl hF; have e : ∃ c, (ifB (validB (l.map KVersion.v)) (ifB (decide (1 ≤ k) && decide (k ≤ 1000)) (some (t, !(decide (1 ≤ t) && decide (t ≤ 3000000000000000)))) (some (t, true))) (some (t, true)) : Option (Int × Bool)) = some (t, c) := by
  cases validB (l.map KVersion.v) <;> cases (decide (1 ≤ k) && decide (k ≤ 1000)) <;> exact ⟨_, rfl⟩
 obtain ⟨c, e⟩ := e; rw [e]; simp only [ob_some, un2]; cases c with
 | true => exact ⟨_, rfl⟩
 | false =>
  rw [ifB_f, hv, ob_some]; cases decide (v = (⟨0, 0, 0, false⟩ : KVersion)) with
  | true => exact ⟨_, rfl⟩
  | false =>
   rw [ifB_f, ob_some]; cases v.Gone with
   | true => exact ⟨_, rfl⟩
   | false => exact ⟨_, rfl⟩
theorem iter_inv37 {σ ρ β : Type} {f : σ → Option (σ ⊕ ρ)} (s : Nat → β → σ) (n : Nat) (I : Nat → β → Prop) (Q : ρ → Prop) (hk : ∀ k b, k < n → I k b → (∃ b', f (s k b) = some (.inl (s (k + 1) b')) ∧ I (k + 1) b') ∨ ∃ r, f (s k b) = some (.inr r) ∧ Q r) (hn : ∀ b, I n b → ∃ r, f (s n b) = some (.inr r) ∧ Q r) :
  ∀ {m k F : Nat} {b : β}, k + m = n → m < F → I k b → ∃ r, iter f F (s k b) = some r ∧ Q r := by
 intro m
 induction m with
 | zero =>
  intro k F b hkm hF hI; obtain ⟨F', rfl⟩ : ∃ F', F = F' + 1 := ⟨F - 1, by omega⟩; obtain rfl : k = n := by omega
  obtain ⟨r, h1, h2⟩ := hn b hI; refine ⟨r, ?_, h2⟩; unfold iter; rw [h1]
 | succ m ih =>
  intro k F b hkm hF hI; obtain ⟨F', rfl⟩ : ∃ F', F = F' + 1 := ⟨F - 1, by omega⟩; rcases hk k b (by omega) hI with ⟨b', h1, h2⟩ | ⟨r, h1, h2⟩
  ·obtain ⟨r, h3, h4⟩ := ih (k := k + 1) (F := F') (by omega) (by omega) h2; refine ⟨r, ?_, h4⟩; unfold iter; rw [h1]; exact h3
  ·refine ⟨r, ?_, h2⟩; unfold iter; rw [h1]
theorem chn_last : ∀ {l : List KTx} {a b : Int}, chnR l a = some b → b = lastT a l
 | [], a, b, h => by cases h; rfl
 | t :: l, a, b, h => by
  unfold chnR at h
  split at h
  ·have := chn_last (l := l) (a := t.Ts) h; exact this
  ·cases h
theorem open_valid {us : List KTx} (h : logS us = true) (hl : us.length ≤ 100) : validL ⟨lastT 0 us, [], us⟩ = true := by
 have hr := last_rng h; have hc := chn_log (l := us) (Int.le_refl 0); have hh := h; unfold logS at hh; rw [hh] at hc; obtain ⟨b, hb⟩ := Option.isSome_iff_exists.1 hc; have hbl := chn_last hb; have hw := vs_len h; rw [vsOf_nW] at hw; unfold validL; simp only [List.map_nil, List.length_nil, show maxV [] = 0 from rfl, hb]; rw [show validB [] = true from rfl, hbl]
 simp
 omega
theorem law37_recovers {l : List KTx} {ats : List Int} {key ts : Int} (hl : l.length ≤ 9223372036854775807) (ha : ∀ y ∈ ats, inKd .u32 y) : G_regulatorlaw37_JournalRecovers (300000 + l.length) l ats key ts = some true := by
  unfold G_regulatorlaw37_JournalRecovers
  rw [head37 (by omega), ob_some, fewTxs_r l (by omega) hl, ob_some]
  cases hf : (l.all fewTB && decide (l.length ≤ 30)) with
  | false => rfl
  | true =>
    simp only [Bool.and_eq_true, decide_eq_true_eq, List.all_eq_true] at hf
    obtain ⟨hfew, h30⟩ := hf
    rw [ifB_t]
    obtain ⟨r, hr, hq⟩ := iter_inv37 (f := un5 fun (v_66 : Int) (v_67 : (List KVersion)) (v_70 : (List KTx)) (v_73 : (List Int)) (v_76 : Int) => 
          (ifB (decide (v_76 < ((l.length : Nat) : Int)))
            (Option.bind (ixI l v_76) (fun v_79 =>
            Option.bind (G_regulatorref34_Tx (300000 + l.length) (⟨v_79.ID, 0, ([] : List KSeen), v_79.Writes⟩ : KTx)) (fun v_83 =>
            ifB (v_83)
              (Option.bind (ifB (decide (v_76 < ((ats.length : Nat) : Int)))
                  (Option.bind (ixI ats v_76) (fun v_87 =>
                  some (IntKind.i64.wrap v_87)))
                  (some 0) : Option (Int)) (fun (v_91 : Int) => 
                Option.bind (G_commit_Stamp (300000 + l.length) (⟨v_66, v_67, v_70⟩ : KLeader) (⟨v_79.ID, 0, ([] : List KSeen), v_79.Writes⟩ : KTx) (⟨0, v_91⟩ : KInterval)) (un3 fun v_92 v_93 v_94 =>
                Option.bind (G_journal_Append (300000 + l.length) v_73 v_93) (un2 fun v_97 v_98 =>
                Option.bind (ifB ((v_94 == 0))
                    (some (!(v_98 == 0)))
                    (some true) : Option (Bool)) (fun (v_101 : Bool) => 
                  ifB (v_101)
                    (some (.inr (.inr false)))
                    (some (.inl (v_92.Last, v_92.Store, v_92.Open, v_97, IntKind.i64.wrap (v_76 + 1)))))))))
              (some (.inr (.inr true))))))
            (some (.inr (.inl (v_66, v_67, v_70, v_73)))) : Option ((Int × (List KVersion) × (List KTx) × (List Int) × Int) ⊕ ((Int × (List KVersion) × (List KTx) × (List Int)) ⊕ Bool)))) (fun k (us : List KTx) => (lastT 0 us, ([] : List KVersion), us, logB us, (k : Int))) l.length (fun k us => us.length = k ∧ logS us = true ∧ lastT 0 us ≤ 4294967296 + k) (fun r => r = .inr true ∨ ∃ us, us.length ≤ 30 ∧ logS us = true ∧ lastT 0 us ≤ 4294967296 + 30 ∧ r = .inl (lastT 0 us, [], us, logB us)) (fun k us hk ⟨h1, h2, h3⟩ => by
        have hfk := fewT_iff.1 (hfew _ (List.getElem_mem hk))
        have hus := (ris_log.1 h2).1
        have hrg := last_rng h2
        simp only [un5, ltl hk, ifB_t, ixI_get hk, ob_some]
        rw [tx34_any _ (show 3000 < 300000 + l.length by omega), ob_some]
        cases htf : txF ⟨l[k].ID, 0, [], l[k].Writes⟩ with
        | false => exact .inr ⟨_, rfl, .inl rfl⟩
        | true =>
          left
          have hat : ∃ v, 0 ≤ v ∧ v ≤ 4294967295 ∧ (ifB (decide ((k : Int) < ((ats.length : Nat) : Int))) (Option.bind (ixI ats (k : Int)) (fun v_87 => some (IntKind.i64.wrap v_87))) (some 0) : Option Int) = some v := by
            by_cases hka : k < ats.length
            · have h5 := ha _ (List.getElem_mem hka)
              have h6 := inKd_u32 h5
              refine ⟨ats[k], h6.1, h6.2, ?_⟩
              rw [ltl hka, ifB_t, ixI_get hka, ob_some, IntKind.wrap_i64]
              congr 1
              omega
            · refine ⟨0, by omega, by omega, ?_⟩
              rw [decide_eq_false (by omega), ifB_f]
          obtain ⟨hi, i1, i2, i3⟩ := hat
          rw [i3]
          simp only [ob_some]
          obtain ⟨r, e1, _, e2⟩ := stamp_p (x := ⟨lastT 0 us, [], us⟩) (t := ⟨l[k].ID, 0, [], l[k].Writes⟩) (b := ⟨0, hi⟩) (by simp) (by show us.length ≤ 2000; omega) (fun t ht => (hus t ht).fewT) ⟨by simp, hfk.w⟩ (F := 300000 + l.length) (by omega)
          have hnw := nW_le (l := us) (fun t ht => (hus t ht).fewT)
          have hwk := hfk.w
          have hst : StOk ⟨lastT 0 us, [], us⟩ ⟨l[k].ID, 0, [], l[k].Writes⟩ ⟨0, hi⟩ := ⟨open_valid h2 (by omega), by unfold ivB; simp; omega, htf, rfl, by show us.length ≠ 2000; omega, by show 0 + nW us + l[k].Writes.length ≤ 4000; omega, by show max (lastT 0 us + 1) hi ≤ 3000000000000000; omega⟩
          rw [e1, e2 hst rfl]
          have hT := st_txs hst
          have hlt : lastT 0 us < (stT ⟨lastT 0 us, [], us⟩ ⟨l[k].ID, 0, [], l[k].Writes⟩ ⟨0, hi⟩).Ts := by show lastT 0 us < max (lastT 0 us + 1) hi; omega
          have hsm := logB_small hus
          have hlog2 := log_snoc h2 hT hlt
          simp only [ob_some, un3]
          rw [app_p (logB_by hus) (by omega) hT.fewT (by omega), app_log h2 hT hlt (by omega)]
          simp only [ob_some, un2]
          rw [show ((0 : Int) == 0) = true from rfl]
          simp only [ifB_t, Bool.not_true, ob_some, ifB_f]
          rw [w64_nat (by omega)]
          refine ⟨us ++ [stT ⟨lastT 0 us, [], us⟩ ⟨l[k].ID, 0, [], l[k].Writes⟩ ⟨0, hi⟩], ?_, ?_, hlog2, ?_⟩
          · rw [lastT_snoc]; rfl
          · rw [List.length_append, h1]; rfl
          · rw [lastT_snoc]
            show max (lastT 0 us + 1) hi ≤ _
            push_cast
            omega) (fun us ⟨h1, h2, h3⟩ => ⟨_, by simp only [un5, ltn, ifB_f], .inr ⟨us, by omega, h2, by omega, rfl⟩⟩) (m := l.length) (k := 0) (F := 300000 + l.length) (b := []) (by omega) (by omega) ⟨rfl, rfl, by decide⟩
    rw [show ((0 : Nat) : Int) = 0 from rfl, show lastT 0 [] = 0 from rfl, show logB [] = [] from rfl] at hr
    rw [hr]
    rcases hq with rfl | ⟨us, h1, h2, h3, rfl⟩
    · rfl
    · have hus := (ris_log.1 h2).1
      have hsm := logB_small hus
      have hv4 : (vsOf us).length ≤ 4000 := by have := vs_len h2; omega
      have hsto := stoS_ok h2 hv4
      have hge := lastT_ge (ris_log.1 h2).2
      simp only [ob_some, Sum.elim_inl, un4]
      rw [show_p (x := ⟨lastT 0 us, [], us⟩) (open_valid h2 (by omega)) (by decide) (fun t ht => (hus t ht).fewT) (fun t ht => by have := hge.1 t ht; show t.Ts < 3000000000000000; omega) (m := stoS us) hsto.1 (by omega), recover_p (logB_by hus) (by omega) (by rw [log_txs h2]; exact hv4) (by omega), log_txs h2]
      simp only [ob_some, un3]
      rw [show (⟨lastT 0 us, (stoS us).map Ver.k, []⟩ : KLeader) = ldr us from rfl, show ((0 : Int) == 0) = true from rfl, ifB_t, ifB_t, beq_self_eq_true, ifB_t, same34_r _ _ (by show ((stoS us).map Ver.k).length ≤ _; rw [List.length_map]; omega) (by show ([] : List KTx).length ≤ _; simp) (fun t ht => absurd ht List.not_mem_nil) (by omega)]
      simp only [ob_some, decide_true, Bool.not_true]
      rw [ifB_f]
      obtain ⟨⟨x, y, z⟩, hat⟩ := at_ex (ldr us).Store key ts (by show ((stoS us).map Ver.k).length ≤ _; rw [List.length_map]; omega) (F := 300000 + l.length) (by omega)
      have hat2 : G_versions_At (300000 + l.length) ((stoS us).map Ver.k) key ts = some (x, y, z) := hat
      rw [hat]
      simp only [ob_some, un3]
      rw [hat2]
      simp only [ob_some, un3, decide_true, ifB_t, beq_self_eq_true]
end Go.Proofs.Ytlfkgbideknkhaa
namespace Go.Proofs.Ytlfkgbideknkhaa
theorem olen {P : Program} {w : World} {r : Reach} {base : Nat} {t e : TypeId} {A : Option Addr} {n c : Nat} (ht : P.underlying t = some (.slice e)) (h : Value.okWide P w r base t (.slice A n c)) : n ≤ 9223372036854775807 := by
 simp only [Value.okWide, ht, Cell.okWide, Cell.ok] at h; cases A with
 | none =>
  cases n with
  | zero => exact Nat.zero_le _
  | succ n => simp at h
 | some a =>
  have h1 := h.1; have h2 := h.2.1; rw [show IntKind.i64.max = 9223372036854775807 by decide] at h2; omega
end Go.Proofs.Ytlfkgbideknkhaa
