/-
  Texts joined: Wc37, Wd37, We37, Wf37, Sd37, Se37, Sf37, Sg37, Hh37, OpA, OpR, OpZ, Sh37.
-/
import Derived.Test.YtlfkgbideknkhaaRows
import Derived.ProofKit
import Derived.OpenShut
import Derived.Carry
import Derived.ChangeSame
import Derived.Deep.Slices
import Derived.Lib.SmallJoins
import Derived.Test.YtlfkgbideknkhaaJU10
import Derived.Test.YtlfkgbideknkhaaJU11
import Derived.Test.YtlfkgbideknkhaaJU14
set_option linter.unusedSimpArgs false
set_option linter.unusedVariables false
namespace Go.Proofs.Ytlfkgbideknkhaa
open Go.RowKit
theorem lastD_eq : ∀ {l : List Int} (h : l ≠ []), l.getLastD 0 = l.getLast h
 | [], h => absurd rfl h
 | x :: xs, _ => by rw [List.getLastD_cons, List.getLast_eq_getLastD]
theorem dig_r {b : List Int} : ∀ {k u F : Nat}, u < 128 ^ (k + 1) → u < 18446744073709551616 → k ≤ 20 → b.length + k ≤ 100000000 → k < F → iter (σ := (List Int) × Int) (ρ := ((List Int) × Int)) (un2 fun (v_15 : (List Int)) (v_18 : Int) => 
              (ifB (decide (v_18 ≥ 128))
                (Option.bind (apG 1 v_15 ([IntKind.u8.wrap (IntKind.u64.wrap ((Int.tmod v_18 128) + 128))] : List Int)) (fun v_22 =>
                some (.inl (v_22, IntKind.u64.wrap (Int.tdiv v_18 128)))))
                (some (.inr (v_15, v_18))) : Option (((List Int) × Int) ⊕ ((List Int) × Int)))) F (b, (u : Int)) = some (b ++ (digA (k + 1) u).dropLast, (digA (k + 1) u).getLastD 0) := by
  intro k
  induction k generalizing b with
  | zero =>
    intro u F hu _ _ _ hF
    obtain ⟨F', rfl⟩ : ∃ F', F = F' + 1 := ⟨F - 1, by omega⟩
    have hu' : u < 128 := by simpa using hu
    unfold iter digA
    simp only [un2]
    rw [decide_eq_false (by omega), ifB_f, if_neg (by omega)]
    simp
  | succ k ih =>
    intro u F hu h64 hk hb hF
    obtain ⟨F', rfl⟩ : ∃ F', F = F' + 1 := ⟨F - 1, by omega⟩
    unfold iter
    simp only [un2]
    by_cases h : 128 ≤ u
    · have e1 : IntKind.u8.wrap (IntKind.u64.wrap (Int.tmod (u : Int) 128 + 128)) = ((u % 128 + 128 : Nat) : Int) := by
        rw [Int.tmod_eq_emod_of_nonneg (by omega), IntKind.wrap_u64, IntKind.wrap_u8']; omega
      have e2 : IntKind.u64.wrap (Int.tdiv (u : Int) 128) = ((u / 128 : Nat) : Int) := by
        rw [Int.tdiv_eq_ediv_of_nonneg (by omega), IntKind.wrap_u64]; omega
      rw [decide_eq_true (by omega), ifB_t, e1, e2, apG_ok (by simp only [List.length_cons, List.length_nil]; omega), ob_some]
      simp only
      rw [ih (by rw [Nat.pow_succ] at hu; omega) (by omega) (by omega) (by simp only [List.length_append, List.length_cons, List.length_nil]; omega) (by omega)]
      have e3 : digA (k + 1 + 1) u = ((u % 128 + 128 : Nat) : Int) :: digA (k + 1) (u / 128) := by
        rw [digA, if_pos h]
      have e4 : digA (k + 1) (u / 128) ≠ [] := by unfold digA; split <;> simp
      rw [e3, List.dropLast_cons_of_ne_nil e4, List.append_assoc]
      congr 2
      cases hd : digA (k + 1) (u / 128) with
      | nil => exact absurd hd e4
      | cons x xs => rfl
    · rw [decide_eq_false (by omega), ifB_f]
      have e3 : digA (k + 1 + 1) u = [(u : Int)] := by rw [digA, if_neg h]
      rw [e3]
      simp
theorem one_r {b : List Int} {n : Int} (h : In n) (hb : b.length ≤ 90000000) {F : Nat} (hF : 64 ≤ F) : (Option.bind (ifB (decide (n < 0))
          (some (IntKind.u64.wrap ((IntKind.u64.wrap (2 * (IntKind.u64.wrap (IntKind.i64.wrap ((-1) - n))))) + 1)))
          (some (IntKind.u64.wrap (2 * (IntKind.u64.wrap n)))) : Option (Int)) (fun (v_4 : Int) => 
        Option.bind (Option.bind (iter (σ := (List Int) × Int) (ρ := ((List Int) × Int)) (un2 fun (v_15 : (List Int)) (v_18 : Int) => 
              (ifB (decide (v_18 ≥ 128))
                (Option.bind (apG 1 v_15 ([IntKind.u8.wrap (IntKind.u64.wrap ((Int.tmod v_18 128) + 128))] : List Int)) (fun v_22 =>
                some (.inl (v_22, IntKind.u64.wrap (Int.tdiv v_18 128)))))
                (some (.inr (v_15, v_18))) : Option (((List Int) × Int) ⊕ ((List Int) × Int)))) F (b, v_4)) (un2 fun (v_23 : (List Int)) (v_26 : Int) => 
            some (v_23, v_26)) : Option (((List Int) × Int))) (un2 fun (v_28 : (List Int)) (v_31 : Int) => 
          Option.bind (apG 1 v_28 ([IntKind.u8.wrap v_31] : List Int)) (fun v_33 =>
          some v_33))) : Option (List Int)) = some (b ++ encI n) := by
  have hz := zig_nat h
  have e1 : (ifB (decide (n < 0)) (some (IntKind.u64.wrap ((IntKind.u64.wrap (2 * (IntKind.u64.wrap (IntKind.i64.wrap ((-1) - n))))) + 1))) (some (IntKind.u64.wrap (2 * (IntKind.u64.wrap n)))) : Option (Int)) = some (((zig n).toNat : Nat) : Int) := by
    rw [hz.1]
    obtain ⟨h1, h2⟩ := h
    unfold zig
    by_cases hn : n < 0
    · rw [decide_eq_true hn, ifB_t, if_pos hn, IntKind.wrap_i64, IntKind.wrap_u64, IntKind.wrap_u64, IntKind.wrap_u64]
      congr 1; omega
    · rw [decide_eq_false hn, ifB_f, if_neg hn, IntKind.wrap_u64, IntKind.wrap_u64]
      congr 1; omega
  have e0 : (128 : Nat) ^ 10 = 1180591620717411303424 := by decide
  rw [e1, ob_some, dig_r (k := 9) (by omega) hz.2 (by omega) (by omega) (by omega)]
  simp only [ob_some, un2, Nat.reduceAdd]
  have hne : digA 10 (zig n).toNat ≠ [] := by unfold digA; split <;> simp
  have hl := lastD_eq hne
  have hr := encI_by h _ (by rw [enc_A h]; exact List.getLast_mem hne)
  have hlen := digA_len 10 (zig n).toNat
  rw [hl, IntKind.wrap_u8', Int.emod_eq_of_lt hr.1 hr.2, apG_ok (by simp only [List.length_append, List.length_dropLast, List.length_cons, List.length_nil]; omega)]
  simp only [ob_some]
  rw [List.append_assoc, List.dropLast_concat_getLast hne, ← enc_A h]
theorem put_r {l : List Int} (h : OkL l) {F : Nat} (hF : 1000 < F) : G_regulatorref04_Put F l = some (encL l, 0) := by
 have hn := h.n; have h1 := encI_len (lenIn h.n); unfold G_regulatorref04_Put; rw [decide_eq_false (by omega), ifB_f, one_r (lenIn h.n) (by simp) (by omega), ob_some, List.nil_append]; rw [iter_fold (fun b i => (b, i)) l (fun b x => b ++ encI x) id (fun k b => b.length ≤ 10 + 10 * k) ?_ ?_ (by omega) (encI (l.length : Int)) (by omega)]
 ·simp only [ob_some, id, foldl_fl]; rfl
 ·intro b _; simp only [un2, ltn, ifB_f, id]
 ·intro b k hk hb; have h2 := h.i l[k] (List.getElem_mem hk); have h3 := encI_len h2; have h4 := one_r (b := b) h2 (by omega) (F := F) (by omega); simp only [un2, ltl hk, ifB_t, ixI_get hk, ob_some, w64_1 hk (by omega), List.length_append]; rw [h4]; exact ⟨rfl, by omega⟩
def rdR (b : List Int) : Option (Nat × List Int) → Int × Int × Bool
 | none => (0, 0, false)
 | some (m, rest) => (unz m, ((b.length - rest.length : Nat) : Int), true)
theorem rd_loop {b : List Int} {p : Nat} (hb : By b) (hl : b.length ≤ 1000000) (hp : p ≤ b.length) : ∀ {f k u F : Nat} {s : Int}, f + k = 10 → u < 128 ^ k → (k ≤ 9 → s = ((128 ^ k : Nat) : Int)) → f < F →
    ∃ r : Unit ⊕ (Int × Int × Bool), iter (σ := Int × Int × Int × Int) (ρ := Unit ⊕ (Int × Int × Bool)) (un4 fun (v_30 : Int) (v_31 : Int) (v_32 : Int) (v_33 : Int) => 
        (ifB (decide (v_33 < 10))
          (ifB (decide ((IntKind.i64.wrap (v_30 + v_33)) ≥ ((b.length : Nat) : Int)))
            (some (.inr (.inr (0, 0, false))))
            (Option.bind (ixI b (IntKind.i64.wrap (v_30 + v_33))) (fun v_37 =>
            Option.bind (ifB ((v_33 == 9))
                (ifB (decide ((IntKind.u64.wrap v_37) > 1))
                  (some true)
                  (ifB (decide (v_33 > 0))
                    (some ((IntKind.u64.wrap v_37) == 0))
                    (some false)))
                (ifB (decide (v_33 > 0))
                  (some ((IntKind.u64.wrap v_37) == 0))
                  (some false)) : Option (Bool)) (fun (v_45 : Bool) => 
              ifB (v_45)
                (some (.inr (.inr (0, 0, false))))
                (ifB (decide ((IntKind.u64.wrap v_37) < 128))
                  (Option.bind (ifB (((Int.tmod (IntKind.u64.wrap (v_31 + (IntKind.u64.wrap ((Int.tmod (IntKind.u64.wrap v_37) 128) * v_32)))) 2) == 1))
                      (some (IntKind.i64.wrap ((-1) - (IntKind.i64.wrap (IntKind.u64.wrap (Int.tdiv (IntKind.u64.wrap (v_31 + (IntKind.u64.wrap ((Int.tmod (IntKind.u64.wrap v_37) 128) * v_32)))) 2))))))
                      (some (IntKind.i64.wrap (IntKind.u64.wrap (Int.tdiv (IntKind.u64.wrap (v_31 + (IntKind.u64.wrap ((Int.tmod (IntKind.u64.wrap v_37) 128) * v_32)))) 2)))) : Option (Int)) (fun (v_50 : Int) => 
                    some (.inr (.inr (v_50, IntKind.i64.wrap ((IntKind.i64.wrap (v_30 + v_33)) + 1), true)))))
                  (some (.inl (v_30, IntKind.u64.wrap (v_31 + (IntKind.u64.wrap ((Int.tmod (IntKind.u64.wrap v_37) 128) * v_32))), IntKind.u64.wrap (v_32 * 128), IntKind.i64.wrap (v_33 + 1)))))))))
          (some (.inr (.inl ()))) : Option ((Int × Int × Int × Int) ⊕ (Unit ⊕ (Int × Int × Bool))))) F ((p : Int), (u : Int), s, (k : Int)) = some r ∧ Sum.elim (fun _ => (0, 0, false)) id r = rdR b (rdA f k u (b.drop (p + k))) := by
  intro f
  induction f with
  | zero =>
    intro k u F s hf hu hs hF
    obtain ⟨F', rfl⟩ : ∃ F', F = F' + 1 := ⟨F - 1, by omega⟩
    refine ⟨.inl (), ?_, rfl⟩
    unfold iter
    simp only [un4]
    rw [decide_eq_false (by omega), ifB_f]
  | succ f ih =>
    intro k u F s hf hu hs hF
    obtain ⟨F', rfl⟩ : ∃ F', F = F' + 1 := ⟨F - 1, by omega⟩
    obtain rfl := hs (by omega)
    have e0 : IntKind.i64.wrap ((p : Int) + (k : Int)) = ((p + k : Nat) : Int) := by rw [IntKind.wrap_i64]; omega
    unfold iter
    simp only [un4, e0]
    rw [decide_eq_true (p := (k : Int) < 10) (by omega), ifB_t]
    by_cases hlt : p + k < b.length
    · rw [decide_eq_false (by omega), ifB_f, ixI_get hlt, ob_some, List.drop_eq_getElem_cons hlt]
      obtain ⟨h0, h1⟩ := hb _ (List.getElem_mem hlt)
      obtain ⟨c, hc⟩ : ∃ c : Nat, b[p + k] = (c : Int) := ⟨b[p + k].toNat, by omega⟩
      rw [hc] at h0 h1 ⊢
      have e1 : IntKind.u64.wrap (c : Int) = (c : Int) := by rw [IntKind.wrap_u64]; omega
      have ec : (ifB (((k : Int) == 9)) (ifB (decide ((c : Int) > 1)) (some true) (ifB (decide ((k : Int) > 0)) (some ((c : Int) == 0)) (some false))) (ifB (decide ((k : Int) > 0)) (some ((c : Int) == 0)) (some false)) : Option Bool) = some (!((decide (k < 9) || decide ((c : Int) < 2)) && ((k == 0) || decide ((c : Int) > 0)))) := by
        rw [show ((k : Int) == 9) = !decide (k < 9) from by rw [Bool.eq_iff_iff]; simp; omega, show decide ((c : Int) > 1) = !decide ((c : Int) < 2) from dnot (by omega), show decide ((k : Int) > 0) = !(k == 0) from by rw [Bool.eq_iff_iff]; simp; omega, show ((c : Int) == 0) = !decide ((c : Int) > 0) from by rw [Bool.eq_iff_iff]; simp]
        cases decide (k < 9) <;> cases decide ((c : Int) < 2) <;> cases (k == 0) <;> rfl
      rw [e1, ec, ob_some]
      unfold rdA
      cases hc2 : (decide (k < 9) || decide ((c : Int) < 2)) && ((k == 0) || decide ((c : Int) > 0)) with
      | false => exact ⟨_, rfl, rfl⟩
      | true =>
        simp only [Bool.and_eq_true, Bool.or_eq_true, decide_eq_true_eq] at hc2
        have hp0 : 0 < 128 ^ k := Nat.pow_pos (by omega)
        have hlt2 : u + c % 128 * 128 ^ k < 128 ^ k * (c % 128 + 1) := by rw [Nat.mul_add, Nat.mul_comm (c % 128)]; omega
        have hs : u + c % 128 * 128 ^ k < 18446744073709551616 := by
          rcases hc2.1 with h | h
          · have h2 : (128 : Nat) ^ k * (c % 128 + 1) ≤ 128 ^ k * 128 := Nat.mul_le_mul_left _ (by omega)
            have h3 := p128_le (k := k + 1) (by omega)
            rw [Nat.pow_succ] at h3
            omega
          · have h2 : (128 : Nat) ^ k * (c % 128 + 1) ≤ 128 ^ k * 2 := Nat.mul_le_mul_left _ (by omega)
            have h3 := p128_le (k := k) (by omega)
            omega
        have e2 : IntKind.u64.wrap ((u : Int) + IntKind.u64.wrap (Int.tmod (c : Int) 128 * ((128 ^ k : Nat) : Int))) = ((u + c % 128 * 128 ^ k : Nat) : Int) := by
          rw [Int.tmod_eq_emod_of_nonneg (by omega), show (c : Int) % 128 * ((128 ^ k : Nat) : Int) = ((c % 128 * 128 ^ k : Nat) : Int) from by push_cast; rfl, IntKind.wrap_u64, IntKind.wrap_u64]
          generalize c % 128 * 128 ^ k = y at hs ⊢
          omega
        simp only [Bool.not_true, ifB_f, e2, Int.toNat_natCast]
        cases hd : decide ((c : Int) < 128) with
        | true =>
          generalize u + c % 128 * 128 ^ k = y at hs ⊢
          have e3 : (ifB ((Int.tmod (y : Int) 2 == 1)) (some (IntKind.i64.wrap ((-1) - (IntKind.i64.wrap (IntKind.u64.wrap (Int.tdiv (y : Int) 2)))))) (some (IntKind.i64.wrap (IntKind.u64.wrap (Int.tdiv (y : Int) 2)))) : Option Int) = some (unz y) := by
            rw [Int.tmod_eq_emod_of_nonneg (by omega), Int.tdiv_eq_ediv_of_nonneg (by omega)]
            have e4 : IntKind.u64.wrap ((y : Int) / 2) = ((y / 2 : Nat) : Int) := by rw [IntKind.wrap_u64]; omega
            have e5 : IntKind.i64.wrap ((y / 2 : Nat) : Int) = ((y / 2 : Nat) : Int) := by rw [IntKind.wrap_i64]; omega
            have e6 : IntKind.i64.wrap (-1 - ((y / 2 : Nat) : Int)) = -1 - ((y / 2 : Nat) : Int) := by rw [IntKind.wrap_i64]; omega
            rw [e4, e5, e6, show ((y : Int) % 2 == 1) = decide (y % 2 = 1) from by rw [Bool.eq_iff_iff]; simp; omega]
            unfold unz
            rcases Nat.mod_two_eq_zero_or_one y with h | h
            · rw [h]; rfl
            · rw [h]; rfl
          rw [ifB_t, e3, ob_some]
          refine ⟨_, rfl, ?_⟩
          simp only [Sum.elim_inr, id, rdR, Prod.mk.injEq, and_true, true_and]
          rw [List.length_drop, IntKind.wrap_i64]
          omega
        | false =>
          rw [ifB_f]
          have hd' : ¬ (c : Int) < 128 := of_decide_eq_false hd
          have hk1 : IntKind.i64.wrap ((k : Int) + 1) = ((k + 1 : Nat) : Int) := by rw [IntKind.wrap_i64]; omega
          rw [hk1]
          obtain ⟨r, h1, h2⟩ := ih (k := k + 1) (u := u + c % 128 * 128 ^ k) (F := F') (s := IntKind.u64.wrap (((128 ^ k : Nat) : Int) * 128)) (by omega) (by
            have h2 : (128 : Nat) ^ k * (c % 128 + 1) ≤ 128 ^ k * 128 := Nat.mul_le_mul_left _ (by omega)
            rw [Nat.pow_succ]; omega) (fun hk => by
            have h3 := p128_le (k := k + 1) hk
            rw [show ((128 ^ k : Nat) : Int) * 128 = ((128 ^ (k + 1) : Nat) : Int) from by rw [Nat.pow_succ]; push_cast; rfl, IntKind.wrap_u64]
            omega) (by omega)
          exact ⟨r, h1, by rw [h2, Nat.add_assoc]⟩
    · rw [decide_eq_true (by omega), ifB_t, List.drop_eq_nil_of_le (by omega)]
      exact ⟨_, rfl, rfl⟩
theorem read_r {b : List Int} {p : Nat} (hb : By b) (hl : b.length ≤ 1000000) (hp : p ≤ b.length) {F : Nat} (hF : 64 ≤ F) : G_regulatorref04_Read F b (p : Int) = some (match rdV 10 0 0 (b.drop p) with | none => (0, 0, false) | some (n, rest) => (n, ((b.length - rest.length : Nat) : Int), true)) := by
 obtain ⟨r, h1, h2⟩ := rd_loop hb hl hp (f := 10) (k := 0) (u := 0) (F := F) (s := 1) rfl (by decide) (fun _ => rfl) (by omega); have h3 := rdV_A 10 0 0 (b.drop p) rfl (by decide) (hb.drop p); unfold G_regulatorref04_Read; rw [show ((0 : Nat) : Int) = 0 from rfl] at h1 h3; rw [h1, h3]; simp only [Nat.add_zero] at h2; simp only [ob_some]; cases r with
 | inl x =>
  simp only [Sum.elim_inl, ob_some]; simp only [Sum.elim_inl] at h2; rw [h2]; cases rdA 10 0 0 (b.drop p) <;> rfl
 | inr x =>
  obtain ⟨x, y, z⟩ := x; simp only [Sum.elim_inr, ob_some, un3]; simp only [Sum.elim_inr, id] at h2; rw [h2]; cases rdA 10 0 0 (b.drop p) <;> rfl
end Go.Proofs.Ytlfkgbideknkhaa
namespace Go.Proofs.Ytlfkgbideknkhaa
open Go.RowKit
theorem drop_rest {b x rest : List Int} {p : Nat} (hp : p ≤ b.length) (h : b.drop p = x ++ rest) : rest.length ≤ b.length ∧ b.length - rest.length = p + x.length ∧ b.drop (b.length - rest.length) = rest := by
 have h1 := congrArg List.length h; rw [List.length_drop, List.length_append] at h1; refine ⟨by omega, by omega, ?_⟩; rw [show b.length - rest.length = p + x.length by omega, ← List.drop_drop, h, List.drop_left]
theorem get_loop {b : List Int} {n : Nat} (hb : By b) (hl : b.length ≤ 1000000) (hn : n ≤ 1000) {F0 : Nat} (hF0 : 64 ≤ F0) : ∀ {k i p F : Nat} {out : List Int}, i + k = n → p ≤ b.length → out.length + k ≤ 1000 → k < F →
    iter (σ := Int × (List Int) × Int) (ρ := (Int × (List Int)) ⊕ Unit) (un3 fun (v_28 : Int) (v_29 : (List Int)) (v_32 : Int) => 
            (ifB (decide (v_32 < (n : Int)))
              (Option.bind (G_regulatorref04_Read F0 b v_28) (un3 fun v_35 v_36 v_37 =>
              ifB (v_37)
                (Option.bind (apG 8 v_29 ([v_35] : List Int)) (fun v_40 =>
                some (.inl (v_36, v_40, IntKind.i64.wrap (v_32 + 1)))))
                (some (.inr (.inr ())))))
              (some (.inr (.inl (v_28, v_29)))) : Option ((Int × (List Int) × Int) ⊕ ((Int × (List Int)) ⊕ Unit)))) F ((p : Int), out, (i : Int)) = some (match rdN k (b.drop p) with | none => .inr () | some (l, rest) => .inl (((b.length - rest.length : Nat) : Int), out ++ l)) := by
  intro k
  induction k with
  | zero =>
    intro i p F out hi hp _ hF
    obtain ⟨F', rfl⟩ : ∃ F', F = F' + 1 := ⟨F - 1, by omega⟩
    unfold iter
    simp only [un3]
    rw [decide_eq_false (by omega), ifB_f]
    simp only [rdN, List.append_nil, List.length_drop]
    rw [show b.length - (b.length - p) = p by omega]
  | succ k ih =>
    intro i p F out hi hp ho hF
    obtain ⟨F', rfl⟩ : ∃ F', F = F' + 1 := ⟨F - 1, by omega⟩
    unfold iter
    simp only [un3]
    rw [decide_eq_true (by omega), ifB_t, read_r hb hl hp hF0]
    rw [rdN]
    cases hr : rdV 10 0 0 (b.drop p) with
    | none => rfl
    | some x =>
      obtain ⟨m, rest⟩ := x
      obtain ⟨_, h1⟩ := rdV_only (hb.drop p) hr
      obtain ⟨h2, h3, h4⟩ := drop_rest hp h1
      simp only [ob_some, un3, ifB_t]
      rw [apG_ok (by simp only [List.length_cons, List.length_nil]; omega), ob_some, show IntKind.i64.wrap ((i : Int) + 1) = ((i + 1 : Nat) : Int) from by rw [IntKind.wrap_i64]; omega]
      simp only
      rw [ih (by omega) (by omega) (by simp only [List.length_append, List.length_cons, List.length_nil]; omega) (by omega), h4]
      cases rdN k rest with
      | none => rfl
      | some y => obtain ⟨l, r⟩ := y; simp
theorem get_r {b : List Int} (hb : By b) (hl : b.length ≤ 1000000) {F : Nat} (hF : 1001 < F) : G_regulatorref04_Get F b = some (getS b) := by
 unfold G_regulatorref04_Get getS; have h0 := read_r (p := 0) hb hl (Nat.zero_le _) (F := F) (by omega); rw [List.drop_zero, show ((0 : Nat) : Int) = 0 from rfl] at h0; rw [h0]; cases hr' : rdV 10 0 0 b with
 | none => simp only [ob_some, un3, ifB_f, ifB_t]
 | some x =>
  obtain ⟨m, rest⟩ := x; obtain ⟨_, h1⟩ := rdV_only hb hr'; obtain ⟨h2, h3, h4⟩ := drop_rest (b := b) (x := encI m) (rest := rest) (p := 0) (Nat.zero_le _) (by rw [List.drop_zero]; exact h1); simp only [ob_some, un3, ifB_t]
  by_cases hm : 0 ≤ m ∧ m ≤ 1000
  ·rw [decide_eq_false (by omega), ifB_f, show decide (m > 1000) = false from decide_eq_false (by omega)]; simp only [ob_some, ifB_f]; rw [if_pos hm]; obtain ⟨n, rfl⟩ : ∃ n : Nat, m = (n : Int) := ⟨m.toNat, by omega⟩; have h5 := get_loop hb hl (n := n) (by omega) (F0 := F) (by omega) (k := n) (i := 0) (p := b.length - rest.length) (F := F) (out := []) (by omega) (by omega) (by simp only [List.length_nil]; omega) (by omega); rw [h4] at h5; rw [show ((0 : Nat) : Int) = 0 from rfl] at h5; rw [h5, Int.toNat_natCast]; simp only [ob_some]; cases hd : rdN n rest with
   | none => rfl
   | some y =>
    obtain ⟨l, r⟩ := y; obtain ⟨e1, e2, e3⟩ := rdN_only (by rw [h1] at hb; exact hb.r) hd; have h6 := congrArg List.length e3; rw [List.length_append] at h6; simp only [Sum.elim_inl, ob_some, un2, List.nil_append]; cases r with
    | nil =>
     rw [show ((((b.length - ([] : List Int).length : Nat) : Int)) == ((b.length : Nat) : Int)) = true from by simp, ifB_t]
     simp [fnG]
    | cons c r =>
     rw [show ((((b.length - (c :: r).length : Nat) : Int)) == ((b.length : Nat) : Int)) = false from by
      rw [beq_eq_false_iff_ne]; simp only [List.length_cons] at h6 ⊢; omega, ifB_f]
     rfl
  ·rw [if_neg hm]; have : (ifB (decide (m < 0)) (some true) (some (decide (m > 1000))) : Option Bool) = some true := by
    by_cases h : m < 0
    ·rw [decide_eq_true h]; rfl
    ·rw [decide_eq_false h, decide_eq_true (show m > 1000 by omega)]; rfl
   rw [this, ob_some, ifB_t]
def s8 (d : Int) : List Int := [d / 72057594037927936 % 256, d / 281474976710656 % 256, d / 1099511627776 % 256, d / 4294967296 % 256, d / 16777216 % 256, d / 65536 % 256, d / 256 % 256, d % 256]
def k8s (d : Int) : K8_uint8 := ⟨d / 72057594037927936 % 256, d / 281474976710656 % 256, d / 1099511627776 % 256, d / 4294967296 % 256, d / 16777216 % 256, d / 65536 % 256, d / 256 % 256, d % 256⟩
theorem s8_len (d : Int) : (s8 d).length = 8 := rfl
theorem sumF_rng (h x : Int) : 0 ≤ sumF h x ∧ sumF h x < 18446744073709551616 := by
 unfold sumF; rw [IntKind.wrap_u64]; omega
theorem sumB_rng37 (l : List Int) : 0 ≤ sumB l ∧ sumB l < 18446744073709551616 := by
 unfold sumB; have key : ∀ (l : List Int) (b : Int), 0 ≤ b ∧ b < 18446744073709551616 → 0 ≤ l.foldl sumF b ∧ l.foldl sumF b < 18446744073709551616 := by
  intro l
  induction l with
  | nil => intro b h; exact h
  | cons x l ih => intro b _; exact ih _ (sumF_rng _ _)
 exact key l _ (by omega)
theorem sum_p {b : List Int} (hl : b.length ≤ 1000000) {F : Nat} (hF : 64 ≤ F) : G_codec_sum F b = some (k8s (sumB b)) := by
 have hd : G_digest_Sum F b = some (sumB b) := by
  obtain ⟨F', rfl⟩ : ∃ F', F = F' + 1 := ⟨F - 1, by omega⟩; exact whenG_t (decide_eq_true (by omega))
 unfold G_codec_sum; rw [hd, ob_some]; have hr := sumB_rng37 b; generalize sumB b = d at hr ⊢; obtain ⟨F', rfl⟩ : ∃ F', F = F' + 9 := ⟨F - 9, by omega⟩; have hw : ∀ x, Int.fdiv x (2 ^ 8) = x / 256 := fun x => by rw [Int.fdiv_eq_ediv_of_nonneg _ (by decide)]; rfl
 refine Eq.trans (b := some (⟨IntKind.u8.wrap (Int.fdiv (Int.fdiv (Int.fdiv (Int.fdiv (Int.fdiv (Int.fdiv (Int.fdiv d (2 ^ 8)) (2 ^ 8)) (2 ^ 8)) (2 ^ 8)) (2 ^ 8)) (2 ^ 8)) (2 ^ 8)), IntKind.u8.wrap (Int.fdiv (Int.fdiv (Int.fdiv (Int.fdiv (Int.fdiv (Int.fdiv d (2 ^ 8)) (2 ^ 8)) (2 ^ 8)) (2 ^ 8)) (2 ^ 8)) (2 ^ 8)), IntKind.u8.wrap (Int.fdiv (Int.fdiv (Int.fdiv (Int.fdiv (Int.fdiv d (2 ^ 8)) (2 ^ 8)) (2 ^ 8)) (2 ^ 8)) (2 ^ 8)), IntKind.u8.wrap (Int.fdiv (Int.fdiv (Int.fdiv (Int.fdiv d (2 ^ 8)) (2 ^ 8)) (2 ^ 8)) (2 ^ 8)), IntKind.u8.wrap (Int.fdiv (Int.fdiv (Int.fdiv d (2 ^ 8)) (2 ^ 8)) (2 ^ 8)), IntKind.u8.wrap (Int.fdiv (Int.fdiv d (2 ^ 8)) (2 ^ 8)), IntKind.u8.wrap (Int.fdiv d (2 ^ 8)), IntKind.u8.wrap d⟩ : K8_uint8)) (by kernel_rfl) ?_; simp only [hw, IntKind.wrap_u8', k8s, Option.some.injEq, K8_uint8.mk.injEq, and_true]; omega
theorem sumr_p {b : List Int} (hl : b.length ≤ 1000000) {F : Nat} (hF : b.length < F) : G_regulatorref03_Sum F b = some (sumB b) := by
 unfold G_regulatorref03_Sum; rw [iter_fold (fun d i => (d, i)) b sumF id (fun _ _ => True) (fun d _ => by simp only [un2, ltn, ifB_f, id]) (fun d k hk _ => ⟨?_, trivial⟩) hF 14695981039346656037 trivial]
 ·rfl
 ·simp only [un2, ltl hk, ifB_t, ixI_get hk, ob_some, w64_1 hk (by omega)]; rfl
theorem sum_r {b : List Int} (hl : b.length ≤ 1000000) {F : Nat} (hF : b.length + 64 < F) : G_regulatorref04_sum F b = some (s8 (sumB b)) := by
 unfold G_regulatorref04_sum; rw [sumr_p hl (by omega), ob_some]; have hr := sumB_rng37 b; generalize sumB b = d at hr ⊢; obtain ⟨F', rfl⟩ : ∃ F', F = F' + 9 := ⟨F - 9, by omega⟩; have hw : ∀ x, 0 ≤ x ∧ x < 18446744073709551616 → IntKind.u64.wrap (Int.tdiv x 256) = x / 256 := fun x h => by rw [Int.tdiv_eq_ediv_of_nonneg h.1, IntKind.wrap_u64]; omega
 have hv : ∀ x, 0 ≤ x → IntKind.u8.wrap (Int.tmod x 256) = x % 256 := fun x h => by rw [Int.tmod_eq_emod_of_nonneg h, IntKind.wrap_u8']; omega
 refine Eq.trans (b := some [IntKind.u8.wrap (Int.tmod (IntKind.u64.wrap (Int.tdiv (IntKind.u64.wrap (Int.tdiv (IntKind.u64.wrap (Int.tdiv (IntKind.u64.wrap (Int.tdiv (IntKind.u64.wrap (Int.tdiv (IntKind.u64.wrap (Int.tdiv (IntKind.u64.wrap (Int.tdiv d 256)) 256)) 256)) 256)) 256)) 256)) 256)) 256), IntKind.u8.wrap (Int.tmod (IntKind.u64.wrap (Int.tdiv (IntKind.u64.wrap (Int.tdiv (IntKind.u64.wrap (Int.tdiv (IntKind.u64.wrap (Int.tdiv (IntKind.u64.wrap (Int.tdiv (IntKind.u64.wrap (Int.tdiv d 256)) 256)) 256)) 256)) 256)) 256)) 256), IntKind.u8.wrap (Int.tmod (IntKind.u64.wrap (Int.tdiv (IntKind.u64.wrap (Int.tdiv (IntKind.u64.wrap (Int.tdiv (IntKind.u64.wrap (Int.tdiv (IntKind.u64.wrap (Int.tdiv d 256)) 256)) 256)) 256)) 256)) 256), IntKind.u8.wrap (Int.tmod (IntKind.u64.wrap (Int.tdiv (IntKind.u64.wrap (Int.tdiv (IntKind.u64.wrap (Int.tdiv (IntKind.u64.wrap (Int.tdiv d 256)) 256)) 256)) 256)) 256), IntKind.u8.wrap (Int.tmod (IntKind.u64.wrap (Int.tdiv (IntKind.u64.wrap (Int.tdiv (IntKind.u64.wrap (Int.tdiv d 256)) 256)) 256)) 256), IntKind.u8.wrap (Int.tmod (IntKind.u64.wrap (Int.tdiv (IntKind.u64.wrap (Int.tdiv d 256)) 256)) 256), IntKind.u8.wrap (Int.tmod (IntKind.u64.wrap (Int.tdiv d 256)) 256), IntKind.u8.wrap (Int.tmod d 256)]) (by kernel_rfl) ?_; rw [hw d hr, hw (d / 256) (by omega), hw (d / 256 / 256) (by omega), hw (d / 256 / 256 / 256) (by omega), hw (d / 256 / 256 / 256 / 256) (by omega), hw (d / 256 / 256 / 256 / 256 / 256) (by omega), hw (d / 256 / 256 / 256 / 256 / 256 / 256) (by omega), hv _ (by omega), hv _ (by omega), hv _ (by omega), hv _ (by omega), hv _ (by omega), hv _ (by omega), hv _ (by omega), hv _ (by omega)]; simp only [s8, Option.some.injEq, List.cons.injEq, and_true]; omega
end Go.Proofs.Ytlfkgbideknkhaa
namespace Go.Proofs.Ytlfkgbideknkhaa
open Go.RowKit
def hd3 (n : Nat) : List Int := [0, ((n / 256 : Nat) : Int), ((n % 256 : Nat) : Int)]
def frmO (l : List Int) : List Int := hd3 (encL l).length ++ encL l
def frmS (l : List Int) : List Int := frmO l ++ s8 (sumB (frmO l))
theorem frmO_len (l : List Int) : (frmO l).length = (encL l).length + 3 := by simp [frmO, hd3]
theorem frm_len (l : List Int) : (frmS l).length = (encL l).length + 11 := by
 unfold frmS; rw [List.length_append, frmO_len, s8_len]
theorem frm_max {l : List Int} (h : OkL l) : (frmS l).length ≤ 10021 := by
 have := encL_len h; rw [frm_len]; omega
theorem frame_p {l : List Int} (h : OkL l) {F : Nat} (hF : 1000 < F) : G_codec_Frame F l = some (frmS l, 0) := by
 have h1 := encL_len h; unfold G_codec_Frame; rw [put_p h hF]; simp only [ob_some, un2]; rw [show ((0 : Int) == 0) = true from rfl, ifB_t]; have e : [IntKind.u8.wrap (Int.fdiv (((encL l).length : Nat) : Int) (2 ^ 16)), IntKind.u8.wrap (Int.fdiv (((encL l).length : Nat) : Int) (2 ^ 8)), IntKind.u8.wrap (((encL l).length : Nat) : Int)] = hd3 (encL l).length := by
  rw [Int.fdiv_eq_ediv_of_nonneg _ (by decide), Int.fdiv_eq_ediv_of_nonneg _ (by decide), IntKind.wrap_u8', IntKind.wrap_u8', IntKind.wrap_u8']; unfold hd3; simp only [List.cons.injEq, and_true]; omega
 rw [e, apG_ok (by simp only [hd3, List.length_cons, List.length_nil]; omega), ob_some]; rw [show hd3 (encL l).length ++ encL l = frmO l from rfl, sum_p (by rw [frmO_len]; omega) (by omega), ob_some]; rw [show [(k8s (sumB (frmO l))).f0, (k8s (sumB (frmO l))).f1, (k8s (sumB (frmO l))).f2, (k8s (sumB (frmO l))).f3, (k8s (sumB (frmO l))).f4, (k8s (sumB (frmO l))).f5, (k8s (sumB (frmO l))).f6, (k8s (sumB (frmO l))).f7] = s8 (sumB (frmO l)) from rfl, apG_ok (by rw [frmO_len, s8_len]; omega), ob_some]; rfl
theorem frame_r {l : List Int} (h : OkL l) {F : Nat} (hF : 11000 < F) : G_regulatorref04_Frame F l = some (frmS l, 0) := by
 have h1 := encL_len h; unfold G_regulatorref04_Frame; rw [put_r h (by omega)]; simp only [ob_some, un2]; rw [show ((0 : Int) == 0) = true from rfl, ifB_t]; have e : [0, IntKind.u8.wrap (IntKind.i64.wrap (Int.tdiv (((encL l).length : Nat) : Int) 256)), IntKind.u8.wrap (Int.tmod (((encL l).length : Nat) : Int) 256)] = hd3 (encL l).length := by
  rw [Int.tdiv_eq_ediv_of_nonneg (by omega), Int.tmod_eq_emod_of_nonneg (by omega), IntKind.wrap_u8', IntKind.wrap_u8', IntKind.wrap_i64]; unfold hd3; simp only [List.cons.injEq, and_true, true_and]; omega
 rw [e, apG_ok (by simp only [hd3, List.length_cons, List.length_nil]; omega), ob_some]; rw [show hd3 (encL l).length ++ encL l = frmO l from rfl, sum_r (by rw [frmO_len]; omega) (by rw [frmO_len]; omega), ob_some, apG_ok (by rw [frmO_len, s8_len]; omega), ob_some]; rfl
def hdN (b0 b1 b2 : Int) : Nat := (b0 * 65536 + b1 * 256 + b2).toNat
def hdS : List Int → Option (List Int)
  | b0 :: b1 :: b2 :: r => if r.length < hdN b0 b1 b2 + 8 then none else
      if (r.drop (hdN b0 b1 b2)).take 8 = s8 (sumB (b0 :: b1 :: b2 :: r.take (hdN b0 b1 b2))) then
        match getS (r.take (hdN b0 b1 b2)) with
        | (l, 0) => some l
        | _ => none
      else none
  | _ => none
theorem hd_only {b l : List Int} (hb : By b) (h : hdS b = some l) : OkL l ∧ ∃ rest, b = frmS l ++ rest := by
 unfold hdS at h
 split at h
 ·next b0 b1 b2 r =>
  have h0 := hb b0 (by simp); have h1 := hb b1 (by simp); have h2 := hb b2 (by simp)
  split at h
  ·cases h
  ·next hl =>
   split at h
   ·next hs =>
    split at h
    ·next l' hg =>
     cases h; have hr : By r := fun x hx => hb x (by simp [hx])
     obtain ⟨ho, he⟩ := get_only (hr.take _) hg; have hln := encL_len ho; have hlen := congrArg List.length he; rw [List.length_take, Nat.min_eq_left (by omega)] at hlen; refine ⟨ho, r.drop (hdN b0 b1 b2 + 8), ?_⟩; have e0 : b0 = 0 := by unfold hdN at hlen; omega
     have e1 : b1 = (((encL l).length / 256 : Nat) : Int) := by unfold hdN at hlen; omega
     have e2 : b2 = (((encL l).length % 256 : Nat) : Int) := by unfold hdN at hlen; omega
     have e3 : b0 :: b1 :: b2 :: r.take (hdN b0 b1 b2) = frmO l := by rw [he, e0, e1, e2]; rfl
     rw [e3] at hs; unfold frmS; rw [← hs, ← e3]; simp only [List.cons_append, List.append_assoc]; rw [← List.drop_drop, List.take_append_drop, List.take_append_drop]
    ·cases h
   ·cases h
 ·cases h
theorem bits_or64 (a b : Nat) (ha : a < 9223372036854775808) (hb : b < 9223372036854775808) : bits .or .i64 (a : Int) (b : Int) = IntKind.i64.wrap ((a ||| b : Nat) : Int) := by
 show IntKind.i64.wrap ((BitVec.ofInt 64 (a : Int) ||| BitVec.ofInt 64 (b : Int)).toNat : Int) = _
 rw [BitVec.toNat_or, BitVec.ofInt_natCast, BitVec.toNat_ofNat, BitVec.ofInt_natCast, BitVec.toNat_ofNat, Nat.mod_eq_of_lt (show a < 2 ^ 64 by omega), Nat.mod_eq_of_lt (show b < 2 ^ 64 by omega)]
theorem frm_N {b0 b1 b2 : Int} (h0 : 0 ≤ b0 ∧ b0 < 256) (h1 : 0 ≤ b1 ∧ b1 < 256) (h2 : 0 ≤ b2 ∧ b2 < 256) : frmN b0 b1 b2 = ((hdN b0 b1 b2 : Nat) : Int) := by
 obtain ⟨x, rfl⟩ : ∃ x : Nat, b0 = (x : Int) := ⟨b0.toNat, by omega⟩; obtain ⟨y, rfl⟩ : ∃ x : Nat, b1 = (x : Int) := ⟨b1.toNat, by omega⟩; obtain ⟨z, rfl⟩ : ∃ x : Nat, b2 = (x : Int) := ⟨b2.toNat, by omega⟩; unfold frmN hdN; have e1 : IntKind.i64.wrap (IntKind.i64.wrap (x : Int) * 2 ^ 16) = ((x * 2 ^ 16 : Nat) : Int) := by rw [IntKind.wrap_i64, IntKind.wrap_i64]; omega
 have e2 : IntKind.i64.wrap (IntKind.i64.wrap (y : Int) * 2 ^ 8) = ((y * 2 ^ 8 : Nat) : Int) := by rw [IntKind.wrap_i64, IntKind.wrap_i64]; omega
 have e3 : IntKind.i64.wrap (z : Int) = (z : Int) := by rw [IntKind.wrap_i64]; omega
 rw [e1, e2, e3, bits_or64 _ _ (by omega) (by omega), nat_join 16 (x * 2 ^ 16) (y * 2 ^ 8) (Nat.mul_mod_left _ _) (by omega)]; have e4 : IntKind.i64.wrap ((x * 2 ^ 16 + y * 2 ^ 8 : Nat) : Int) = ((x * 2 ^ 16 + y * 2 ^ 8 : Nat) : Int) := by rw [IntKind.wrap_i64]; omega
 rw [e4, bits_or64 _ _ (by omega) (by omega), nat_join 8 _ z (by omega) (by omega), IntKind.wrap_i64]; omega
theorem s8_k8 {d : List Int} (h : d.length = 8) : ∃ x, k8 d = some x ∧ ∀ y, decide (x = k8s y) = decide (d = s8 y) := by
 match d, h with
 | [d0, d1, d2, d3, d4, d5, d6, d7], _ =>
  refine ⟨_, rfl, fun y => ?_⟩; unfold k8s s8; simp only [K8_uint8.mk.injEq, List.cons.injEq, and_true]
def FstR (b : List Int) (x : List Int × Int × Bool) : Prop := match hdS b with
 | some l => x = (l, (((frmS l).length : Nat) : Int), true)
 | none => x.2.2 = false
theorem first_p {b : List Int} (hb : By b) (hl : b.length ≤ 1000000) {F : Nat} (hF : 64 ≤ F) : ∃ x, G_codec_first F b = some x ∧ FstR b x := by
 unfold FstR G_codec_first
 match b, hb, hl with
 | [], _, _ => exact ⟨_, rfl, rfl⟩
 | [_], _, _ => exact ⟨_, rfl, rfl⟩
 | [_, _], _, _ => exact ⟨_, rfl, rfl⟩
 | b0 :: b1 :: b2 :: r, hb, hl =>
  have h0 := hb b0 (by simp); have h1 := hb b1 (by simp); have h2 := hb b2 (by simp); have hr : By r := fun x hx => hb x (by simp [hx])
  have hn : hdN b0 b1 b2 ≤ 16777215 := by unfold hdN; omega
  simp only [List.length_cons] at hl; simp only [frm_N h0 h1 h2]; have hd0 : ∀ n l, hdN b0 b1 b2 = n → getS (r.take n) = (l, 0) → n ≤ r.length → (frmS l).length = n + 11 := fun n l hn hg hle => by
   obtain ⟨ho, he⟩ := get_only (hr.take _) hg; have hlen := congrArg List.length he; rw [List.length_take, Nat.min_eq_left hle] at hlen; rw [frm_len]; omega
  generalize hq : hdN b0 b1 b2 = n at hn hd0 ⊢; have e11 : IntKind.i64.wrap ((n : Int) + 11) = ((n + 11 : Nat) : Int) := by rw [IntKind.wrap_i64]; omega
  have e3 : IntKind.i64.wrap ((n : Int) + 3) = ((n + 3 : Nat) : Int) := by rw [IntKind.wrap_i64]; omega
  simp only [e11, e3]; simp only [hdS, hq]
  by_cases hlt : r.length < n + 8
  ·rw [if_pos hlt, decide_eq_true (by simp only [List.length_cons]; omega), ifB_t]; exact ⟨_, rfl, rfl⟩
  ·rw [if_neg hlt, decide_eq_false (by simp only [List.length_cons]; omega), ifB_f, slI_ok (by omega) (by simp only [List.length_cons]; omega), ob_some]; have ea : ((b0 :: b1 :: b2 :: r).take (n + 11)).drop (n + 3) = (r.drop n).take 8 := by
    rw [show n + 11 = (n + 3) + 8 by omega, List.drop_take, show n + 3 + 8 - (n + 3) = 8 by omega, show n + 3 = n + 1 + 1 + 1 by omega]; rfl
   rw [ea]; obtain ⟨x, hx, hxs⟩ := s8_k8 (d := (r.drop n).take 8) (by simp only [List.length_take, List.length_drop]; omega); have h03 := slI_ok (l := b0 :: b1 :: b2 :: r) (p := 0) (q := n + 3) (Nat.zero_le _) (by simp only [List.length_cons]; omega); rw [List.drop_zero, show ((0 : Nat) : Int) = 0 from rfl, show n + 3 = n + 1 + 1 + 1 from rfl] at h03; simp only [List.take_succ_cons] at h03; have h33 := slI_ok (l := b0 :: b1 :: b2 :: r) (p := 3) (q := n + 3) (by omega) (by simp only [List.length_cons]; omega); rw [show n + 3 = n + 1 + 1 + 1 from rfl] at h33; simp only [List.take_succ_cons, List.drop_succ_cons, List.drop_zero] at h33; rw [show ((3 : Nat) : Int) = 3 from rfl] at h33; rw [hx, ob_some, show n + 3 = n + 1 + 1 + 1 from rfl, h03, ob_some, sum_p (by simp only [List.length_cons, List.length_take]; omega) hF, ob_some, hxs, h33]
   by_cases hs : (r.drop n).take 8 = s8 (sumB (b0 :: b1 :: b2 :: r.take n))
   ·rw [if_pos hs, decide_eq_true hs, ifB_t, ob_some]; have hg : G_codec_Get F (r.take n) = some (getS (r.take n)) := if_pos (by simp only [List.length_take]; omega); rw [hg, ob_some]; rcases get_cases (r.take n) with e | ⟨l, e⟩
    ·rw [e]; exact ⟨_, rfl, rfl⟩
    ·have hlf := hd0 n l rfl e (by omega); rw [e]; refine ⟨(l, ((n + 11 : Nat) : Int), true), rfl, ?_⟩
     show (l, ((n + 11 : Nat) : Int), true) = (l, (((frmS l).length : Nat) : Int), true)
     rw [hlf]
   ·rw [if_neg hs, decide_eq_false hs, ifB_f]; exact ⟨_, rfl, rfl⟩
theorem same_r {a b : List Int} (hl : a.length ≤ 1000000) {F : Nat} (hF : a.length < F) : G_regulatorref04_Same F a b = some (decide (a = b)) := by
 unfold G_regulatorref04_Same
 by_cases h : a.length = b.length
 ·rw [show (((a.length : Nat) : Int) == ((b.length : Nat) : Int)) = true from by simp [h], ifB_t, iter_eqL a b h (.inl ()) (.inr ()) ?_ ?_ hF]
  ·cases decide (a = b) <;> rfl
  ·simp only [ltn, ifB_f]
  ·intro k h1 h2; simp only [ltl h1, ifB_t, ixI_get h1, ixI_get h2, ob_some, w64_1 h1 (by omega)]; rw [show (a[k] == b[k]) = decide (a[k] = b[k]) from by rw [Bool.eq_iff_iff]; simp]; cases decide (a[k] = b[k]) <;> rfl
 ·rw [show (((a.length : Nat) : Int) == ((b.length : Nat) : Int)) = false from by rw [beq_eq_false_iff_ne]; omega, ifB_f, decide_eq_false (fun e => h (congrArg List.length e))]
end Go.Proofs.Ytlfkgbideknkhaa
namespace Go.Proofs.Ytlfkgbideknkhaa
open Go.RowKit
theorem next_r {b : List Int} (hb : By b) (hl : b.length ≤ 100000) {F : Nat} (hF : 200000 < F) : ∃ x, G_regulatorref04_next F b = some x ∧ FstR b x := by
 unfold FstR G_regulatorref04_next
 by_cases h3 : b.length < 3
 ·rw [decide_eq_true (by omega), ifB_t]; refine ⟨_, rfl, ?_⟩
  match b, h3 with
  | [], _ => rfl
  | [_], _ => rfl
  | [_, _], _ => rfl
 ·match b, hb, hl, h3 with
  | [], _, _, h3 => exact absurd (by decide) h3
  | [_], _, _, h3 => exact absurd (by simp) h3
  | [_, _], _, _, h3 => exact absurd (by simp) h3
  | b0 :: b1 :: b2 :: r, hb, hl, h3 =>
   have h0 := hb b0 (by simp); have h1 := hb b1 (by simp); have h2 := hb b2 (by simp); have hr : By r := fun x hx => hb x (by simp [hx])
   have hn : hdN b0 b1 b2 ≤ 16777215 := by unfold hdN; omega
   rw [decide_eq_false (by simp only [List.length_cons]; omega), ifB_f]; have i0 : ixI (b0 :: b1 :: b2 :: r) 0 = some b0 := rfl; have i1 : ixI (b0 :: b1 :: b2 :: r) 1 = some b1 := rfl; have i2 : ixI (b0 :: b1 :: b2 :: r) 2 = some b2 := rfl; rw [i0, ob_some, i1, ob_some, i2, ob_some]; have en : IntKind.i64.wrap ((IntKind.i64.wrap ((IntKind.i64.wrap ((IntKind.i64.wrap b0) * 65536)) + (IntKind.i64.wrap ((IntKind.i64.wrap b1) * 256)))) + (IntKind.i64.wrap b2)) = ((hdN b0 b1 b2 : Nat) : Int) := by
    unfold hdN; simp only [IntKind.wrap_i64]; omega
   rw [en]; simp only [List.length_cons] at hl; have hd0 : ∀ n l, hdN b0 b1 b2 = n → getS (r.take n) = (l, 0) → n ≤ r.length → (frmS l).length = n + 11 := fun n l hn hg hle => by
    obtain ⟨ho, he⟩ := get_only (hr.take _) hg; have hlen := congrArg List.length he; rw [List.length_take, Nat.min_eq_left hle] at hlen; rw [frm_len]; omega
   simp only [hdS]; generalize hq : hdN b0 b1 b2 = n at hn hd0 ⊢; have e11 : IntKind.i64.wrap ((n : Int) + 11) = ((n + 11 : Nat) : Int) := by rw [IntKind.wrap_i64]; omega
   have e3 : IntKind.i64.wrap ((n : Int) + 3) = ((n + 3 : Nat) : Int) := by rw [IntKind.wrap_i64]; omega
   simp only [e11, e3]
   by_cases hlt : r.length < n + 8
   ·rw [if_pos hlt, decide_eq_true (by simp only [List.length_cons]; omega), ifB_t]; exact ⟨_, rfl, rfl⟩
   ·rw [if_neg hlt, decide_eq_false (by simp only [List.length_cons]; omega), ifB_f]; have ea : slI (b0 :: b1 :: b2 :: r) ((n + 3 : Nat) : Int) ((n + 11 : Nat) : Int) = some ((r.drop n).take 8) := by
     rw [slI_ok (by omega) (by simp only [List.length_cons]; omega), show n + 11 = (n + 3) + 8 by omega, List.drop_take, show n + 3 + 8 - (n + 3) = 8 by omega, show n + 3 = n + 1 + 1 + 1 by omega]; rfl
    have h03 := slI_ok (l := b0 :: b1 :: b2 :: r) (p := 0) (q := n + 3) (Nat.zero_le _) (by simp only [List.length_cons]; omega); rw [List.drop_zero, show ((0 : Nat) : Int) = 0 from rfl, show n + 3 = n + 1 + 1 + 1 from rfl] at h03; simp only [List.take_succ_cons] at h03; have h33 := slI_ok (l := b0 :: b1 :: b2 :: r) (p := 3) (q := n + 3) (by omega) (by simp only [List.length_cons]; omega); rw [show n + 3 = n + 1 + 1 + 1 from rfl] at h33; simp only [List.take_succ_cons, List.drop_succ_cons, List.drop_zero] at h33; rw [show ((3 : Nat) : Int) = 3 from rfl] at h33; rw [ea, show n + 3 = n + 1 + 1 + 1 from rfl, h03, h33]; simp only [ob_some]; rw [sum_r (by simp only [List.length_cons, List.length_take]; omega) (by simp only [List.length_cons, List.length_take]; omega)]; simp only [ob_some]; rw [same_r (by rw [s8_len]; omega) (by rw [s8_len]; omega)]; simp only [ob_some]; rw [show decide (s8 (sumB (b0 :: b1 :: b2 :: r.take n)) = (r.drop n).take 8) = decide ((r.drop n).take 8 = s8 (sumB (b0 :: b1 :: b2 :: r.take n))) from decide_eq_decide.2 ⟨Eq.symm, Eq.symm⟩]
    by_cases hs : (r.drop n).take 8 = s8 (sumB (b0 :: b1 :: b2 :: r.take n))
    ·rw [if_pos hs, decide_eq_true hs, Bool.not_true, ifB_f]; rw [get_r (hr.take _) (by simp only [List.length_take]; omega) (by omega), ob_some]; rcases get_cases (r.take n) with e | ⟨l, e⟩
     ·rw [e]; exact ⟨_, rfl, rfl⟩
     ·have hlf := hd0 n l rfl e (by omega); rw [e]; refine ⟨(l, ((n + 11 : Nat) : Int), true), rfl, ?_⟩
      show (l, ((n + 11 : Nat) : Int), true) = (l, (((frmS l).length : Nat) : Int), true)
      rw [hlf]
    ·rw [if_neg hs, decide_eq_false hs, Bool.not_false, ifB_t]; exact ⟨_, rfl, rfl⟩
def frs : Nat → List Int → List (List Int)
 | 0, _ => []
 | k + 1, b => match hdS b with
  | none => []
  | some l => l :: frs k (b.drop (frmS l).length)
theorem frm_pos (l : List Int) : 11 ≤ (frmS l).length := by rw [frm_len]; omega
theorem frs_fuel : ∀ {k m : Nat} {b : List Int}, By b → b.length ≤ k → b.length ≤ m → frs k b = frs m b
 | 0, m, b, hb, h1, h2 => by
  obtain rfl : b = [] := List.eq_nil_of_length_eq_zero (by omega); cases m <;> rfl
 | k + 1, 0, b, hb, h1, h2 => by
  obtain rfl : b = [] := List.eq_nil_of_length_eq_zero (by omega); rfl
 | k + 1, m + 1, b, hb, h1, h2 => by
  unfold frs; cases h : hdS b with
  | none => rfl
  | some l =>
   have := frm_pos l; simp only; rw [frs_fuel (k := k) (m := m) (hb.drop _) (by rw [List.length_drop]; omega) (by rw [List.length_drop]; omega)]
def frA (b : List Int) : List (List Int) := frs b.length b
theorem frA_none {b : List Int} (h : hdS b = none) : frA b = [] := by
 unfold frA; cases hb : b.length with
 | zero => rfl
 | succ k => unfold frs; rw [h]
theorem frA_some {b l : List Int} (hb : By b) (h : hdS b = some l) : frA b = l :: frA (b.drop (frmS l).length) := by
 obtain ⟨_, rest, he⟩ := hd_only hb h; have h1 := frm_pos l; have h2 := congrArg List.length he; rw [List.length_append] at h2; unfold frA; obtain ⟨k, hk⟩ : ∃ k, b.length = k + 1 := ⟨b.length - 1, by omega⟩; rw [hk, frs, h]; simp only; rw [frs_fuel (hb.drop _) (k := k) (m := (b.drop (frmS l).length).length) (by rw [List.length_drop]; omega) (Nat.le_refl _)]
theorem frA_parts : ∀ {n : Nat} {b : List Int}, b.length ≤ n → By b → ∃ rest, b = (frA b).flatMap frmS ++ rest ∧ (∀ l ∈ frA b, OkL l) ∧ hdS rest = none
 | n, b, hn, hb => by
  cases h : hdS b with
  | none => exact ⟨b, by rw [frA_none h]; rfl, by rw [frA_none h]; exact fun _ h => absurd h List.not_mem_nil, h⟩
  | some l =>
   obtain ⟨ho, rest, he⟩ := hd_only hb h; have h1 := frm_pos l; have h2 := congrArg List.length he; rw [List.length_append] at h2
   match n, hn with
   | 0, hn => omega
   | n + 1, hn =>
    have hbr : By rest := by rw [he] at hb; exact hb.r
    obtain ⟨rest', e1, e2, e3⟩ := frA_parts (n := n) (b := rest) (by omega) hbr; refine ⟨rest', ?_, ?_, e3⟩
    ·rw [frA_some hb h, he, List.drop_left, List.flatMap_cons, List.append_assoc, ← e1]
    ·rw [frA_some hb h, he, List.drop_left]; intro m hm; rcases List.mem_cons.1 hm with rfl | hm
     ·exact ho
     ·exact e2 m hm
def frL37 (ls : List (List Int)) : Nat := (ls.flatMap frmS).length
theorem frL37_cons (l : List Int) (ls : List (List Int)) : frL37 (l :: ls) = (frmS l).length + frL37 ls := by unfold frL37; rw [List.flatMap_cons, List.length_append]
theorem frames_loop {b : List Int} (hb : By b) (hl : b.length ≤ 100000) {F0 : Nat} (hF0 : 64 ≤ F0) : ∀ {m at_ F : Nat} {out : List (List Int)} {x : List Int × Int × Bool}, b.length ≤ at_ + m → at_ ≤ b.length → out.length ≤ at_ → G_codec_first F0 (b.drop at_) = some x → m < F →
    iter (σ := (List (List Int)) × Int × (List Int) × Int × Bool) (ρ := ((List (List Int)) × Int)) (un5 fun (v_28 : (List (List Int))) (v_31 : Int) (v_32 : (List Int)) (v_35 : Int) (v_36 : Bool) => 
          (ifB (v_36)
            (Option.bind (apG 24 v_28 ([v_32] : List (List Int))) (fun v_40 =>
            Option.bind (slI b (IntKind.i64.wrap (v_31 + v_35)) ((b.length : Nat) : Int)) (fun v_41 =>
            Option.bind (G_codec_first F0 v_41) (un3 fun v_42 v_43 v_44 =>
            some (.inl (v_40, IntKind.i64.wrap (v_31 + v_35), v_42, v_43, v_44))))))
            (some (.inr (v_28, v_31))) : Option (((List (List Int)) × Int × (List Int) × Int × Bool) ⊕ ((List (List Int)) × Int)))) F (out, (at_ : Int), x.1, x.2.1, x.2.2) = some (out ++ frA (b.drop at_), ((at_ + frL37 (frA (b.drop at_)) : Nat) : Int)) := by
  intro m
  induction m with
  | zero =>
    intro at_ F out x hm ha ho hx hF
    obtain ⟨F', rfl⟩ : ∃ F', F = F' + 1 := ⟨F - 1, by omega⟩
    have e : b.drop at_ = [] := List.drop_eq_nil_of_le (by omega)
    obtain ⟨y, h1, h2⟩ := first_p (hb.drop at_) (by rw [List.length_drop]; omega) hF0
    rw [hx] at h1
    obtain rfl := Option.some.inj h1
    have h3 : hdS (b.drop at_) = none := by rw [e]; rfl
    unfold FstR at h2
    rw [h3] at h2
    unfold iter
    simp only [un5]
    rw [show x.2.2 = false from h2, ifB_f, frA_none h3]
    simp [frL37]
  | succ m ih =>
    intro at_ F out x hm ha ho hx hF
    obtain ⟨F', rfl⟩ : ∃ F', F = F' + 1 := ⟨F - 1, by omega⟩
    obtain ⟨y, h1, h2⟩ := first_p (hb.drop at_) (by rw [List.length_drop]; omega) hF0
    rw [hx] at h1
    obtain rfl := Option.some.inj h1
    unfold FstR at h2
    cases h3 : hdS (b.drop at_) with
    | none =>
      rw [h3] at h2
      unfold iter
      simp only [un5]
      rw [show x.2.2 = false from h2, ifB_f, frA_none h3]
      simp [frL37]
    | some l =>
      rw [h3] at h2
      obtain rfl : x = _ := h2
      obtain ⟨hok, rest, he⟩ := hd_only (hb.drop at_) h3
      have h4 := frm_pos l
      have h5 := congrArg List.length he
      rw [List.length_drop, List.length_append] at h5
      obtain ⟨z, hz, _⟩ := first_p (hb.drop (at_ + (frmS l).length)) (by rw [List.length_drop]; omega) hF0
      have ew : IntKind.i64.wrap ((at_ : Int) + (((frmS l).length : Nat) : Int)) = ((at_ + (frmS l).length : Nat) : Int) := by rw [IntKind.wrap_i64]; omega
      unfold iter
      simp only [un5, un3]
      rw [ifB_t, apG_ok (by simp only [List.length_cons, List.length_nil]; omega), ob_some, ew, slI_ok (by omega) (Nat.le_refl _), ob_some, List.take_length, hz]
      simp only [ob_some]
      rw [ih (by omega) (by omega) (by simp only [List.length_append, List.length_cons, List.length_nil]; omega) hz (by omega), frA_some (hb.drop at_) h3, List.drop_drop, frL37_cons, List.append_assoc]
      simp [Nat.add_assoc]
theorem frames_p {b : List Int} (hb : By b) (hl : b.length ≤ 100000) {F : Nat} (hF : 200000 < F) : G_codec_Frames F b = some (frA b, ((frL37 (frA b) : Nat) : Int), 0) := by
 unfold G_codec_Frames; obtain ⟨x, hx, _⟩ := first_p hb (by omega) (F := F) (by omega); rw [decide_eq_false (by omega), ifB_f, hx]; obtain ⟨x1, x2, x3⟩ := x; simp only [ob_some, un3]; have := frames_loop hb hl (F0 := F) (by omega) (m := b.length) (at_ := 0) (F := F) (out := []) (x := (x1, x2, x3)) (by omega) (Nat.zero_le _) (Nat.zero_le _) (by rw [List.drop_zero]; exact hx) (by omega); rw [List.drop_zero, List.nil_append, Nat.zero_add] at this; rw [show ((0 : Nat) : Int) = 0 from rfl] at this; rw [this]; rfl
theorem frames_loop_r {b : List Int} (hb : By b) (hl : b.length ≤ 100000) {F0 : Nat} (hF0 : 200000 < F0) : ∀ {m at_ F : Nat} {out : List (List Int)}, b.length ≤ at_ + m → at_ ≤ b.length → out.length ≤ at_ → m < F →
    iter (σ := (List (List Int)) × Int) (ρ := ((List (List Int)) × Int)) (un2 fun (v_20 : (List (List Int))) (v_23 : Int) => 
        (Option.bind (slI b v_23 ((b.length : Nat) : Int)) (fun v_25 =>
        Option.bind (G_regulatorref04_next F0 v_25) (un3 fun v_26 v_27 v_28 =>
        ifB (v_28)
          (Option.bind (apG 24 v_20 ([v_26] : List (List Int))) (fun v_31 =>
          some (.inl (v_31, IntKind.i64.wrap (v_23 + v_27)))))
          (some (.inr (v_20, v_23))))) : Option (((List (List Int)) × Int) ⊕ ((List (List Int)) × Int)))) F (out, (at_ : Int)) = some (out ++ frA (b.drop at_), ((at_ + frL37 (frA (b.drop at_)) : Nat) : Int)) := by
  intro m
  induction m with
  | zero =>
    intro at_ F out hm ha ho hF
    obtain ⟨F', rfl⟩ : ∃ F', F = F' + 1 := ⟨F - 1, by omega⟩
    have e : b.drop at_ = [] := List.drop_eq_nil_of_le (by omega)
    obtain ⟨x, h1, h2⟩ := next_r (hb.drop at_) (by rw [List.length_drop]; omega) hF0
    have h3 : hdS (b.drop at_) = none := by rw [e]; rfl
    unfold FstR at h2
    rw [h3] at h2
    obtain ⟨x1, x2, x3⟩ := x
    obtain rfl : x3 = false := h2
    unfold iter
    simp only [un2]
    rw [slI_ok (by omega) (Nat.le_refl _), ob_some, List.take_length, h1]
    simp only [ob_some, un3]
    rw [ifB_f, frA_none h3]
    simp [frL37]
  | succ m ih =>
    intro at_ F out hm ha ho hF
    obtain ⟨F', rfl⟩ : ∃ F', F = F' + 1 := ⟨F - 1, by omega⟩
    obtain ⟨x, h1, h2⟩ := next_r (hb.drop at_) (by rw [List.length_drop]; omega) hF0
    unfold FstR at h2
    unfold iter
    simp only [un2]
    rw [slI_ok (by omega) (Nat.le_refl _), ob_some, List.take_length, h1]
    obtain ⟨x1, x2, x3⟩ := x
    simp only [ob_some, un3]
    cases h3 : hdS (b.drop at_) with
    | none =>
      rw [h3] at h2
      obtain rfl : x3 = false := h2
      rw [ifB_f, frA_none h3]
      simp [frL37]
    | some l =>
      rw [h3] at h2
      simp only [Prod.mk.injEq] at h2
      obtain ⟨rfl, rfl, rfl⟩ := h2
      obtain ⟨hok, rest, he⟩ := hd_only (hb.drop at_) h3
      have h4 := frm_pos x1
      have h5 := congrArg List.length he
      rw [List.length_drop, List.length_append] at h5
      have ew : IntKind.i64.wrap ((at_ : Int) + (((frmS x1).length : Nat) : Int)) = ((at_ + (frmS x1).length : Nat) : Int) := by rw [IntKind.wrap_i64]; omega
      rw [ifB_t, apG_ok (by simp only [List.length_cons, List.length_nil]; omega), ob_some, ew]
      simp only
      rw [ih (by omega) (by omega) (by simp only [List.length_append, List.length_cons, List.length_nil]; omega) (by omega), frA_some (hb.drop at_) h3, List.drop_drop, frL37_cons, List.append_assoc]
      simp [Nat.add_assoc]
theorem frames_r {b : List Int} (hb : By b) (hl : b.length ≤ 100000) {F : Nat} (hF : 200000 < F) : G_regulatorref04_Frames F b = some (frA b, ((frL37 (frA b) : Nat) : Int), 0) := by
 unfold G_regulatorref04_Frames; rw [decide_eq_false (by omega), ifB_f]; have := frames_loop_r hb hl (F0 := F) hF (m := b.length) (at_ := 0) (F := F) (out := []) (by omega) (Nat.zero_le _) (Nat.zero_le _) (by omega); rw [List.drop_zero, List.nil_append, Nat.zero_add] at this; rw [show ((0 : Nat) : Int) = 0 from rfl] at this; rw [this]; rfl
end Go.Proofs.Ytlfkgbideknkhaa
namespace Go.Proofs.Ytlfkgbideknkhaa
open Go.RowKit
def seI (s : KSeen) : List Int := [s.Key, s.Ts]
def wrI (w : KWrite) : List Int := [w.Key, w.Value, if w.Gone then 1 else 0]
def intsS (t : KTx) : List Int := t.ID :: t.Ts :: (t.Reads.length : Int) :: (t.Reads.flatMap seI ++ (t.Writes.length : Int) :: t.Writes.flatMap wrI)
theorem seI_len (l : List KSeen) : (l.flatMap seI).length = 2 * l.length := by
 induction l with
 | nil => rfl
 | cons x l ih => rw [List.flatMap_cons, List.length_append, ih, List.length_cons, show (seI x).length = 2 from rfl]; omega
theorem wrI_len (l : List KWrite) : (l.flatMap wrI).length = 3 * l.length := by
 induction l with
 | nil => rfl
 | cons x l ih => rw [List.flatMap_cons, List.length_append, ih, List.length_cons, show (wrI x).length = 3 from rfl]; omega
theorem ints_len (t : KTx) : (intsS t).length = 4 + 2 * t.Reads.length + 3 * t.Writes.length := by
 unfold intsS; simp only [List.length_cons, List.length_append, seI_len, wrI_len]; omega
theorem ints_p (t : KTx) (h : FewT t) {F : Nat} (hF : 64 ≤ F) : G_journal_ints F t = some (intsS t) := by
 have hr := h.r; have hw := h.w; unfold G_journal_ints; rw [iter_fold (fun b i => (i, b)) t.Reads (fun b x => b ++ seI x) id (fun k b => b.length = 3 + 2 * k) ?_ ?_ (by omega) [t.ID, t.Ts, ((t.Reads.length : Nat) : Int)] rfl]
 ·simp only [ob_some, id, foldl_fl]; rw [apG_ok (by simp only [List.length_append, List.length_cons, List.length_nil, seI_len]; omega), ob_some]; rw [iter_fold (fun b i => (b, i)) t.Writes (fun b x => b ++ wrI x) id (fun k b => b.length ≤ 100 + 3 * k) ?_ ?_ (by omega) _ (by simp only [List.length_append, List.length_cons, List.length_nil, seI_len]; omega)]
  ·simp only [ob_some, id, foldl_fl]
   simp [intsS]
  ·intro b _; simp only [un2, ltn, ifB_f, id]
  ·intro b k hk hb; simp only [un2, ltl hk, ifB_t, ixI_get hk, ob_some, w64_1 hk (by omega), List.length_append]; have e : (ifB t.Writes[k].Gone (some (1 : Int)) (some 0) : Option Int) = some (if t.Writes[k].Gone then 1 else 0) := by cases t.Writes[k].Gone <;> rfl
   rw [e, ob_some, apG_ok (by simp only [List.length_cons, List.length_nil]; omega), ob_some]; exact ⟨rfl, by simp only [wrI, List.length_cons, List.length_nil]; omega⟩
 ·intro b _; simp only [un2, ltn, ifB_f, id]
 ·intro b k hk hb; simp only [un2, ltl hk, ifB_t, ixI_get hk, ob_some, w64_1 hk (by omega), List.length_append]; rw [apG_ok (by simp only [List.length_cons, List.length_nil]; omega), ob_some]; exact ⟨rfl, by simp only [seI, List.length_cons, List.length_nil]; omega⟩
theorem ints_r (t : KTx) (h : FewT t) {F : Nat} (hF : 64 ≤ F) : G_regulatorref37_Ints F t = some (intsS t) := by
 have hr := h.r; have hw := h.w; unfold G_regulatorref37_Ints; rw [iter_fold (fun b i => (b, i)) t.Reads (fun b x => b ++ seI x) id (fun k b => b.length = 3 + 2 * k) ?_ ?_ (by omega) [t.ID, t.Ts, ((t.Reads.length : Nat) : Int)] rfl]
 ·simp only [ob_some, id, foldl_fl]; rw [apG_ok (by simp only [List.length_append, List.length_cons, List.length_nil, seI_len]; omega), ob_some]; rw [iter_fold (fun b i => (b, i)) t.Writes (fun b x => b ++ wrI x) id (fun k b => b.length ≤ 100 + 3 * k) ?_ ?_ (by omega) _ (by simp only [List.length_append, List.length_cons, List.length_nil, seI_len]; omega)]
  ·simp only [ob_some, id, foldl_fl]
   simp [intsS]
  ·intro b _; simp only [un2, ltn, ifB_f, id]
  ·intro b k hk hb; simp only [un2, ltl hk, ifB_t, ixI_get hk, ob_some, w64_1 hk (by omega), List.length_append]; have e : (ifB t.Writes[k].Gone (some (1 : Int)) (some 0) : Option Int) = some (if t.Writes[k].Gone then 1 else 0) := by cases t.Writes[k].Gone <;> rfl
   rw [e, ob_some, apG_ok (by simp only [List.length_cons, List.length_nil]; omega), ob_some]; exact ⟨rfl, by simp only [wrI, List.length_cons, List.length_nil]; omega⟩
 ·intro b _; simp only [un2, ltn, ifB_f, id]
 ·intro b k hk hb; simp only [un2, ltl hk, ifB_t, ixI_get hk, ob_some, w64_1 hk (by omega), List.length_append]; rw [apG_ok (by simp only [List.length_cons, List.length_nil]; omega), ob_some]; exact ⟨rfl, by simp only [seI, List.length_cons, List.length_nil]; omega⟩
theorem Txs.ok {t : KTx} (h : Txs t) : OkL (intsS t) := by
 have hf := h.few; refine ⟨by rw [ints_len]; omega, fun n hn => ?_⟩; have hid := h.id; have hts := h.ts; simp only [intsS, List.mem_cons, List.mem_append, List.mem_flatMap] at hn; rcases hn with rfl | rfl | rfl | ⟨s, hs, hn⟩ | rfl | ⟨w, hw, hn⟩
 ·exact ⟨by omega, by omega⟩
 ·exact ⟨by omega, by omega⟩
 ·exact ⟨by omega, by omega⟩
 ·have h1 := h.rd s hs; have h2 := h.rp s hs; unfold seenB at h1; simp only [Bool.and_eq_true, decide_eq_true_eq] at h1; simp only [seI, List.mem_cons, List.not_mem_nil, or_false] at hn; rcases hn with rfl | rfl <;> exact ⟨by omega, by omega⟩
 ·exact ⟨by omega, by omega⟩
 ·have h1 := h.wr w hw; have h2 := h.wp w hw; unfold writB at h1; simp only [Bool.and_eq_true, decide_eq_true_eq] at h1; simp only [wrI, List.mem_cons, List.not_mem_nil, or_false] at hn; rcases hn with rfl | rfl | rfl
  ·exact ⟨by omega, by omega⟩
  ·exact ⟨by omega, by omega⟩
  ·split <;> exact ⟨by omega, by omega⟩
theorem Txs.fewT {t : KTx} (h : Txs t) : FewT t := ⟨by have := h.few.1; omega, by have := h.few.2; omega⟩
theorem rs_only : ∀ {k : Nat} {b rest : List Int} {l : List KSeen}, rdSeen k b = some (l, rest) → l.length = k ∧ b = l.flatMap seI ++ rest
 | 0, b, rest, l, h => by simp only [rdSeen, Option.some.injEq, Prod.mk.injEq] at h; obtain ⟨rfl, rfl⟩ := h; exact ⟨rfl, rfl⟩
 | k + 1, [], rest, l, h => by cases h
 | k + 1, [_], rest, l, h => by cases h
 | k + 1, a :: c :: b, rest, l, h => by
  rw [rdSeen] at h
  split at h
  ·next s r hs =>
   cases h; obtain ⟨h1, h2⟩ := rs_only hs; exact ⟨by rw [List.length_cons, h1], by rw [h2]; rfl⟩
  ·cases h
theorem rw_only : ∀ {k : Nat} {b rest : List Int} {l : List KWrite}, rdWr k b = some (l, rest) → l.length = k ∧ b = l.flatMap wrI ++ rest
 | 0, b, rest, l, h => by simp only [rdWr, Option.some.injEq, Prod.mk.injEq] at h; obtain ⟨rfl, rfl⟩ := h; exact ⟨rfl, rfl⟩
 | k + 1, [], rest, l, h => by cases h
 | k + 1, [_], rest, l, h => by cases h
 | k + 1, [_, _], rest, l, h => by cases h
 | k + 1, a :: c :: v :: b, rest, l, h => by
  rw [rdWr] at h
  split at h
  ·next hv =>
   split at h
   ·next s r hs =>
    cases h; obtain ⟨h1, h2⟩ := rw_only hs; refine ⟨by rw [List.length_cons, h1], ?_⟩; rw [h2]; rcases hv with rfl | rfl <;> rfl
   ·cases h
  ·cases h
theorem rt_only {l : List Int} {t : KTx} (h : readT l = some t) : l = intsS t ∧ t.Reads.length ≤ 8 ∧ t.Writes.length ≤ 8 := by
 unfold readT at h
 split at h
 ·next x y n r =>
  split at h
  ·next hn =>
   unfold fnS at h
   split at h
   ·next s l2 hs =>
    obtain ⟨h1, h2⟩ := rs_only hs; unfold rdM at h; rw [List.nil_append] at h
    split at h
    ·next m l3 =>
     split at h
     ·next hm =>
      unfold fnW at h
      split at h
      ·next u hu =>
       cases h; obtain ⟨h3, h4⟩ := rw_only hu; refine ⟨?_, by show s.length ≤ 8; omega, by show ([] ++ u).length ≤ 8; rw [List.nil_append]; omega⟩; unfold intsS; simp only [List.nil_append]; rw [h2, h4, h1, h3, List.append_nil, show ((n.toNat : Nat) : Int) = n by omega, show ((m.toNat : Nat) : Int) = m by omega]
      ·cases h
     ·cases h
    ·cases h
   ·cases h
  ·cases h
 ·cases h
def txO (l : List Int) : Option KTx := match readT l with
 | some t => if txS t = true then some t else none
 | none => none
theorem txO_only {l : List Int} {t : KTx} (h : txO l = some t) : Txs t ∧ l = intsS t := by
 unfold txO at h
 split at h
 ·next t' ht =>
  split at h
  ·next hs =>
   cases h; exact ⟨(txs_iff t).1 hs, (rt_only ht).1⟩
  ·cases h
 ·cases h
def txR (o : Option KTx) : KTx × Bool := match o with
 | some t => (t, true)
 | none => (⟨0, 0, [], []⟩, false)
theorem rs_loop {l : List Int} {n : Nat} (hl : l.length ≤ 1000000) (hn : n ≤ 8) (h2 : ixI l 2 = some (n : Int)) : ∀ {k i p F : Nat} {out : List KSeen}, i + k = n → p + 2 * k ≤ l.length → out.length + k ≤ 8 → k < F →
    ∃ s, rdSeen k (l.drop p) = some (s, l.drop (p + 2 * k)) ∧ iter (σ := (List KSeen) × Int × Int) (ρ := ((List KSeen) × Int)) (un3 fun (v_61 : (List KSeen)) (v_64 : Int) (v_65 : Int) => 
            (Option.bind (ixI l 2) (fun v_67 =>
            ifB (decide (v_65 < v_67))
              (Option.bind (Option.bind (ixI l v_64) (fun v_71 =>
                Option.bind (ixI l (IntKind.i64.wrap (v_64 + 1))) (fun v_74 =>
                Option.bind (apG 16 v_61 ([(⟨v_71, v_74⟩ : KSeen)] : List KSeen)) (fun v_78 =>
                some v_78))) : Option ((List KSeen))) (fun (v_80 : (List KSeen)) => 
                some (.inl (v_80, IntKind.i64.wrap (v_64 + 2), IntKind.i64.wrap (v_65 + 1)))))
              (some (.inr (v_61, v_64)))) : Option (((List KSeen) × Int × Int) ⊕ ((List KSeen) × Int)))) F (out, (p : Int), (i : Int)) = some (out ++ s, ((p + 2 * k : Nat) : Int)) := by
  intro k
  induction k with
  | zero =>
    intro i p F out hi hp _ hF
    obtain ⟨F', rfl⟩ : ∃ F', F = F' + 1 := ⟨F - 1, by omega⟩
    refine ⟨[], rfl, ?_⟩
    unfold iter
    simp only [un3, h2, ob_some]
    rw [decide_eq_false (by omega), ifB_f]
    simp
  | succ k ih =>
    intro i p F out hi hp ho hF
    obtain ⟨F', rfl⟩ : ∃ F', F = F' + 1 := ⟨F - 1, by omega⟩
    have hlt : p < l.length := by omega
    have hlt1 : p + 1 < l.length := by omega
    have e1 : IntKind.i64.wrap ((p : Int) + 1) = ((p + 1 : Nat) : Int) := by rw [IntKind.wrap_i64]; omega
    have e2 : IntKind.i64.wrap ((p : Int) + 2) = ((p + 2 : Nat) : Int) := by rw [IntKind.wrap_i64]; omega
    have e3 : IntKind.i64.wrap ((i : Int) + 1) = ((i + 1 : Nat) : Int) := by rw [IntKind.wrap_i64]; omega
    obtain ⟨s, h3, h4⟩ := ih (i := i + 1) (p := p + 2) (F := F') (out := out ++ [⟨l[p], l[p + 1]⟩]) (by omega) (by omega) (by simp only [List.length_append, List.length_cons, List.length_nil]; omega) (by omega)
    refine ⟨⟨l[p], l[p + 1]⟩ :: s, ?_, ?_⟩
    · rw [List.drop_eq_getElem_cons hlt, List.drop_eq_getElem_cons hlt1, rdSeen, show p + 1 + 1 = p + 2 from rfl, h3, show p + 2 + 2 * k = p + 2 * (k + 1) by omega]
    · unfold iter
      simp only [un3, h2, ob_some]
      rw [decide_eq_true (by omega), ifB_t, ixI_get hlt, ob_some, e1, ixI_get hlt1, ob_some, apG_ok (by simp only [List.length_cons, List.length_nil]; omega)]
      simp only [ob_some, e2, e3]
      simp only [h2, ob_some] at h4
      rw [h4, List.append_assoc, show p + 2 + 2 * k = p + 2 * (k + 1) by omega]
      rfl
theorem rw_loop {l : List Int} {n : Nat} (hl : l.length ≤ 1000000) (hn : n ≤ 8) : ∀ {k i p F : Nat} {out : List KWrite}, i + k = n → p + 3 * k = l.length → out.length + k ≤ 8 → k < F →
    iter (σ := (List KWrite) × Int × Int) (ρ := (List KWrite) ⊕ Unit) (un3 fun (v_157 : (List KWrite)) (v_160 : Int) (v_161 : Int) => 
                  (ifB (decide (v_161 < (n : Int)))
                    (Option.bind (Option.bind (ixI l (IntKind.i64.wrap (v_160 + 2))) (fun v_164 =>
                      ifB ((v_164 == 0))
                        (some false)
                        (Option.bind (ixI l (IntKind.i64.wrap (v_160 + 2))) (fun v_168 =>
                        some (!(v_168 == 1))))) : Option (Bool)) (fun (v_172 : Bool) => 
                      ifB (v_172)
                        (some (.inr (.inr ())))
                        (Option.bind (Option.bind (ixI l v_160) (fun v_174 =>
                          Option.bind (ixI l (IntKind.i64.wrap (v_160 + 1))) (fun v_177 =>
                          Option.bind (ixI l (IntKind.i64.wrap (v_160 + 2))) (fun v_180 =>
                          Option.bind (apG 24 v_157 ([(⟨v_174, v_177, (v_180 == 1)⟩ : KWrite)] : List KWrite)) (fun v_184 =>
                          some v_184)))) : Option ((List KWrite))) (fun (v_186 : (List KWrite)) => 
                          some (.inl (v_186, IntKind.i64.wrap (v_160 + 3), IntKind.i64.wrap (v_161 + 1)))))))
                    (some (.inr (.inl v_157))) : Option (((List KWrite) × Int × Int) ⊕ ((List KWrite) ⊕ Unit)))) F (out, (p : Int), (i : Int)) = some (match rdWr k (l.drop p) with | some (u, _) => .inl (out ++ u) | none => .inr ()) := by
  intro k
  induction k with
  | zero =>
    intro i p F out hi hp _ hF
    obtain ⟨F', rfl⟩ : ∃ F', F = F' + 1 := ⟨F - 1, by omega⟩
    unfold iter
    simp only [un3]
    rw [decide_eq_false (by omega), ifB_f]
    simp [rdWr]
  | succ k ih =>
    intro i p F out hi hp ho hF
    obtain ⟨F', rfl⟩ : ∃ F', F = F' + 1 := ⟨F - 1, by omega⟩
    have hlt : p < l.length := by omega
    have hlt1 : p + 1 < l.length := by omega
    have hlt2 : p + 2 < l.length := by omega
    have e1 : IntKind.i64.wrap ((p : Int) + 1) = ((p + 1 : Nat) : Int) := by rw [IntKind.wrap_i64]; omega
    have e2 : IntKind.i64.wrap ((p : Int) + 2) = ((p + 2 : Nat) : Int) := by rw [IntKind.wrap_i64]; omega
    have e4 : IntKind.i64.wrap ((p : Int) + 3) = ((p + 3 : Nat) : Int) := by rw [IntKind.wrap_i64]; omega
    have e3 : IntKind.i64.wrap ((i : Int) + 1) = ((i + 1 : Nat) : Int) := by rw [IntKind.wrap_i64]; omega
    have ed : l.drop p = l[p] :: l[p + 1] :: l[p + 2] :: l.drop (p + 3) := by rw [List.drop_eq_getElem_cons hlt, List.drop_eq_getElem_cons hlt1, List.drop_eq_getElem_cons hlt2]
    rw [ed, rdWr]
    unfold iter
    simp only [un3, e1, e2, e3, e4, ixI_get hlt, ixI_get hlt1, ixI_get hlt2, ob_some]
    rw [decide_eq_true (by omega), ifB_t]
    have ec : (ifB ((l[p + 2] == 0)) (some false) (some (!(l[p + 2] == 1))) : Option Bool) = some (!decide (l[p + 2] = 0 ∨ l[p + 2] = 1)) := by
      by_cases h0 : l[p + 2] = 0
      · rw [show (l[p + 2] == 0) = true from by simpa using h0, ifB_t, decide_eq_true (.inl h0)]; rfl
      · rw [show (l[p + 2] == 0) = false from by simpa using h0, ifB_f]
        by_cases h1 : l[p + 2] = 1
        · rw [decide_eq_true (.inr h1), show (l[p + 2] == 1) = true from by simpa using h1]
        · rw [decide_eq_false (by omega), show (l[p + 2] == 1) = false from by simpa using h1]
    rw [ec, ob_some]
    by_cases hv : l[p + 2] = 0 ∨ l[p + 2] = 1
    · rw [decide_eq_true hv, Bool.not_true, ifB_f, if_pos hv, apG_ok (by simp only [List.length_cons, List.length_nil]; omega)]
      simp only [ob_some]
      rw [ih (by omega) (by omega) (by simp only [List.length_append, List.length_cons, List.length_nil]; omega) (by omega)]
      cases rdWr k (l.drop (p + 3)) with
      | none => rfl
      | some x => obtain ⟨u, r⟩ := x; simp
    · rw [decide_eq_false hv, Bool.not_false, ifB_t, if_neg hv]
end Go.Proofs.Ytlfkgbideknkhaa
namespace Go.Proofs.Ytlfkgbideknkhaa
open Go.RowKit
theorem short_none {l : List Int} (h : l.length < 4) : readT l = none := by
 match l, h with
 | [], _ => rfl
 | [_], _ => rfl
 | [_, _], _ => rfl
 | [x, y, n], _ =>
  unfold readT; simp only
  split
  ·next hn =>
   match hk : n.toNat with
   | 0 => rfl
   | k + 1 => rfl
  ·rfl
 | _ :: _ :: _ :: _ :: _, h => simp only [List.length_cons] at h; omega
def okO (o : Option KTx) : Option KTx := match o with
 | some t => if txS t = true then some t else none
 | none => none
theorem txO_ok (l : List Int) : txO l = okO (readT l) := rfl
theorem Tx_fin {x y : Int} {s : List KSeen} {u : List KWrite} (hs : s.length ≤ 8) (hu : u.length ≤ 8) {F : Nat} (hF : 64 ≤ F) : Option.bind (G_regulatorref34_Tx F (⟨x, y, s, u⟩ : KTx)) (fun v_196 =>
              Option.bind (ifB (v_196)
                  (some (y == 0))
                  (some true) : Option (Bool)) (fun (v_199 : Bool) => 
                ifB (v_199)
                  (some ((⟨0, 0, ([] : List KSeen), ([] : List KWrite)⟩ : KTx), false))
                  (some ((⟨x, y, s, u⟩ : KTx), true)))) = some (txR (okO (some ⟨x, y, s, u⟩))) := by
  rw [tx34_r _ ⟨by show s.length ≤ 20; omega, by show u.length ≤ 20; omega⟩ hF, ob_some]
  simp only [okO]
  rw [txS_F]
  cases hf : txF ⟨x, y, s, u⟩ with
  | false => rfl
  | true =>
    have h0 : 0 ≤ y := by
      unfold txF at hf
      simp only [Bool.and_eq_true, decide_eq_true_eq] at hf
      omega
    by_cases hy : y = 0
    · subst hy; rfl
    · rw [ifB_t, ob_some, show (y == 0) = false from by simpa using hy, ifB_f, Bool.true_and, if_pos (by rw [decide_eq_true_eq]; show 1 ≤ y; omega)]
      rfl
theorem Tx_end {L : List Int} {x y : Int} {s : List KSeen} {p : Nat} (hl : L.length ≤ 1000) (hp : p < L.length) (hs : s.length ≤ 8) {F : Nat} (hF : 64 ≤ F) : Option.bind (ixI L (p : Int)) (fun v_92 =>
        Option.bind (ifB (decide (v_92 < 0))
            (some true)
            (ifB (decide (v_92 > 8))
              (some true)
              (some (!(((L.length : Nat) : Int) == (IntKind.i64.wrap ((IntKind.i64.wrap ((p : Int) + 1)) + (IntKind.i64.wrap (3 * v_92)))))))) : Option (Bool)) (fun (v_98 : Bool) => 
          ifB (v_98)
            (some ((⟨0, 0, ([] : List KSeen), ([] : List KWrite)⟩ : KTx), false))
            (Option.bind (Option.bind (iter (σ := (List KWrite) × Int × Int) (ρ := (List KWrite) ⊕ Unit) (un3 fun (v_157 : (List KWrite)) (v_160 : Int) (v_161 : Int) => 
                  (ifB (decide (v_161 < v_92))
                    (Option.bind (Option.bind (ixI L (IntKind.i64.wrap (v_160 + 2))) (fun v_164 =>
                      ifB ((v_164 == 0))
                        (some false)
                        (Option.bind (ixI L (IntKind.i64.wrap (v_160 + 2))) (fun v_168 =>
                        some (!(v_168 == 1))))) : Option (Bool)) (fun (v_172 : Bool) => 
                      ifB (v_172)
                        (some (.inr (.inr ())))
                        (Option.bind (Option.bind (ixI L v_160) (fun v_174 =>
                          Option.bind (ixI L (IntKind.i64.wrap (v_160 + 1))) (fun v_177 =>
                          Option.bind (ixI L (IntKind.i64.wrap (v_160 + 2))) (fun v_180 =>
                          Option.bind (apG 24 v_157 ([(⟨v_174, v_177, (v_180 == 1)⟩ : KWrite)] : List KWrite)) (fun v_184 =>
                          some v_184)))) : Option ((List KWrite))) (fun (v_186 : (List KWrite)) => 
                          some (.inl (v_186, IntKind.i64.wrap (v_160 + 3), IntKind.i64.wrap (v_161 + 1)))))))
                    (some (.inr (.inl v_157))) : Option (((List KWrite) × Int × Int) ⊕ ((List KWrite) ⊕ Unit)))) F (([] : List KWrite), IntKind.i64.wrap ((p : Int) + 1), 0)) (Sum.elim (fun (v_189 : (List KWrite)) => 
                some (.inl v_189)) (fun (_ : Unit) => 
                some (.inr ()))) : Option ((List KWrite) ⊕ Unit)) (Sum.elim (fun (v_193 : (List KWrite)) => 
              Option.bind (G_regulatorref34_Tx F (⟨x, y, s, v_193⟩ : KTx)) (fun v_196 =>
              Option.bind (ifB (v_196)
                  (some (y == 0))
                  (some true) : Option (Bool)) (fun (v_199 : Bool) => 
                ifB (v_199)
                  (some ((⟨0, 0, ([] : List KSeen), ([] : List KWrite)⟩ : KTx), false))
                  (some ((⟨x, y, s, v_193⟩ : KTx), true))))) (fun (_ : Unit) => 
              some ((⟨0, 0, ([] : List KSeen), ([] : List KWrite)⟩ : KTx), false)))))) = some (txR (okO (rdM x y s (L.drop p)))) := by
  rw [ixI_get hp, ob_some, List.drop_eq_getElem_cons hp]
  generalize L[p] = m
  unfold rdM
  by_cases hm8 : 0 ≤ m ∧ m ≤ 8
  · obtain ⟨j, rfl⟩ : ∃ j : Nat, m = (j : Int) := ⟨m.toNat, by omega⟩
    have hj : j ≤ 8 := by omega
    clear hm8
    simp only
    rw [if_pos (by omega)]
    have e1 : IntKind.i64.wrap ((p : Int) + 1) = ((p + 1 : Nat) : Int) := by rw [IntKind.wrap_i64]; omega
    have e2 : IntKind.i64.wrap (((p + 1 : Nat) : Int) + IntKind.i64.wrap (3 * (j : Int))) = ((p + 1 + 3 * j : Nat) : Int) := by rw [IntKind.wrap_i64, IntKind.wrap_i64]; omega
    rw [e1, e2, decide_eq_false (p := (j : Int) < 0) (by omega), decide_eq_false (p := (j : Int) > 8) (by omega), leq, ifB_f, ifB_f, ob_some, Int.toNat_natCast]
    by_cases hL2 : L.length = p + 1 + 3 * j
    · rw [decide_eq_true hL2, Bool.not_true, ifB_f]
      have h7 := rw_loop (l := L) (n := j) (by omega) hj (k := j) (i := 0) (p := p + 1) (F := F) (out := []) (by omega) (by omega) (by simp only [List.length_nil]; omega) (by omega)
      rw [show ((0 : Nat) : Int) = 0 from rfl] at h7
      rw [h7]
      simp only [ob_some]
      cases hw : rdWr j (L.drop (p + 1)) with
      | none => rfl
      | some q =>
        obtain ⟨u, l3⟩ := q
        obtain ⟨g1, g2⟩ := rw_only hw
        have g3 := congrArg List.length g2
        rw [List.length_append, wrI_len, List.length_drop] at g3
        obtain rfl : l3 = [] := List.eq_nil_of_length_eq_zero (by omega)
        simp only [Sum.elim_inl, ob_some, fnW, List.nil_append]
        exact Tx_fin hs (by omega) hF
    · rw [decide_eq_false hL2, Bool.not_false, ifB_t]
      have : fnW x y s [] (rdWr j (L.drop (p + 1))) = none := by
        cases hw : rdWr j (L.drop (p + 1)) with
        | none => rfl
        | some q =>
          obtain ⟨u, l3⟩ := q
          obtain ⟨g1, g2⟩ := rw_only hw
          have g3 := congrArg List.length g2
          rw [List.length_append, wrI_len, List.length_drop] at g3
          cases l3 with
          | nil => simp only [List.length_nil] at g3; omega
          | cons => rfl
      rw [this]
      rfl
  · simp only
    rw [if_neg hm8]
    by_cases h0 : m < 0
    · rw [decide_eq_true h0, ifB_t, ob_some, ifB_t]; rfl
    · rw [decide_eq_false h0, decide_eq_true (p := m > 8) (by omega), ifB_f, ifB_t, ob_some, ifB_t]; rfl
theorem Tx_r {l : List Int} (hl : l.length ≤ 1000) {F : Nat} (hF : 64 ≤ F) : G_regulatorref37_Tx F l = some (txR (txO l)) := by
 rw [txO_ok]; unfold G_regulatorref37_Tx
 by_cases h4 : l.length < 4
 ·rw [decide_eq_true (by omega), ifB_t, short_none h4]; rfl
 ·match l, hl, h4 with
  | [], _, h4 => exact absurd (by decide) h4
  | [_], _, h4 => exact absurd (by simp) h4
  | [_, _], _, h4 => exact absurd (by simp) h4
  | x :: y :: n :: r, hl, h4 =>
   rw [decide_eq_false (by omega), ifB_f]; have i0 : ixI (x :: y :: n :: r) 0 = some x := rfl; have i1 : ixI (x :: y :: n :: r) 1 = some y := rfl; have i2 : ixI (x :: y :: n :: r) 2 = some n := rfl; have hrl : (x :: y :: n :: r).length = r.length + 3 := rfl; have hrd : readT (x :: y :: n :: r) = if 0 ≤ n ∧ n ≤ 8 then fnS x y [] (rdSeen n.toNat r) else none := rfl
   have hd3 : (x :: y :: n :: r).drop 3 = r := rfl; rw [hrd]; generalize x :: y :: n :: r = L at i0 i1 i2 hrl hd3 hl h4 ⊢; clear hrd
   by_cases hn : 0 ≤ n ∧ n ≤ 8
   ·rw [if_pos hn]; obtain ⟨k, rfl⟩ : ∃ k : Nat, n = (k : Int) := ⟨n.toNat, by omega⟩; have hk : k ≤ 8 := by omega
    clear hn; have ew : IntKind.i64.wrap (4 + IntKind.i64.wrap (2 * (k : Int))) = ((4 + 2 * k : Nat) : Int) := by rw [IntKind.wrap_i64, IntKind.wrap_i64]; omega
    have ec : (Option.bind (ixI L 2) (fun v_3 => ifB (decide (v_3 < 0)) (some true) (Option.bind (ixI L 2) (fun v_7 => ifB (decide (v_7 > 8)) (some true) (Option.bind (ixI L 2) (fun v_11 => some (decide (((L.length : Nat) : Int) < (IntKind.i64.wrap (4 + (IntKind.i64.wrap (2 * v_11)))))))))))) = some (decide (L.length < 4 + 2 * k)) := by
     simp only [i2, ob_some, ew]; rw [decide_eq_false (p := (k : Int) < 0) (by omega), ifB_f, decide_eq_false (p := (k : Int) > 8) (by omega), ifB_f, deq (p := ((L.length : Nat) : Int) < ((4 + 2 * k : Nat) : Int)) (q := L.length < 4 + 2 * k) (by omega)]
    rw [ec, ob_some, Int.toNat_natCast]
    by_cases hs : L.length < 4 + 2 * k
    ·rw [decide_eq_true hs, ifB_t]; have : fnS x y [] (rdSeen k r) = none := by
      cases hr : rdSeen k r with
      | none => rfl
      | some p =>
       obtain ⟨s, l2⟩ := p; obtain ⟨e1, e2⟩ := rs_only hr; have e3 := congrArg List.length e2; rw [List.length_append, seI_len] at e3; obtain rfl : l2 = [] := List.eq_nil_of_length_eq_zero (by omega); rfl
     rw [this]; rfl
    ·rw [decide_eq_false hs, ifB_f, i0, ob_some, i1, ob_some]; obtain ⟨s, h5, h6⟩ := rs_loop (l := L) (n := k) (by omega) hk i2 (k := k) (i := 0) (p := 3) (F := F) (out := []) (by omega) (by omega) (by simp only [List.length_nil]; omega) (by omega); rw [hd3] at h5; rw [show ((3 : Nat) : Int) = 3 from rfl, show ((0 : Nat) : Int) = 0 from rfl, List.nil_append] at h6; have hsl := (rs_only h5).1; rw [h5, h6]; simp only [ob_some, un2]; rw [Tx_end (s := s) hl (by omega) (by omega) hF]; rfl
   ·rw [if_neg hn]
    by_cases h0 : n < 0
    ·simp only [i2, ob_some]; rw [decide_eq_true h0, ifB_t, ob_some, ifB_t]; rfl
    ·simp only [i2, ob_some]; rw [decide_eq_false h0, decide_eq_true (p := n > 8) (by omega), ifB_f, ifB_t, ob_some, ifB_t]; rfl
theorem cmp_p (F : Nat) (a b : Int) : G_cmp_Compare_int F a b = some (cmpI a b) := by
 unfold G_cmp_Compare_int G_cmp_isNaN_int cmpI; simp only [beq_self_eq_true, Bool.not_true, ob_some, ifB_f]
 by_cases h : a < b
 ·rw [decide_eq_true h, ifB_t, if_pos h]
 ·rw [decide_eq_false h, ifB_f, if_neg h]
  by_cases h2 : b < a
  ·rw [decide_eq_true (p := a > b) h2, ifB_t, if_pos h2]
  ·rw [decide_eq_false (p := a > b) h2, ifB_f, if_neg h2]
theorem or_p (a b : Int) {F : Nat} (hF : 64 ≤ F) : G_cmp_Or_int F [a, b] = some (if a = 0 then b else a) := by
 obtain ⟨F', rfl⟩ : ∃ F', F = F' + 3 := ⟨F - 3, by omega⟩; unfold G_cmp_Or_int
 by_cases ha : a = 0
 ·subst ha
  by_cases hb : b = 0
  ·subst hb; rfl
  ·have e : ∀ x y : Option (Int ⊕ (Unit ⊕ Int)), ifB (b == 0) x y = y := fun x y => by rw [show (b == 0) = false from by simpa using hb]; rfl
   unfold iter; simp only [List.length_cons, List.length_nil]; rw [show decide ((0 : Int) < ((0 + 1 + 1 : Nat) : Int)) = true from rfl, ifB_t, show ixI [(0 : Int), b] 0 = some 0 from rfl, ob_some, show ((0 : Int) == 0) = true from rfl, ifB_t]; simp only; unfold iter; rw [show decide (IntKind.i64.wrap (0 + 1) < ((0 + 1 + 1 : Nat) : Int)) = true from by decide, ifB_t, show ixI [(0 : Int), b] (IntKind.i64.wrap (0 + 1)) = some b from rfl, ob_some, e]; rfl
 ·have e : ∀ x y : Option (Int ⊕ (Unit ⊕ Int)), ifB (a == 0) x y = y := fun x y => by rw [show (a == 0) = false from by simpa using ha]; rfl
  unfold iter; rw [show decide ((0 : Int) < (([a, b].length : Nat) : Int)) = true from rfl, ifB_t, show ixI [a, b] 0 = some a from rfl, ob_some, e, if_neg ha]; rfl
theorem order_p (a b : KVersion) {F : Nat} (hF : 64 ≤ F) : G_versions_order F a b = some (ordV a.v b.v) := by
 unfold G_versions_order; rw [cmp_p, ob_some, cmp_p, ob_some, or_p _ _ hF, ob_some]
 show some (if cmpI a.Key b.Key = 0 then cmpI a.Ts b.Ts else cmpI a.Key b.Key) = some (orL [cmpI a.Key b.Key, cmpI a.Ts b.Ts])
 simp only [orL]
 by_cases h : cmpI a.Key b.Key = 0
 ·rw [if_pos h, if_pos h]
  by_cases h2 : cmpI a.Ts b.Ts = 0
  ·rw [if_pos h2, h2]
  ·rw [if_neg h2]
 ·rw [if_neg h, if_neg h]
theorem wf_p (F : Nat) (v : KVersion) : G_versions_wellFormed F v = some (wfB v.v) := by
 unfold G_versions_wellFormed G_versions_isKey G_versions_isStamp; rw [win_p, win_p, win_p, wfB_eq]; unfold keyB stampB KVersion.v; simp only [ob_some]; cases decide (1 ≤ v.Key) <;> cases decide (v.Key ≤ 1000) <;> cases decide (1 ≤ v.Ts) <;> cases decide (v.Ts ≤ 3000000000000000) <;> cases decide (0 ≤ v.Value) <;> cases decide (v.Value ≤ 1000000) <;> cases v.Gone <;> rfl
theorem vval_p (l : List KVersion) (hl : l.length ≤ 100000) {F : Nat} (hF : l.length + 64 < F) : G_versions_Valid F l = some (validB (l.map KVersion.v)) := by
 unfold G_versions_Valid; rw [iter_chkU l (fun k _ => okAt (l.map KVersion.v) k) (.inl ()) (.inr ()) ?_ ?_ (by omega)]
 ·have e : frL (fun k (_ : KVersion) => okAt (l.map KVersion.v) k) l 0 = (List.range (l.map KVersion.v).length).all (okAt (l.map KVersion.v)) := by
   refine iff_bool ?_; rw [frL_iff, List.all_eq_true]; simp only [Nat.zero_add, List.mem_range, List.length_map]
  rw [e]; unfold validB; rw [deq (p := ((l.length : Nat) : Int) ≤ 4000) (q := (l.map KVersion.v).length ≤ 4000) (by rw [List.length_map]; omega)]; cases (List.range (l.map KVersion.v).length).all (okAt (l.map KVersion.v)) <;> rfl
 ·simp only [ltn, ifB_f]
 ·intro k h; simp only [ltl h, ifB_t, ixI_get h, ob_some, w64_1 h (by omega), wf_p]; rw [okAt_eq (by rw [List.length_map]; exact h)]; simp only [List.getElem_map]
  by_cases h0 : 0 < k
  ·rw [decide_eq_true (p := (k : Int) > 0) (by omega), ifB_t, w64_p h0 (by omega), ixI_get (by omega), ob_some, order_p _ _ (show 64 ≤ F by omega), ob_some, show (k == 0) = false by simpa using (by omega : k ≠ 0), Bool.false_or, dnot (p := ordV (l[k - 1]'(by omega)).v l[k].v ≥ 0) (q := ordV (l[k - 1]'(by omega)).v l[k].v < 0) (by omega)]; cases wfB l[k].v <;> cases decide (ordV (l[k - 1]'(by omega)).v l[k].v < 0) <;> rfl
  ·rw [decide_eq_false (p := (k : Int) > 0) (by omega), ifB_f, show (k == 0) = true by simpa using (by omega : k = 0), Bool.true_or, Bool.and_true]; cases wfB l[k].v <;> rfl
end Go.Proofs.Ytlfkgbideknkhaa
namespace Go.Proofs.Ytlfkgbideknkhaa
open Go.RowKit
def nW (l : List KTx) : Nat := (l.map fun t => t.Writes.length).foldr (· + ·) 0
def chnR : List KTx → Int → Option Int
 | [], a => some a
 | t :: ts, a => if (txF t && decide (a < t.Ts)) = true then chnR ts t.Ts else none
def maxV (l : List KVersion) : Int := l.foldl (fun a v => max a v.Ts) 0
def validL (x : KLeader) : Bool := validB (x.Store.map KVersion.v) && (decide (0 ≤ x.Last) && decide (x.Last ≤ 3000000000000000)) && decide (x.Open.length ≤ 2000) && decide (x.Store.length + nW x.Open ≤ 4000) &&
 match chnR x.Open (maxV x.Store) with | some a => decide (a ≤ x.Last) | none => false
theorem nW_cons (t : KTx) (l : List KTx) : nW (t :: l) = t.Writes.length + nW l := rfl
theorem foldl_nW : ∀ (l : List KTx) (b : Nat), l.foldl (fun b x => b + x.Writes.length) b = b + nW l
 | [], b => by simp [nW]
 | t :: l, b => by rw [List.foldl_cons, foldl_nW, nW_cons]; omega
theorem size_p (x : KLeader) (hs : x.Store.length ≤ 5000) (hl : x.Open.length ≤ 5000) (h : ∀ t ∈ x.Open, FewT t) {F : Nat} (hF : 5001 ≤ F) : G_commit_size F x = some ((x.Store.length + nW x.Open : Nat) : Int) := by
 unfold G_commit_size; rw [iter_fold (fun (b : Nat) i => (i, (b : Int))) x.Open (fun b x => b + x.Writes.length) (fun b => (b : Int)) (fun k b => b ≤ 5000 + 20 * k) ?_ ?_ (by omega) x.Store.length (by omega)]
 ·rw [foldl_nW]; rfl
 ·intro b _; simp only [un2, ltn, ifB_f]
 ·intro b k hk hb; have h1 := (h _ (List.getElem_mem hk)).w; simp only [un2, ltl hk, ifB_t, ixI_get hk, ob_some, w64_1 hk (by omega)]; refine ⟨?_, by omega⟩; rw [show IntKind.i64.wrap ((b : Int) + ((x.Open[k].Writes.length : Nat) : Int)) = ((b + x.Open[k].Writes.length : Nat) : Int) from by rw [IntKind.wrap_i64]; omega]
theorem valid_p (x : KLeader) (hs : x.Store.length ≤ 5000) (hl : x.Open.length ≤ 5000) (h : ∀ t ∈ x.Open, FewT t) {F : Nat} (hF : 20000 ≤ F) : G_commit_Valid F x = some (validL x) := by
 unfold G_commit_Valid; rw [vval_p _ (by omega) (by omega), btw_p, size_p x hs hl h (by omega)]; simp only [ob_some]; rw [show decide (((x.Open.length : Nat) : Int) > 2000) = !decide (x.Open.length ≤ 2000) from dnot (by omega), show decide (((x.Store.length + nW x.Open : Nat) : Int) > 4000) = !decide (x.Store.length + nW x.Open ≤ 4000) from dnot (by omega)]; rw [iter_fold (fun b i => (b, i)) x.Store (fun a v => max a v.Ts) id (fun _ _ => True) (fun b _ => by simp only [un2, ltn, ifB_f, id]) (fun b k hk _ => ⟨by simp only [un2, ltl hk, ifB_t, ixI_get hk, ob_some, w64_1 hk (by omega)], trivial⟩) (by omega) 0 trivial]; simp only [ob_some, id]; rw [iter_foldX (τ := Unit) (fun b i => (b, i)) x.Open (fun a t => if (txF t && decide (a < t.Ts)) = true then .inl t.Ts else .inr ()) (fun a => .inl a) (fun _ => .inr ()) (fun _ _ => True) (fun l a => match chnR l a with | some b => .inl b | none => .inr ()) (fun _ => rfl) (fun t ts a => by rw [show chnR (t :: ts) a = if (txF t && decide (a < t.Ts)) = true then chnR ts t.Ts else none from rfl]; by_cases hc : (txF t && decide (a < t.Ts)) = true <;> simp [hc]) (fun b _ => by simp only [un2, ltn, ifB_f]) (fun b k hk _ => ⟨?_, fun _ _ => trivial⟩) (by omega) _ trivial]
 ·unfold validL maxV; cases validB (x.Store.map KVersion.v) <;> cases (decide (0 ≤ x.Last) && decide (x.Last ≤ 3000000000000000)) <;> cases decide (x.Open.length ≤ 2000) <;> cases decide (x.Store.length + nW x.Open ≤ 4000) <;> cases chnR x.Open (x.Store.foldl (fun a v => max a v.Ts) 0) <;> rfl
 ·simp only [un2, ltl hk, ifB_t, ixI_get hk, ob_some, w64_1 hk (by omega), formed_p _ (h _ (List.getElem_mem hk)) (show 64 ≤ F by omega)]; rw [dnot (p := x.Open[k].Ts ≤ b) (q := b < x.Open[k].Ts) (by omega)]; cases txF x.Open[k] <;> cases decide (b < x.Open[k].Ts) <;> rfl
theorem jformed_p (t : KTx) (h : FewT t) {F : Nat} (hF : 20000 ≤ F) : G_journal_formed F t = some (txS t) := by
 unfold G_journal_formed; rw [valid_p ⟨t.Ts, [], [t]⟩ (by simp) (by simp) (by simpa using h) hF, txS_F]; simp only [ob_some]; have hv : validL ⟨t.Ts, [], [t]⟩ = (validB [] && (decide (0 ≤ t.Ts) && decide (t.Ts ≤ 3000000000000000)) && decide (1 ≤ 2000) && decide (0 + (t.Writes.length + 0) ≤ 4000) && match (if (txF t && decide (0 < t.Ts)) = true then some t.Ts else none) with | some a => decide (a ≤ t.Ts) | none => false) := rfl; have hw := h.w; rw [hv, show validB [] = true from rfl, decide_eq_true (p := 1 ≤ 2000) (by omega), decide_eq_true (p := 0 + (t.Writes.length + 0) ≤ 4000) (by omega), show decide (t.Ts > 0) = decide (1 ≤ t.Ts) from deq (by omega)]
 by_cases h1 : 1 ≤ t.Ts
 ·rw [decide_eq_true h1, decide_eq_true (p := 0 ≤ t.Ts) (by omega), ifB_t, Bool.and_true]; cases hf : txF t with
  | false => cases decide (t.Ts ≤ 3000000000000000) <;> rfl
  | true =>
   have : t.Ts ≤ 3000000000000000 := by
    unfold txF at hf; simp only [Bool.and_eq_true, decide_eq_true_eq] at hf; omega
   rw [decide_eq_true this]
   simp
 ·rw [decide_eq_false h1, ifB_f, Bool.and_false]; rfl
theorem read_p (l : List Int) {F : Nat} (hF : 20000 ≤ F) : G_journal_read F l = some (txR (txO l)) := by
 unfold G_journal_read txO; cases h : readT l with
 | none => rfl
 | some t =>
  obtain ⟨_, h1, h2⟩ := rt_only h; simp only [readB]; rw [jformed_p t ⟨by omega, by omega⟩ hF, ob_some]; cases txS t <;> rfl
def recT (t : KTx) : List Int := frmS (intsS t)
def logB (ts : List KTx) : List Int := ts.flatMap recT
def recS : List (List Int) → Int → List KTx
 | [], _ => []
 | f :: fs, last => match txO f with
  | some t => if last < t.Ts then t :: recS fs t.Ts else []
  | none => []
theorem rec_p {F : Nat} (hF : 20000 ≤ F) : ∀ (fs : List (List Int)) (last : Int), recG F fs last = some (recS fs last)
 | [], _ => rfl
 | f :: fs, last => by
  unfold recG recS; rw [read_p f hF]; cases txO f with
  | none => rfl
  | some t =>
   simp only [ob_some, txR, un2, Bool.not_true, Bool.false_or]
   by_cases h : last < t.Ts
   ·rw [if_pos h, decide_eq_false (by omega), ifB_f, rec_p hF fs t.Ts]; rfl
   ·rw [if_neg h, decide_eq_true (by omega), ifB_t]
theorem rec_ris : ∀ {fs : List (List Int)} {a : Int}, (∀ t ∈ recS fs a, Txs t) ∧ (a :: (recS fs a).map (·.Ts)).Pairwise (· < ·) ∧ ∃ more, fs = (recS fs a).map intsS ++ more
 | [], a => ⟨fun _ h => absurd h List.not_mem_nil, by simp [recS], [], rfl⟩
 | f :: fs, a => by
  unfold recS; cases h : txO f with
  | none => exact ⟨fun _ h => absurd h List.not_mem_nil, by simp, f :: fs, rfl⟩
  | some t =>
   obtain ⟨h1, h2⟩ := txO_only h; simp only
   by_cases hl : a < t.Ts
   ·rw [if_pos hl]; obtain ⟨e1, e2, more, e3⟩ := rec_ris (fs := fs) (a := t.Ts); refine ⟨fun x hx => ?_, ?_, more, ?_⟩
    ·rcases List.mem_cons.1 hx with rfl | hx
     ·exact h1
     ·exact e1 x hx
    ·rw [List.map_cons, List.pairwise_cons]; refine ⟨fun x hx => ?_, e2⟩; rcases List.mem_cons.1 hx with rfl | hx
     ·exact hl
     ·exact Int.lt_trans hl ((List.pairwise_cons.1 e2).1 x hx)
    ·rw [List.map_cons, List.cons_append, ← e3, h2]
   ·rw [if_neg hl]; exact ⟨fun _ h => absurd h List.not_mem_nil, by simp, f :: fs, rfl⟩
def lastT (a : Int) (ts : List KTx) : Int := ts.foldl (fun _ t => t.Ts) a
theorem logB_map (ts : List KTx) : logB ts = (ts.map intsS).flatMap frmS := by
 unfold logB recT; rw [List.flatMap_map]
theorem logB_cons (t : KTx) (ts : List KTx) : logB (t :: ts) = recT t ++ logB ts := List.flatMap_cons
def txsS (b : List Int) : List KTx := recS (frA b) 0
theorem ris_log {ts : List KTx} : logS ts = true ↔ (∀ t ∈ ts, Txs t) ∧ (0 :: ts.map (·.Ts)).Pairwise (· < ·) := by
 unfold logS; rw [Bool.and_eq_true, List.all_eq_true, risF_iff]; simp only [txs_iff]
theorem txs_log (b : List Int) : logS (txsS b) = true := ris_log.2 ⟨rec_ris.1, rec_ris.2.1⟩
theorem txs_parts {b : List Int} (hb : By b) : ∃ rest, b = logB (txsS b) ++ rest := by
 obtain ⟨rest, e1, _, _⟩ := frA_parts (Nat.le_refl _) hb; obtain ⟨_, _, more, e2⟩ := rec_ris (fs := frA b) (a := 0); refine ⟨more.flatMap frmS ++ rest, ?_⟩; rw [← List.append_assoc]
 conv => lhs; rw [e1, e2, List.flatMap_append]
 rw [← logB_map]; rfl
theorem txs_len {b : List Int} (hb : By b) : (logB (txsS b)).length ≤ b.length := by
 obtain ⟨rest, e⟩ := txs_parts hb; have := congrArg List.length e; rw [List.length_append] at this; omega
theorem logB_many (ts : List KTx) : 11 * ts.length ≤ (logB ts).length := by
 induction ts with
 | nil => simp
 | cons t ts ih =>
  have := frm_pos (intsS t); rw [logB_cons, List.length_append, List.length_cons]; unfold recT; omega
theorem txs_few {b : List Int} : ∀ t ∈ txsS b, FewT t := fun t ht => (rec_ris.1 t ht).fewT
theorem off_p {F : Nat} (hF : 20000 ≤ F) : ∀ {ts : List KTx} {o : Nat}, (∀ t ∈ ts, Txs t) → o + (logB ts).length ≤ 1000000 → offG F ts (o : Int) = some ((o + (logB ts).length : Nat) : Int)
 | [], o, _, _ => rfl
 | t :: ts, o, h, hl => by
  have ht := h t List.mem_cons_self; unfold offG; rw [ints_p t ht.fewT (by omega), ob_some, frame_p ht.ok (by omega)]; rw [logB_cons, List.length_append] at hl ⊢; simp only [ob_some, un2]; rw [show ((0 : Int) == 0) = true from rfl, ifB_t, show IntKind.i64.wrap ((o : Int) + (((frmS (intsS t)).length : Nat) : Int)) = ((o + (recT t).length : Nat) : Int) from by unfold recT at hl ⊢; rw [IntKind.wrap_i64]; omega, off_p hF (fun x hx => h x (List.mem_cons_of_mem _ hx)) (by omega), Nat.add_assoc]
theorem load_p {b : List Int} (hb : By b) (hl : b.length ≤ 100000) {F : Nat} (hF : 200000 < F) : G_journal_Load F b = some (txsS b, (((logB (txsS b)).length : Nat) : Int), 0) := by
 have h1 := txs_len hb; obtain ⟨rest, e, _, _⟩ := frA_parts (Nat.le_refl _) hb; unfold G_journal_Load; rw [frames_p hb hl hF]; simp only [ob_some, un3]; have hfr : (frA b).length ≤ b.length := by
  have key : ∀ ls : List (List Int), ls.length ≤ (ls.flatMap frmS).length := by
   intro ls
   induction ls with
   | nil => simp
   | cons l ls ih =>
    have := frm_pos l; rw [List.flatMap_cons, List.length_append, List.length_cons]; omega
  have h2 := key (frA b); have h3 := congrArg List.length e; rw [List.length_append] at h3; omega
 rw [show (!((0 : Int) == 0)) = false from rfl, ifB_f, decide_eq_true (by omega), ifB_t, rec_p (by omega)]; simp only [ob_some]; have := off_p (F := F) (by omega) (ts := recS (frA b) 0) (o := 0) rec_ris.1 (by show 0 + (logB (txsS b)).length ≤ _; omega); rw [show ((0 : Nat) : Int) = 0 from rfl] at this; rw [this, Nat.zero_add]; rfl
theorem record_r {t : KTx} (h : Txs t) {F : Nat} (hF : 20000 ≤ F) : G_regulatorref37_Record F t = some (recT t) := by
 unfold G_regulatorref37_Record; rw [ints_r t h.fewT (by omega), ob_some, frame_r h.ok (by omega)]; rfl
theorem load_loop_r {fs : List (List Int)} (hfs : ∀ f ∈ fs, f.length ≤ 1000) (hfl : fs.length ≤ 1000000) {F0 : Nat} (hF0 : 20000 ≤ F0) : ∀ {m k F : Nat} {last : Int} {out : List KTx} {o : Nat}, k + m = fs.length → out.length ≤ k → o + (logB (recS (fs.drop k) last)).length ≤ 1000000 → m < F →
    ∃ r, iter (σ := Int × Int × (List KTx) × Int) (ρ := ((List KTx) × Int) ⊕ ((List KTx) × Int)) (un4 fun (v_39 : Int) (v_40 : Int) (v_41 : (List KTx)) (v_44 : Int) => 
          (ifB (decide (v_40 < ((fs.length : Nat) : Int)))
            (Option.bind (ixI fs v_40) (fun v_47 =>
            Option.bind (G_regulatorref37_Tx F0 v_47) (un2 fun v_50 v_51 =>
            Option.bind (ifB (v_51)
                (some (decide (v_50.Ts ≤ v_39)))
                (some true) : Option (Bool)) (fun (v_55 : Bool) => 
              ifB (v_55)
                (some (.inr (.inr (v_41, v_44))))
                (Option.bind (apG 64 v_41 ([v_50] : List KTx)) (fun v_58 =>
                Option.bind (G_regulatorref37_Record F0 v_50) (fun v_59 =>
                some (.inl (v_50.Ts, IntKind.i64.wrap (v_40 + 1), v_58, IntKind.i64.wrap (v_44 + ((v_59.length : Nat) : Int)))))))))))
            (some (.inr (.inl (v_41, v_44)))) : Option ((Int × Int × (List KTx) × Int) ⊕ (((List KTx) × Int) ⊕ ((List KTx) × Int))))) F (last, (k : Int), out, (o : Int)) = some r ∧ Sum.elim id id r = (out ++ recS (fs.drop k) last, ((o + (logB (recS (fs.drop k) last)).length : Nat) : Int)) := by
  intro m
  induction m with
  | zero =>
    intro k F last out o hk ho hl hF
    obtain ⟨F', rfl⟩ : ∃ F', F = F' + 1 := ⟨F - 1, by omega⟩
    refine ⟨.inl (out, (o : Int)), ?_, ?_⟩
    · unfold iter
      simp only [un4]
      rw [decide_eq_false (by omega), ifB_f]
    · rw [List.drop_eq_nil_of_le (by omega)]
      simp [recS, logB]
  | succ m ih =>
    intro k F last out o hk ho hl hF
    obtain ⟨F', rfl⟩ : ∃ F', F = F' + 1 := ⟨F - 1, by omega⟩
    have hlt : k < fs.length := by omega
    rw [List.drop_eq_getElem_cons hlt, recS] at hl ⊢
    have hstep : ∀ x, G_regulatorref37_Tx F0 fs[k] = some x → True := fun _ _ => trivial
    unfold iter
    simp only [un4]
    rw [ltl hlt, ifB_t, ixI_get hlt, ob_some, Tx_r (hfs _ (List.getElem_mem hlt)) (by omega)]
    simp only [ob_some]
    cases ht : txO fs[k] with
    | none => exact ⟨.inr (out, (o : Int)), rfl, by simp [logB]⟩
    | some t =>
      obtain ⟨h1, _⟩ := txO_only ht
      rw [ht] at hl
      simp only at hl ⊢
      rw [show txR (some t) = (t, true) from rfl]
      simp only [un2]
      rw [ifB_t, ob_some]
      by_cases h : last < t.Ts
      · rw [if_pos h] at hl ⊢
        rw [logB_cons, List.length_append] at hl ⊢
        rw [decide_eq_false (by omega), ifB_f, apG_ok (by simp only [List.length_cons, List.length_nil]; omega), ob_some, record_r h1 hF0, ob_some, show IntKind.i64.wrap ((k : Int) + 1) = ((k + 1 : Nat) : Int) from by rw [IntKind.wrap_i64]; omega, show IntKind.i64.wrap ((o : Int) + (((recT t).length : Nat) : Int)) = ((o + (recT t).length : Nat) : Int) from by rw [IntKind.wrap_i64]; omega]
        simp only
        obtain ⟨r, e1, e2⟩ := ih (k := k + 1) (F := F') (last := t.Ts) (out := out ++ [t]) (o := o + (recT t).length) (by omega) (by simp only [List.length_append, List.length_cons, List.length_nil]; omega) (by omega) (by omega)
        exact ⟨r, e1, by rw [e2, List.append_assoc, Nat.add_assoc]; rfl⟩
      · rw [if_neg h, decide_eq_true (by omega), ifB_t]
        exact ⟨.inr (out, (o : Int)), rfl, by simp [logB]⟩
theorem load_r {b : List Int} (hb : By b) (hl : b.length ≤ 100000) {F : Nat} (hF : 200000 < F) : G_regulatorref37_Load F b = some (txsS b, (((logB (txsS b)).length : Nat) : Int), 0) := by
 have h1 := txs_len hb; obtain ⟨rest, e, hok, _⟩ := frA_parts (Nat.le_refl _) hb; have hfr : (frA b).length ≤ b.length := by
  have key : ∀ ls : List (List Int), ls.length ≤ (ls.flatMap frmS).length := by
   intro ls
   induction ls with
   | nil => simp
   | cons l ls ih =>
    have := frm_pos l; rw [List.flatMap_cons, List.length_append, List.length_cons]; omega
  have h2 := key (frA b); have h3 := congrArg List.length e; rw [List.length_append] at h3; omega
 unfold G_regulatorref37_Load; rw [decide_eq_false (by omega), ifB_f, frames_r hb hl hF]; simp only [ob_some, un3]; obtain ⟨r, e1, e2⟩ := load_loop_r (fs := frA b) (fun f hf => (hok f hf).n) (by omega) (F0 := F) (by omega) (m := (frA b).length) (k := 0) (F := F) (last := 0) (out := []) (o := 0) (by omega) (Nat.le_refl _) (by rw [List.drop_zero]; show 0 + (logB (txsS b)).length ≤ _; omega) (by omega); rw [List.drop_zero] at e2; rw [show ((0 : Nat) : Int) = 0 from rfl] at e1; rw [e1]; simp only [ob_some]; cases r with
 | inl x =>
  obtain ⟨x1, x2⟩ := x; simp only [Sum.elim_inl, id] at e2; simp only [Prod.mk.injEq, List.nil_append, Nat.zero_add] at e2; obtain ⟨rfl, rfl⟩ := e2; rfl
 | inr x =>
  obtain ⟨x1, x2⟩ := x; simp only [Sum.elim_inr, id] at e2; simp only [Prod.mk.injEq, List.nil_append, Nat.zero_add] at e2; obtain ⟨rfl, rfl⟩ := e2; rfl
end Go.Proofs.Ytlfkgbideknkhaa
namespace Go.Proofs.Ytlfkgbideknkhaa
open Go.RowKit
def oldB (ts : List KTx) (t : KTx) : Bool := match ts.getLast? with
 | some x => decide (t.Ts ≤ x.Ts)
 | none => false
def appS (b : List Int) (t : KTx) : List Int × Int :=
 if txS t = true then
  if (logB (txsS b)).length = b.length then
   if oldB (txsS b) t = true then ([], 30)
   else if b.length + (recT t).length ≤ 100000 then (b ++ recT t, 0) else ([], 2)
  else ([], 6)
 else ([], 1)
theorem old_ix (ts : List KTx) (t : KTx) (hl : ts.length ≤ 1000000) : (Option.bind (ifB (decide (((ts.length : Nat) : Int) > 0)) (Option.bind (ixI ts (IntKind.i64.wrap (((ts.length : Nat) : Int) - 1))) (fun v_10 => some (decide (v_10.Ts ≥ t.Ts)))) (some false) : Option (Bool)) some) = some (oldB ts t) := by
 unfold oldB; cases h : ts.getLast? with
 | none =>
  rw [List.getLast?_eq_none_iff] at h; subst h; rfl
 | some x =>
  have hne : ts ≠ [] := fun e => by subst e; cases h
  have hp : 0 < ts.length := List.length_pos_iff.2 hne; rw [decide_eq_true (by omega), ifB_t, w64_p hp (by omega), ixI_get (by omega), ob_some, ob_some]; rw [List.getLast?_eq_getElem?, List.getElem?_eq_getElem (by omega)] at h; rw [Option.some.inj h]
theorem obs {α : Type} (o : Option α) : Option.bind o some = o := by cases o <;> rfl
theorem concat_p (a b : List Int) (hl : a.length + b.length ≤ 1000000) {F : Nat} (hF : 64 ≤ F) : G_slices_Concat_byte_byte F [a, b] = some (a ++ b) := by
 unfold G_slices_Concat_byte_byte; rw [iter_fold (fun (n : Int) i => (i, n)) [a, b] (fun n x => n + ((x.length : Nat) : Int)) id (fun k n => 0 ≤ n ∧ n ≤ 1000000 * (k : Int)) ?_ ?_ (by simp only [List.length_cons, List.length_nil]; omega) 0 (by omega)]
 ·simp only [ob_some, List.foldl_cons, List.foldl_nil, id]; rw [whenG_t (by rw [decide_eq_true_eq]; omega), ob_some, iter_fold (fun (n : List Int) i => (i, n)) [a, b] (fun n x => n ++ x) id (fun k n => n.length ≤ 1000000 * k) ?_ ?_ (by simp only [List.length_cons, List.length_nil]; omega) [] (by simp)]
  ·rfl
  ·intro n _; simp only [un2, ltn, ifB_f, id]
  ·intro n k hk hn; have hk2 : k < 2 := hk; have hw := w64_1 hk2 (by omega); have hm : ([a, b])[k].length ≤ 1000000 := by
    rcases List.mem_cons.1 (List.getElem_mem hk) with h | h
    ·rw [h]; omega
    ·rw [List.mem_singleton.1 h]; omega
   simp only [un2, ltl hk, ifB_t, ixI_get hk, ob_some, hw]; rw [apG_ok (by omega), ob_some, List.length_append]; exact ⟨rfl, by rw [Nat.mul_add]; omega⟩
 ·intro n _; simp only [un2, ltn, ifB_f, id]
 ·intro n k hk hn; have hk2 : k < 2 := hk; have hw := w64_1 hk2 (by omega); have hm : ([a, b])[k].length ≤ 1000000 := by
   rcases List.mem_cons.1 (List.getElem_mem hk) with h | h
   ·rw [h]; omega
   ·rw [List.mem_singleton.1 h]; omega
  simp only [un2, ltl hk, ifB_t, ixI_get hk, ob_some, hw]; rw [show IntKind.i64.wrap (n + (([a, b][k].length : Nat) : Int)) = n + (([a, b][k].length : Nat) : Int) from by rw [IntKind.wrap_i64]; omega, decide_eq_false (by omega), ifB_f]; exact ⟨rfl, by push_cast; omega⟩
theorem recT_len {t : KTx} (h : Txs t) : (recT t).length ≤ 10021 := frm_max h.ok
theorem txs_count {b : List Int} (hb : By b) : 11 * (txsS b).length ≤ b.length := Nat.le_trans (logB_many _) (txs_len hb)
theorem app_p {b : List Int} {t : KTx} (hb : By b) (hl : b.length ≤ 100000) (ht : FewT t) {F : Nat} (hF : 200000 < F) : G_journal_Append F b t = some (appS b t) := by
 have hc := txs_count hb; unfold G_journal_Append appS; rw [load_p hb hl hF]; simp only [ob_some, un3]; rw [show ((0 : Int) == 0) = true from rfl, ifB_t, jformed_p t ht (by omega)]; simp only [ob_some]; cases hf : txS t with
 | false => rfl
 | true =>
  have hx := (txs_iff t).1 hf; have hr := recT_len hx; rw [ifB_t, leq, if_pos rfl]
  by_cases h1 : (logB (txsS b)).length = b.length
  ·have ho := old_ix (txsS b) t (by omega); rw [obs] at ho; rw [decide_eq_true h1, ifB_t, if_pos h1, ho, ob_some]; cases oldB (txsS b) t with
   | true => rfl
   | false =>
    rw [ifB_f, ints_p t ht (by omega), ob_some, frame_p hx.ok (by omega)]; simp only [ob_some, un2]; rw [show ((0 : Int) == 0) = true from rfl, ifB_t, show frmS (intsS t) = recT t from rfl, show IntKind.i64.wrap (((b.length : Nat) : Int) + (((recT t).length : Nat) : Int)) = ((b.length + (recT t).length : Nat) : Int) from by rw [IntKind.wrap_i64]; omega]; rw [if_neg (by simp)]
    by_cases h2 : b.length + (recT t).length ≤ 100000
    ·rw [decide_eq_false (by omega), ifB_f, if_pos h2, concat_p _ _ (by omega) (by omega)]; rfl
    ·rw [decide_eq_true (by omega), ifB_t, if_neg h2]
  ·rw [decide_eq_false h1, ifB_f, if_neg h1]
theorem app_r {b : List Int} {t : KTx} (hb : By b) (hl : b.length ≤ 100000) (ht : FewT t) {F : Nat} (hF : 200000 < F) : G_regulatorref37_Append F b t = some (appS b t) := by
 have hc := txs_count hb; unfold G_regulatorref37_Append appS; rw [load_r hb hl hF]; simp only [ob_some, un3]; rw [show ((0 : Int) == 0) = true from rfl, ifB_t, tx34_r t ht (by omega)]; simp only [ob_some]; have e : (ifB (txF t) (some (t.Ts == 0)) (some true) : Option Bool) = some (!txS t) := by
  rw [txS_F]; cases hf : txF t with
  | false => rfl
  | true =>
   have h0 : 0 ≤ t.Ts := by
    unfold txF at hf; simp only [Bool.and_eq_true, decide_eq_true_eq] at hf; omega
   rw [ifB_t, Bool.true_and, show (t.Ts == 0) = !decide (1 ≤ t.Ts) from by rw [Bool.eq_iff_iff]; simp; omega]
 rw [e, ob_some]; cases hf : txS t with
 | false => rfl
 | true =>
  have hx := (txs_iff t).1 hf; have hr := recT_len hx; rw [Bool.not_true, ifB_f, leq, if_pos rfl]
  by_cases h1 : (logB (txsS b)).length = b.length
  ·have ho := old_ix (txsS b) t (by omega); rw [obs] at ho; rw [decide_eq_true h1, ifB_t, if_pos h1, ho, ob_some]; cases oldB (txsS b) t with
   | true => rfl
   | false =>
    rw [ifB_f, record_r hx (by omega), ob_some]; rw [show IntKind.i64.wrap (((b.length : Nat) : Int) + (((recT t).length : Nat) : Int)) = ((b.length + (recT t).length : Nat) : Int) from by rw [IntKind.wrap_i64]; omega]; rw [if_neg (by simp)]
    by_cases h2 : b.length + (recT t).length ≤ 100000
    ·rw [decide_eq_false (by omega), ifB_f, if_pos h2, apG_ok (by simp only [List.length_nil]; omega), ob_some, List.nil_append, apG_ok (by omega), ob_some]
    ·rw [decide_eq_true (by omega), ifB_t, if_neg h2]
  ·rw [decide_eq_false h1, ifB_f, if_neg h1]
def vsT (t : KTx) : List Ver := t.Writes.map fun w => ⟨w.Key, t.Ts, w.Value, w.Gone⟩
theorem vsOf_cons (t : KTx) (ts : List KTx) : vsOf (t :: ts) = vsT t ++ vsOf ts := List.flatMap_cons
theorem vsOf_one (t : KTx) : vsOf [t] = vsT t := by rw [vsOf_cons]; exact List.append_nil _
theorem map_vk (l : List Ver) : (l.map Ver.k).map KVersion.v = l := by rw [List.map_map]; exact List.map_id l
theorem put_k (F : Nat) {m m' : List Ver} {v : KVersion} (hl : m.length ≤ 1000000) (h : putS m v.v = (m', 0)) : G_versions_Put F (m.map Ver.k) v = some (m'.map Ver.k, 0) := by
 unfold G_versions_Put; rw [if_pos (by rw [List.length_map]; omega), map_vk, h]; rfl
theorem put_kr (F : Nat) {m m' : List Ver} {v : KVersion} (hl : m.length ≤ 1000000) (h : putS m v.v = (m', 0)) : G_regulatorref33_Put F (m.map Ver.k) v = some (m'.map Ver.k, 0) := by
 unfold G_regulatorref33_Put; rw [if_pos (by rw [List.length_map]; omega), map_vk, ← putS_eq, h]; rfl
theorem puts_cons {v : Ver} {vs l m : List Ver} (h : putsS l (v :: vs) = (m, 0)) : ∃ m', putS l v = (m', 0) ∧ putsS m' vs = (m, 0) := by
 obtain ⟨m', h1, h2⟩ := puts_app (a := [v]) (b := vs) h; exact ⟨m', puts_one h1, h2⟩
theorem puts_take {vs l m : List Ver} (h : putsS l vs = (m, 0)) (k : Nat) (hk : k < vs.length) : ∃ m1 m2, putsS l (vs.take k) = (m1, 0) ∧ putS m1 vs[k] = (m2, 0) ∧ putsS l (vs.take (k + 1)) = (m2, 0) := by
 have e : vs = vs.take k ++ (vs[k] :: vs.drop (k + 1)) := by rw [← List.drop_eq_getElem_cons hk, List.take_append_drop]
 have e2 : vs = vs.take (k + 1) ++ vs.drop (k + 1) := (List.take_append_drop _ _).symm; obtain ⟨m1, h1, h2⟩ := puts_app (by rw [← e]; exact h); obtain ⟨m2, h3, h4⟩ := puts_cons h2; obtain ⟨m3, h5, _⟩ := puts_app (by rw [← e2]; exact h); rw [List.take_succ_eq_append_getElem hk] at h5 ⊢; obtain ⟨m4, h6, h7⟩ := puts_app h5; rw [h1] at h6; cases h6; have h8 := puts_one h7; rw [h3] at h8; cases h8; exact ⟨m1, m2, h1, h3, h5⟩
theorem puts_len : ∀ {vs l m : List Ver}, putsS l vs = (m, 0) → m.length = l.length + vs.length
 | [], l, m, h => by cases h; rfl
 | v :: vs, l, m, h => by
  obtain ⟨m', h1, h2⟩ := puts_cons h; have h3 := puts_len h2; have h4 : m'.length = l.length + 1 := by
   unfold putS at h1
   split at h1
   ·cases h1
   ·split at h1
    ·cases h1
    ·split at h1
     ·cases h1
     ·cases h1; have := (putL_perm l v).length_eq
      simpa using this
  rw [List.length_cons]; omega
theorem putT_p {t : KTx} {m m' : List Ver} (hw : t.Writes.length ≤ 20) (hm : m.length ≤ 100000) (h : putsS m (vsT t) = (m', 0)) {F0 F : Nat} (hF : 64 ≤ F) : iter (σ := Int × (List KVersion)) (ρ := (List KVersion) ⊕ Int) (un2 fun (v_137 : Int) (v_138 : (List KVersion)) => 
                  (ifB (decide (v_137 < ((t.Writes.length : Nat) : Int)))
                    (Option.bind (ixI t.Writes v_137) (fun v_143 =>
                    Option.bind (G_versions_Put F0 v_138 (⟨v_143.Key, t.Ts, v_143.Value, v_143.Gone⟩ : KVersion)) (un2 fun v_147 v_148 =>
                    ifB ((v_148 == 0))
                      (some (.inl (IntKind.i64.wrap (v_137 + 1), v_147)))
                      (some (.inr (.inr v_148))))))
                    (some (.inr (.inl v_138))) : Option ((Int × (List KVersion)) ⊕ ((List KVersion) ⊕ Int)))) F (0, m.map Ver.k) = some (.inl (m'.map Ver.k)) := by
  have hvl : (vsT t).length = t.Writes.length := List.length_map _
  have hl : t.Writes.length < F := by omega
  have := iter_seq (f := un2 fun (v_137 : Int) (v_138 : (List KVersion)) => 
                  (ifB (decide (v_137 < ((t.Writes.length : Nat) : Int)))
                    (Option.bind (ixI t.Writes v_137) (fun v_143 =>
                    Option.bind (G_versions_Put F0 v_138 (⟨v_143.Key, t.Ts, v_143.Value, v_143.Gone⟩ : KVersion)) (un2 fun v_147 v_148 =>
                    ifB ((v_148 == 0))
                      (some (.inl (IntKind.i64.wrap (v_137 + 1), v_147)))
                      (some (.inr (.inr v_148))))))
                    (some (.inr (.inl v_138))) : Option ((Int × (List KVersion)) ⊕ ((List KVersion) ⊕ Int)))) (fun k => ((k : Int), ((putsS m ((vsT t).take k)).1).map Ver.k)) t.Writes.length (.inl (m'.map Ver.k)) ?_ ?_ hl
  · exact this
  · intro k hk
    obtain ⟨m1, m2, h1, h2, h3⟩ := puts_take h k (by omega)
    have hl1 := puts_len h1
    rw [List.length_take] at hl1
    simp only [un2, ltl hk, ifB_t, ixI_get hk, ob_some]
    rw [h1, h3]
    have e : (vsT t)[k]'(by omega) = (⟨t.Writes[k].Key, t.Ts, t.Writes[k].Value, t.Writes[k].Gone⟩ : KVersion).v := by unfold vsT; rw [List.getElem_map]; rfl
    rw [e] at h2
    rw [put_k F0 (by omega) h2]
    simp only [ob_some, un2]
    rw [show ((0 : Int) == 0) = true from rfl, ifB_t, w64_nat (by omega)]
  · simp only [un2, ltn, ifB_f]
    rw [← hvl, List.take_length, h]
theorem with_r {t : KTx} {m m' : List Ver} (hw : t.Writes.length ≤ 20) (hm : m.length ≤ 100000) (h : putsS m (vsT t) = (m', 0)) {F : Nat} (hF : 64 ≤ F) : G_regulatorref34_With F (m.map Ver.k) t = some (m'.map Ver.k) := by
  have hvl : (vsT t).length = t.Writes.length := List.length_map _
  have hl : t.Writes.length < F := by omega
  unfold G_regulatorref34_With
  have := iter_seq (f := un2 fun (v_20 : (List KVersion)) (v_23 : Int) => 
        (ifB (decide (v_23 < ((t.Writes.length : Nat) : Int)))
          (Option.bind (ixI t.Writes v_23) (fun v_26 =>
          Option.bind (G_regulatorref33_Put F v_20 (⟨v_26.Key, t.Ts, v_26.Value, v_26.Gone⟩ : KVersion)) (un2 fun v_30 v_31 =>
          some (.inl (v_30, IntKind.i64.wrap (v_23 + 1))))))
          (some (.inr v_20)) : Option (((List KVersion) × Int) ⊕ (List KVersion)))) (fun k => (((putsS m ((vsT t).take k)).1).map Ver.k, (k : Int))) t.Writes.length (m'.map Ver.k) ?_ ?_ hl
  · rw [show ((0 : Nat) : Int) = 0 from rfl] at this
    rw [show (putsS m ((vsT t).take 0)).1 = m from rfl] at this
    rw [this]; rfl
  · intro k hk
    obtain ⟨m1, m2, h1, h2, h3⟩ := puts_take h k (by omega)
    have hl1 := puts_len h1
    rw [List.length_take] at hl1
    simp only [un2, ltl hk, ifB_t, ixI_get hk, ob_some]
    rw [h1, h3]
    have e : (vsT t)[k]'(by omega) = (⟨t.Writes[k].Key, t.Ts, t.Writes[k].Value, t.Writes[k].Gone⟩ : KVersion).v := by unfold vsT; rw [List.getElem_map]; rfl
    rw [e] at h2
    rw [put_kr F (by omega) h2]
    simp only [ob_some, un2]
    rw [w64_nat (by omega)]
  · simp only [un2, ltn, ifB_f]
    rw [← hvl, List.take_length, h]
def stoS (ts : List KTx) : List Ver := (putsS [] (vsOf ts)).1
theorem stoS_ok {ts : List KTx} (h : logS ts = true) (hl : (vsOf ts).length ≤ 4000) : putsS [] (vsOf ts) = (stoS ts, 0) ∧ Sto (stoS ts) ∧ (stoS ts).length = (vsOf ts).length := by
 obtain ⟨m, h1, h2, h3, _⟩ := puts_nil (ins_of h) hl; have e : stoS ts = m := by unfold stoS; rw [h1]
 rw [e]; exact ⟨h1, h2, h3.length_eq⟩
theorem vsOf_take (ts : List KTx) (k : Nat) (hk : k < ts.length) : vsOf (ts.take (k + 1)) = vsOf (ts.take k) ++ vsT ts[k] := by
 rw [List.take_succ_eq_append_getElem hk, vs_app, vsOf_one]
theorem vsOf_len_take (ts : List KTx) (k : Nat) : (vsOf (ts.take k)).length ≤ (vsOf ts).length := by
 have : vsOf ts = vsOf (ts.take k) ++ vsOf (ts.drop k) := by rw [← vs_app, List.take_append_drop]
 rw [this, List.length_append]; omega
theorem sto_step {ts : List KTx} (h : logS ts = true) (hl : (vsOf ts).length ≤ 4000) (k : Nat) (hk : k < ts.length) : putsS (stoS (ts.take k)) (vsT ts[k]) = (stoS (ts.take (k + 1)), 0) := by
 obtain ⟨h1, _, _⟩ := stoS_ok (logS_take h k) (Nat.le_trans (vsOf_len_take ts k) hl); obtain ⟨h2, _, _⟩ := stoS_ok (logS_take h (k + 1)) (Nat.le_trans (vsOf_len_take ts (k + 1)) hl); rw [vsOf_take ts k hk] at h2; obtain ⟨m, h3, h4⟩ := puts_app h2; rw [h1] at h3; cases h3; exact h4
def ldr (ts : List KTx) : KLeader := ⟨lastT 0 ts, (stoS ts).map Ver.k, []⟩
theorem lastT_take (a : Int) (ts : List KTx) (k : Nat) (hk : k < ts.length) : lastT a (ts.take (k + 1)) = ts[k].Ts := by
 unfold lastT; rw [List.take_succ_eq_append_getElem hk, List.foldl_append]; rfl
theorem recover_p {b : List Int} (hb : By b) (hl : b.length ≤ 100000) (hv : (vsOf (txsS b)).length ≤ 4000) {F : Nat} (hF : 200000 < F) : G_journal_Recover F b = some (ldr (txsS b), (((logB (txsS b)).length : Nat) : Int), 0) := by
  have hc := txs_count hb
  unfold G_journal_Recover
  rw [load_p hb hl hF]
  simp only [ob_some, un3]
  rw [show ((0 : Int) == 0) = true from rfl, ifB_t]
  have hlog := txs_log b
  have hfew := txs_few (b := b)
  generalize txsS b = ts at hc hv hlog hfew ⊢
  have := iter_seq (f := un3 fun (v_106 : Int) (v_107 : Int) (v_108 : (List KVersion)) => 
          (ifB (decide (v_106 < ((ts.length : Nat) : Int)))
            (Option.bind (ixI ts v_106) (fun v_113 =>
            Option.bind (Option.bind (iter (σ := Int × (List KVersion)) (ρ := (List KVersion) ⊕ Int) (un2 fun (v_137 : Int) (v_138 : (List KVersion)) => 
                  (ifB (decide (v_137 < ((v_113.Writes.length : Nat) : Int)))
                    (Option.bind (ixI v_113.Writes v_137) (fun v_143 =>
                    Option.bind (G_versions_Put F v_138 (⟨v_143.Key, v_113.Ts, v_143.Value, v_143.Gone⟩ : KVersion)) (un2 fun v_147 v_148 =>
                    ifB ((v_148 == 0))
                      (some (.inl (IntKind.i64.wrap (v_137 + 1), v_147)))
                      (some (.inr (.inr v_148))))))
                    (some (.inr (.inl v_138))) : Option ((Int × (List KVersion)) ⊕ ((List KVersion) ⊕ Int)))) F (0, v_108)) (Sum.elim (fun (v_150 : (List KVersion)) => 
                some (.inl v_150)) (fun (v_153 : Int) => 
                some (.inr v_153))) : Option ((List KVersion) ⊕ Int)) (Sum.elim (fun (v_155 : (List KVersion)) => 
              some (.inl (IntKind.i64.wrap (v_106 + 1), v_113.Ts, v_155))) (fun (v_158 : Int) => 
              some (.inr (.inr v_158))))))
            (some (.inr (.inl (v_107, v_108)))) : Option ((Int × Int × (List KVersion)) ⊕ ((Int × (List KVersion)) ⊕ Int)))) (fun k => ((k : Int), lastT 0 (ts.take k), (stoS (ts.take k)).map Ver.k)) ts.length (.inl (lastT 0 ts, (stoS ts).map Ver.k)) ?_ ?_ (F := F) (by omega)
  · rw [show ((0 : Nat) : Int) = 0 from rfl] at this
    rw [show lastT 0 (ts.take 0) = 0 from rfl, show (stoS (ts.take 0)).map Ver.k = [] from rfl] at this
    rw [this]
    rfl
  · intro k hk
    have h1 := sto_step hlog hv k hk
    have hs := (stoS_ok (logS_take hlog k) (Nat.le_trans (vsOf_len_take ts k) hv)).2.2
    have hq := vsOf_len_take ts k
    simp only [un3, ltl hk, ifB_t, ixI_get hk, ob_some]
    rw [putT_p (by have := (hfew _ (List.getElem_mem hk)).w; omega) (by omega) h1 (by omega), lastT_take 0 ts k hk]
    simp only [ob_some, Sum.elim_inl]
    rw [w64_nat (by omega)]
  · simp only [un3, ltn, ifB_f, List.take_length]
theorem recover_r {b : List Int} (hb : By b) (hl : b.length ≤ 100000) (hv : (vsOf (txsS b)).length ≤ 4000) {F : Nat} (hF : 200000 < F) : G_regulatorref37_Recover F b = some (ldr (txsS b), (((logB (txsS b)).length : Nat) : Int), 0) := by
  have hc := txs_count hb
  unfold G_regulatorref37_Recover
  rw [load_r hb hl hF]
  simp only [ob_some, un3]
  rw [show ((0 : Int) == 0) = true from rfl, ifB_t]
  have hlog := txs_log b
  have hfew := txs_few (b := b)
  generalize txsS b = ts at hc hv hlog hfew ⊢
  have := iter_seq (f := un3 fun (v_36 : Int) (v_37 : (List KVersion)) (v_40 : Int) => 
          (ifB (decide (v_40 < ((ts.length : Nat) : Int)))
            (Option.bind (ixI ts v_40) (fun v_43 =>
            ifB (decide ((IntKind.i64.wrap (((v_37.length : Nat) : Int) + ((v_43.Writes.length : Nat) : Int))) > 4000))
              (some (.inr (.inr ())))
              (Option.bind (ixI ts v_40) (fun v_47 =>
              Option.bind (G_regulatorref34_With F v_37 v_47) (fun v_50 =>
              Option.bind (ixI ts v_40) (fun v_51 =>
              some (.inl (v_51.Ts, v_50, IntKind.i64.wrap (v_40 + 1)))))))))
            (some (.inr (.inl (v_36, v_37)))) : Option ((Int × (List KVersion) × Int) ⊕ ((Int × (List KVersion)) ⊕ Unit)))) (fun k => (lastT 0 (ts.take k), (stoS (ts.take k)).map Ver.k, (k : Int))) ts.length (.inl (lastT 0 ts, (stoS ts).map Ver.k)) ?_ ?_ (F := F) (by omega)
  · rw [show ((0 : Nat) : Int) = 0 from rfl] at this
    rw [show lastT 0 (ts.take 0) = 0 from rfl, show (stoS (ts.take 0)).map Ver.k = [] from rfl] at this
    rw [this]
    rfl
  · intro k hk
    have h1 := sto_step hlog hv k hk
    have hs := (stoS_ok (logS_take hlog k) (Nat.le_trans (vsOf_len_take ts k) hv)).2.2
    have hq := vsOf_len_take ts k
    have hq2 := vsOf_len_take ts (k + 1)
    rw [vsOf_take ts k hk, List.length_append, show (vsT ts[k]).length = ts[k].Writes.length from List.length_map _] at hq2
    simp only [un3, ltl hk, ifB_t, ixI_get hk, ob_some]
    rw [show IntKind.i64.wrap (((((stoS (ts.take k)).map Ver.k).length : Nat) : Int) + ((ts[k].Writes.length : Nat) : Int)) = (((stoS (ts.take k)).length + ts[k].Writes.length : Nat) : Int) from by rw [List.length_map, IntKind.wrap_i64]; omega, decide_eq_false (by omega), ifB_f, with_r (by have := (hfew _ (List.getElem_mem hk)).w; omega) (by omega) h1 (by omega), lastT_take 0 ts k hk]
    simp only [ob_some]
    rw [w64_nat (by omega)]
  · simp only [un3, ltn, ifB_f, List.take_length]
end Go.Proofs.Ytlfkgbideknkhaa
namespace Go.Proofs.Ytlfkgbideknkhaa
set_option maxRecDepth 1000000 in
theorem head37n (n : Nat) : G_regulatorlaw37_head (n + 300000) = some true := by kernel_rfl
theorem head37 {F : Nat} (hF : 300000 ≤ F) : G_regulatorlaw37_head F = some true := by
 obtain ⟨n, rfl⟩ : ∃ n, F = n + 300000 := ⟨F - 300000, by omega⟩; exact head37n n
end Go.Proofs.Ytlfkgbideknkhaa
namespace Go.Proofs.Ytlfkgbideknkhaa
open Go.ChangeShapes Go.WideShapes Go.ChangeAt Go.RowKit Go.Deep
theorem own : ownKnob Try.prog.godebug = none := by kernel_rfl
theorem laidOut : laidOutB Try.prog = true := by kernel_rfl
section
variable {H : Type} {enc : TypeId × Value → H}
theorem trodAll_below {P : Program} (hl : laidOutB P = true) {W W' : World} (hb : Below W.heap.size W W') : ∀ {ts : List TypeId} {vs : List Value} {ds : List (DataW H)} {ps : List MemPlace},
  (∀ t ∈ ts, P.readableRec t = true ∧ t < P.types.size) → DataW.TrodAll enc P W 0 (fun _ => true) true ts vs ds ps → (∀ x ∈ ps, x.block < W.heap.size) →
  DataW.TrodAll enc P W' 0 (fun b => decide (b < W.heap.size)) true ts vs ds ps
 | [], vs, ds, ps, _, h, _ => by
  obtain ⟨rfl, rfl, rfl⟩ := trodAll_nil h; rfl
 | t :: ts, vs, ds, ps, hr, h, hlt => by
  obtain ⟨v, vs', d, ds', p, q, rfl, rfl, rfl, h1, h2⟩ := trodAll_cons h; have h0 := hr t (by simp); exact trodAll_cons_mk (Below.trod hl h0.1 h0.2 h1 hb (fun x hx => hlt x (by simp [hx]))) (trodAll_below hl hb (fun t ht => hr t (by simp [ht])) h2 (fun x hx => hlt x (by simp [hx])))
theorem post_true {P : Program} {fn : Func} {s : ChangeSpec} {W W' : World} {args : Array Value} {ds gs : List (DataW H)} {before : List MemPlace} {b : TypeId} (hl : laidOutB P = true)
  (hr : ∀ t ∈ fn.params.toList, P.readableRec t = true ∧ t < P.types.size) (hb4 : P.underlying b = some .bool) (hrt : fn.resultTypes = #[b]) (hs : s.vars = [])
  (hW : DataW.Whole enc P fn.params.toList s.vars false W args.toList ds gs before) (hres : (s.fn H (ds ++ gs)).results = [.lit (.bool true)]) (hargs : (s.fn H (ds ++ gs)).args = ds) (hvs : (s.fn H (ds ++ gs)).vars = [])
  (hb : Below W.heap.size W W') : s.post enc P fn false true false false W args (.bool true) W' := by
 have hW' := hW; obtain ⟨p, q, hA, hV, rfl, _, _⟩ := hW; rw [hs] at hV; obtain ⟨rfl, rfl⟩ := trodVars_none hV; refine ⟨_, _, _, [], p, [], hW', ?_, ?_, ?_, hb.frame _, fun h => by cases h⟩
 ·rw [hres, hrt]; exact trodAll_mk1 (shut_bool hb4 true)
 ·rw [hargs]; exact trodAll_below hl hb hr hA (fun x hx => by simpa using hW'.lt x (by simp [hx]))
 ·rw [hvs, hs]; rfl
end
end Go.Proofs.Ytlfkgbideknkhaa
namespace Go.Proofs.Ytlfkgbideknkhaa
open Go.ChangeShapes Go.WideShapes Go.ChangeAt Go.RowKit Go.Deep
def inKd (k : IntKind) (n : Int) : Prop := (Lit.int k n).wf = true
theorem inKd_u8 {n : Int} (h : inKd .u8 n) : 0 ≤ n ∧ n ≤ 255 := by
 have : IntKind.u8.min ≤ n ∧ n ≤ IntKind.u8.max := by simpa [inKd, Lit.wf] using h
 rwa [show IntKind.u8.min = 0 by decide, show IntKind.u8.max = 255 by decide] at this
theorem rowS_all {w : World} {A : Option Addr} {xs : List Value} (h : Rd w A xs) : RowS (fun g => g < w.heap.size) w A xs := ⟨h, fun hn => by obtain ⟨b, o, e, hb, _⟩ := h hn; exact ⟨b, o, e, hb⟩⟩
theorem choose_ltK {α : Type} [Inhabited α] {n : Nat} {p : Nat → α → Prop} (h : ∀ i, i < n → ∃ v, p i v) : ∃ V : Nat → α, ∀ i, i < n → p i (V i) := by
 have h' : ∀ i, ∃ v, i < n → p i v := fun i => by
  rcases Nat.lt_or_ge i n with hi | hi
  ·obtain ⟨v, hv⟩ := h i hi; exact ⟨v, fun _ => hv⟩
  ·exact ⟨default, fun h => absurd h (Nat.not_lt.2 hi)⟩
 exact ⟨fun i => Classical.choose (h' i), fun i => Classical.choose_spec (h' i)⟩
theorem flr_get {α : Type} (f : α → List Value) (m : Nat) (hm : ∀ x, (f x).length = m) : ∀ (l : List α) (k j : Nat) (hk : k < l.length), j < m → (l.flatMap f)[k * m + j]? = (f l[k])[j]?
 | [], k, j, hk, _ => absurd hk (Nat.not_lt_zero _)
 | x :: l, 0, j, _, hj => by
  rw [List.flatMap_cons, Nat.zero_mul, Nat.zero_add, List.getElem?_append_left (by rw [hm]; exact hj)]; rfl
 | x :: l, k + 1, j, hk, hj => by
  rw [List.flatMap_cons, List.getElem?_append_right (by rw [hm, Nat.add_mul]; omega), hm]; have := flr_get f m hm l k j (by simpa using hk) hj; rw [← show (k + 1) * m + j - m = k * m + j from by rw [Nat.add_mul]; omega] at this; exact this
theorem cell_ltK {w : World} {b o : Nat} {u : Value} (h : w.cell? ⟨b, o, none⟩ = some u) : b < w.heap.size := World.block_lt_of_cell? w ⟨b, o, none⟩ h
section
variable {α : Type} {f : α → List Value} {m : Nat} {w : World}
theorem rd_mk {b o : Nat} {l : List α} (hm : ∀ x, (f x).length = m) (h0 : 0 < m) (h : ∀ i (hi : i < l.length) j, j < m → w.cell? ⟨b, o + i * m + j, none⟩ = (f l[i])[j]?) : Rd w (some ⟨b, o, none⟩) (l.flatMap f) := fun hne => by
 have hl : 0 < l.length := by
  cases l with
  | nil => exact absurd rfl hne
  | cons _ _ => simp
 have hlen := fl_len f m hm l; refine ⟨b, o, rfl, ?_, fun j u hu => ?_⟩
 ·have h1 := h 0 hl 0 h0; have h2 : (f l[0])[0]? = some ((f l[0])[0]'(by rw [hm]; exact h0)) := List.getElem?_eq_getElem _; rw [h2] at h1; exact cell_ltK h1
 ·have hj : j < l.length * m := by
   have := (List.getElem?_eq_some_iff.1 hu).1
   rwa [hlen] at this
  have hi : j / m < l.length := Nat.div_lt_of_lt_mul (by rw [Nat.mul_comm]; exact hj); have hr : j % m < m := Nat.mod_lt _ h0; have he : j / m * m + j % m = j := by rw [Nat.mul_comm]; exact Nat.div_add_mod _ _
  have hg := flr_get f m hm l (j / m) (j % m) hi hr; rw [he] at hg; rw [hg] at hu; have := h (j / m) hi (j % m) hr; rw [Nat.add_assoc, he] at this; rw [this]; exact hu
end
section
variable {H : Type} {enc : TypeId × Value → H} {w : World} {base : Nat} {spare : Nat → Bool} {held : Bool}
theorem trod_rowS {α : Type} [Inhabited α] (f : α → List Value) {m : Nat} (h0 : 0 < m) (hm : ∀ x, (f x).length = m) {T E : TypeId} (hu : Try.prog.underlying T = some (.slice E)) (hc : Try.prog.cellsOf E = m) (Q : α → Prop)
  (hE : ∀ n cs x, DataW.trod enc Try.prog w base spare held n E cs = some x → ∃ v, cs = f v ∧ Q v) {fuel : Nat} {cs : List Value} {x : DataW H × List MemPlace} (h : DataW.trod enc Try.prog w base spare held fuel T cs = some x) :
  ∃ (A : Option Addr) (c : Nat) (l : List α), cs = [.slice A l.length c] ∧ l.length ≤ c ∧ c ≤ maxLen ∧ Rd w A (l.flatMap f) ∧ ∀ v ∈ l, Q v := by
 obtain ⟨d, p⟩ := x; rcases open_slice hu h with ⟨hcs, _⟩ | ⟨a, len, cap, mm, n, D, Pl, hcs, _, hl, hmx, hmm, _, hx⟩
 ·exact ⟨none, 0, [], hcs, Nat.le_refl _, Nat.zero_le _, Rd.nil _ _, fun v hv => by cases hv⟩
 ·have hlm : len ≤ mm := by rw [hmm]; split <;> omega
  have hex : ∀ i, i < len → ∃ v : α, (∀ j, j < m → w.cell? ((a.add (i * m)).add j) = (f v)[j]?) ∧ Q v := fun i hi => by
   obtain ⟨cs', h1, h2⟩ := hx i (by omega); rw [hc] at h1; obtain ⟨v, rfl, hq⟩ := hE _ _ _ h2; exact ⟨v, (World.cells?_some h1).2.2, hq⟩
  obtain ⟨V, hV⟩ := choose_ltK hex; refine ⟨some a, cap, (List.range len).map V, by rw [hcs]; simp, by simpa using hl, hmx, ?_, ?_⟩
  ·rcases Nat.eq_zero_or_pos len with h00 | h00
   ·subst h00; exact Rd.nil _ _
   obtain ⟨b, o, spot⟩ := a; have hs : spot = none := by
    have := (hV 0 h00).1 0 h0; simp only [Nat.zero_mul, Addr.add, if_true] at this; have h2 : (f (V 0))[0]? = some ((f (V 0))[0]'(by rw [hm]; exact h0)) := List.getElem?_eq_getElem _; rw [h2] at this; exact World.cell?_spot this
   subst hs; refine rd_mk hm h0 fun i hi j hj => ?_
   have hi' : i < len := by simpa using hi
   have e : ∀ j, (((⟨b, o, none⟩ : Addr).add (i * m)).add j) = ⟨b, o + i * m + j, none⟩ := fun j => by rw [add_addr, add_addr]
   have hcc := (hV i hi').1 j hj; rw [e] at hcc; simp only [List.getElem_map, List.getElem_range]; exact hcc
  ·intro v hv; obtain ⟨i, hi, rfl⟩ := List.mem_map.1 hv; exact (hV i (List.mem_range.1 hi)).2
end
end Go.Proofs.Ytlfkgbideknkhaa
namespace Go.Proofs.Ytlfkgbideknkhaa
open Go.ChangeShapes Go.WideShapes Go.ChangeAt Go.RowKit Go.Deep
section
variable {H : Type} {enc : TypeId × Value → H} {w : World} {base : Nat} {spare : Nat → Bool} {held : Bool}
set_option maxRecDepth 10000
theorem trod_uint8 {n : Nat} {cs : List Value} {x : DataW H × List MemPlace} (h : DataW.trod enc Try.prog w base spare held n 5 cs = some x) : ∃ v : Int, cs = c_u8 v ∧ inKd .u8 v := by
 obtain ⟨a, e, _, hw⟩ := DataW.trod_int Try.underlying5 h; exact ⟨a, e, hw⟩
theorem cl_uint8 : Try.prog.cellsOf 5 = 1 := by kernel_rfl
theorem trod_Sl_uint8 {n : Nat} {cs : List Value} {x : DataW H × List MemPlace} (h : DataW.trod enc Try.prog w base spare held n 22 cs = some x) :
  ∃ (A : Option Addr) (c : Nat) (l : List Int), cs = [.slice A l.length c] ∧ RowC A c c_u8 tr l (fun g => g < w.heap.size) w ∧ (∀ y ∈ l, inKd .u8 y) := by
 obtain ⟨A, c, l, h1, h2, h3, h4, h5⟩ := trod_rowS c_u8 (m := 1) (by decide) (fun _ => rfl) Try.underlying22 cl_uint8 (fun v : Int => inKd .u8 v) (fun _ _ _ hx => trod_uint8 hx) h; exact ⟨A, c, l, h1, ⟨rowS_all h4, h2, fun _ _ => trivial⟩, h5⟩
theorem opn_Sl_uint8 {r : Reach} {b0 : Nat} {v : Value} {d : DataW H} {p : List MemPlace} (hv : Value.okWide Try.prog w r b0 22 v) (h : DataW.Trod enc Try.prog w base spare held 22 v d p) : ∃ (A : Option Addr) (c : Nat) (l : List Int), v = .slice A l.length c ∧ RowC A c c_u8 tr l (fun g => g < w.heap.size) w ∧ (∀ y ∈ l, inKd .u8 y) := by
 obtain ⟨a0, len0, cap0, rfl⟩ := okWide_slice Try.underlying22 hv; obtain ⟨fuel, hf⟩ := h; obtain ⟨A, c, l, e, h1, h2⟩ := trod_Sl_uint8 hf; simp only [Value.cells, List.cons.injEq, and_true] at e; exact ⟨A, c, l, e, h1, h2⟩
theorem trod_int {n : Nat} {cs : List Value} {x : DataW H × List MemPlace} (h : DataW.trod enc Try.prog w base spare held n 3 cs = some x) : ∃ v : Int, cs = c_i64 v ∧ inKd .i64 v := by
 obtain ⟨a, e, _, hw⟩ := DataW.trod_int Try.underlying3 h; exact ⟨a, e, hw⟩
theorem cl_int : Try.prog.cellsOf 3 = 1 := by kernel_rfl
theorem cl_api_Seen : Try.prog.cellsOf 95 = 2 := by kernel_rfl
structure KSeen.rng (x : KSeen) : Prop where
 r_Key : inKd .i64 x.Key
 r_Ts : inKd .i64 x.Ts
theorem tf_api_Seen : ∃ f0 f1 : Field, Try.prog.underlying 95 = some (.struct #[f0, f1]) ∧ (f0.offset = 0 ∧ f0.type = 3) ∧ (f1.offset = 1 ∧ f1.type = 3) := ⟨_, _, Try.underlying95, ⟨by kernel_rfl, by kernel_rfl⟩, ⟨by kernel_rfl, by kernel_rfl⟩⟩
theorem trod_api_Seen {n : Nat} {cs : List Value} {x : DataW H × List MemPlace} (h : DataW.trod enc Try.prog w base spare held n 95 cs = some x) : ∃ v : KSeen, cs = v.cells ∧ KSeen.rng v := by
 obtain ⟨f0, f1, hu, ⟨o0, t0⟩, ⟨o1, t1⟩⟩ := tf_api_Seen; obtain ⟨xs, n', _, _, hlen, hxl, hf⟩ := DataW.trod_struct hu h; rw [cl_api_Seen] at hlen
 match cs, hlen with
 | [c0, c1], _ =>
  have q0 := hf 0 f0 rfl; obtain ⟨y0, hy0⟩ : ∃ y, xs[0]? = some y := ⟨_, List.getElem?_eq_getElem (by rw [hxl]; exact (by decide : 0 < 2))⟩; rw [hy0, o0, t0, cl_int] at q0; obtain ⟨v0, e0, hg0⟩ := trod_int q0; replace e0 : [c0] = [I v0] := e0; simp only [List.cons.injEq, and_true] at e0; obtain rfl := e0; have q1 := hf 1 f1 rfl; obtain ⟨y1, hy1⟩ : ∃ y, xs[1]? = some y := ⟨_, List.getElem?_eq_getElem (by rw [hxl]; exact (by decide : 1 < 2))⟩; rw [hy1, o1, t1, cl_int] at q1; obtain ⟨v1, e1, hg1⟩ := trod_int q1; replace e1 : [c1] = [I v1] := e1; simp only [List.cons.injEq, and_true] at e1; obtain rfl := e1; exact ⟨⟨v0, v1⟩, rfl, ⟨hg0, hg1⟩⟩
instance : Inhabited KSeen := ⟨⟨0, 0⟩⟩
theorem trod_Sl_api_Seen {n : Nat} {cs : List Value} {x : DataW H × List MemPlace} (h : DataW.trod enc Try.prog w base spare held n 23 cs = some x) :
  ∃ (A : Option Addr) (c : Nat) (l : List KSeen), cs = [.slice A l.length c] ∧ RowC A c KSeen.cells tr l (fun g => g < w.heap.size) w ∧ (∀ y ∈ l, KSeen.rng y) := by
 obtain ⟨A, c, l, h1, h2, h3, h4, h5⟩ := trod_rowS KSeen.cells (m := 2) (by decide) (fun _ => rfl) Try.underlying23 cl_api_Seen (fun v : KSeen => KSeen.rng v) (fun _ _ _ hx => trod_api_Seen hx) h; exact ⟨A, c, l, h1, ⟨rowS_all h4, h2, fun _ _ => trivial⟩, h5⟩
theorem cl_Sl_api_Seen : Try.prog.cellsOf 23 = 1 := by kernel_rfl
theorem trod_bool {n : Nat} {cs : List Value} {x : DataW H × List MemPlace} (h : DataW.trod enc Try.prog w base spare held n 4 cs = some x) : ∃ v : Bool, cs = c_bool v ∧ True := by
 obtain ⟨a, e, _⟩ := DataW.trod_bool Try.underlying4 h; exact ⟨a, e, trivial⟩
theorem cl_bool : Try.prog.cellsOf 4 = 1 := by kernel_rfl
theorem cl_api_Write : Try.prog.cellsOf 66 = 3 := by kernel_rfl
structure KWrite.rng (x : KWrite) : Prop where
 r_Key : inKd .i64 x.Key
 r_Value : inKd .i64 x.Value
 r_Gone : (fun _ : Bool => True) x.Gone
theorem tf_api_Write : ∃ f0 f1 f2 : Field, Try.prog.underlying 66 = some (.struct #[f0, f1, f2]) ∧ (f0.offset = 0 ∧ f0.type = 3) ∧ (f1.offset = 1 ∧ f1.type = 3) ∧ (f2.offset = 2 ∧ f2.type = 4) := ⟨_, _, _, Try.underlying66, ⟨by kernel_rfl, by kernel_rfl⟩, ⟨by kernel_rfl, by kernel_rfl⟩, ⟨by kernel_rfl, by kernel_rfl⟩⟩
theorem trod_api_Write {n : Nat} {cs : List Value} {x : DataW H × List MemPlace} (h : DataW.trod enc Try.prog w base spare held n 66 cs = some x) : ∃ v : KWrite, cs = v.cells ∧ KWrite.rng v := by
 obtain ⟨f0, f1, f2, hu, ⟨o0, t0⟩, ⟨o1, t1⟩, ⟨o2, t2⟩⟩ := tf_api_Write; obtain ⟨xs, n', _, _, hlen, hxl, hf⟩ := DataW.trod_struct hu h; rw [cl_api_Write] at hlen
 match cs, hlen with
 | [c0, c1, c2], _ =>
  have q0 := hf 0 f0 rfl; obtain ⟨y0, hy0⟩ : ∃ y, xs[0]? = some y := ⟨_, List.getElem?_eq_getElem (by rw [hxl]; exact (by decide : 0 < 3))⟩; rw [hy0, o0, t0, cl_int] at q0; obtain ⟨v0, e0, hg0⟩ := trod_int q0; replace e0 : [c0] = [I v0] := e0; simp only [List.cons.injEq, and_true] at e0; obtain rfl := e0; have q1 := hf 1 f1 rfl; obtain ⟨y1, hy1⟩ : ∃ y, xs[1]? = some y := ⟨_, List.getElem?_eq_getElem (by rw [hxl]; exact (by decide : 1 < 3))⟩; rw [hy1, o1, t1, cl_int] at q1; obtain ⟨v1, e1, hg1⟩ := trod_int q1; replace e1 : [c1] = [I v1] := e1; simp only [List.cons.injEq, and_true] at e1; obtain rfl := e1; have q2 := hf 2 f2 rfl; obtain ⟨y2, hy2⟩ : ∃ y, xs[2]? = some y := ⟨_, List.getElem?_eq_getElem (by rw [hxl]; exact (by decide : 2 < 3))⟩; rw [hy2, o2, t2, cl_bool] at q2; obtain ⟨v2, e2, hg2⟩ := trod_bool q2; replace e2 : [c2] = [B v2] := e2; simp only [List.cons.injEq, and_true] at e2; obtain rfl := e2; exact ⟨⟨v0, v1, v2⟩, rfl, ⟨hg0, hg1, hg2⟩⟩
instance : Inhabited KWrite := ⟨⟨0, 0, false⟩⟩
theorem trod_Sl_api_Write {n : Nat} {cs : List Value} {x : DataW H × List MemPlace} (h : DataW.trod enc Try.prog w base spare held n 24 cs = some x) :
  ∃ (A : Option Addr) (c : Nat) (l : List KWrite), cs = [.slice A l.length c] ∧ RowC A c KWrite.cells tr l (fun g => g < w.heap.size) w ∧ (∀ y ∈ l, KWrite.rng y) := by
 obtain ⟨A, c, l, h1, h2, h3, h4, h5⟩ := trod_rowS KWrite.cells (m := 3) (by decide) (fun _ => rfl) Try.underlying24 cl_api_Write (fun v : KWrite => KWrite.rng v) (fun _ _ _ hx => trod_api_Write hx) h; exact ⟨A, c, l, h1, ⟨rowS_all h4, h2, fun _ _ => trivial⟩, h5⟩
theorem cl_Sl_api_Write : Try.prog.cellsOf 24 = 1 := by kernel_rfl
theorem cl_api_Tx : Try.prog.cellsOf 26 = 4 := by kernel_rfl
structure KTx.rng (x : KTx) : Prop where
 r_ID : inKd .i64 x.ID
 r_Ts : inKd .i64 x.Ts
 r_Reads : (fun l : List KSeen => ∀ y ∈ l, KSeen.rng y) x.Reads
 r_Writes : (fun l : List KWrite => ∀ y ∈ l, KWrite.rng y) x.Writes
theorem tf_api_Tx : ∃ f0 f1 f2 f3 : Field, Try.prog.underlying 26 = some (.struct #[f0, f1, f2, f3]) ∧ (f0.offset = 0 ∧ f0.type = 3) ∧ (f1.offset = 1 ∧ f1.type = 3) ∧ (f2.offset = 2 ∧ f2.type = 23) ∧ (f3.offset = 3 ∧ f3.type = 24) := ⟨_, _, _, _, Try.underlying26, ⟨by kernel_rfl, by kernel_rfl⟩, ⟨by kernel_rfl, by kernel_rfl⟩, ⟨by kernel_rfl, by kernel_rfl⟩, ⟨by kernel_rfl, by kernel_rfl⟩⟩
theorem trod_api_Tx {n : Nat} {cs : List Value} {x : DataW H × List MemPlace} (h : DataW.trod enc Try.prog w base spare held n 26 cs = some x) : ∃ v : KTxL, cs = v.cells ∧ KTxL.ok v (fun g => g < w.heap.size) w ∧ KTx.rng v.p := by
 obtain ⟨f0, f1, f2, f3, hu, ⟨o0, t0⟩, ⟨o1, t1⟩, ⟨o2, t2⟩, ⟨o3, t3⟩⟩ := tf_api_Tx; obtain ⟨xs, n', _, _, hlen, hxl, hf⟩ := DataW.trod_struct hu h; rw [cl_api_Tx] at hlen
 match cs, hlen with
 | [c0, c1, c2, c3], _ =>
  have q0 := hf 0 f0 rfl; obtain ⟨y0, hy0⟩ : ∃ y, xs[0]? = some y := ⟨_, List.getElem?_eq_getElem (by rw [hxl]; exact (by decide : 0 < 4))⟩; rw [hy0, o0, t0, cl_int] at q0; obtain ⟨v0, e0, hg0⟩ := trod_int q0; replace e0 : [c0] = [I v0] := e0; simp only [List.cons.injEq, and_true] at e0; obtain rfl := e0; have q1 := hf 1 f1 rfl; obtain ⟨y1, hy1⟩ : ∃ y, xs[1]? = some y := ⟨_, List.getElem?_eq_getElem (by rw [hxl]; exact (by decide : 1 < 4))⟩; rw [hy1, o1, t1, cl_int] at q1; obtain ⟨v1, e1, hg1⟩ := trod_int q1; replace e1 : [c1] = [I v1] := e1; simp only [List.cons.injEq, and_true] at e1; obtain rfl := e1; have q2 := hf 2 f2 rfl; obtain ⟨y2, hy2⟩ : ∃ y, xs[2]? = some y := ⟨_, List.getElem?_eq_getElem (by rw [hxl]; exact (by decide : 2 < 4))⟩; rw [hy2, o2, t2, cl_Sl_api_Seen] at q2; obtain ⟨A2, k2, v2, e2, hr2, hg2⟩ := trod_Sl_api_Seen q2; replace e2 : [c2] = [.slice A2 v2.length k2] := e2; simp only [List.cons.injEq, and_true] at e2; obtain rfl := e2; have q3 := hf 3 f3 rfl; obtain ⟨y3, hy3⟩ : ∃ y, xs[3]? = some y := ⟨_, List.getElem?_eq_getElem (by rw [hxl]; exact (by decide : 3 < 4))⟩; rw [hy3, o3, t3, cl_Sl_api_Write] at q3; obtain ⟨A3, k3, v3, e3, hr3, hg3⟩ := trod_Sl_api_Write q3; replace e3 : [c3] = [.slice A3 v3.length k3] := e3; simp only [List.cons.injEq, and_true] at e3; obtain rfl := e3; exact ⟨⟨v0, v1, A2, k2, v2, A3, k3, v3⟩, rfl, ⟨hr2, hr3⟩, ⟨hg0, hg1, hg2, hg3⟩⟩
theorem opn_api_Tx {r : Reach} {b0 : Nat} {v : Value} {d : DataW H} {p : List MemPlace} (hv : Value.okWide Try.prog w r b0 26 v) (h : DataW.Trod enc Try.prog w base spare held 26 v d p) : ∃ x : KTxL, v = .agg #[I x.ID, I x.Ts, .slice x.Reads_A x.Reads.length x.Reads_c, .slice x.Writes_A x.Writes.length x.Writes_c] ∧ KTxL.ok x (fun g => g < w.heap.size) w ∧ KTx.rng x.p := by
 obtain ⟨f0, f1, f2, f3, hu, _⟩ := tf_api_Tx; obtain ⟨cs, rfl, hsz⟩ := okWide_struct hu hv; obtain ⟨fuel, hf⟩ := h; obtain ⟨x, hx, hw⟩ := trod_api_Tx hf; refine ⟨x, congrArg Value.agg ?_, hw⟩; have : cs.toList = x.cells := by simpa [Value.cells] using hx
 rw [← Array.toArray_toList (xs := cs), this]; rfl
instance : Inhabited KTxL := ⟨⟨0, 0, none, 0, [], none, 0, []⟩⟩
structure KInterval.rng (x : KInterval) : Prop where
 r_Lo : inKd .i64 x.Lo
 r_Hi : inKd .i64 x.Hi
end
end Go.Proofs.Ytlfkgbideknkhaa
namespace Go.Proofs.Ytlfkgbideknkhaa
open Go.RowKit
theorem few_p (b : List Int) (F : Nat) : G_regulatorlaw37_few F b = some (b.take 3000) := by
 unfold G_regulatorlaw37_few; have e : min ((b.length : Nat) : Int) 3000 = ((min b.length 3000 : Nat) : Int) := by omega
 rw [e, show (0 : Int) = ((0 : Nat) : Int) from rfl, slI_ok (Nat.zero_le _) (by omega), ob_some, List.drop_zero]
 congr 1
 rcases Nat.le_total b.length 3000 with h | h
 ·rw [Nat.min_eq_left h, List.take_length, List.take_of_length_le h]
 ·rw [Nat.min_eq_right h]
theorem by_take {b : List Int} (h : ∀ y ∈ b, inKd .u8 y) (n : Nat) : By (b.take n) := fun x hx => by
 obtain ⟨h1, h2⟩ := inKd_u8 (h x (List.mem_of_mem_take hx)); omega
theorem vs_small {b : List Int} (hb : By b) (hl : b.length ≤ 5000) : (vsOf (txsS b)).length ≤ 4000 := by
 have h1 := vs_len (txs_log b); have h2 := txs_count hb; omega
theorem fewOne (t : KTx) {F : Nat} (hF : 2 ≤ F) : G_regulatorref34_FewTxs F [t] = some (fewTB t) := by
 rw [fewTxs_r [t] (by simp only [List.length_cons, List.length_nil]; omega) (by simp)]
 simp
theorem appS_len {b : List Int} {t : KTx} (hl : b.length ≤ 3000) : (appS b t).1.length ≤ 100000 := by
 unfold appS
 split
 ·split
  ·split
   ·simp
   ·split
    ·rw [List.length_append]; omega
    ·simp
  ·simp
 ·simp
theorem law37_match {b : List Int} {t : KTx} (hb : ∀ y ∈ b, inKd .u8 y) : G_regulatorlaw37_JournalMatchesReference 300000 b t = some true := by
 have hB := by_take hb 3000; have hl : (b.take 3000).length ≤ 3000 := by rw [List.length_take]; omega
 unfold G_regulatorlaw37_JournalMatchesReference; rw [head37 (Nat.le_refl _), ob_some, few_p, ob_some, fewOne t (by omega), ob_some]; cases hf : fewTB t with
 | false => rfl
 | true =>
  have ht := fewT_iff.1 hf; have hc := txs_count hB; have hv := vs_small hB (by omega); have hs := (stoS_ok (txs_log _) hv).2.2; have hal := appS_len (t := t) hl; rw [ifB_t, app_p hB (by omega) ht (by omega), app_r hB (by omega) ht (by omega), load_p hB (by omega) (by omega), load_r hB (by omega) (by omega), recover_p hB (by omega) hv (by omega), recover_r hB (by omega) hv (by omega)]; generalize appS (b.take 3000) t = q at hal ⊢; obtain ⟨x, y⟩ := q; simp only [ob_some, un2, un3]; rw [same_r (show x.length ≤ 1000000 by have := hal; simp only at this; omega) (show x.length < 300000 by have := hal; simp only at this; omega), sTxs_r _ _ (by omega) txs_few (by omega), same34_r _ _ (by show ((stoS _).map Ver.k).length ≤ _; rw [List.length_map]; omega) (by show ([] : List KTx).length ≤ _; simp) (fun t ht => absurd ht List.not_mem_nil) (by omega)]; simp only [ob_some, decide_true, ifB_t, beq_self_eq_true]
end Go.Proofs.Ytlfkgbideknkhaa
