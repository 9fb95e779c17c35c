/-
  Texts joined: Na, Nb, Nc, Nd, TbL.
-/
import Derived.Test.YtiijddjfiojfaaaDoorRows
import Derived.Lib.LaidU8
import Derived.Test.YtiijddjfiojfaaaDoorK10
import Derived.Test.YtiijddjfiojfaaaDoorK13
namespace Go.Proofs.YtiijddjfiojfaaaDoor
open Go.RowKit
section
variable {ρ : Type}
def fdN (p : Nat → Bool) : Nat → Nat → Option Nat
 | 0, _ => none
 | m + 1, k => if p k = true then some k else fdN p m (k + 1)
theorem fdN_some {p : Nat → Bool} : ∀ {m k j : Nat}, fdN p m k = some j → (k ≤ j ∧ j < k + m) ∧ p j = true ∧ ∀ i, k ≤ i → i < j → p i = false
 | m + 1, k, j, h => by
  unfold fdN at h
  split at h
  ·next hp => cases h; exact ⟨⟨Nat.le_refl _, by omega⟩, hp, fun i h1 h2 => absurd h2 (by omega)⟩
  ·next hp =>
   obtain ⟨h1, h2, h3⟩ := fdN_some h; refine ⟨⟨by omega, by omega⟩, h2, fun i h4 h5 => ?_⟩; rcases Nat.eq_or_lt_of_le h4 with rfl | h4
   ·simpa using hp
   ·exact h3 i h4 h5
theorem iter_fd {f : Int → Option (Int ⊕ ρ)} (n : Nat) (p : Nat → Bool) (a : ρ) (b : Nat → ρ) (hn : f (n : Int) = some (.inr a)) (hk : ∀ k, k < n → f (k : Int) = some (if p k = true then .inr (b k) else .inl ((k + 1 : Nat) : Int))) {F : Nat} (hF : n < F) :
  iter f F 0 = some (match fdN p n 0 with | some k => b k | none => a) := by
 have key : ∀ (m k F : Nat), k + m = n → m < F → iter f F (k : Int) = some (match fdN p m k with | some k => b k | none => a) := by
  intro m
  induction m with
  | zero =>
   intro k F hm hF; obtain ⟨F', rfl⟩ : ∃ F', F = F' + 1 := ⟨F - 1, by omega⟩; have : k = n := by omega
   subst this; unfold iter; rw [hn]; rfl
  | succ m ih =>
   intro k F hm hF; obtain ⟨F', rfl⟩ : ∃ F', F = F' + 1 := ⟨F - 1, by omega⟩; unfold iter fdN; rw [hk k (by omega)]; cases hp : p k with
   | true => simp
   | false =>
    simp only [Bool.false_eq_true, if_false]; exact ih (k + 1) F' (by omega) (by omega)
 exact key n 0 F (by omega) hF
end
theorem pub4 : pubB 4 = true := by
 have := pubF_pub (k := 1) rfl
 rwa [show pubF 1 = 4 by unfold pubF; rw [show (1 : Int).toNat = 1 from rfl, pw_m]; rfl] at this
def digF (h : KHead) : Int := intsF (msgF h ++ [h.Sig.C, h.Sig.S])
theorem inI_dig {h : KHead} (hr : h.rng) : inI (msgF h ++ [h.Sig.C, h.Sig.S]) := inI_app (inI_msg hr.r_Office hr.r_Size) (inI_pair (inKd_i64 hr.r_Sig.r_C) (inKd_i64 hr.r_Sig.r_S))
theorem dig_p {h : KHead} (hr : h.rng) {F : Nat} (hF : 64 ≤ F) : G_cross_Digest F h = some (digF h) := by
 unfold G_cross_Digest; rw [low32 (inKd_u64 hr.r_Root).1 (inKd_u64 hr.r_Root).2]; have h := dints (inI_dig hr) (by simp [msgF]) hF; unfold msgF at h; simp only [List.cons_append, List.nil_append] at h; rw [h]; rfl
theorem rightS_e {pub : Int} {h : KHead} : ((rightS pub h).2 == 0) = (pubB pub && fH h) := by
 unfold rightS; cases pubB pub && fH h <;> rfl
theorem formed_p {h : KHead} (h1 : inKd .i64 h.Office) (h2 : inKd .i64 h.Size) {F : Nat} (hF : 64 ≤ F) : G_cross_formed F h = some (fH h) := by
 unfold G_cross_formed; rw [right_p h1 h2 hF]; rw [ob_some, un2_p]; rw [rightS_e, pub4]; rfl
theorem vals_c {o : KOffice} (hr : o.rng) {n : Nat} (hn : n ≤ o.Entries.length) (hl : n ≤ 60) {F : Nat} (hF : 64 ≤ F) : G_cross_values F o (n : Int) = some (valsF o n) := by
 unfold G_cross_values; rw [show (0 : Int) = ((0 : Nat) : Int) from rfl, slI_ok (Nat.zero_le n) hn]; simp only [ob_some, List.drop_zero]; rw [show ((0 : Nat) : Int) = 0 from rfl, coll_p (fun e he => hr.r_Entries e (List.mem_of_mem_take he)) (by rw [List.length_take]; omega) hF]; rfl
def hasS (o : KOffice) (h : KHead) : Bool := decide (h.Office = o.ID) && (decide (h.Size ≤ (o.Entries.length : Int)) && decide (rootF (valsF o h.Size.toNat) = h.Root))
theorem pRoot (l : List Int) {F : Nat} (hF : 64 ≤ F) : G_tree_Root F l = some (rootS l) := by
 obtain ⟨F', rfl⟩ : ∃ F', F = F' + 1 := ⟨F - 1, by omega⟩; rfl
theorem has_p {o : KOffice} (hr : o.rng) (hl : o.Entries.length ≤ 50) {h : KHead} (h1 : 1 ≤ h.Size) {F : Nat} (hF : 64 ≤ F) : G_cross_has F o h = some (hasS o h) := by
 unfold G_cross_has hasS
 by_cases ho : h.Office = o.ID
 ·rw [show (h.Office == o.ID) = true from beq_iff_eq.2 ho, show decide (h.Office = o.ID) = true from decide_eq_true ho]; obtain ⟨k, hk⟩ : ∃ k : Nat, h.Size = k := ⟨h.Size.toNat, by omega⟩; simp only [ifB_t, ob_some, hk]; rw [hk] at h1
  by_cases hs : (k : Int) ≤ ((o.Entries.length : Nat) : Int)
  ·rw [show decide ((k : Int) > ((o.Entries.length : Nat) : Int)) = false from decide_eq_false (by omega), show decide ((k : Int) ≤ ((o.Entries.length : Nat) : Int)) = true from decide_eq_true hs, ifB_f, vals_c hr (by omega) (by omega) hF]; have hL : (valsF o k).length = k := valsF_len (by omega); simp only [ob_some]; rw [pRoot _ hF, rootS_ok (by rw [hL]; omega) (by rw [hL]; omega)]; simp only [un2, ob_some, beq_self_eq_true, ifB_t, Int.toNat_natCast, Bool.true_and]; rfl
  ·rw [show decide ((k : Int) > ((o.Entries.length : Nat) : Int)) = true from decide_eq_true (by omega), show decide ((k : Int) ≤ ((o.Entries.length : Nat) : Int)) = false from decide_eq_false hs]; rfl
 ·rw [show (h.Office == o.ID) = false from beq_eq_false_iff_ne.2 ho, show decide (h.Office = o.ID) = false from decide_eq_false ho]; rfl
def zH : KHop := ⟨⟨0, 0, 0, ⟨0, 0⟩⟩, [], zR⟩
def fndS (l : List KEntry) (n : Nat) (d : Int) : Option Nat := fdN (fun k => (eAt l k).Doc == d) n 0
def witC (a : KOffice) (f o : KHead) (b : KOffice) (h : KHead) : Bool := vO a && (vO b && (fH f && (fH o && (fH h && (!(a.ID == b.ID) && !decide (f.Size > o.Size))))))
def witS (a : KOffice) (f o : KHead) (b : KOffice) (h : KHead) : KHop × Int :=
 if witC a f o b h then
  (if hasS a f && (hasS a o && hasS b h) then
   (match fndS b.Entries h.Size.toNat (digF o) with
   | none => (zH, 4)
   | some i => (⟨o, extF (valsF a o.Size.toNat) f.Size.toNat true, ⟨h, i, eAt b.Entries i, inclF (valsF b h.Size.toNat) i⟩⟩, 0))
  else (zH, 33))
 else (zH, 1)
theorem hasS_spec {o : KOffice} {h : KHead} (hh : hasS o h = true) : h.Office = o.ID ∧ h.Size ≤ (o.Entries.length : Int) ∧ rootF (valsF o h.Size.toNat) = h.Root := by
 simp only [hasS, Bool.and_eq_true, decide_eq_true_eq] at hh; exact hh
theorem provS_has {o : KOffice} {h : KHead} {i : Nat} (hv : vO o = true) (hf : fH h = true) (hh : hasS o h = true) (hi : (i : Int) < h.Size) : provS o h i = (⟨h, i, eAt o.Entries i, inclF (valsF o h.Size.toNat) i⟩, 0) := by
 obtain ⟨h1, h2, h3⟩ := hasS_spec hh; unfold provS; rw [hv, hf, show decide (h.Size ≤ ((o.Entries.length : Nat) : Int) ∧ 0 ≤ (i : Int) ∧ (i : Int) < h.Size) = true from decide_eq_true ⟨h2, by omega, hi⟩, show decide (h.Office = o.ID ∧ h.Root = rootF (valsF o h.Size.toNat)) = true from decide_eq_true ⟨h1, h3.symm⟩]; rfl
theorem wit_p {a b : KOffice} (ha : a.rng) (hb : b.rng) (la : a.Entries.length ≤ 50) (lb : b.Entries.length ≤ 50) {f o h : KHead} (hf : f.rng) (ho : o.rng) (hh : h.rng) {F : Nat} (hF : 64 ≤ F) : G_cross_Witness F a f o b h = some (witS a f o b h) := by
 unfold G_cross_Witness witS witC; rw [valid_p la hF, valid_p lb hF, formed_p hf.r_Office hf.r_Size hF, formed_p ho.r_Office ho.r_Size hF, formed_p hh.r_Office hh.r_Size hF]; simp only [ob_some]; cases h1 : vO a with
 | false => rfl
 | true =>
 cases h2 : vO b with
 | false => rfl
 | true =>
 cases h3 : fH f with
 | false => rfl
 | true =>
 cases h4 : fH o with
 | false => rfl
 | true =>
 cases h5 : fH h with
 | false => rfl
 | true =>
 cases h6 : (a.ID == b.ID) with
 | true => rfl
 | false =>
 cases h7 : decide (f.Size > o.Size) with
 | true => rfl
 | false =>
  simp only [ifB_t, ifB_f, ob_some, Bool.true_and, Bool.not_false, if_true]; obtain ⟨s1, s2⟩ := fH_size h3; obtain ⟨t1, t2⟩ := fH_size h4; obtain ⟨u1, u2⟩ := fH_size h5; rw [has_p ha la s1 hF, has_p ha la t1 hF, has_p hb lb u1 hF]; simp only [ob_some]; cases h8 : hasS a f with
  | false => rfl
  | true =>
  cases h9 : hasS a o with
  | false => rfl
  | true =>
  cases h10 : hasS b h with
  | false => rfl
  | true =>
   simp only [ifB_t, ifB_f, ob_some, Bool.not_true, Bool.and_self, if_true]; obtain ⟨_, q1, _⟩ := hasS_spec h10; obtain ⟨_, q2, _⟩ := hasS_spec h9; obtain ⟨k, hk⟩ : ∃ k : Nat, h.Size = k := ⟨h.Size.toNat, by omega⟩; obtain ⟨n, hn⟩ : ∃ n : Nat, o.Size = n := ⟨o.Size.toNat, by omega⟩; obtain ⟨m, hm⟩ : ∃ m : Nat, f.Size = m := ⟨f.Size.toNat, by omega⟩; have h7' := of_decide_eq_false h7; rw [dig_p ho hF]; simp only [ob_some]; have hrec : ∀ i : Nat, i < k → G_office_Prove F b h i = some (⟨h, i, eAt b.Entries i, inclF (valsF b k) i⟩, 0) := fun i hi => by
    have := provS_has (i := i) h2 h5 h10 (by omega); rw [prove_p hb lb hF, this, hk]; rfl
   rw [hk] at q1 u1; rw [hn] at q2 t1; rw [hk, show (0 : Int) = ((0 : Nat) : Int) from rfl, slI_ok (Nat.zero_le k) (by omega)]; simp only [ob_some, List.drop_zero, Int.toNat_natCast]; have hlen : (b.Entries.take k).length = k := by rw [List.length_take]; omega
   rw [show ((0 : Nat) : Int) = 0 from rfl, iter_fd k (fun j => (eAt b.Entries j).Doc == digF o) (.inl ()) (fun j => .inr (j : Int)) ?_ ?_ (by omega)]
   ·show _ = some (match fndS b.Entries k (digF o) with | none => _ | some i => _)
    unfold fndS; cases hfd : fdN (fun j => (eAt b.Entries j).Doc == digF o) k 0 with
    | none => rfl
    | some i =>
     obtain ⟨⟨_, hi⟩, _⟩ := fdN_some hfd; simp only [ob_some, Sum.elim_inr]; rw [show decide ((i : Int) < 0) = false from decide_eq_false (by omega), ifB_f, hn, vals_c ha (by omega) (by omega) hF]; simp only [ob_some]; have hL : (valsF a n).length = n := valsF_len (by omega); rw [hm] at h7' s1 ⊢; rw [hn] at h7'; rw [pext _ _ hF, extS_ok (by omega) (by rw [hL]; omega) (by rw [hL]; omega), hrec i (by omega)]; rfl
   ·rw [hlen, show decide ((k : Int) < ((k : Nat) : Int)) = false from decide_eq_false (by omega)]; rfl
   ·intro j hj; rw [hlen, show decide ((j : Int) < ((k : Nat) : Int)) = true from decide_eq_true (by omega), ifB_t, ixI_nat, List.getElem?_take, if_pos hj, eAt_get (by omega)]; simp only [ob_some]; rw [w64_nat (by omega)]; cases (eAt b.Entries j).Doc == digF o <;> rfl
end Go.Proofs.YtiijddjfiojfaaaDoor
namespace Go.Proofs.YtiijddjfiojfaaaDoor
open Go.RowKit
theorem few2 (F : Nat) (a b : KOffice) : G_regulatorlaw26_few F a b = some (decide (a.Entries.length ≤ 40) && decide (b.Entries.length ≤ 40)) := by
 unfold G_regulatorlaw26_few; rw [few_eq, few_eq, show decide (((a.Entries.length : Nat) : Int) ≤ 40) = decide (a.Entries.length ≤ 40) from decide_eq_decide.2 (by omega), show decide (((b.Entries.length : Nat) : Int) ≤ 40) = decide (b.Entries.length ≤ 40) from decide_eq_decide.2 (by omega)]; cases decide (a.Entries.length ≤ 40) <;> cases decide (b.Entries.length ≤ 40) <;> rfl
theorem head26 : G_regulatorlaw26_head 300 = some true := by kernel_rfl
end Go.Proofs.YtiijddjfiojfaaaDoor
namespace Go.Proofs.YtiijddjfiojfaaaDoor
open Go.RowKit
theorem witS_err {a b : KOffice} {f o h : KHead} (h0 : ((witS a f o b h).2 == 0) = false) (h4 : ((witS a f o b h).2 == 4) = false) : (witS a f o b h).1 = zH := by
 unfold witS at h0 h4 ⊢
 split
 ·next h1 =>
  split
  ·next h2 =>
   rw [if_pos h1, if_pos h2] at h0 h4
   revert h0 h4
   cases fndS b.Entries h.Size.toNat (digF o) with
   | none => intro _ _; rfl
   | some i => intro h0 _; cases h0
  ·rfl
 ·rfl
theorem witS_ok {a b : KOffice} {f o h : KHead} (he : ((witS a f o b h).2 == 0) = true ∨ ((witS a f o b h).2 == 4) = true) : (witC a f o b h = true ∧ (hasS a f && (hasS a o && hasS b h)) = true) ∧
  witS a f o b h = (match fndS b.Entries h.Size.toNat (digF o) with | none => (zH, 4) | some i => (⟨o, extF (valsF a o.Size.toNat) f.Size.toNat true, ⟨h, i, eAt b.Entries i, inclF (valsF b h.Size.toNat) i⟩⟩, 0)) := by
 cases hc : witC a f o b h with
 | false => unfold witS at he; rw [hc] at he; rcases he with he | he <;> cases he
 | true =>
  cases hs : (hasS a f && (hasS a o && hasS b h)) with
  | false => unfold witS at he; rw [hc, hs] at he; rcases he with he | he <;> cases he
  | true => exact ⟨⟨rfl, rfl⟩, by unfold witS; rw [hc, hs]; rfl⟩
def wantA (p : Nat → Bool) (N k : Nat) : Int := match fdN p k (N - k) with
 | some j => (j : Int)
 | none => -1
theorem wantA_succ {p : Nat → Bool} {N k : Nat} (h : k < N) : wantA p N (k + 1) = if p (N - k - 1) = true then ((N - k - 1 : Nat) : Int) else wantA p N k := by
 unfold wantA fdN; rw [show N - (k + 1) = N - k - 1 by omega]; cases hp : p (N - k - 1) with
 | true => simp
 | false => simp only [Bool.false_eq_true, if_false]; rw [show N - k - 1 + 1 = N - k by omega]; cases k <;> rfl
theorem want_loop {b : KOffice} {o : KHead} (ho : o.rng) {N : Nat} (hN : 1 ≤ N) (hl : N ≤ b.Entries.length) (hb : b.Entries.length ≤ 50) {F : Nat} (hF : 64 ≤ F) :
    (iter (σ := Int × Int) (ρ := Int) (un2 fun (v_37 : Int) (v_38 : Int) => 
              (ifB (decide (v_38 ≥ 0))
                (Option.bind (Option.bind (ixI b.Entries v_38) (fun v_41 =>
                  Option.bind (G_cross_Digest F o) (fun v_44 =>
                  ifB ((v_41.Doc == v_44))
                    (some v_38)
                    (some v_37))) : Option (Int)) (fun (v_47 : Int) => 
                  some (.inl (v_47, IntKind.i64.wrap (v_38 - 1)))))
                (some (.inr v_37)) : Option ((Int × Int) ⊕ Int))) F ((-1), IntKind.i64.wrap ((N : Int) - 1))) = some (wantA (fun k => (eAt b.Entries k).Doc == digF o) N N) := by
  rw [w64_id (n := (N : Int) - 1) (by omega) (by omega)]
  rw [show ((-1 : Int), (N : Int) - 1) = (fun k : Nat => (wantA (fun k => (eAt b.Entries k).Doc == digF o) N k, (N : Int) - 1 - (k : Int))) 0 by simp only [wantA, fdN]; simp]
  refine iter_seq (fun k : Nat => (wantA (fun k => (eAt b.Entries k).Doc == digF o) N k, (N : Int) - 1 - (k : Int))) N _ ?_ ?_ (by omega)
  · intro k hk
    simp only [un2]
    rw [show decide ((N : Int) - 1 - (k : Int) ≥ 0) = true from decide_eq_true (by omega), ifB_t, show (N : Int) - 1 - (k : Int) = ((N - k - 1 : Nat) : Int) by omega, ixI_nat, eAt_get (by omega)]
    simp only [ob_some]
    rw [dig_p ho hF, wantA_succ hk, w64_id (by omega) (by omega)]
    simp only [ob_some]
    rw [show ((N - k - 1 : Nat) : Int) - 1 = (N : Int) - 1 - ((k + 1 : Nat) : Int) by omega]
    cases (eAt b.Entries (N - k - 1)).Doc == digF o <;> rfl
  · simp only [un2]
    rw [show decide ((N : Int) - 1 - (N : Int) ≥ 0) = false from decide_eq_false (by omega)]
    rfl
theorem law26_finds {a b : KOffice} {f o h : KHead} (ha : a.rng) (hb : b.rng) (hf : f.rng) (ho : o.rng) (hh : h.rng) : G_regulatorlaw26_CrossFinds 300 a b f o h = some true := by
 unfold G_regulatorlaw26_CrossFinds; rw [head26, few2]; simp only [ob_some]; cases hc : (decide (a.Entries.length ≤ 40) && decide (b.Entries.length ≤ 40)) with
 | false => rfl
 | true =>
 simp only [Bool.and_eq_true, decide_eq_true_eq] at hc; obtain ⟨la, lb⟩ := hc; rw [ifB_t, wit_p ha hb (by omega) (by omega) hf ho hh hF, ob_some, un2_p]; have main : ((witS a f o b h).2 == 0) = true ∨ ((witS a f o b h).2 == 4) = true → G_regulatorlaw26_CrossFinds 300 a b f o h = some true := fun hor => by
  obtain ⟨⟨hw, hs⟩, he⟩ := witS_ok hor; simp only [Bool.and_eq_true] at hs; obtain ⟨_, q1, _⟩ := hasS_spec hs.2.2; have h5 : fH h = true := by simp only [witC, Bool.and_eq_true] at hw; exact hw.2.2.2.2.1
  obtain ⟨u1, u2⟩ := fH_size h5; obtain ⟨N, hN⟩ : ∃ N : Nat, h.Size = N := ⟨h.Size.toNat, by omega⟩; unfold G_regulatorlaw26_CrossFinds; rw [head26, few2, ob_some, ob_some, show (decide (a.Entries.length ≤ 40) && decide (b.Entries.length ≤ 40)) = true by simp [la, lb], ifB_t, wit_p ha hb (by omega) (by omega) hf ho hh hF, ob_some, un2_p, he]; rw [hN, Int.toNat_natCast, show min (N : Int) ((b.Entries.length : Nat) : Int) = N by omega, want_loop ho (by omega) (by omega) (by omega) hF]; unfold wantA; rw [Nat.sub_self]; unfold fndS; cases fdN (fun k => (eAt b.Entries k).Doc == digF o) N 0 with
  | none => rfl
  | some i =>
   simp only [ob_some, beq_self_eq_true, ifB_t, ifB_f, Bool.not_false, decide_true]; rw [show decide ((i : Int) ≥ 0) = true from decide_eq_true (by omega)]; rfl
 unfold G_regulatorlaw26_CrossFinds at main; rw [head26, few2, ob_some, ob_some, show (decide (a.Entries.length ≤ 40) && decide (b.Entries.length ≤ 40)) = true by simp [la, lb], ifB_t, wit_p ha hb (by omega) (by omega) hf ho hh hF, ob_some, un2_p] at main
 by_cases hor : ((witS a f o b h).2 == 0) = true ∨ ((witS a f o b h).2 == 4) = true
 ·exact main hor
 ·have h0 : ((witS a f o b h).2 == 0) = false := Bool.eq_false_iff.2 fun e => hor (.inl e)
  have h4 : ((witS a f o b h).2 == 4) = false := Bool.eq_false_iff.2 fun e => hor (.inr e)
  rw [h0, h4, witS_err h0 h4]; rfl
end Go.Proofs.YtiijddjfiojfaaaDoor
namespace Go.Proofs.YtiijddjfiojfaaaDoor
open Go.RowKit
structure Mk (a b : KOffice) (K M : Int) : Prop where
 ha : a.rng
 hb : b.rng
 va : vO a = true
 vb : vO b = true
 la : a.Entries.length ≤ 40
 lb : b.Entries.length ≤ 40
 z : 0 < a.Entries.length
 id : (a.ID == b.ID) = false
 k : isK K = true
 m : isK M = true
end Go.Proofs.YtiijddjfiojfaaaDoor
namespace Go.Proofs.YtiijddjfiojfaaaDoor
open Go.RowKit
theorem tb_of {W : World} {L : List (String × DataW Unit)} (h : laidMet Tryd.prog L W) (hm : ("internal/strconv.uint64pow10", Rows.laid_internal_strconv_uint64pow10) ∈ L) : Tb W := by
 refine Lib.tabBelow_of_tabIs ?_; obtain ⟨g, t, cs, fuel, p, hg, ht, hvar, hd⟩ := Lib.laidMet.reads h hm; have h1 : (Tryd.prog.globalNamed "internal/strconv.uint64pow10").bind (fun g => (Tryd.prog.globals[g]?).map (·.type)) = some 144 := by kernel_rfl
 rw [hg] at h1; obtain rfl : t = 144 := Option.some.inj (ht.symm.trans h1); unfold Lib.TabIs; rw [hvar, ← Lib.cells_of_tab (k := .u64) (zs := Lib.pow10Tab) Tryd.underlying144 Tryd.underlying25 (by kernel_rfl) (by kernel_rfl) hd]
end Go.Proofs.YtiijddjfiojfaaaDoor
