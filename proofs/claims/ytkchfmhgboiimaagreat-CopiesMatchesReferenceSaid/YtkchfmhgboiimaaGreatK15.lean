/-
  Texts joined: Sf38, Sg38, Si38, Sh38, OpA, OpR, Sk38, Sm38, OpZ.
-/
import Derived.Test.YtkchfmhgboiimaaGreatRows
import Derived.ProofKit
import Derived.OpenShut
import Derived.Carry
import Derived.ChangeSame
import Derived.Deep.Slices
import Derived.Lib.SmallJoins
import Derived.Test.YtkchfmhgboiimaaGreatK10
import Derived.Test.YtkchfmhgboiimaaGreatK14
set_option linter.unusedSimpArgs false
set_option linter.unusedVariables false
namespace Go.Proofs.YtkchfmhgboiimaaGreat
theorem lg_snoc (l : List KCopy) (c : KCopy) : lgS (l ++ [c]) = if (lgS l).length < c.Log.length then c.Log else lgS l := by
 unfold lgS; rw [List.foldl_append]; rfl
theorem lg_one (c : KCopy) : lgS [c] = c.Log := by
 show (if (0 : Nat) < c.Log.length then c.Log else []) = c.Log
 split
 ·rfl
 ·next h => exact (List.eq_nil_of_length_eq_zero (by omega)).symm
def lenAt (l : List KCopy) (b : Nat) : Nat := (l[b]?.map fun c => c.Log.length).getD 0
theorem lenAt_get {l : List KCopy} {b : Nat} (h : b < l.length) : lenAt l b = l[b].Log.length := by unfold lenAt; rw [List.getElem?_eq_getElem h]; rfl
def lgX (l : List KCopy) : Nat := foI (fun b k (x : KCopy) => if lenAt l b < x.Log.length then k else b) l 0 0
theorem lgX_spec {l : List KCopy} (h0 : 0 < l.length) : ∃ h : lgX l < l.length, l[lgX l].Log = lgS l := by
 have := foI_inv (h := fun b k (x : KCopy) => if lenAt l b < x.Log.length then k else b) (fun k b => (k = 0 ∧ b = 0) ∨ (∃ h : b < l.length, b < k ∧ l[b].Log = lgS (l.take k))) (l := l) (k := 0) (b := 0) (.inl ⟨rfl, rfl⟩) fun j hj b hb => by
  refine .inr ?_; rw [Nat.zero_add] at hb ⊢; have hs : lgS (l.take (j + 1)) = if (lgS (l.take j)).length < l[j].Log.length then l[j].Log else lgS (l.take j) := by
   rw [List.take_succ_eq_append_getElem hj, lg_snoc]
  rcases hb with ⟨rfl, rfl⟩ | ⟨hb, hlt, e⟩
  ·rw [lenAt_get h0, if_neg (Nat.lt_irrefl _)]; refine ⟨h0, by omega, ?_⟩; rw [List.take_succ_eq_append_getElem h0, List.take_zero, List.nil_append, lg_one]
  ·rw [lenAt_get hb, hs, e]
   split
   ·exact ⟨hj, by omega, rfl⟩
   ·exact ⟨hb, by omega, e⟩
 rw [Nat.zero_add] at this; rcases this with ⟨h, _⟩ | ⟨h, _, e⟩
 ·omega
 ·rw [List.take_length] at e; exact ⟨h, e⟩
theorem fewMem {l : List KCopy} (h : FewC l) {c : KCopy} (hc : c ∈ l) : c.Log.length ≤ 60 ∧ ∀ t ∈ c.Log, FewT t := ⟨by have := h.g c hc; omega, h.t c hc⟩
set_option maxHeartbeats 1000000 in
theorem valid_r (l : List KCopy) (h : FewC l) {F : Nat} (hF : 64 ≤ F) : G_regulatorref38_Valid F l = some (validS l) := by
  have hn := h.n
  unfold G_regulatorref38_Valid
  rw [dnot (p := ((l.length : Nat) : Int) < 1) (q := 1 ≤ l.length) (by omega), dnot (p := ((l.length : Nat) : Int) > 7) (q := l.length ≤ 7) (by omega)]
  rw [valid_ref]
  by_cases h1 : 1 ≤ l.length
  case neg => rw [decide_eq_false h1]; rfl
  by_cases h7 : l.length ≤ 7
  case neg => rw [decide_eq_true h1, decide_eq_false h7]; rfl
  rw [decide_eq_true h1, decide_eq_true h7]
  simp only [Bool.not_true, ifB_f, ob_some, Bool.true_and]
  have e1 := iter_chk (ρ := Int ⊕ Unit) (f := (un2 fun (v_99 : Int) (v_100 : Int) => 
            (ifB (decide (v_100 < ((l.length : Nat) : Int)))
              (Option.bind (Option.bind (ixI l v_100) (fun v_103 =>
                Option.bind (G_regulatorref38_Log F v_103.Log) (fun v_106 =>
                Option.bind (ifB (v_106)
                    (Option.bind (ixI l v_100) (fun v_108 =>
                    ifB (decide (v_108.ID < 1))
                      (some true)
                      (Option.bind (ixI l v_100) (fun v_112 =>
                      ifB (decide (v_112.ID > 64))
                        (some true)
                        (ifB (decide (v_100 > 0))
                          (Option.bind (ixI l v_100) (fun v_117 =>
                          Option.bind (ixI l (IntKind.i64.wrap (v_100 - 1))) (fun v_120 =>
                          some (decide (v_117.ID ≤ v_120.ID)))))
                          (some false))))))
                    (some true) : Option (Bool)) (fun (v_124 : Bool) => 
                  ifB (v_124)
                    (some (.inr ()))
                    (Option.bind (ixI l v_100) (fun v_126 =>
                    Option.bind (ixI l v_99) (fun v_129 =>
                    ifB (decide (((v_126.Log.length : Nat) : Int) > ((v_129.Log.length : Nat) : Int)))
                      (some (.inl v_100))
                      (some (.inl v_99)))))))) : Option (Int ⊕ Unit)) (Sum.elim (fun (v_134 : Int) => 
                some (.inl (v_134, IntKind.i64.wrap (v_100 + 1)))) (fun (_ : Unit) => 
                some (.inr (.inr ())))))
              (some (.inr (.inl v_99))) : Option ((Int × Int) ⊕ (Int ⊕ Unit))))) (fun (b : Nat) i => ((b : Int), i)) l
      (fun k x => (logS x.Log && decide (x.ID ≤ 64)) && (decide (1 ≤ x.ID) && (k == 0 || decide ((l.map (·.ID)).getD (k - 1) 0 < x.ID)))) (fun b k x => if lenAt l b < x.Log.length then k else b) (fun b => .inl (b : Int)) (.inr ()) (fun _ b => b < l.length) ?a1 ?a2 (F := F) (by omega) 0 (by omega)
  case a1 => intro b _; simp only [un2, ltn, ifB_f]
  case a2 =>
    intro b k hk hb
    have hm := List.getElem_mem hk
    simp only [un2, ltl hk, ifB_t, ixI_get hk, ixI_get hb, ob_some, w64_1 hk (by omega), log_r _ (fewMem h hm).1 (fewMem h hm).2 hF]
    have hp : ∀ h0 : 0 < k, ixI l (IntKind.i64.wrap ((k : Int) - 1)) = some (l[k - 1]'(by omega)) := fun h0 => by rw [w64_p h0 (by omega)]; exact ixI_get (by omega)
    refine ⟨?_, by split <;> omega⟩
    rw [dnot (p := l[k].ID < 1) (q := 1 ≤ l[k].ID) (by omega), dnot (p := l[k].ID > 64) (q := l[k].ID ≤ 64) (by omega), deq (p := ((l[k].Log.length : Nat) : Int) > ((l[b].Log.length : Nat) : Int)) (q := l[b].Log.length < l[k].Log.length) (by omega), lenAt_get hb]
    have hs : ∀ c : Bool, (if c = true then (.inl (((if l[b].Log.length < l[k].Log.length then k else b : Nat) : Int), (k : Int) + 1) : (Int × Int) ⊕ (Int ⊕ Unit)) else .inr (.inr ())) = if c = true then (if l[b].Log.length < l[k].Log.length then .inl ((k : Int), (k : Int) + 1) else .inl ((b : Int), (k : Int) + 1)) else .inr (.inr ()) := fun c => by
      cases c
      · rfl
      · by_cases hg : l[b].Log.length < l[k].Log.length
        · rw [if_pos rfl, if_pos rfl, if_pos hg, if_pos hg]
        · rw [if_pos rfl, if_pos rfl, if_neg hg, if_neg hg]
    rw [hs]
    by_cases h0 : 0 < k
    · rw [decide_eq_true (p := (k : Int) > 0) (by omega), ifB_t, hp h0, ob_some, getD_map (fun x : KCopy => x.ID) (by omega), dnot (p := l[k].ID ≤ l[k - 1].ID) (q := l[k - 1].ID < l[k].ID) (by omega), show (k == 0) = false by simpa using (by omega : k ≠ 0)]
      by_cases hg : l[b].Log.length < l[k].Log.length
      · rw [decide_eq_true hg, if_pos hg]
        cases logS l[k].Log <;> cases decide (1 ≤ l[k].ID) <;> cases decide (l[k].ID ≤ 64) <;> cases decide (l[k - 1].ID < l[k].ID) <;> rfl
      · rw [decide_eq_false hg, if_neg hg]
        cases logS l[k].Log <;> cases decide (1 ≤ l[k].ID) <;> cases decide (l[k].ID ≤ 64) <;> cases decide (l[k - 1].ID < l[k].ID) <;> rfl
    · rw [decide_eq_false (p := (k : Int) > 0) (by omega), ifB_f, show (k == 0) = true by simpa using (by omega : k = 0)]
      by_cases hg : l[b].Log.length < l[k].Log.length
      · rw [decide_eq_true hg, if_pos hg]
        cases logS l[k].Log <;> cases decide (1 ≤ l[k].ID) <;> cases decide (l[k].ID ≤ 64) <;> rfl
      · rw [decide_eq_false hg, if_neg hg]
        cases logS l[k].Log <;> cases decide (1 ≤ l[k].ID) <;> cases decide (l[k].ID ≤ 64) <;> rfl
  rw [show (((0 : Nat) : Int)) = 0 from rfl] at e1
  rw [e1, frL_and, frL_all, ← ris_ix (fun x : KCopy => x.ID) l]
  have hq : l.all (fun c => logS c.Log && decide (c.Log.length ≤ 2000) && decide (c.ID ≤ 64)) = l.all (fun c => logS c.Log && decide (c.ID ≤ 64)) := by
    refine iff_bool ?_
    rw [List.all_eq_true, List.all_eq_true]
    constructor
    · intro h x hx; have := h x hx; simp only [Bool.and_eq_true] at this ⊢; exact ⟨this.1.1, this.2⟩
    · intro h' x hx; have := h' x hx; have h3 := h.g x hx; simp only [Bool.and_eq_true, decide_eq_true_eq] at this ⊢; exact ⟨⟨this.1, by omega⟩, this.2⟩
  rw [hq]
  cases l.all (fun c => logS c.Log && decide (c.ID ≤ 64)) with
  | false => simp
  | true =>
  cases risF 0 (l.map (·.ID)) with
  | false => simp
  | true =>
  obtain ⟨hx, hxl⟩ := lgX_spec (l := l) (by omega)
  simp only [Bool.and_self, if_true, ob_some, Sum.elim_inl, Bool.true_and]
  rw [show foI (fun b k (x : KCopy) => if lenAt l b < x.Log.length then k else b) l 0 0 = lgX l from rfl]
  rw [iter_allL l (fun c => decide (c.Log = (lgS l).take c.Log.length)) (.inl ()) (.inr ()) ?b1 ?b2 (by omega)]
  case b1 => simp only [ltn, ifB_f]
  case b2 =>
    intro k hk
    have hm := List.getElem_mem hk
    have hle := lg_ge hm
    simp only [ltl hk, ifB_t, ixI_get hk, ixI_get hx, ob_some, w64_1 hk (by omega), hxl]
    rw [show (0 : Int) = ((0 : Nat) : Int) from rfl, slI_ok (Nat.zero_le _) hle, ob_some, List.drop_zero, sameLog_r _ _ (fewMem h hm).1 (fewMem h hm).2 hF, ob_some]
    cases decide (l[k].Log = (lgS l).take l[k].Log.length) <;> rfl
  cases l.all (fun c => decide (c.Log = (lgS l).take c.Log.length)) <;> rfl
def fewTB (t : KTx) : Bool := decide (t.Reads.length ≤ 20) && decide (t.Writes.length ≤ 20)
def fewCB (c : KCopy) : Bool := decide (c.Log.length ≤ 30) && c.Log.all fewTB
def fewS (l : List KCopy) : Bool := decide (l.length ≤ 10) && l.all fewCB
theorem few_iff {l : List KCopy} : fewS l = true ↔ FewC l := by
 unfold fewS fewCB fewTB; simp only [Bool.and_eq_true, decide_eq_true_eq, List.all_eq_true]; exact ⟨fun h => ⟨h.1, fun c hc => (h.2 c hc).1, fun c hc t ht => ⟨((h.2 c hc).2 t ht).1, ((h.2 c hc).2 t ht).2⟩⟩, fun h => ⟨h.n, fun c hc => ⟨h.g c hc, fun t ht => ⟨(h.t c hc t ht).r, (h.t c hc t ht).w⟩⟩⟩⟩
set_option maxHeartbeats 1000000 in
theorem few_r (l : List KCopy) {F : Nat} (hF : 64 ≤ F) : G_regulatorref38_Few F l = some (fewS l) := by
 unfold G_regulatorref38_Few; rw [iter_allL (l.take 20) fewCB (.inl ()) (.inr ()) ?a1 ?a2 (by rw [List.length_take]; omega)]
 case a1 =>
  rw [List.length_take]
  by_cases h : l.length ≤ 20
  ·rw [Nat.min_eq_right h, ltn]; rfl
  ·rw [Nat.min_eq_left (by omega), ltl (by omega)]; rfl
 case a2 =>
  intro k hk; rw [List.length_take] at hk; have hk1 : k < l.length := by omega
  simp only [ltl hk1, ifB_t, ixI_get hk1, ob_some, w64_1 (k := k) (n := 20) (by omega) (by omega), List.getElem_take]; rw [decide_eq_true (p := (k : Int) < 20) (by omega), dnot (p := ((l[k].Log.length : Nat) : Int) > 30) (q := l[k].Log.length ≤ 30) (by omega)]; simp only [ifB_t]; unfold fewCB
  by_cases h30 : l[k].Log.length ≤ 30
  ·rw [decide_eq_true h30, iter_allL l[k].Log fewTB (.inl ()) (.inr ()) ?b1 ?b2 (by omega)]
   case b1 => simp only [ltn, ifB_f]
   case b2 =>
    intro j hj; simp only [ltl hj, ifB_t, ixI_get hj, ob_some, w64_1 hj (by omega)]; unfold fewTB; rw [dnot (p := ((l[k].Log[j].Reads.length : Nat) : Int) > 20) (q := l[k].Log[j].Reads.length ≤ 20) (by omega), dnot (p := ((l[k].Log[j].Writes.length : Nat) : Int) > 20) (q := l[k].Log[j].Writes.length ≤ 20) (by omega)]; cases decide (l[k].Log[j].Reads.length ≤ 20) <;> cases decide (l[k].Log[j].Writes.length ≤ 20) <;> rfl
   cases l[k].Log.all fewTB <;> rfl
  ·rw [decide_eq_false h30]; rfl
 unfold fewS; rw [deq (p := ((l.length : Nat) : Int) ≤ 10) (q := l.length ≤ 10) (by omega)]
 by_cases h : l.length ≤ 10
 ·rw [List.take_of_length_le (by omega), decide_eq_true h]; cases l.all fewCB <;> rfl
 ·rw [decide_eq_false h]; cases (l.take 20).all fewCB <;> rfl
def shipS (l : List KCopy) (i k n : Int) : List KCopy × Int :=
 if validS l && decide (0 ≤ n) then (match fnd l i, fnd l k with | some i, some k => (shipL l i k n.toNat, 0) | _, _ => ([], 4)) else ([], 1)
theorem fdI_neg (o : Option Nat) : decide (fdI o < 0) = o.isNone := by
 cases o with
 | none => rfl
 | some k => exact decide_eq_false (by show ¬ (k : Int) < 0; omega)
theorem take_min {α : Type} (l : List α) {b : Nat} (hb : b ≤ l.length) (n : Nat) : l.take (b + min n (l.length - b)) = l.take (b + n) := by
 rw [List.take_eq_take_iff]; omega
theorem app_nil {α : Type} (B : Nat) {l : List α} (h : l.length * B ≤ 140737488355328) : apG B ([] : List α) l = some l := by
 rw [apG_ok (by simpa using h)]; rfl
theorem foldl_app {α : Type} : ∀ (l b : List α), l.foldl (fun b x => b ++ [x]) b = b ++ l
 | [], b => by simp
 | x :: l, b => by rw [List.foldl_cons, foldl_app l]; simp
theorem ship_p (l : List KCopy) (i k n : Int) (h : FewC l) (hn : n ≤ 9223372036854775807) {F : Nat} (hF : 64 ≤ F) : G_copies_Ship F l i k n = some (shipS l i k n) := by
 have hln := h.n; unfold G_copies_Ship shipS; rw [valid_p l h hF, ob_some]; cases hv : validS l with
 | false => rfl
 | true =>
 rw [dnot (p := n < 0) (q := 0 ≤ n) (by omega)]; simp only [ifB_t, ob_some, un4, Bool.true_and]
 by_cases h0 : 0 ≤ n
 case neg => rw [decide_eq_false h0]; rfl
 rw [decide_eq_true h0]; simp only [Bool.not_true, ifB_f, if_true, find_p _ _ hln hF, ob_some, fdI_neg]; cases hi : fnd l i with
 | none => cases fnd l k <;> rfl
 | some a =>
 cases hk : fnd l k with
 | none => rfl
 | some b =>
 obtain ⟨ha, _⟩ := fnd_some hi; obtain ⟨hb, _⟩ := fnd_some hk; have ga := h.g _ (List.getElem_mem ha); have gb := h.g _ (List.getElem_mem hb); simp only [Option.isNone_some, ifB_f, ob_some]; rw [app_nil 32 (by omega)]; simp only [ob_some, fdI, ixI_get ha, ixI_get hb, size_p]; rw [shipL_eq ha hb, deq (p := ((l[a].Log.length : Nat) : Int) > ((l[b].Log.length : Nat) : Int)) (q := l[b].Log.length < l[a].Log.length) (by omega)]
 by_cases hlt : l[b].Log.length < l[a].Log.length
 ·rw [decide_eq_true hlt, if_pos hlt, ifB_t]; have ew : IntKind.i64.wrap (((l[b].Log.length : Nat) : Int) + (min n (IntKind.i64.wrap (((l[a].Log.length : Nat) : Int) - ((l[b].Log.length : Nat) : Int))))) = ((l[b].Log.length + min n.toNat (l[a].Log.length - l[b].Log.length) : Nat) : Int) := by
   rw [w64_id (n := ((l[a].Log.length : Nat) : Int) - ((l[b].Log.length : Nat) : Int)) (by omega) (by omega), w64_id (by omega) (by omega)]; omega
  rw [ew, show (0 : Int) = ((0 : Nat) : Int) from rfl, slI_ok (Nat.zero_le _) (by omega), ob_some, List.drop_zero, take_min _ (by omega), app_nil 64 (by rw [List.length_take]; omega), ob_some]; unfold stI; rw [if_pos ⟨by omega, by omega⟩]; rfl
 ·rw [decide_eq_false hlt, if_neg hlt]; rfl
theorem ship_r (l : List KCopy) (i k n : Int) (h : FewC l) (hn : n ≤ 9223372036854775807) {F : Nat} (hF : 64 ≤ F) : G_regulatorref38_Ship F l i k n = some (shipS l i k n) := by
 have hln := h.n; unfold G_regulatorref38_Ship shipS; rw [valid_r l h hF, ob_some]; cases hv : validS l with
 | false => rfl
 | true =>
 rw [dnot (p := n < 0) (q := 0 ≤ n) (by omega)]; simp only [ifB_t, ob_some, un3, Bool.true_and]
 by_cases h0 : 0 ≤ n
 case neg => rw [decide_eq_false h0]; rfl
 rw [decide_eq_true h0]; simp only [Bool.not_true, ifB_f, if_true, find_r _ _ hln hF, ob_some, fdI_neg]; cases hi : fnd l i with
 | none => cases fnd l k <;> rfl
 | some a =>
 cases hk : fnd l k with
 | none => rfl
 | some b =>
 obtain ⟨ha, _⟩ := fnd_some hi; obtain ⟨hb, _⟩ := fnd_some hk; have ga := h.g _ (List.getElem_mem ha); have gb := h.g _ (List.getElem_mem hb); simp only [Option.isNone_some, ifB_f, ob_some]; rw [iter_fold (fun (b : List KCopy) i => (b, i)) l (fun b x => b ++ [x]) (fun b => b) (fun k b => b.length = k) ?a1 ?a2 (by omega) [] rfl]
 case a1 => intro b _; simp only [un2, ltn, ifB_f]
 case a2 =>
  intro b k hk hb; simp only [un2, ltl hk, ifB_t, ixI_get hk, ob_some, w64_1 hk (by omega)]; rw [apG_ok (by simp; omega)]; exact ⟨rfl, by simp [hb]⟩
 rw [foldl_app, List.nil_append]; simp only [ob_some, fdI, ixI_get ha, ixI_get hb]; rw [shipL_eq ha hb, deq (p := ((l[a].Log.length : Nat) : Int) > ((l[b].Log.length : Nat) : Int)) (q := l[b].Log.length < l[a].Log.length) (by omega)]
 by_cases hlt : l[b].Log.length < l[a].Log.length
 ·rw [decide_eq_true hlt, if_pos hlt, ifB_t]; have ew : IntKind.i64.wrap (((l[b].Log.length : Nat) : Int) + (min (IntKind.i64.wrap (((l[a].Log.length : Nat) : Int) - ((l[b].Log.length : Nat) : Int))) n)) = ((l[b].Log.length + min n.toNat (l[a].Log.length - l[b].Log.length) : Nat) : Int) := by
   rw [w64_id (n := ((l[a].Log.length : Nat) : Int) - ((l[b].Log.length : Nat) : Int)) (by omega) (by omega), w64_id (by omega) (by omega)]; omega
  rw [ew, show (0 : Int) = ((0 : Nat) : Int) from rfl, slI_ok (Nat.zero_le _) (by omega), ob_some, List.drop_zero, take_min _ (by omega), app_nil 64 (by rw [List.length_take]; omega), ob_some]; unfold stI; rw [if_pos ⟨by omega, by omega⟩]; rfl
 ·rw [decide_eq_false hlt, if_neg hlt]; rfl
def safeS (l : List KCopy) : Int × Int := if validS l then (safeN (sizesS l), 0) else (0, 1)
theorem foldl_map {α β : Type} (f : α → β) : ∀ (l : List α) (b : List β), l.foldl (fun b x => b ++ [f x]) b = b ++ l.map f
 | [], b => by simp
 | x :: l, b => by rw [List.foldl_cons, foldl_map f l]; simp
theorem safe_p (l : List KCopy) (h : FewC l) {F : Nat} (hF : 64 ≤ F) : G_copies_Safe F l = some (safeS l) := by
 have hln := h.n; unfold G_copies_Safe safeS; rw [valid_p l h hF, ob_some]; cases hv : validS l with
 | false => rfl
 | true =>
 have h1 := ((cps_iff l).1 hv).one; rw [ifB_t, iter_fold (fun (b : List Int) i => (i, b)) l (fun b x => b ++ [((x.Log.length : Nat) : Int)]) (fun b => b) (fun k b => b.length = k) ?a1 ?a2 (by omega) [] rfl]
 case a1 => intro b _; simp only [un2, ltn, ifB_f]
 case a2 =>
  intro b k hk hb; simp only [un2, ltl hk, ifB_t, ixI_get hk, ob_some, w64_1 hk (by omega), size_p]; rw [apG_ok (by simp; omega)]; exact ⟨rfl, by simp [hb]⟩
 rw [foldl_map (fun x : KCopy => ((x.Log.length : Nat) : Int)), List.nil_append]; have hl : (sizesS l).length = l.length := by unfold sizesS; simp
 show Option.bind (Option.bind (some (sizesS l)) _) _ = _
 simp only [ob_some]; unfold srtG; rw [if_pos (by omega), ob_some, srtI_len]; have ew : IntKind.i64.wrap ((IntKind.i64.wrap ((((sizesS l).length : Nat) : Int) - (IntKind.i64.wrap (Int.tdiv (((sizesS l).length : Nat) : Int) 2)))) - 1) = (((sizesS l).length - ((sizesS l).length / 2 + 1) : Nat) : Int) := by
  have : Int.tdiv (((sizesS l).length : Nat) : Int) 2 = (((sizesS l).length / 2 : Nat) : Int) := by
   rw [Int.tdiv_eq_ediv_of_nonneg (by omega)]; omega
  rw [this, w64_id (n := (((sizesS l).length / 2 : Nat) : Int)) (by omega) (by omega), w64_id (n := (((sizesS l).length : Nat) : Int) - _) (by omega) (by omega), w64_id (by omega) (by omega)]; omega
 rw [ew, ixI_get (by rw [srtI_len]; omega), ob_some]; unfold safeN; rw [List.getD, List.getElem?_eq_getElem (by rw [srtI_len]; omega), Option.getD_some]; rfl
theorem foldl_cnt {α : Type} (p : α → Bool) : ∀ (l : List α) (b : Nat), l.foldl (fun b x => if p x = true then b + 1 else b) b = b + l.countP p
 | [], b => rfl
 | x :: l, b => by
  rw [List.foldl_cons, foldl_cnt p l, List.countP_cons]
  split <;> omega
theorem having_r (l : List KCopy) (m : Int) (hl : l.length ≤ 10) {F : Nat} (hF : 64 ≤ F) : G_regulatorref38_having F l m = some ((l.countP (fun c => decide (m ≤ ((c.Log.length : Nat) : Int))) : Nat) : Int) := by
  unfold G_regulatorref38_having
  have := iter_fold (ρ := Int) (f := (un3 fun (v_19 : Int) (v_20 : Int) (v_21 : Int) => 
        (ifB (decide (v_21 < ((l.length : Nat) : Int)))
          (Option.bind (Option.bind (ixI l v_21) (fun v_24 =>
            ifB (decide (((v_24.Log.length : Nat) : Int) ≥ v_19))
              (some (IntKind.i64.wrap (v_20 + 1)))
              (some v_20)) : Option (Int)) (fun (v_29 : Int) => 
            some (.inl (v_19, v_29, IntKind.i64.wrap (v_21 + 1)))))
          (some (.inr v_20)) : Option ((Int × Int × Int) ⊕ Int)))) (fun (b : Nat) i => (m, (b : Int), i)) l (fun b c => if decide (m ≤ ((c.Log.length : Nat) : Int)) = true then b + 1 else b) (fun b => (b : Int)) (fun k b => b ≤ k) ?a1 ?a2 (F := F) (by omega) 0 (Nat.le_refl _)
  case a1 => intro b _; simp only [un3, ltn, ifB_f]
  case a2 =>
    intro b k hk hb
    simp only [un3, ltl hk, ifB_t, ixI_get hk, ob_some, w64_1 hk (by omega), w64_1 (k := b) (n := b + 1) (by omega) (by omega)]
    rw [show decide (((l[k].Log.length : Nat) : Int) ≥ m) = decide (m ≤ ((l[k].Log.length : Nat) : Int)) from rfl]
    cases decide (m ≤ ((l[k].Log.length : Nat) : Int))
    · exact ⟨rfl, by simp; omega⟩
    · exact ⟨rfl, by simp; omega⟩
  rw [show (((0 : Nat) : Int)) = 0 from rfl] at this
  rw [this, foldl_cnt, Nat.zero_add]
  rfl
theorem safe_rng {l : List KCopy} (h : FewC l) (h1 : 1 ≤ l.length) : 0 ≤ safeN (sizesS l) ∧ safeN (sizesS l) ≤ 30 := by
 have hl : (sizesS l).length = l.length := by unfold sizesS; simp
 have hne : sizesS l ≠ [] := fun e => by rw [e] at hl; simp at hl; omega
 constructor
 ·rw [← safe_le hne 0]; have : (sizesS l).countP (fun x => decide (0 ≤ x)) = (sizesS l).length := List.countP_eq_length.2 fun x hx => by
   unfold sizesS at hx; obtain ⟨c, _, rfl⟩ := List.mem_map.1 hx
   simp
  omega
 ·have h2 : ¬ 31 ≤ safeN (sizesS l) := fun h3 => by
   rw [← safe_le hne 31] at h3; have : (sizesS l).countP (fun x => decide ((31 : Int) ≤ x)) = 0 := List.countP_eq_zero.2 fun x hx => by
    unfold sizesS at hx; obtain ⟨c, hc, rfl⟩ := List.mem_map.1 hx; have := h.g c hc; simp only [decide_eq_true_eq]; omega
   omega
  omega
theorem safe_r (l : List KCopy) (h : FewC l) {F : Nat} (hF : 64 ≤ F) : G_regulatorref38_Safe F l = some (safeS l) := by
 have hln := h.n; unfold G_regulatorref38_Safe safeS; rw [valid_r l h hF, ob_some]; cases hv : validS l with
 | false => rfl
 | true =>
 have h1 := ((cps_iff l).1 hv).one; obtain ⟨r0, r1⟩ := safe_rng h h1; have hl : (sizesS l).length = l.length := by unfold sizesS; simp
 have hne : sizesS l ≠ [] := fun e => by rw [e] at hl; simp at hl; omega
 have hstep : ∀ m : Int, decide (((l.countP (fun c => decide (m ≤ ((c.Log.length : Nat) : Int))) : Nat) : Int) ≥ (IntKind.i64.wrap ((IntKind.i64.wrap (Int.tdiv ((l.length : Nat) : Int) 2)) + 1))) = decide (m ≤ safeN (sizesS l)) := fun m => by
  have e1 : Int.tdiv ((l.length : Nat) : Int) 2 = ((l.length / 2 : Nat) : Int) := by
   rw [Int.tdiv_eq_ediv_of_nonneg (by omega)]; omega
  rw [e1, w64_id (n := ((l.length / 2 : Nat) : Int)) (by omega) (by omega), w64_id (by omega) (by omega)]; have e2 : l.countP (fun c => decide (m ≤ ((c.Log.length : Nat) : Int))) = (sizesS l).countP (fun x => decide (m ≤ x)) := by
   unfold sizesS; rw [List.countP_map]; rfl
  rw [e2]; refine deq ?_; rw [← safe_le hne, hl]; omega
 have e0 : (0 : Int) = (fun k : Nat => (k : Int)) 0 := rfl; rw [ifB_t, e0, iter_seq (fun k : Nat => (k : Int)) (safeN (sizesS l)).toNat (safeN (sizesS l)) ?a1 ?a2 (by omega)]
 ·rfl
 case a1 =>
  intro k hk; simp only [having_r _ _ hln hF, ob_some]; rw [hstep, w64_id (by omega) (by omega), decide_eq_true (by omega)]; simp only [ifB_t]
  congr 2
 case a2 =>
  simp only [having_r _ _ hln hF, ob_some]; rw [hstep, w64_id (by omega) (by omega), decide_eq_false (by omega), Int.toNat_of_nonneg r0]; rfl
end Go.Proofs.YtkchfmhgboiimaaGreat
namespace Go.Proofs.YtkchfmhgboiimaaGreat
def lgr (b d : KCopy) : KCopy := if b.Log.length < d.Log.length then d else b
theorem best_cons {l : List KCopy} (h : 0 < l.length) : bestS l = some (l.foldl lgr l[0]) := by
 cases l with
 | nil => simp at h
 | cons c l =>
  show some (l.foldl lgr c) = some ((c :: l).foldl lgr c)
  rw [List.foldl_cons]
  congr 2
  unfold lgr; rw [if_neg (Nat.lt_irrefl _)]
theorem best_snoc (l : List KCopy) (d : KCopy) : bestS (l ++ [d]) = some (match bestS l with | none => d | some b => lgr b d) := by
 cases l with
 | nil => rfl
 | cons c l =>
  show some ((l ++ [d]).foldl lgr c) = some (lgr (l.foldl lgr c) d)
  rw [List.foldl_append]; rfl
def electS (l : List KCopy) (alive : List Int) : Int × Int :=
 if validS l then (if decide alive.Nodup && alive.all (fun n => (fnd l n).isSome) then (if 2 * alive.length ≤ l.length then (0, 20) else (match bestS (leftS l alive) with | some b => b.ID | none => 0, 0)) else (0, 1)) else (0, 1)
theorem all_perm {α : Type} (p : α → Bool) {l m : List α} (h : l.Perm m) : l.all p = m.all p := iff_bool (by
 rw [List.all_eq_true, List.all_eq_true]; exact ⟨fun h1 x hx => h1 x (h.mem_iff.2 hx), fun h1 x hx => h1 x (h.mem_iff.1 hx)⟩)
theorem fnd_mem {l : List KCopy} {n : Int} (h : (fnd l n).isSome = true) : n ∈ l.map (·.ID) := by
 cases hf : fnd l n with
 | none => rw [hf] at h; cases h
 | some i =>
  obtain ⟨hi, e⟩ := fnd_some hf; exact List.mem_map.2 ⟨l[i], List.getElem_mem hi, e⟩
set_option maxHeartbeats 1000000 in
theorem elect_p (l : List KCopy) (alive : List Int) (h : FewC l) (ha : alive.length ≤ 60) {F : Nat} (hF : 64 ≤ F) : G_copies_Elect F l alive = some (electS l alive) := by
  have hln := h.n
  unfold G_copies_Elect electS
  rw [valid_p l h hF, ob_some]
  cases hv : validS l with
  | false => rfl
  | true =>
  have hc := (cps_iff l).1 hv
  have hsl := srtI_len alive
  rw [ifB_t, if_pos rfl, ob_some]
  unfold srtA
  rw [if_pos (by omega), ob_some, app_nil 8 (by omega), ob_some, leq]
  have e1 : decide ((Lib.compact (srtI alive)).length = alive.length) = decide alive.Nodup := deq (srt_nodup alive)
  rw [e1]
  by_cases hnd : alive.Nodup
  case neg =>
    rw [decide_eq_false hnd, Bool.false_and]
    rfl
  rw [decide_eq_true hnd, ifB_t, Bool.true_and]
  rw [iter_fdL (srtI alive) (fun n => !(fnd l n).isSome) (.inl ()) (fun k => .inr (k : Int)) ?a1 ?a2 (by omega)]
  case a1 => simp only [ltn, ifB_f]
  case a2 =>
    intro k hk
    simp only [ltl hk, ifB_t, ixI_get hk, ob_some, w64_1 hk (by omega), find_p _ _ hln hF, fdI_neg]
    cases fnd l (srtI alive)[k] <;> rfl
  have e2 := fd_neg (fun n => (fnd l n).isSome) (srtI alive)
  rw [all_perm _ (srtI_perm alive)] at e2
  cases hq : List.findIdx? (fun n => !(fnd l n).isSome) (srtI alive) with
  | some k =>
    rw [hq] at e2
    have : alive.all (fun n => (fnd l n).isSome) = false := by rw [← Bool.not_inj_iff, ← e2]; simp [fdI]
    rw [this]
    simp [ifB, ob_some]
  | none =>
    rw [hq] at e2
    have hall : alive.all (fun n => (fnd l n).isSome) = true := by rw [← Bool.not_inj_iff, ← e2]; simp [fdI]
    rw [hall]
    simp only [ob_some, Sum.elim_inl, if_true]
    rw [show decide ((-1 : Int) ≥ 0) = false from rfl, ifB_f, w64_id (n := 2 * ((alive.length : Nat) : Int)) (by omega) (by omega), deq (p := 2 * ((alive.length : Nat) : Int) ≤ ((l.length : Nat) : Int)) (q := 2 * alive.length ≤ l.length) (by omega)]
    by_cases hm : 2 * alive.length ≤ l.length
    · rw [decide_eq_true hm, if_pos hm]; rfl
    rw [decide_eq_false hm, if_neg hm, ifB_f]
    have hids : srtI alive = (leftS l alive).map (·.ID) := left_ids hc.up hnd fun n hn => fnd_mem (List.all_eq_true.1 hall n hn)
    have hlen : (leftS l alive).length = alive.length := by rw [← hsl, hids, List.length_map]
    have hsub : ∀ c ∈ leftS l alive, c ∈ l := fun c hc => (List.mem_filter.1 hc).1
    have h0 : 0 < (leftS l alive).length := by have := hc.one; omega
    have hfnd : ∀ c ∈ l, ∃ i, ∃ hi : i < l.length, fnd l c.ID = some i ∧ l[i] = c := fun c hcl => by
      obtain ⟨i, hi, rfl⟩ := List.getElem_of_mem hcl
      exact ⟨i, hi, fnd_at hc.up hi, rfl⟩
    rw [hids, show (0 : Int) = ((0 : Nat) : Int) from rfl, ixI_get (by rw [List.length_map]; exact h0), ob_some, List.getElem_map, show ((0 : Nat) : Int) = 0 from rfl]
    simp only [List.length_map]
    have hit := iter_fold (ρ := Int) (f := (un2 fun (v_193 : Int) (v_194 : Int) => 
                  (ifB (decide (v_193 < (((leftS l alive).length : Nat) : Int)))
                    (Option.bind (Option.bind (ixI ((leftS l alive).map (·.ID)) v_193) (fun v_197 =>
                      Option.bind (G_copies_find F l v_197) (fun v_200 =>
                      Option.bind (ixI l v_200) (fun v_201 =>
                      Option.bind (G_copies_size F v_201) (fun v_204 =>
                      Option.bind (G_copies_find F l v_194) (fun v_205 =>
                      Option.bind (ixI l v_205) (fun v_206 =>
                      Option.bind (G_copies_size F v_206) (fun v_209 =>
                      ifB (decide (v_204 > v_209))
                        (some v_197)
                        (some v_194)))))))) : Option (Int)) (fun (v_212 : Int) => 
                      some (.inl (IntKind.i64.wrap (v_193 + 1), v_212))))
                    (some (.inr v_194)) : Option ((Int × Int) ⊕ Int)))) (fun (c : KCopy) i => (i, c.ID)) (leftS l alive) lgr (fun c => c.ID) (fun _ c => c ∈ l) ?b1 ?b2 (F := F) (by omega) (leftS l alive)[0] (hsub _ (List.getElem_mem h0))
    case b1 => intro b _; simp only [un2, ltn, ifB_f]
    case b2 =>
      intro b k hk hb
      have hkl : (leftS l alive)[k] ∈ l := hsub _ (List.getElem_mem hk)
      obtain ⟨i, hi, f1, g1⟩ := hfnd _ hkl
      obtain ⟨j, hj, f2, g2⟩ := hfnd _ hb
      simp only [un2, ltl hk, ifB_t, ixI_get (l := (leftS l alive).map (·.ID)) (by rw [List.length_map]; exact hk), ob_some, w64_1 hk (by omega), find_p _ _ hln hF, List.getElem_map, f1, f2, fdI, ixI_get hi, ixI_get hj, size_p, g1, g2]
      rw [deq (p := (((leftS l alive)[k].Log.length : Nat) : Int) > ((b.Log.length : Nat) : Int)) (q := b.Log.length < (leftS l alive)[k].Log.length) (by omega)]
      unfold lgr
      by_cases hg : b.Log.length < (leftS l alive)[k].Log.length
      · rw [decide_eq_true hg, if_pos hg]; exact ⟨rfl, hkl⟩
      · rw [decide_eq_false hg, if_neg hg]; exact ⟨rfl, hb⟩
    rw [hit, best_cons h0]
    rfl
theorem nodup_ix : ∀ {l : List Int}, l.Nodup ↔ ∀ j (h : j < l.length), l[j] ∉ l.take j := by
 intro l; constructor
 ·intro h j hj hm; obtain ⟨i, hi, e⟩ := List.getElem_of_mem hm; rw [List.length_take] at hi; rw [List.getElem_take] at e; have := (List.nodup_iff_pairwise_ne.1 h); have := List.pairwise_iff_getElem.1 this i j (by omega) hj (by omega); exact this e
 ·intro h; rw [List.nodup_iff_pairwise_ne, List.pairwise_iff_getElem]; intro i j hi hj hij e; refine h j hj ?_; rw [← e, List.mem_take_iff_getElem]; exact ⟨i, by omega, rfl⟩
def bstX (l : List KCopy) (alive : List Int) : Int := foI (fun b k (x : KCopy) => if alive.contains x.ID && (decide (b < 0) || decide (lenAt l b.toNat < x.Log.length)) then (k : Int) else b) l 0 (-1)
theorem left_snoc (l : List KCopy) (alive : List Int) (c : KCopy) : leftS (l ++ [c]) alive = leftS l alive ++ (if alive.contains c.ID then [c] else []) := by
 unfold leftS; rw [List.filter_append, List.filter_cons, List.filter_nil]
theorem bstX_spec (l : List KCopy) (alive : List Int) : (bestS (leftS l alive) = none ∧ bstX l alive = -1) ∨ ∃ j, ∃ h : j < l.length, bstX l alive = (j : Int) ∧ bestS (leftS l alive) = some l[j] := by
 have := foI_inv (h := fun (b : Int) k (x : KCopy) => if alive.contains x.ID && (decide (b < 0) || decide (lenAt l b.toNat < x.Log.length)) then (k : Int) else b) (fun k b => (bestS (leftS (l.take k) alive) = none ∧ b = -1) ∨ ∃ j, ∃ h : j < l.length, b = (j : Int) ∧ bestS (leftS (l.take k) alive) = some l[j]) (l := l) (k := 0) (b := -1) (.inl ⟨rfl, rfl⟩) fun j hj b hb => by
  rw [Nat.zero_add] at hb ⊢; rw [List.take_succ_eq_append_getElem hj, left_snoc]; cases hc : alive.contains l[j].ID with
  | false =>
   simp only [Bool.false_and, Bool.false_eq_true, if_false, List.append_nil]; exact hb
  | true =>
   simp only [Bool.true_and, if_true, best_snoc]; refine .inr ?_; rcases hb with ⟨e, rfl⟩ | ⟨i, hi, rfl, e⟩
   ·rw [e]; exact ⟨j, hj, rfl, rfl⟩
   ·rw [e, Int.toNat_natCast, lenAt_get hi, decide_eq_false (p := (i : Int) < 0) (by omega), Bool.false_or]; unfold lgr
    by_cases hg : l[i].Log.length < l[j].Log.length
    ·rw [decide_eq_true hg]; simp only [if_true, if_pos hg]; exact ⟨j, hj, rfl, rfl⟩
    ·rw [decide_eq_false hg]; simp only [Bool.false_eq_true, if_false, if_neg hg]; exact ⟨i, hi, rfl, rfl⟩
 rw [Nat.zero_add, List.take_length] at this; exact this
theorem foldl_first {q : Int → Bool} {i : Int} (hq : q i = false) (a : Int) : ∀ (l : List Int) (b : Int), l.foldl (fun b x => if x = a ∧ q b = true then i else b) b = if l.contains a && q b then i else b
 | [], b => by simp
 | x :: l, b => by
  rw [List.foldl_cons, foldl_first hq a l, List.contains_cons]
  by_cases hx : x = a
  ·subst hx; cases hb : q b with
   | true => simp [hq]
   | false => simp [hb]
  ·rw [if_neg (c := x = a ∧ q b = true) (fun h => hx h.1), show (a == x) = false by simpa using fun e => hx e.symm, Bool.false_or]
set_option maxHeartbeats 1000000 in
theorem elect_r (l : List KCopy) (alive : List Int) (h : FewC l) (ha : alive.length ≤ 60) {F : Nat} (hF : 64 ≤ F) : G_regulatorref38_Elect F l alive = some (electS l alive) := by
  have hln := h.n
  unfold G_regulatorref38_Elect electS
  rw [valid_r l h hF, ob_some]
  cases hv : validS l with
  | false => rfl
  | true =>
  have hc := (cps_iff l).1 hv
  rw [ifB_t, if_pos rfl]
  rw [iter_chkU alive (fun j x => (fnd l x).isSome && !(alive.take j).contains x) (.inl ()) (.inr ()) ?a1 ?a2 (by omega)]
  case a1 => simp only [ltn, ifB_f]
  case a2 =>
    intro k hk
    simp only [ltl hk, ifB_t, ixI_get hk, ob_some, w64_1 hk (by omega), find_r _ _ hln hF, fdI_neg]
    cases hf : fnd l alive[k] with
    | none => rfl
    | some i =>
      simp only [Option.isNone_some, ifB_f, Option.isSome_some, Bool.true_and]
      have hlt : (alive.take k).length = k := by rw [List.length_take]; omega
      rw [iter_allL (alive.take k) (fun y => !(y == alive[k])) (.inl ()) (.inr ()) ?b1 ?b2 (by omega)]
      case b1 => rw [hlt]; simp only [ltn, ifB_f]
      case b2 =>
        intro j hj
        have hj' : j < k := by rw [hlt] at hj; exact hj
        simp only [ltl hj', ifB_t, ixI_get (show j < alive.length by omega), ob_some, w64_1 hj' (by omega), List.getElem_take]
        cases alive[j] == alive[k] <;> rfl
      have : (alive.take k).all (fun y => !(y == alive[k])) = !(alive.take k).contains alive[k] := by
        refine iff_bool ?_
        rw [List.all_eq_true, Bool.not_eq_true', ← Bool.not_eq_true, List.contains_iff_mem]
        constructor
        · intro h1 hm; have := h1 _ hm; simp at this
        · intro h1 y hy
          simp only [Bool.not_eq_true', beq_eq_false_iff_ne]
          rintro rfl; exact h1 hy
      rw [this]
      cases (alive.take k).contains alive[k] <;> rfl
  have e1 : frL (fun j x => (fnd l x).isSome && !(alive.take j).contains x) alive 0 = (decide alive.Nodup && alive.all (fun n => (fnd l n).isSome)) := by
    rw [frL_and, frL_all, Bool.and_comm]
    congr 1
    refine iff_bool ?_
    rw [frL_iff, decide_eq_true_eq, nodup_ix]
    simp only [Nat.zero_add, Bool.not_eq_true', ← Bool.not_eq_true, List.contains_iff_mem]
  rw [e1]
  cases hok : (decide alive.Nodup && alive.all (fun n => (fnd l n).isSome)) with
  | false => rfl
  | true =>
  simp only [if_true, ob_some, Sum.elim_inl]
  have e2 : Int.tdiv ((l.length : Nat) : Int) 2 = ((l.length / 2 : Nat) : Int) := by
    rw [Int.tdiv_eq_ediv_of_nonneg (by omega)]; omega
  rw [e2, w64_id (n := ((l.length / 2 : Nat) : Int)) (by omega) (by omega), w64_id (n := ((l.length / 2 : Nat) : Int) + 1) (by omega) (by omega), deq (p := ((alive.length : Nat) : Int) < ((l.length / 2 : Nat) : Int) + 1) (q := 2 * alive.length ≤ l.length) (by omega)]
  by_cases hm : 2 * alive.length ≤ l.length
  · rw [decide_eq_true hm, if_pos hm]; rfl
  rw [decide_eq_false hm, if_neg hm, ifB_f]
  have hit := iter_chk (ρ := Int) (f := (un2 fun (v_217 : Int) (v_218 : Int) => 
              (ifB (decide (v_217 < ((l.length : Nat) : Int)))
                (Option.bind (Option.bind (iter (σ := Int × Int) (ρ := Int) (un2 fun (v_263 : Int) (v_264 : Int) => 
                      (ifB (decide (v_263 < ((alive.length : Nat) : Int)))
                        (Option.bind (Option.bind (Option.bind (ixI alive v_263) (fun v_267 =>
                            Option.bind (ixI l v_217) (fun v_270 =>
                            ifB ((v_267 == v_270.ID))
                              (ifB (decide (v_264 < 0))
                                (some true)
                                (Option.bind (ixI l v_217) (fun v_275 =>
                                Option.bind (ixI l v_264) (fun v_278 =>
                                some (decide (((v_275.Log.length : Nat) : Int) > ((v_278.Log.length : Nat) : Int)))))))
                              (some false))) : Option (Bool)) (fun (v_282 : Bool) => 
                            ifB (v_282)
                              (some v_217)
                              (some v_264)) : Option (Int)) (fun (v_285 : Int) => 
                          some (.inl (IntKind.i64.wrap (v_263 + 1), v_285))))
                        (some (.inr v_264)) : Option ((Int × Int) ⊕ Int))) F (0, v_218)) (fun (v_286 : Int) => 
                    some v_286) : Option (Int)) (fun (v_288 : Int) => 
                  some (.inl (IntKind.i64.wrap (v_217 + 1), v_288))))
                (some (.inr v_218)) : Option ((Int × Int) ⊕ Int)))) (fun (b : Int) i => (i, b)) l (fun _ _ => true) (fun b k x => if alive.contains x.ID && (decide (b < 0) || decide (lenAt l b.toNat < x.Log.length)) then (k : Int) else b) (fun b => b) 0 (fun _ b => b = -1 ∨ ∃ j : Nat, j < l.length ∧ b = (j : Int)) ?c1 ?c2 (F := F) (by omega) (-1) (.inl rfl)
  case c1 => intro b _; simp only [un2, ltn, ifB_f]
  case c2 =>
    intro b k hk hb
    refine ⟨?_, ?_⟩
    · simp only [un2, ltl hk, ifB_t, if_true]
      have hin := iter_fold (ρ := Int) (f := (un2 fun (v_263 : Int) (v_264 : Int) => 
                      (ifB (decide (v_263 < ((alive.length : Nat) : Int)))
                        (Option.bind (Option.bind (Option.bind (ixI alive v_263) (fun v_267 =>
                            Option.bind (ixI l (k : Int)) (fun v_270 =>
                            ifB ((v_267 == v_270.ID))
                              (ifB (decide (v_264 < 0))
                                (some true)
                                (Option.bind (ixI l (k : Int)) (fun v_275 =>
                                Option.bind (ixI l v_264) (fun v_278 =>
                                some (decide (((v_275.Log.length : Nat) : Int) > ((v_278.Log.length : Nat) : Int)))))))
                              (some false))) : Option (Bool)) (fun (v_282 : Bool) => 
                            ifB (v_282)
                              (some (k : Int))
                              (some v_264)) : Option (Int)) (fun (v_285 : Int) => 
                          some (.inl (IntKind.i64.wrap (v_263 + 1), v_285))))
                        (some (.inr v_264)) : Option ((Int × Int) ⊕ Int)))) (fun (b : Int) i => (i, b)) alive (fun b x => if x = l[k].ID ∧ (decide (b < 0) || decide (lenAt l b.toNat < l[k].Log.length)) = true then (k : Int) else b) (fun b => b) (fun _ b => b = -1 ∨ ∃ j : Nat, j < l.length ∧ b = (j : Int)) ?d1 ?d2 (F := F) (by omega) b hb
      case d1 => intro b _; simp only [un2, ltn, ifB_f]
      case d2 =>
        intro b j hj hb
        refine ⟨?_, by split; exact .inr ⟨k, hk, rfl⟩; exact hb⟩
        simp only [un2, ltl hj, ifB_t, ixI_get hj, ixI_get hk, ob_some, w64_1 hj (by omega)]
        rw [beq_dec]
        by_cases hx : alive[j] = l[k].ID
        · rw [decide_eq_true hx, ifB_t]
          rcases hb with rfl | ⟨i, hi, rfl⟩
          · rw [if_pos ⟨hx, rfl⟩]; rfl
          · rw [decide_eq_false (p := (i : Int) < 0) (by omega), ifB_f, ixI_get hi, ob_some, Int.toNat_natCast, lenAt_get hi, deq (p := ((l[k].Log.length : Nat) : Int) > ((l[i].Log.length : Nat) : Int)) (q := l[i].Log.length < l[k].Log.length) (by omega), Bool.false_or]
            by_cases hg : l[i].Log.length < l[k].Log.length
            · rw [decide_eq_true hg, if_pos ⟨hx, rfl⟩]; rfl
            · rw [decide_eq_false hg, if_neg (fun h => by cases h.2)]; rfl
        · rw [decide_eq_false hx, if_neg (fun h => hx h.1)]; rfl
      rw [hin]
      simp only [ob_some, w64_1 hk (by omega)]
      rw [foldl_first (q := fun b => decide (b < 0) || decide (lenAt l b.toNat < l[k].Log.length)) (by rw [decide_eq_false (p := (k : Int) < 0) (by omega), Int.toNat_natCast, lenAt_get hk, decide_eq_false (Nat.lt_irrefl _)]; rfl)]
    · split
      · exact .inr ⟨k, hk, rfl⟩
      · exact hb
  have e3 : frL (fun (_ : Nat) (_ : KCopy) => true) l 0 = true := by rw [frL_iff]; intros; rfl
  rw [e3, if_pos rfl] at hit
  rw [hit]
  simp only [ob_some]
  rw [show foI (fun b k (x : KCopy) => if alive.contains x.ID && (decide (b < 0) || decide (lenAt l b.toNat < x.Log.length)) then (k : Int) else b) l 0 (-1) = bstX l alive from rfl]
  rcases bstX_spec l alive with ⟨e, _⟩ | ⟨j, hj, e, e2⟩
  · exfalso
    simp only [Bool.and_eq_true, decide_eq_true_eq] at hok
    have hids : srtI alive = (leftS l alive).map (·.ID) := left_ids hc.up hok.1 fun n hn => fnd_mem (List.all_eq_true.1 hok.2 n hn)
    have hlen : (leftS l alive).length = alive.length := by rw [← srtI_len alive, hids, List.length_map]
    have h0 : 0 < (leftS l alive).length := by have := hc.one; omega
    rw [best_cons h0] at e
    cases e
  · rw [e, e2, ixI_get hj]; rfl
end Go.Proofs.YtkchfmhgboiimaaGreat
namespace Go.Proofs.YtkchfmhgboiimaaGreat
def lastT (log : List KTx) : Int := (log.map (·.Ts)).getD (log.length - 1) 0
def lateB (log : List KTx) (t : Int) : Bool := decide (log.length = 0) || decide (lastT log < t)
def readX (l : List KCopy) (id t : Int) : List KVersion × Int :=
 if validS l && stampB t then (match fnd l id with | none => ([], 4) | some k => (match l[k]? with | none => ([], 4) | some c => if lateB c.Log t then ([], 63) else kRes (readC c.Log t))) else ([], 1)
theorem late_p (log : List KTx) (t : Int) (hl : log.length ≤ 5000) : (ifB ((((log.length : Nat) : Int) == 0)) (some true) (Option.bind (ixI log (IntKind.i64.wrap (((log.length : Nat) : Int) - 1))) (fun v_16 => some (decide (v_16.Ts < t)))) : Option Bool) = some (lateB log t) := by
 unfold lateB; rw [beq_dec, deq (p := ((log.length : Nat) : Int) = 0) (q := log.length = 0) (by omega)]
 by_cases h0 : log.length = 0
 ·rw [decide_eq_true h0]; rfl
 ·rw [decide_eq_false h0, w64_p (by omega) (by omega), ifB_f, ixI_get (by omega), ob_some, Bool.false_or]; unfold lastT; rw [getD_map (fun x : KTx => x.Ts) (by omega)]
theorem log_few {l : List KCopy} (h : FewC l) (hv : validS l = true) {k : Nat} (hk : k < l.length) : l[k].Log.length ≤ 30 ∧ logS l[k].Log = true ∧ (vsOf l[k].Log).length ≤ 240 := by
 have hc := (cps_iff l).1 hv; have h1 := h.g _ (List.getElem_mem hk); have h2 := hc.logc (List.getElem_mem hk); have h3 := vs_len h2; exact ⟨h1, h2, by omega⟩
theorem rdG_ok {log : List KTx} (h1 : log.length ≤ 30) (h2 : logS log = true) (t : Int) : rdG log t = some (kRes (readC log t)) := by
 obtain ⟨m, _, p2, r2, _⟩ := readC_ok h2 (by omega) t; unfold rdG; have h3 := vs_len h2; rw [p2, if_pos]
 ·rw [r2]
 ·simp only [Bool.and_eq_true, decide_eq_true_eq, List.all_eq_true]; exact ⟨⟨⟨by omega, fun x hx => by have := (((logS_iff log).1 h2).1 x hx).few.2; omega⟩, by omega⟩, trivial⟩
theorem read_p (l : List KCopy) (id t : Int) (h : FewC l) {F : Nat} (hF : 64 ≤ F) : G_copies_Read F l id t = some (readX l id t) := by
 have hln := h.n; unfold G_copies_Read readX; rw [valid_p l h hF, ob_some, isTime_p]; cases hv : validS l with
 | false => rfl
 | true =>
 have hs : (ifB (decide (t < 1)) (some true) (Option.bind (some (decide (0 ≤ t) && decide (t ≤ 3000000000000000))) (fun v_6 => some (!v_6))) : Option Bool) = some (!stampB t) := by
  unfold stampB; rw [dnot (p := t < 1) (q := 1 ≤ t) (by omega)]
  by_cases h1 : 1 ≤ t
  ·rw [decide_eq_true h1, decide_eq_true (p := 0 ≤ t) (by omega)]; rfl
  ·rw [decide_eq_false h1]; rfl
 rw [ifB_t, hs, ob_some]; cases ht : stampB t with
 | false => rfl
 | true =>
 simp only [Bool.not_true, ifB_f, find_p _ _ hln hF, ob_some, fdI_neg, Bool.and_self, if_true]; cases hf : fnd l id with
 | none => rfl
 | some k =>
 obtain ⟨hk, _⟩ := fnd_some hf; obtain ⟨h1, h2, _⟩ := log_few h hv hk; simp only [Option.isNone_some, ifB_f, fdI, ixI_get hk, ob_some, List.getElem?_eq_getElem hk]; rw [late_p _ _ (by omega), ob_some]; cases lateB l[k].Log t with
 | true => rfl
 | false =>
  rw [ifB_f, rdG_ok h1 h2]; rfl
def vX (t : KTx) (w : KWrite) : Ver := ⟨w.Key, t.Ts, w.Value, w.Gone⟩
theorem vs_succ {l : List KTx} {i : Nat} (hi : i < l.length) : vsOf (l.take (i + 1)) = vsOf (l.take i) ++ l[i].Writes.map (vX l[i]) := by
 rw [List.take_succ_eq_append_getElem hi, vs_app]
 congr 1
 show [l[i]].flatMap _ = _
 rw [List.flatMap_cons, List.flatMap_nil, List.append_nil]; rfl
theorem vs_pre (l : List KTx) (i j : Nat) (hi : i < l.length) : ∃ r, vsOf l = (vsOf (l.take i) ++ (l[i].Writes.take j).map (vX l[i])) ++ r := by
 refine ⟨(l[i].Writes.drop j).map (vX l[i]) ++ vsOf (l.drop (i + 1)), ?_⟩; rw [List.append_assoc, ← List.append_assoc ((l[i].Writes.take j).map _), ← List.map_append, List.take_append_drop, ← List.append_assoc, ← vs_succ hi, ← vs_app, List.take_append_drop]
theorem putS_len (l : List Ver) (v : Ver) : (putS l v).1.length ≤ l.length + 1 := by
 unfold putS
 split
 ·exact Nat.zero_le _
 ·split
  ·exact Nat.zero_le _
  ·split
   ·exact Nat.zero_le _
   ·exact Nat.le_of_eq (putL_len l v)
theorem puts_len : ∀ {vs l m : List Ver}, putsS l vs = (m, 0) → m.length ≤ l.length + vs.length
 | [], l, m, h => by
  have h : (l, (0 : Int)) = (m, 0) := h
  injection h with h _
  subst h; simp
 | v :: vs, l, m, h => by
  have h' : (if (putS l v).2 = 0 then putsS (putS l v).1 vs else ([], (putS l v).2)) = (m, 0) := h
  by_cases hc : (putS l v).2 = 0
  ·rw [if_pos hc] at h'; have h1 := puts_len h'; have h2 : (putS l v).1.length ≤ l.length + 1 := putS_len l v; rw [List.length_cons]; omega
  ·rw [if_neg hc] at h'
   injection h' with _ h2
   exact absurd h2 hc
theorem kv_id (l : List Ver) : (l.map Ver.k).map KVersion.v = l := by
 rw [List.map_map]; exact List.map_id l
theorem rput_k {m : List Ver} (hm : m.length ≤ 5000) (F : Nat) (x : KVersion) : G_regulatorref33_Put F (m.map Ver.k) x = some (kRes (putS m x.v)) := by
 unfold G_regulatorref33_Put; rw [if_pos (by rw [List.length_map]; omega), kv_id, putS_eq]
theorem rread_k {m : List Ver} (hm : m.length ≤ 5000) (F : Nat) (t : Int) : G_regulatorref33_Read F (m.map Ver.k) t = some (kRes (readS m t)) := by
 unfold G_regulatorref33_Read; rw [if_pos (by rw [List.length_map]; omega), kv_id, readS_eq]
set_option maxHeartbeats 1000000 in
theorem read_r (l : List KCopy) (id t : Int) (h : FewC l) {F : Nat} (hF : 64 ≤ F) : G_regulatorref38_Read F l id t = some (readX l id t) := by
  have hln := h.n
  unfold G_regulatorref38_Read readX
  rw [valid_r l h hF, ob_some, stamp_r, ob_some]
  cases hv : validS l with
  | false => rfl
  | true =>
  rw [ifB_t, ob_some]
  show ifB (!stampB t) _ _ = _
  cases ht : stampB t with
  | false => rfl
  | true =>
  simp only [Bool.not_true, ifB_f, find_r _ _ hln hF, ob_some, fdI_neg, Bool.and_self, if_true]
  cases hf : fnd l id with
  | none => rfl
  | some k =>
  obtain ⟨hk, _⟩ := fnd_some hf
  obtain ⟨h1, h2, h3⟩ := log_few h hv hk
  simp only [Option.isNone_some, ifB_f, fdI, ixI_get hk, ob_some, List.getElem?_eq_getElem hk]
  rw [late_p _ _ (by omega), ob_some]
  cases lateB l[k].Log t with
  | true => rfl
  | false =>
  simp only [ifB_f]
  obtain ⟨log, hlog⟩ : ∃ log, log = l[k].Log := ⟨_, rfl⟩
  rw [← hlog] at h1 h2 h3 ⊢
  obtain ⟨m, hm1, p2, r2, _⟩ := readC_ok h2 (by omega) t
  have hok : ∀ i j (hi : i < log.length), ∃ m', putsS [] (vsOf (log.take i) ++ (log[i].Writes.take j).map (vX log[i])) = (m', 0) ∧ m'.length ≤ 240 := fun i j hi => by
    obtain ⟨r, hr⟩ := vs_pre log i j hi
    rw [hr] at p2
    obtain ⟨m', e1, _⟩ := puts_app p2
    refine ⟨m', e1, ?_⟩
    have := puts_len e1
    have e2 := congrArg List.length hr
    rw [List.length_append] at e2
    simp only [List.length_nil] at this
    omega
  have hit := iter_seq (ρ := List KVersion ⊕ Int) (f := (un2 fun (v_163 : (List KVersion)) (v_166 : Int) => 
                  (ifB (decide (v_166 < ((log.length : Nat) : Int)))
                    (Option.bind (Option.bind (iter (σ := (List KVersion) × Int) (ρ := (List KVersion) ⊕ Int) (un2 fun (v_207 : (List KVersion)) (v_210 : Int) => 
                          (Option.bind (ixI log v_166) (fun v_212 =>
                          ifB (decide (v_210 < ((v_212.Writes.length : Nat) : Int)))
                            (Option.bind (ixI log v_166) (fun v_216 =>
                            Option.bind (ixI v_216.Writes v_210) (fun v_219 =>
                            Option.bind (ixI log v_166) (fun v_223 =>
                            Option.bind (G_regulatorref33_Put F v_207 (⟨v_219.Key, v_223.Ts, v_219.Value, v_219.Gone⟩ : KVersion)) (un2 fun v_226 v_227 =>
                            ifB ((v_227 == 0))
                              (some (.inl (v_226, IntKind.i64.wrap (v_210 + 1))))
                              (some (.inr (.inr v_227))))))))
                            (some (.inr (.inl v_207)))) : Option (((List KVersion) × Int) ⊕ ((List KVersion) ⊕ Int)))) F (v_163, 0)) (Sum.elim (fun (v_229 : (List KVersion)) => 
                        some (.inl v_229)) (fun (v_232 : Int) => 
                        some (.inr v_232))) : Option ((List KVersion) ⊕ Int)) (Sum.elim (fun (v_234 : (List KVersion)) => 
                      some (.inl (v_234, IntKind.i64.wrap (v_166 + 1)))) (fun (v_237 : Int) => 
                      some (.inr (.inr v_237)))))
                    (some (.inr (.inl v_163))) : Option (((List KVersion) × Int) ⊕ ((List KVersion) ⊕ Int))))) (fun i => ((putsS [] (vsOf (log.take i))).1.map Ver.k, (i : Int))) log.length (.inl (m.map Ver.k)) ?a1 ?a2 (F := F) (by omega)
  case a2 =>
    rw [List.take_length, p2]
    simp only [un2, ltn, ifB_f]
  case a1 =>
    intro i hi
    have hwl : log[i].Writes.length ≤ 8 := (((logS_iff log).1 h2).1 _ (List.getElem_mem hi)).few.2
    have hin := iter_seq (ρ := List KVersion ⊕ Int) (f := (un2 fun (v_207 : (List KVersion)) (v_210 : Int) => 
                          (Option.bind (ixI log (i : Int)) (fun v_212 =>
                          ifB (decide (v_210 < ((v_212.Writes.length : Nat) : Int)))
                            (Option.bind (ixI log (i : Int)) (fun v_216 =>
                            Option.bind (ixI v_216.Writes v_210) (fun v_219 =>
                            Option.bind (ixI log (i : Int)) (fun v_223 =>
                            Option.bind (G_regulatorref33_Put F v_207 (⟨v_219.Key, v_223.Ts, v_219.Value, v_219.Gone⟩ : KVersion)) (un2 fun v_226 v_227 =>
                            ifB ((v_227 == 0))
                              (some (.inl (v_226, IntKind.i64.wrap (v_210 + 1))))
                              (some (.inr (.inr v_227))))))))
                            (some (.inr (.inl v_207)))) : Option (((List KVersion) × Int) ⊕ ((List KVersion) ⊕ Int))))) (fun j => ((putsS [] (vsOf (log.take i) ++ (log[i].Writes.take j).map (vX log[i]))).1.map Ver.k, (j : Int))) log[i].Writes.length (.inl ((putsS [] (vsOf (log.take (i + 1)))).1.map Ver.k)) ?b1 ?b2 (F := F) (by omega)
    case b2 =>
      rw [List.take_length, ← vs_succ hi]
      simp only [un2, ixI_get hi, ob_some, ltn, ifB_f]
    case b1 =>
      intro j hj
      obtain ⟨m1, e1, l1⟩ := hok i j hi
      obtain ⟨m2, e2, l2⟩ := hok i (j + 1) hi
      have ej : vsOf (log.take i) ++ (log[i].Writes.take (j + 1)).map (vX log[i]) = (vsOf (log.take i) ++ (log[i].Writes.take j).map (vX log[i])) ++ [vX log[i] log[i].Writes[j]] := by
        rw [List.take_succ_eq_append_getElem hj, List.map_append, List.append_assoc]; rfl
      rw [ej, puts_snoc _ e1] at e2
      have hp : putS m1 (vX log[i] log[i].Writes[j]) = (m2, 0) := by
        by_cases hc : (putS m1 (vX log[i] log[i].Writes[j])).2 = 0
        · rw [if_pos hc] at e2
          injection e2 with e2 _
          exact Prod.ext e2 hc
        · rw [if_neg hc] at e2
          injection e2 with _ e2
          exact absurd e2 hc
      simp only [un2, ixI_get hi, ob_some, ltl hj, ifB_t, ixI_get hj, w64_1 hj (by omega), e1]
      rw [rput_k (by omega)]
      show Option.bind (some (kRes (putS m1 (vX log[i] log[i].Writes[j])))) _ = _
      rw [hp, ej, puts_snoc _ e1, hp]
      rfl
    simp only [un2, ltl hi, ifB_t]
    have h00 : ((putsS [] (vsOf (log.take i) ++ (log[i].Writes.take 0).map (vX log[i]))).1.map Ver.k, ((0 : Nat) : Int)) = ((putsS [] (vsOf (log.take i))).1.map Ver.k, (0 : Int)) := by
      rw [List.take_zero, List.map_nil, List.append_nil]; rfl
    rw [h00] at hin
    rw [hin]
    simp only [ob_some, Sum.elim_inl, w64_1 hi (by omega)]
    congr 2
  have h0 : ((putsS [] (vsOf (log.take 0))).1.map Ver.k, ((0 : Nat) : Int)) = (([] : List KVersion), (0 : Int)) := rfl
  rw [h0] at hit
  rw [hit]
  have hml : m.length ≤ 240 := by
    have := puts_len p2
    simp only [List.length_nil] at this
    omega
  simp only [ob_some, Sum.elim_inl]
  rw [rread_k (by omega), r2]
  rfl
theorem heads_le : ∀ (p : Option Int) (l : List Ver), (heads p l).length ≤ l.length
 | _, [] => Nat.le_refl _
 | p, v :: l => by
  unfold heads
  split
  ·exact Nat.le_trans (heads_le p l) (by simp)
  ·simpa using heads_le (some v.key) l
theorem read_len {l : List KCopy} (h : FewC l) (id t : Int) : (readX l id t).1.length ≤ 240 := by
 unfold readX; cases hv : validS l with
 | false => exact Nat.zero_le _
 | true =>
 cases ht : stampB t with
 | false => exact Nat.zero_le _
 | true =>
 cases hf : fnd l id with
 | none => exact Nat.zero_le _
 | some k =>
 obtain ⟨hk, _⟩ := fnd_some hf; obtain ⟨h1, h2, h3⟩ := log_few h hv hk; simp only [Bool.and_self, if_true, List.getElem?_eq_getElem hk]
 split
 ·exact Nat.zero_le _
 ·obtain ⟨m, hm1, p2, r2, _⟩ := readC_ok h2 (by omega) t; rw [r2]; have hml := puts_len p2; simp only [List.length_nil] at hml
  show ((readS m t).1.map Ver.k).length ≤ 240
  rw [List.length_map]; unfold readS
  split
  ·exact Nat.zero_le _
  ·unfold readL; exact Nat.le_trans (List.length_filterMap_le _ _) (Nat.le_trans (heads_le _ _) (by omega))
end Go.Proofs.YtkchfmhgboiimaaGreat
namespace Go.Proofs.YtkchfmhgboiimaaGreat
theorem head38 : G_regulatorlaw38_head 300 = some true := by kernel_rfl
end Go.Proofs.YtkchfmhgboiimaaGreat
namespace Go.Proofs.YtkchfmhgboiimaaGreat
open Go.ChangeShapes Go.WideShapes Go.ChangeAt Go.RowKit Go.Deep
theorem own : ownKnob Tryz.prog.godebug = none := by kernel_rfl
theorem laidOut : laidOutB Tryz.prog = true := by kernel_rfl
section
variable {H : Type} {enc : TypeId × Value → H}
theorem trodAll_below {P : Program} (hl : laidOutB P = true) {W W' : World} (hb : Below W.heap.size W W') : ∀ {ts : List TypeId} {vs : List Value} {ds : List (DataW H)} {ps : List MemPlace},
  (∀ t ∈ ts, P.readableRec t = true ∧ t < P.types.size) → DataW.TrodAll enc P W 0 (fun _ => true) true ts vs ds ps → (∀ x ∈ ps, x.block < W.heap.size) →
  DataW.TrodAll enc P W' 0 (fun b => decide (b < W.heap.size)) true ts vs ds ps
 | [], vs, ds, ps, _, h, _ => by
  obtain ⟨rfl, rfl, rfl⟩ := trodAll_nil h; rfl
 | t :: ts, vs, ds, ps, hr, h, hlt => by
  obtain ⟨v, vs', d, ds', p, q, rfl, rfl, rfl, h1, h2⟩ := trodAll_cons h; have h0 := hr t (by simp); exact trodAll_cons_mk (Below.trod hl h0.1 h0.2 h1 hb (fun x hx => hlt x (by simp [hx]))) (trodAll_below hl hb (fun t ht => hr t (by simp [ht])) h2 (fun x hx => hlt x (by simp [hx])))
theorem post_true {P : Program} {fn : Func} {s : ChangeSpec} {W W' : World} {args : Array Value} {ds gs : List (DataW H)} {before : List MemPlace} {b : TypeId} (hl : laidOutB P = true)
  (hr : ∀ t ∈ fn.params.toList, P.readableRec t = true ∧ t < P.types.size) (hb4 : P.underlying b = some .bool) (hrt : fn.resultTypes = #[b]) (hs : s.vars = [])
  (hW : DataW.Whole enc P fn.params.toList s.vars false W args.toList ds gs before) (hres : (s.fn H (ds ++ gs)).results = [.lit (.bool true)]) (hargs : (s.fn H (ds ++ gs)).args = ds) (hvs : (s.fn H (ds ++ gs)).vars = [])
  (hb : Below W.heap.size W W') : s.post enc P fn false true false false W args (.bool true) W' := by
 have hW' := hW; obtain ⟨p, q, hA, hV, rfl, _, _⟩ := hW; rw [hs] at hV; obtain ⟨rfl, rfl⟩ := trodVars_none hV; refine ⟨_, _, _, [], p, [], hW', ?_, ?_, ?_, hb.frame _, fun h => by cases h⟩
 ·rw [hres, hrt]; exact trodAll_mk1 (shut_bool hb4 true)
 ·rw [hargs]; exact trodAll_below hl hb hr hA (fun x hx => by simpa using hW'.lt x (by simp [hx]))
 ·rw [hvs, hs]; rfl
end
end Go.Proofs.YtkchfmhgboiimaaGreat
namespace Go.Proofs.YtkchfmhgboiimaaGreat
open Go.ChangeShapes Go.WideShapes Go.ChangeAt Go.RowKit Go.Deep
def inKd (k : IntKind) (n : Int) : Prop := (Lit.int k n).wf = true
theorem inKd_i64 {n : Int} (h : inKd .i64 n) : -9223372036854775808 ≤ n ∧ n ≤ 9223372036854775807 := by
 have : IntKind.i64.min ≤ n ∧ n ≤ IntKind.i64.max := by simpa [inKd, Lit.wf] using h
 rwa [show IntKind.i64.min = -9223372036854775808 by decide, show IntKind.i64.max = 9223372036854775807 by decide] at this
theorem rowS_all {w : World} {A : Option Addr} {xs : List Value} (h : Rd w A xs) : RowS (fun g => g < w.heap.size) w A xs := ⟨h, fun hn => by obtain ⟨b, o, e, hb, _⟩ := h hn; exact ⟨b, o, e, hb⟩⟩
theorem choose_ltK {α : Type} [Inhabited α] {n : Nat} {p : Nat → α → Prop} (h : ∀ i, i < n → ∃ v, p i v) : ∃ V : Nat → α, ∀ i, i < n → p i (V i) := by
 have h' : ∀ i, ∃ v, i < n → p i v := fun i => by
  rcases Nat.lt_or_ge i n with hi | hi
  ·obtain ⟨v, hv⟩ := h i hi; exact ⟨v, fun _ => hv⟩
  ·exact ⟨default, fun h => absurd h (Nat.not_lt.2 hi)⟩
 exact ⟨fun i => Classical.choose (h' i), fun i => Classical.choose_spec (h' i)⟩
theorem fl_get {α : Type} (f : α → List Value) (m : Nat) (hm : ∀ x, (f x).length = m) : ∀ (l : List α) (k j : Nat) (hk : k < l.length), j < m → (l.flatMap f)[k * m + j]? = (f l[k])[j]?
 | [], k, j, hk, _ => absurd hk (Nat.not_lt_zero _)
 | x :: l, 0, j, _, hj => by
  rw [List.flatMap_cons, Nat.zero_mul, Nat.zero_add, List.getElem?_append_left (by rw [hm]; exact hj)]; rfl
 | x :: l, k + 1, j, hk, hj => by
  rw [List.flatMap_cons, List.getElem?_append_right (by rw [hm, Nat.add_mul]; omega), hm]; have := fl_get f m hm l k j (by simpa using hk) hj; rw [← show (k + 1) * m + j - m = k * m + j from by rw [Nat.add_mul]; omega] at this; exact this
theorem cell_ltK {w : World} {b o : Nat} {u : Value} (h : w.cell? ⟨b, o, none⟩ = some u) : b < w.heap.size := World.block_lt_of_cell? w ⟨b, o, none⟩ h
section
variable {α : Type} {f : α → List Value} {m : Nat} {w : World}
theorem rd_mk {b o : Nat} {l : List α} (hm : ∀ x, (f x).length = m) (h0 : 0 < m) (h : ∀ i (hi : i < l.length) j, j < m → w.cell? ⟨b, o + i * m + j, none⟩ = (f l[i])[j]?) : Rd w (some ⟨b, o, none⟩) (l.flatMap f) := fun hne => by
 have hl : 0 < l.length := by
  cases l with
  | nil => exact absurd rfl hne
  | cons _ _ => simp
 have hlen := fl_len f m hm l; refine ⟨b, o, rfl, ?_, fun j u hu => ?_⟩
 ·have h1 := h 0 hl 0 h0; have h2 : (f l[0])[0]? = some ((f l[0])[0]'(by rw [hm]; exact h0)) := List.getElem?_eq_getElem _; rw [h2] at h1; exact cell_ltK h1
 ·have hj : j < l.length * m := by
   have := (List.getElem?_eq_some_iff.1 hu).1
   rwa [hlen] at this
  have hi : j / m < l.length := Nat.div_lt_of_lt_mul (by rw [Nat.mul_comm]; exact hj); have hr : j % m < m := Nat.mod_lt _ h0; have he : j / m * m + j % m = j := by rw [Nat.mul_comm]; exact Nat.div_add_mod _ _
  have hg := fl_get f m hm l (j / m) (j % m) hi hr; rw [he] at hg; rw [hg] at hu; have := h (j / m) hi (j % m) hr; rw [Nat.add_assoc, he] at this; rw [this]; exact hu
end
section
variable {H : Type} {enc : TypeId × Value → H} {w : World} {base : Nat} {spare : Nat → Bool} {held : Bool}
theorem trod_rowS {α : Type} [Inhabited α] (f : α → List Value) {m : Nat} (h0 : 0 < m) (hm : ∀ x, (f x).length = m) {T E : TypeId} (hu : Tryz.prog.underlying T = some (.slice E)) (hc : Tryz.prog.cellsOf E = m) (Q : α → Prop)
  (hE : ∀ n cs x, DataW.trod enc Tryz.prog w base spare held n E cs = some x → ∃ v, cs = f v ∧ Q v) {fuel : Nat} {cs : List Value} {x : DataW H × List MemPlace} (h : DataW.trod enc Tryz.prog w base spare held fuel T cs = some x) :
  ∃ (A : Option Addr) (c : Nat) (l : List α), cs = [.slice A l.length c] ∧ l.length ≤ c ∧ c ≤ maxLen ∧ Rd w A (l.flatMap f) ∧ ∀ v ∈ l, Q v := by
 obtain ⟨d, p⟩ := x; rcases open_slice hu h with ⟨hcs, _⟩ | ⟨a, len, cap, mm, n, D, Pl, hcs, _, hl, hmx, hmm, _, hx⟩
 ·exact ⟨none, 0, [], hcs, Nat.le_refl _, Nat.zero_le _, Rd.nil _ _, fun v hv => by cases hv⟩
 ·have hlm : len ≤ mm := by rw [hmm]; split <;> omega
  have hex : ∀ i, i < len → ∃ v : α, (∀ j, j < m → w.cell? ((a.add (i * m)).add j) = (f v)[j]?) ∧ Q v := fun i hi => by
   obtain ⟨cs', h1, h2⟩ := hx i (by omega); rw [hc] at h1; obtain ⟨v, rfl, hq⟩ := hE _ _ _ h2; exact ⟨v, (World.cells?_some h1).2.2, hq⟩
  obtain ⟨V, hV⟩ := choose_ltK hex; refine ⟨some a, cap, (List.range len).map V, by rw [hcs]; simp, by simpa using hl, hmx, ?_, ?_⟩
  ·rcases Nat.eq_zero_or_pos len with h00 | h00
   ·subst h00; exact Rd.nil _ _
   obtain ⟨b, o, spot⟩ := a; have hs : spot = none := by
    have := (hV 0 h00).1 0 h0; simp only [Nat.zero_mul, Addr.add, if_true] at this; have h2 : (f (V 0))[0]? = some ((f (V 0))[0]'(by rw [hm]; exact h0)) := List.getElem?_eq_getElem _; rw [h2] at this; exact World.cell?_spot this
   subst hs; refine rd_mk hm h0 fun i hi j hj => ?_
   have hi' : i < len := by simpa using hi
   have e : ∀ j, (((⟨b, o, none⟩ : Addr).add (i * m)).add j) = ⟨b, o + i * m + j, none⟩ := fun j => by rw [add_addr, add_addr]
   have hcc := (hV i hi').1 j hj; rw [e] at hcc; simp only [List.getElem_map, List.getElem_range]; exact hcc
  ·intro v hv; obtain ⟨i, hi, rfl⟩ := List.mem_map.1 hv; exact (hV i (List.mem_range.1 hi)).2
end
end Go.Proofs.YtkchfmhgboiimaaGreat
namespace Go.Proofs.YtkchfmhgboiimaaGreat
open Go.RowKit
theorem few_ship {l : List KCopy} (h : FewC l) {i k : Nat} (hi : i < l.length) (hk : k < l.length) (n : Nat) : FewC (shipL l i k n) := by
 rw [shipL_eq hi hk]
 split
 ·refine ⟨by rw [List.length_set]; exact h.n, fun c hc => ?_, fun c hc t ht => ?_⟩
  ·rcases List.mem_or_eq_of_mem_set hc with hc | rfl
   ·exact h.g c hc
   ·have := h.g _ (List.getElem_mem hi)
    show (l[i].Log.take _).length ≤ 30
    rw [List.length_take]; omega
  ·rcases List.mem_or_eq_of_mem_set hc with hc | rfl
   ·exact h.t c hc t ht
   ·exact h.t _ (List.getElem_mem hi) t (List.mem_of_mem_take ht)
 ·exact h
theorem few_nil : FewC [] := ⟨Nat.zero_le _, fun _ h => absurd h List.not_mem_nil, fun _ h => absurd h List.not_mem_nil⟩
theorem few_shipS {l : List KCopy} (h : FewC l) (i k n : Int) : FewC (shipS l i k n).1 := by
 unfold shipS
 split
 ·cases hi : fnd l i with
  | none => exact few_nil
  | some a =>
  cases hk : fnd l k with
  | none => exact few_nil
  | some b => exact few_ship h (fnd_some hi).1 (fnd_some hk).1 _
 ·exact few_nil
theorem law38_match {l : List KCopy} {a b most : Int} {alive : List Int} {ts : Int} (hm : inKd .i64 most) : G_regulatorlaw38_CopiesMatchesReference 300 l a b most alive ts = some true := by
 have hm' := (inKd_i64 hm).2; unfold G_regulatorlaw38_CopiesMatchesReference; rw [head38, few_r l (by omega)]; simp only [ob_some]; cases hfw : fewS l with
 | false => rfl
 | true =>
 have h := few_iff.1 hfw; simp only [ifB_t, ob_some, un5]
 by_cases ha : alive.length ≤ 20
 case neg => rw [decide_eq_true (p := ((alive.length : Nat) : Int) > 20) (by omega)]; rfl
 rw [decide_eq_false (p := ((alive.length : Nat) : Int) > 20) (by omega)]; simp only [ifB_f, ship_p l _ _ _ h hm' (show 64 ≤ 300 by omega), ship_r l _ _ _ h hm' (show 64 ≤ 300 by omega), ob_some, un2, valid_p l h (show 64 ≤ 300 by omega), valid_r l h (show 64 ≤ 300 by omega), same_r _ _ (few_shipS h _ _ _) (show 64 ≤ 300 by omega), safe_p l h (show 64 ≤ 300 by omega), safe_r l h (show 64 ≤ 300 by omega), elect_p l alive h (by omega) (show 64 ≤ 300 by omega), elect_r l alive h (by omega) (show 64 ≤ 300 by omega), read_p l _ _ h (show 64 ≤ 300 by omega), read_r l _ _ h (show 64 ≤ 300 by omega), beq_self_eq_true, ifB_t, decide_true]; rw [same33_r _ _ (by have := read_len h a ts; omega) (by have := read_len h a ts; omega)]; simp only [ob_some, ifB_t, decide_true]
end Go.Proofs.YtkchfmhgboiimaaGreat
namespace Go.Proofs.YtkchfmhgboiimaaGreat
open Go.RowKit
structure ElI (l : List KCopy) (bt : Nat → Bool) (k : Nat) (b : List Int × Nat) : Prop where
 nd : b.1.Nodup
 m : ∀ n, n ∈ b.1 ↔ ∃ j, ∃ h : j < l.length, j < k ∧ bt j = true ∧ l[j].ID = n
 ge : ∀ j (h : j < l.length), j < k → bt j = true → l[j].Log.length ≤ b.2
 eq : b.2 = 0 ∨ ∃ j, ∃ h : j < l.length, j < k ∧ bt j = true ∧ l[j].Log.length = b.2
 ln : b.1.length ≤ k
end Go.Proofs.YtkchfmhgboiimaaGreat
namespace Go.Proofs.YtkchfmhgboiimaaGreat
open Go.ChangeShapes Go.WideShapes Go.ChangeAt Go.RowKit Go.Deep
section
variable {H : Type} {enc : TypeId × Value → H} {w : World} {base : Nat} {spare : Nat → Bool} {held : Bool}
set_option maxRecDepth 10000
theorem trod_int {n : Nat} {cs : List Value} {x : DataW H × List MemPlace} (h : DataW.trod enc Tryz.prog w base spare held n 3 cs = some x) : ∃ v : Int, cs = c_i64 v ∧ inKd .i64 v := by
 obtain ⟨a, e, _, hw⟩ := DataW.trod_int Tryz.underlying3 h; exact ⟨a, e, hw⟩
theorem cl_int : Tryz.prog.cellsOf 3 = 1 := by kernel_rfl
theorem cl_api_Seen : Tryz.prog.cellsOf 90 = 2 := by kernel_rfl
structure KSeen.rng (x : KSeen) : Prop where
 r_Key : inKd .i64 x.Key
 r_Ts : inKd .i64 x.Ts
theorem tf_api_Seen : ∃ f0 f1 : Field, Tryz.prog.underlying 90 = some (.struct #[f0, f1]) ∧ (f0.offset = 0 ∧ f0.type = 3) ∧ (f1.offset = 1 ∧ f1.type = 3) := ⟨_, _, Tryz.underlying90, ⟨by kernel_rfl, by kernel_rfl⟩, ⟨by kernel_rfl, by kernel_rfl⟩⟩
theorem trod_api_Seen {n : Nat} {cs : List Value} {x : DataW H × List MemPlace} (h : DataW.trod enc Tryz.prog w base spare held n 90 cs = some x) : ∃ v : KSeen, cs = v.cells ∧ KSeen.rng v := by
 obtain ⟨f0, f1, hu, ⟨o0, t0⟩, ⟨o1, t1⟩⟩ := tf_api_Seen; obtain ⟨xs, n', _, _, hlen, hxl, hf⟩ := DataW.trod_struct hu h; rw [cl_api_Seen] at hlen
 match cs, hlen with
 | [c0, c1], _ =>
  have q0 := hf 0 f0 rfl; obtain ⟨y0, hy0⟩ : ∃ y, xs[0]? = some y := ⟨_, List.getElem?_eq_getElem (by rw [hxl]; exact (by decide : 0 < 2))⟩; rw [hy0, o0, t0, cl_int] at q0; obtain ⟨v0, e0, hg0⟩ := trod_int q0; replace e0 : [c0] = [I v0] := e0; simp only [List.cons.injEq, and_true] at e0; obtain rfl := e0; have q1 := hf 1 f1 rfl; obtain ⟨y1, hy1⟩ : ∃ y, xs[1]? = some y := ⟨_, List.getElem?_eq_getElem (by rw [hxl]; exact (by decide : 1 < 2))⟩; rw [hy1, o1, t1, cl_int] at q1; obtain ⟨v1, e1, hg1⟩ := trod_int q1; replace e1 : [c1] = [I v1] := e1; simp only [List.cons.injEq, and_true] at e1; obtain rfl := e1; exact ⟨⟨v0, v1⟩, rfl, ⟨hg0, hg1⟩⟩
instance : Inhabited KSeen := ⟨⟨0, 0⟩⟩
theorem trod_Sl_api_Seen {n : Nat} {cs : List Value} {x : DataW H × List MemPlace} (h : DataW.trod enc Tryz.prog w base spare held n 44 cs = some x) :
  ∃ (A : Option Addr) (c : Nat) (l : List KSeen), cs = [.slice A l.length c] ∧ RowC A c KSeen.cells tr l (fun g => g < w.heap.size) w ∧ (∀ y ∈ l, KSeen.rng y) := by
 obtain ⟨A, c, l, h1, h2, h3, h4, h5⟩ := trod_rowS KSeen.cells (m := 2) (by decide) (fun _ => rfl) Tryz.underlying44 cl_api_Seen (fun v : KSeen => KSeen.rng v) (fun _ _ _ hx => trod_api_Seen hx) h; exact ⟨A, c, l, h1, ⟨rowS_all h4, h2, fun _ _ => trivial⟩, h5⟩
theorem cl_Sl_api_Seen : Tryz.prog.cellsOf 44 = 1 := by kernel_rfl
theorem trod_bool {n : Nat} {cs : List Value} {x : DataW H × List MemPlace} (h : DataW.trod enc Tryz.prog w base spare held n 4 cs = some x) : ∃ v : Bool, cs = c_bool v ∧ True := by
 obtain ⟨a, e, _⟩ := DataW.trod_bool Tryz.underlying4 h; exact ⟨a, e, trivial⟩
theorem cl_bool : Tryz.prog.cellsOf 4 = 1 := by kernel_rfl
theorem cl_api_Write : Tryz.prog.cellsOf 52 = 3 := by kernel_rfl
structure KWrite.rng (x : KWrite) : Prop where
 r_Key : inKd .i64 x.Key
 r_Value : inKd .i64 x.Value
 r_Gone : (fun _ : Bool => True) x.Gone
theorem tf_api_Write : ∃ f0 f1 f2 : Field, Tryz.prog.underlying 52 = some (.struct #[f0, f1, f2]) ∧ (f0.offset = 0 ∧ f0.type = 3) ∧ (f1.offset = 1 ∧ f1.type = 3) ∧ (f2.offset = 2 ∧ f2.type = 4) := ⟨_, _, _, Tryz.underlying52, ⟨by kernel_rfl, by kernel_rfl⟩, ⟨by kernel_rfl, by kernel_rfl⟩, ⟨by kernel_rfl, by kernel_rfl⟩⟩
theorem trod_api_Write {n : Nat} {cs : List Value} {x : DataW H × List MemPlace} (h : DataW.trod enc Tryz.prog w base spare held n 52 cs = some x) : ∃ v : KWrite, cs = v.cells ∧ KWrite.rng v := by
 obtain ⟨f0, f1, f2, hu, ⟨o0, t0⟩, ⟨o1, t1⟩, ⟨o2, t2⟩⟩ := tf_api_Write; obtain ⟨xs, n', _, _, hlen, hxl, hf⟩ := DataW.trod_struct hu h; rw [cl_api_Write] at hlen
 match cs, hlen with
 | [c0, c1, c2], _ =>
  have q0 := hf 0 f0 rfl; obtain ⟨y0, hy0⟩ : ∃ y, xs[0]? = some y := ⟨_, List.getElem?_eq_getElem (by rw [hxl]; exact (by decide : 0 < 3))⟩; rw [hy0, o0, t0, cl_int] at q0; obtain ⟨v0, e0, hg0⟩ := trod_int q0; replace e0 : [c0] = [I v0] := e0; simp only [List.cons.injEq, and_true] at e0; obtain rfl := e0; have q1 := hf 1 f1 rfl; obtain ⟨y1, hy1⟩ : ∃ y, xs[1]? = some y := ⟨_, List.getElem?_eq_getElem (by rw [hxl]; exact (by decide : 1 < 3))⟩; rw [hy1, o1, t1, cl_int] at q1; obtain ⟨v1, e1, hg1⟩ := trod_int q1; replace e1 : [c1] = [I v1] := e1; simp only [List.cons.injEq, and_true] at e1; obtain rfl := e1; have q2 := hf 2 f2 rfl; obtain ⟨y2, hy2⟩ : ∃ y, xs[2]? = some y := ⟨_, List.getElem?_eq_getElem (by rw [hxl]; exact (by decide : 2 < 3))⟩; rw [hy2, o2, t2, cl_bool] at q2; obtain ⟨v2, e2, hg2⟩ := trod_bool q2; replace e2 : [c2] = [B v2] := e2; simp only [List.cons.injEq, and_true] at e2; obtain rfl := e2; exact ⟨⟨v0, v1, v2⟩, rfl, ⟨hg0, hg1, hg2⟩⟩
instance : Inhabited KWrite := ⟨⟨0, 0, false⟩⟩
theorem trod_Sl_api_Write {n : Nat} {cs : List Value} {x : DataW H × List MemPlace} (h : DataW.trod enc Tryz.prog w base spare held n 45 cs = some x) :
  ∃ (A : Option Addr) (c : Nat) (l : List KWrite), cs = [.slice A l.length c] ∧ RowC A c KWrite.cells tr l (fun g => g < w.heap.size) w ∧ (∀ y ∈ l, KWrite.rng y) := by
 obtain ⟨A, c, l, h1, h2, h3, h4, h5⟩ := trod_rowS KWrite.cells (m := 3) (by decide) (fun _ => rfl) Tryz.underlying45 cl_api_Write (fun v : KWrite => KWrite.rng v) (fun _ _ _ hx => trod_api_Write hx) h; exact ⟨A, c, l, h1, ⟨rowS_all h4, h2, fun _ _ => trivial⟩, h5⟩
theorem cl_Sl_api_Write : Tryz.prog.cellsOf 45 = 1 := by kernel_rfl
theorem cl_api_Tx : Tryz.prog.cellsOf 47 = 4 := by kernel_rfl
structure KTx.rng (x : KTx) : Prop where
 r_ID : inKd .i64 x.ID
 r_Ts : inKd .i64 x.Ts
 r_Reads : (fun l : List KSeen => ∀ y ∈ l, KSeen.rng y) x.Reads
 r_Writes : (fun l : List KWrite => ∀ y ∈ l, KWrite.rng y) x.Writes
theorem tf_api_Tx : ∃ f0 f1 f2 f3 : Field, Tryz.prog.underlying 47 = some (.struct #[f0, f1, f2, f3]) ∧ (f0.offset = 0 ∧ f0.type = 3) ∧ (f1.offset = 1 ∧ f1.type = 3) ∧ (f2.offset = 2 ∧ f2.type = 44) ∧ (f3.offset = 3 ∧ f3.type = 45) := ⟨_, _, _, _, Tryz.underlying47, ⟨by kernel_rfl, by kernel_rfl⟩, ⟨by kernel_rfl, by kernel_rfl⟩, ⟨by kernel_rfl, by kernel_rfl⟩, ⟨by kernel_rfl, by kernel_rfl⟩⟩
theorem trod_api_Tx {n : Nat} {cs : List Value} {x : DataW H × List MemPlace} (h : DataW.trod enc Tryz.prog w base spare held n 47 cs = some x) : ∃ v : KTxL, cs = v.cells ∧ KTxL.ok v (fun g => g < w.heap.size) w ∧ KTx.rng v.p := by
 obtain ⟨f0, f1, f2, f3, hu, ⟨o0, t0⟩, ⟨o1, t1⟩, ⟨o2, t2⟩, ⟨o3, t3⟩⟩ := tf_api_Tx; obtain ⟨xs, n', _, _, hlen, hxl, hf⟩ := DataW.trod_struct hu h; rw [cl_api_Tx] at hlen
 match cs, hlen with
 | [c0, c1, c2, c3], _ =>
  have q0 := hf 0 f0 rfl; obtain ⟨y0, hy0⟩ : ∃ y, xs[0]? = some y := ⟨_, List.getElem?_eq_getElem (by rw [hxl]; exact (by decide : 0 < 4))⟩; rw [hy0, o0, t0, cl_int] at q0; obtain ⟨v0, e0, hg0⟩ := trod_int q0; replace e0 : [c0] = [I v0] := e0; simp only [List.cons.injEq, and_true] at e0; obtain rfl := e0; have q1 := hf 1 f1 rfl; obtain ⟨y1, hy1⟩ : ∃ y, xs[1]? = some y := ⟨_, List.getElem?_eq_getElem (by rw [hxl]; exact (by decide : 1 < 4))⟩; rw [hy1, o1, t1, cl_int] at q1; obtain ⟨v1, e1, hg1⟩ := trod_int q1; replace e1 : [c1] = [I v1] := e1; simp only [List.cons.injEq, and_true] at e1; obtain rfl := e1; have q2 := hf 2 f2 rfl; obtain ⟨y2, hy2⟩ : ∃ y, xs[2]? = some y := ⟨_, List.getElem?_eq_getElem (by rw [hxl]; exact (by decide : 2 < 4))⟩; rw [hy2, o2, t2, cl_Sl_api_Seen] at q2; obtain ⟨A2, k2, v2, e2, hr2, hg2⟩ := trod_Sl_api_Seen q2; replace e2 : [c2] = [.slice A2 v2.length k2] := e2; simp only [List.cons.injEq, and_true] at e2; obtain rfl := e2; have q3 := hf 3 f3 rfl; obtain ⟨y3, hy3⟩ : ∃ y, xs[3]? = some y := ⟨_, List.getElem?_eq_getElem (by rw [hxl]; exact (by decide : 3 < 4))⟩; rw [hy3, o3, t3, cl_Sl_api_Write] at q3; obtain ⟨A3, k3, v3, e3, hr3, hg3⟩ := trod_Sl_api_Write q3; replace e3 : [c3] = [.slice A3 v3.length k3] := e3; simp only [List.cons.injEq, and_true] at e3; obtain rfl := e3; exact ⟨⟨v0, v1, A2, k2, v2, A3, k3, v3⟩, rfl, ⟨hr2, hr3⟩, ⟨hg0, hg1, hg2, hg3⟩⟩
instance : Inhabited KTxL := ⟨⟨0, 0, none, 0, [], none, 0, []⟩⟩
theorem trod_Sl_api_Tx {n : Nat} {cs : List Value} {x : DataW H × List MemPlace} (h : DataW.trod enc Tryz.prog w base spare held n 38 cs = some x) :
  ∃ (A : Option Addr) (c : Nat) (l : List KTxL), cs = [.slice A l.length c] ∧ RowC A c KTxL.cells KTxL.ok l (fun g => g < w.heap.size) w ∧ (∀ y ∈ (l.map KTxL.p), KTx.rng y) := by
 obtain ⟨A, c, l, h1, h2, h3, h4, h5⟩ := trod_rowS KTxL.cells (m := 4) (by decide) (fun _ => rfl) Tryz.underlying38 cl_api_Tx (fun v : KTxL => KTxL.ok v (fun g => g < w.heap.size) w ∧ KTx.rng v.p) (fun _ _ _ hx => trod_api_Tx hx) h; exact ⟨A, c, l, h1, ⟨rowS_all h4, h2, fun y hy => (h5 y hy).1⟩, fun y hy => by obtain ⟨z, hz, rfl⟩ := List.mem_map.1 hy; exact (h5 z hz).2⟩
theorem cl_Sl_api_Tx : Tryz.prog.cellsOf 38 = 1 := by kernel_rfl
theorem cl_api_Copy : Tryz.prog.cellsOf 40 = 2 := by kernel_rfl
structure KCopy.rng (x : KCopy) : Prop where
 r_ID : inKd .i64 x.ID
 r_Log : (fun l : List KTx => ∀ y ∈ l, KTx.rng y) x.Log
theorem tf_api_Copy : ∃ f0 f1 : Field, Tryz.prog.underlying 40 = some (.struct #[f0, f1]) ∧ (f0.offset = 0 ∧ f0.type = 3) ∧ (f1.offset = 1 ∧ f1.type = 38) := ⟨_, _, Tryz.underlying40, ⟨by kernel_rfl, by kernel_rfl⟩, ⟨by kernel_rfl, by kernel_rfl⟩⟩
theorem trod_api_Copy {n : Nat} {cs : List Value} {x : DataW H × List MemPlace} (h : DataW.trod enc Tryz.prog w base spare held n 40 cs = some x) : ∃ v : KCopyL, cs = v.cells ∧ KCopyL.ok v (fun g => g < w.heap.size) w ∧ KCopy.rng v.p := by
 obtain ⟨f0, f1, hu, ⟨o0, t0⟩, ⟨o1, t1⟩⟩ := tf_api_Copy; obtain ⟨xs, n', _, _, hlen, hxl, hf⟩ := DataW.trod_struct hu h; rw [cl_api_Copy] at hlen
 match cs, hlen with
 | [c0, c1], _ =>
  have q0 := hf 0 f0 rfl; obtain ⟨y0, hy0⟩ : ∃ y, xs[0]? = some y := ⟨_, List.getElem?_eq_getElem (by rw [hxl]; exact (by decide : 0 < 2))⟩; rw [hy0, o0, t0, cl_int] at q0; obtain ⟨v0, e0, hg0⟩ := trod_int q0; replace e0 : [c0] = [I v0] := e0; simp only [List.cons.injEq, and_true] at e0; obtain rfl := e0; have q1 := hf 1 f1 rfl; obtain ⟨y1, hy1⟩ : ∃ y, xs[1]? = some y := ⟨_, List.getElem?_eq_getElem (by rw [hxl]; exact (by decide : 1 < 2))⟩; rw [hy1, o1, t1, cl_Sl_api_Tx] at q1; obtain ⟨A1, k1, v1, e1, hr1, hg1⟩ := trod_Sl_api_Tx q1; replace e1 : [c1] = [.slice A1 v1.length k1] := e1; simp only [List.cons.injEq, and_true] at e1; obtain rfl := e1; exact ⟨⟨v0, A1, k1, v1⟩, rfl, ⟨hr1⟩, ⟨hg0, hg1⟩⟩
instance : Inhabited KCopyL := ⟨⟨0, none, 0, []⟩⟩
theorem trod_Sl_api_Copy {n : Nat} {cs : List Value} {x : DataW H × List MemPlace} (h : DataW.trod enc Tryz.prog w base spare held n 22 cs = some x) :
  ∃ (A : Option Addr) (c : Nat) (l : List KCopyL), cs = [.slice A l.length c] ∧ RowC A c KCopyL.cells KCopyL.ok l (fun g => g < w.heap.size) w ∧ (∀ y ∈ (l.map KCopyL.p), KCopy.rng y) := by
 obtain ⟨A, c, l, h1, h2, h3, h4, h5⟩ := trod_rowS KCopyL.cells (m := 2) (by decide) (fun _ => rfl) Tryz.underlying22 cl_api_Copy (fun v : KCopyL => KCopyL.ok v (fun g => g < w.heap.size) w ∧ KCopy.rng v.p) (fun _ _ _ hx => trod_api_Copy hx) h; exact ⟨A, c, l, h1, ⟨rowS_all h4, h2, fun y hy => (h5 y hy).1⟩, fun y hy => by obtain ⟨z, hz, rfl⟩ := List.mem_map.1 hy; exact (h5 z hz).2⟩
theorem opn_Sl_api_Copy {r : Reach} {b0 : Nat} {v : Value} {d : DataW H} {p : List MemPlace} (hv : Value.okWide Tryz.prog w r b0 22 v) (h : DataW.Trod enc Tryz.prog w base spare held 22 v d p) : ∃ (A : Option Addr) (c : Nat) (l : List KCopyL), v = .slice A l.length c ∧ RowC A c KCopyL.cells KCopyL.ok l (fun g => g < w.heap.size) w ∧ (∀ y ∈ (l.map KCopyL.p), KCopy.rng y) := by
 obtain ⟨a0, len0, cap0, rfl⟩ := okWide_slice Tryz.underlying22 hv; obtain ⟨fuel, hf⟩ := h; obtain ⟨A, c, l, e, h1, h2⟩ := trod_Sl_api_Copy hf; simp only [Value.cells, List.cons.injEq, and_true] at e; exact ⟨A, c, l, e, h1, h2⟩
theorem opn_int {r : Reach} {b0 : Nat} {v : Value} {d : DataW H} {p : List MemPlace} (hv : Value.okWide Tryz.prog w r b0 3 v) (h : DataW.Trod enc Tryz.prog w base spare held 3 v d p) : ∃ x : Int, v = .int .i64 x ∧ inKd .i64 x := by
 obtain ⟨x, rfl, _, _, hw⟩ := open_int Tryz.underlying3 hv h; exact ⟨x, rfl, hw⟩
theorem trod_Sl_int {n : Nat} {cs : List Value} {x : DataW H × List MemPlace} (h : DataW.trod enc Tryz.prog w base spare held n 23 cs = some x) :
  ∃ (A : Option Addr) (c : Nat) (l : List Int), cs = [.slice A l.length c] ∧ RowC A c c_i64 tr l (fun g => g < w.heap.size) w ∧ (∀ y ∈ l, inKd .i64 y) := by
 obtain ⟨A, c, l, h1, h2, h3, h4, h5⟩ := trod_rowS c_i64 (m := 1) (by decide) (fun _ => rfl) Tryz.underlying23 cl_int (fun v : Int => inKd .i64 v) (fun _ _ _ hx => trod_int hx) h; exact ⟨A, c, l, h1, ⟨rowS_all h4, h2, fun _ _ => trivial⟩, h5⟩
theorem opn_Sl_int {r : Reach} {b0 : Nat} {v : Value} {d : DataW H} {p : List MemPlace} (hv : Value.okWide Tryz.prog w r b0 23 v) (h : DataW.Trod enc Tryz.prog w base spare held 23 v d p) : ∃ (A : Option Addr) (c : Nat) (l : List Int), v = .slice A l.length c ∧ RowC A c c_i64 tr l (fun g => g < w.heap.size) w ∧ (∀ y ∈ l, inKd .i64 y) := by
 obtain ⟨a0, len0, cap0, rfl⟩ := okWide_slice Tryz.underlying23 hv; obtain ⟨fuel, hf⟩ := h; obtain ⟨A, c, l, e, h1, h2⟩ := trod_Sl_int hf; simp only [Value.cells, List.cons.injEq, and_true] at e; exact ⟨A, c, l, e, h1, h2⟩
end
end Go.Proofs.YtkchfmhgboiimaaGreat
