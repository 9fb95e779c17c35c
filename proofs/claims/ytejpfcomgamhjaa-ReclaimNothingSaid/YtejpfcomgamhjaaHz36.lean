/-
  Integers in slices; the walks of reclaim.Horizon and of its reference.
-/
import Derived.Test.YtejpfcomgamhjaaRc36
import Derived.Test.YtejpfcomgamhjaaRd36
namespace Go.Proofs.Ytejpfcomgamhjaa
open Go.RowKit
def intV (n : Int) : Value := .int .i64 n
/-- a slice that reads as integers -/
def IS (w : World) (A : Option Addr) (l : List Int) : Prop := Rd w A (l.map intV)
theorem IS.below {w w' : World} {A : Option Addr} {l : List Int} {B : Nat} (h : IS w A l) (hb : Below B w w') (hB : w.heap.size ≤ B) : IS w' A l := Rd.below h hb hB
theorem IS.alloc {w : World} {A : Option Addr} {l : List Int} (h : IS w A l) (o : Obj) : IS (w.alloc o) A l := h.below ((Below.refl _ _).alloc (Nat.le_refl _) _) (Nat.le_refl _)
theorem IS.then_ {w w' : World} {A : Option Addr} {l : List Int} (h : IS w A l) (hb : Below w.heap.size w w') : IS w' A l := h.below hb (Nat.le_refl _)
theorem IS.at_ {w : World} {A : Option Addr} {l : List Int} (h : IS w A l) {k : Nat} (hk : k < l.length) : ∃ b o, A = some ⟨b, o, none⟩ ∧ b < w.heap.size ∧ ∀ i (hi : i < l.length), w.cell? ⟨b, o + i, none⟩ = some (.int .i64 l[i]) := by
  obtain ⟨b, o, rfl, hb, hc⟩ := h (by intro e; have := congrArg List.length e; simp at this; subst this; simp at hk)
  exact ⟨b, o, rfl, hb, fun i hi => hc i _ (by rw [List.getElem?_map, List.getElem?_eq_getElem hi]; rfl)⟩
def OwnI (w : World) (base : Nat) (v : Value) (l : List Int) : Prop := w.ownsRow base 3 1 v l.length (l.map intV)
theorem OwnI.form {w : World} {base : Nat} {v : Value} {l : List Int} (h : OwnI w base v l) : ∃ A c, v = .slice A l.length c ∧ l.length ≤ c ∧ c ≤ maxLen ∧ IS w A l := own_form h
theorem OwnI.below {w w' : World} {base : Nat} {v : Value} {l : List Int} (h : OwnI w base v l) (hb : Below w.heap.size w w') : OwnI w' base v l := by
  refine ⟨h.1, ?_⟩
  rcases h.2 with h2 | ⟨g, cap, cur, hv, hg, hh, r⟩
  · exact .inl h2
  · exact .inr ⟨g, cap, cur, hv, hg, (hb.block g (Array.getElem?_eq_some_iff.1 hh).1).trans hh, r⟩
theorem infoI : (Try.prog.info? 3).map (fun i => (i.zero, i.size, i.bytes)) = some (some (.int .i64 0), 1, 8) := by kernel_rfl
theorem int_one (l : List Int) : ∀ u ∈ l.map intV, u.oneCell' = true := by
  intro u hu
  obtain ⟨n, _, rfl⟩ := List.mem_map.1 hu
  rfl
set_option maxHeartbeats 1000000 in
theorem cloneI_any (A : Option Addr) (c : Nat) (l : List Int) (w : World) (hn : l.length ≤ 100000) (h : IS w A l) :
    Calls Try.prog 45 #[.slice A l.length c] w fun e w' => ∃ v, e = .returned v ∧ OwnI w' w.heap.size v l ∧ Below w.heap.size w w' := by
  obtain ⟨i0, hi, hz0, hz1, hz2⟩ := info_parts infoI
  have hne := fun w' => Lib.run_eql_slice_nil (P := Try.prog) w' 23 3 A l.length c 0 0 Try.underlying23
  cases hA : A.isNone
  · rw [hA] at hne
    go_enter Try.func45, Try.ntmps45
    go_wp2_with (at_builtin; refine wpList_append_rd _ rfl _ _ 23 rfl w.heap.size 3 i0 _ 1 8 Try.underlying23 hi hz0 hz1 hz2 rfl (by decide) _ 0 [] rfl (World.ownsRow_made w #[] 0 (Nat.le_refl _) (by simp [maxLen]) rfl) A l.length c (l.map intV) rfl (by simp) (h.alloc _) (int_one l) ?_ ?_ ?_ ?_)
    · simp only [maxLen]; omega
    · omega
    · simp
    · intro v1 w1 ho hg _
      go_wp2
      go_ret
      refine ⟨v1, rfl, by simpa [OwnI] using ho, ((Below.refl _ _).alloc (Nat.le_refl _) _).grown hg (by simp) (fun k hk => by simp [Value.ownBlock] at hk; omega)⟩
  · rw [hA] at hne
    obtain rfl : A = none := by simpa using hA
    have hl : l = [] := by
      cases l with
      | nil => rfl
      | cons x l => obtain ⟨b, o, h1, _⟩ := IS.at_ h (k := 0) (by simp); cases h1
    subst hl
    simp only [List.length_nil] at hne
    go_enter Try.func45, Try.ntmps45
    go_wp2
    go_ret
    exact ⟨.slice none 0 0, rfl, World.ownsRow_nil _ _ _ _, Below.refl _ _⟩
theorem horizon1_any (t : Int) (w : World) : Calls Try.prog 41 #[.int .i64 t] w fun e w' => e = .returned (.bool (!stampB t)) ∧ w = w' := by
  go_enter Try.func41, Try.ntmps41
  go_wp2_with (go_at_call 42; refine (stamp36_any _ _).mono ?_; rintro e w2 ⟨rfl, rfl⟩)
  go_ret
  exact ⟨rfl, rfl⟩
/-- the first index at which no timestamp stands, or -1 -/
def badI (l : List Int) : Int := match l.findIdx? (fun t => !stampB t) with | some k => k | none => -1
theorem badI_hit {l : List Int} {k : Nat} (hk : k < l.length) (h : stampB l[k] = false) (ha : ∀ j (hj : j < l.length), j < k → stampB l[j] = true) : badI l = k := by
  unfold badI
  have : l.findIdx? (fun t => !stampB t) = some k := by
    rw [List.findIdx?_eq_some_iff_getElem]
    exact ⟨hk, by simp [h], fun j hj => by simp [ha j (by omega) hj]⟩
  rw [this]
theorem badI_none {l : List Int} (ha : ∀ j (hj : j < l.length), stampB l[j] = true) : badI l = -1 := by
  unfold badI
  have : l.findIdx? (fun t => !stampB t) = none := by
    rw [List.findIdx?_eq_none_iff]
    intro x hx
    obtain ⟨j, hj, rfl⟩ := List.getElem_of_mem hx
    simp [ha j hj]
  rw [this]
theorem badI_any (l : List Int) : decide (0 ≤ badI l) = l.any (fun t => !stampB t) := by
  unfold badI
  cases h : l.findIdx? (fun t => !stampB t) with
  | none =>
    rw [List.findIdx?_eq_none_iff] at h
    have : l.any (fun t => !stampB t) = false := by rw [List.any_eq_false]; intro x hx; have := h x hx; simp at this; simp [this]
    rw [this]; rfl
  | some k =>
    rw [List.findIdx?_eq_some_iff_getElem] at h
    obtain ⟨hk, hb, _⟩ := h
    have : l.any (fun t => !stampB t) = true := by rw [List.any_eq_true]; exact ⟨l[k], List.getElem_mem hk, hb⟩
    rw [this]
    simp
set_option maxHeartbeats 1000000 in
theorem indexFunc_any (A : Option Addr) (c : Nat) (l : List Int) (w : World) (hn : l.length ≤ 9223372036854775807) (h : IS w A l) :
    Calls Try.prog 62 #[.slice A l.length c, .func (.func 41) #[] #[]] w fun e w' => e = .returned (.int .i64 (badI l)) ∧ w = w' := by
  go_enter Try.func62, Try.ntmps62
  go_wp2
  go_loopw [5, 8] (fun _ i wr => ∃ k : Nat, k ≤ l.length ∧ i = .int .i64 k ∧ (∀ j (hj : j < l.length), j < k → stampB l[j] = true) ∧ w = wr) (fun _ i _ => l.length - (intOf i).toNat)
  case atStart => exact ⟨0, Nat.zero_le _, rfl, fun j _ hj => absurd hj (Nat.not_lt_zero _), rfl⟩
  case round =>
    obtain ⟨k, hk, rfl, hall, rfl⟩ := hrel
    have HA := hide hall
    clear hall
    by_cases hlt : k < l.length
    · obtain ⟨b, o, rfl, hbl, hc⟩ := h.at_ hlt
      have c0 := hc k hlt
      clear hc
      cases hq : stampB l[k]
      · have hr := badI_hit hlt hq HA.out
        have HR := hide hr
        clear hr
        go_wp2_with (go_at_call 41; refine (horizon1_any _ _).mono ?_; rw [hq]; rintro e w2 ⟨rfl, rfl⟩)
        go_ret
        exact ⟨by rw [HR.out]; rfl, rfl⟩
      · have HQ := hide hq
        go_wp2_with (go_at_call 41; refine (horizon1_any _ _).mono ?_; rw [hq]; rintro e w2 ⟨rfl, rfl⟩)
        go_roundw
        case rel => exact ⟨k + 1, by omega, by go_num, fun j hj hjk => (by rcases Nat.lt_succ_iff_lt_or_eq.1 hjk with h1 | rfl; exact HA.out j hj h1; exact HQ.out), by trivial⟩
        case measure => simp [intOf]; omega
    · have hr := badI_none (l := l) (fun j hj => HA.out j hj (by omega))
      have HR := hide hr
      clear hr
      go_wp2
      go_ret
      exact ⟨by rw [HR.out]; rfl, rfl⟩
theorem containsFunc_any (A : Option Addr) (c : Nat) (l : List Int) (w : World) (hn : l.length ≤ 9223372036854775807) (h : IS w A l) :
    Calls Try.prog 40 #[.slice A l.length c, .func (.func 41) #[] #[]] w fun e w' => e = .returned (.bool (l.any fun t => !stampB t)) ∧ w = w' := by
  rw [← badI_any]
  have H := hide (indexFunc_any A c l w hn h)
  obtain ⟨n, hb⟩ : ∃ n, n = badI l := ⟨_, rfl⟩
  rw [← hb] at H ⊢
  clear hb
  go_enter Try.func40, Try.ntmps40
  go_wp2_with (go_at_call 62; refine H.out.mono ?_; rintro e w2 ⟨rfl, rfl⟩)
  go_ret
  exact ⟨rfl, rfl⟩
/-- the least of some integers that are not none -/
def minI : List Int → Int
  | [] => 0
  | x :: l => l.foldl min x
theorem minI_snoc (l : List Int) (x : Int) : minI (l ++ [x]) = l.foldl min x := by
  cases l with
  | nil => rfl
  | cons y l =>
    show (l ++ [x]).foldl min y = l.foldl min (min x y)
    rw [List.foldl_append, List.foldl_cons, List.foldl_nil]
    have key : ∀ (l : List Int) (a b : Int), min (l.foldl min a) b = l.foldl min (min b a) := by
      intro l
      induction l with
      | nil => intro a b; exact Int.min_comm _ _
      | cons z l ih =>
        intro a b
        rw [List.foldl_cons, List.foldl_cons, ih, Int.min_assoc]
    exact key l y x
theorem minI_take {l : List Int} {k : Nat} (hk : k < l.length) (h1 : 1 ≤ k) : minI (l.take (k + 1)) = min (minI (l.take k)) l[k] := by
  cases l with
  | nil => simp at hk
  | cons x l =>
    obtain ⟨k, rfl⟩ : ∃ j, k = j + 1 := ⟨k - 1, by omega⟩
    have hk' : k < l.length := by simpa using hk
    show (l.take (k + 1)).foldl min x = min ((l.take k).foldl min x) l[k]
    exact foldl_take _ _ _ _ hk'
set_option maxHeartbeats 1000000 in
theorem minI_any (A : Option Addr) (c : Nat) (l : List Int) (w : World) (hn : l.length ≤ 9223372036854775807) (h0 : 0 < l.length) (h : IS w A l) :
    Calls Try.prog 44 #[.slice A l.length c] w fun e w' => e = .returned (.int .i64 (minI l)) ∧ w = w' := by
  obtain ⟨b, o, rfl, hbl, hc⟩ := h.at_ h0
  have c0 := hc 0 h0
  rw [Nat.add_zero] at c0
  have HC := hide hc
  have hp : decide ((l.length : Int) < 1) = false := by simp; omega
  have h1 : minI (l.take 1) = l[0] := by cases l with | nil => simp at h0 | cons x l => rfl
  have H1 := hide h1
  clear hc h1
  go_enter Try.func44, Try.ntmps44
  go_wp2
  go_loopw [3, 4] (fun m i wr => ∃ k : Nat, 1 ≤ k ∧ k ≤ l.length ∧ i = .int .i64 k ∧ m = .int .i64 (minI (l.take k)) ∧ w = wr) (fun _ i _ => l.length - (intOf i).toNat)
  case atStart => exact ⟨1, Nat.le_refl _, h0, rfl, by rw [H1.out], rfl⟩
  case round =>
    obtain ⟨k, hk1, hk, rfl, rfl, rfl⟩ := hrel
    by_cases hlt : k < l.length
    · have c1 := HC.out k hlt
      have hs := minI_take hlt hk1
      have HS := hide hs
      clear hs
      go_wp2
      go_roundw
      case rel => exact ⟨k + 1, by omega, by omega, by go_num, by rw [HS.out, Int.min_def]; congr 1; split <;> split <;> omega, by trivial⟩
      case measure => simp [intOf]; omega
    · have hr : l.take k = l := List.take_of_length_le (by omega)
      rw [hr]
      clear hr
      go_wp2
      go_ret
      exact ⟨rfl, rfl⟩
/-- reclaim.Horizon -/
def horS (l : List Int) (last : Int) : Int × Int := if (l.any fun t => !stampB t) || decide (64 < l.length) || !edgeB last then (0, 1) else (l.foldl min last, 0)
set_option maxHeartbeats 1000000 in
theorem horizon_any (A : Option Addr) (c : Nat) (l : List Int) (last : Int) (w : World) (hn : l.length ≤ 9223372036854775807) (h : IS w A l) :
    Calls Try.prog 17 #[.slice A l.length c, .int .i64 last] w fun e w' => e = .returned (.tuple #[.int .i64 (horS l last).1, .int .i64 (horS l last).2]) ∧ Below w.heap.size w w' := by
  by_cases hbad : ((l.any fun t => !stampB t) || decide (64 < l.length) || !edgeB last) = true
  · have hp : horS l last = (0, 1) := by unfold horS; rw [if_pos hbad]
    rw [hp]
    have H := hide (containsFunc_any A c l w hn h)
    obtain ⟨bd, hbd⟩ : ∃ b, b = l.any fun t => !stampB t := ⟨_, rfl⟩
    rw [← hbd] at hbad H
    have hE := hide fun w => edge_any last w
    obtain ⟨ed, hed⟩ : ∃ b, b = edgeB last := ⟨_, rfl⟩
    rw [← hed] at hbad hE
    have hcase : bd = true ∨ bd = false ∧ decide (64 < (l.length : Int)) = true ∨ bd = false ∧ decide (64 < (l.length : Int)) = false ∧ ed = false := by
      revert hbad
      cases bd <;> cases ed <;> simp <;> omega
    clear hp hbad hbd hed
    rcases hcase with rfl | ⟨rfl, q⟩ | ⟨rfl, q, rfl⟩
    all_goals
      go_enter Try.func17, Try.ntmps17
      go_wp2_with (first
        | (go_at_call 40; refine H.out.mono ?_; rintro e w2 ⟨rfl, rfl⟩)
        | (go_at_call 43; refine (hE.out _).mono ?_; rintro e w2 ⟨rfl, rfl⟩))
      go_ret2
      exact ⟨rfl, Below.refl _ _⟩
  · have hp : horS l last = (l.foldl min last, 0) := by unfold horS; rw [if_neg hbad]
    rw [hp]
    have hb1 : (l.any fun t => !stampB t) = false := by revert hbad; cases (l.any fun t => !stampB t) <;> simp
    have hb2 : edgeB last = true := by revert hbad; cases edgeB last <;> simp
    have hb3 : l.length ≤ 64 := by revert hbad; rw [hb1, hb2]; simp
    have q : decide (64 < (l.length : Int)) = false := by simp; omega
    have H := hide (containsFunc_any A c l w hn h)
    rw [hb1] at H
    have hE := hide fun w => edge_any last w
    rw [hb2] at hE
    have hC := hide (cloneI_any A c l w (by omega) h)
    have hM := hide fun B d W hn s => minI_any B d (l ++ [last]) W hn (by simp) s
    simp only [minI_snoc] at hM
    obtain ⟨i0, hi, hz0, hz1, hz2⟩ := info_parts infoI
    clear hp hbad hb1 hb2
    go_enter Try.func17, Try.ntmps17
    go_wp2_with (first
        | (go_at_call 40; refine H.out.mono ?_; rintro e w2 ⟨rfl, rfl⟩)
        | (go_at_call 43; refine (hE.out _).mono ?_; rintro e w2 ⟨rfl, rfl⟩)
        | (go_at_call 45; refine hC.out.mono ?_; rintro e w4 ⟨v4, rfl, ho4, hb4⟩; have HO := hide ho4; have HB := hide hb4; have hs4 := hb4.size; clear ho4 hb4)
        | (at_builtin; refine wpList_append_rd _ rfl _ _ 23 rfl w.heap.size 3 i0 _ 1 8 Try.underlying23 hi hz0 hz1 hz2 rfl (by decide) _ _ _ rfl (OwnI.below HO.out ((Below.refl _ _).alloc (Nat.le_refl _) _)) (some ⟨w4.heap.size, 0, none⟩) 1 1 [intV last] rfl rfl (Rd.new_row _ _ _) (by simp [intV, Value.oneCell']) ?_ ?_ ?_ ?_))
    · simp only [maxLen]; omega
    · omega
    · simp; omega
    intro v6 w6 hown' hgrow _
    have b6 : Below w.heap.size w w6 := (HB.out.alloc hs4 _).grown hgrow (by simp; omega) (fun g hg => (HO.out.lt g hg).1)
    have hown6 : OwnI w6 w.heap.size v6 (l ++ [last]) := by simpa [OwnI] using hown'
    obtain ⟨A6, c6, rfl, hlc6, hcm6, hs6⟩ := hown6.form
    have H6 := hide hs6
    have B6 := hide b6
    clear hown' hgrow b6 hown6 hs6
    simp only [List.length_append, List.length_cons, List.length_nil, Nat.zero_add] at hM hlc6
    have hwr := hM.out A6 c6 w6 (by omega) H6.out
    have HW := hide hwr
    clear hwr
    simp only [List.length_append, List.length_cons, List.length_nil, Nat.zero_add]
    go_wp2_with (go_at_call 44; refine HW.out.mono ?_; rintro e w7 ⟨rfl, rfl⟩)
    go_ret2
    exact ⟨rfl, B6.out⟩
set_option maxHeartbeats 1000000 in
theorem rHorizon_any (A : Option Addr) (c : Nat) (l : List Int) (last : Int) (w : World) (hn : l.length ≤ 9223372036854775807) (h : IS w A l) :
    Calls Try.prog 18 #[.slice A l.length c, .int .i64 last] w fun e w' => e = .returned (.tuple #[.int .i64 (horS l last).1, .int .i64 (horS l last).2]) ∧ w = w' := by
  by_cases hbig : 64 < l.length ∨ edgeB last = false
  · have hp : horS l last = (0, 1) := by unfold horS; rw [if_pos]; rcases hbig with h1 | h1 <;> simp [h1]
    rw [hp]
    have hE := hide fun w => rEdge_any last w
    rcases (show decide (64 < (l.length : Int)) = true ∨ decide (64 < (l.length : Int)) = false ∧ edgeB last = false by by_cases h1 : 64 < l.length; exact .inl (by simp; omega); exact .inr ⟨by simp; omega, hbig.resolve_left h1⟩) with q | ⟨q, q2⟩
    · clear hbig hp
      go_enter Try.func18, Try.ntmps18
      go_wp2
      go_ret2
      exact ⟨rfl, rfl⟩
    · rw [q2] at hE
      clear hbig hp
      go_enter Try.func18, Try.ntmps18
      go_wp2_with (go_at_call 28; refine (hE.out _).mono ?_; rintro e w2 ⟨rfl, rfl⟩)
      go_ret2
      exact ⟨rfl, rfl⟩
  · have hl : l.length ≤ 64 := by omega
    have he : edgeB last = true := by cases hq : edgeB last; exact absurd (.inr hq) hbig; rfl
    have q : decide (64 < (l.length : Int)) = false := by simp; omega
    have hE := hide fun w => rEdge_any last w
    rw [he] at hE
    have hyes : (∀ j (hj : j < l.length), stampB l[j] = true) → horS l last = (l.foldl min last, 0) := fun h => by
      unfold horS
      have : l.any (fun t => !stampB t) = false := by rw [List.any_eq_false]; intro x hx; obtain ⟨j, hj, rfl⟩ := List.getElem_of_mem hx; simp [h j hj]
      rw [this, he]
      simp; omega
    have hno : ∀ k (hk : k < l.length), stampB l[k] = false → horS l last = (0, 1) := fun k hk h => by
      unfold horS
      have : l.any (fun t => !stampB t) = true := by rw [List.any_eq_true]; exact ⟨l[k], List.getElem_mem hk, by simp [h]⟩
      rw [this]; rfl
    have HY := hide hyes
    have HN := hide hno
    clear hyes hno hbig he
    go_enter Try.func18, Try.ntmps18
    go_wp2_with (go_at_call 28; refine (hE.out _).mono ?_; rintro e w2 ⟨rfl, rfl⟩)
    go_loopw [6, 7] (fun m i wr => ∃ k : Nat, k ≤ l.length ∧ i = .int .i64 k ∧ m = .int .i64 ((l.take k).foldl min last) ∧ (∀ j (hj : j < l.length), j < k → stampB l[j] = true) ∧ w = wr) (fun _ i _ => l.length - (intOf i).toNat)
    case atStart => exact ⟨0, Nat.zero_le _, rfl, rfl, fun j _ hj => absurd hj (Nat.not_lt_zero _), rfl⟩
    case round =>
      obtain ⟨k, hk, rfl, rfl, hall, rfl⟩ := hrel
      have HA := hide hall
      clear hall
      by_cases hlt : k < l.length
      · obtain ⟨b, o, rfl, hbl, hc⟩ := h.at_ hlt
        have c0 := hc k hlt
        clear hc
        cases hq : stampB l[k]
        · have HR := hide (HN.out k hlt hq)
          go_wp2_with (go_at_call 25; refine (rStamp_any _ _).mono ?_; rw [hq]; rintro e w2 ⟨rfl, rfl⟩)
          go_ret2
          exact ⟨by rw [HR.out]; rfl, rfl⟩
        · have HQ := hide hq
          have hs := foldl_take min last l k hlt
          have HS := hide hs
          clear hs
          go_wp2_with (go_at_call 25; refine (rStamp_any _ _).mono ?_; rw [hq]; rintro e w2 ⟨rfl, rfl⟩)
          go_roundw
          case rel => exact ⟨k + 1, by omega, by go_num, by rw [HS.out, Int.min_def]; congr 1; split <;> split <;> omega, fun j hj hjk => (by rcases Nat.lt_succ_iff_lt_or_eq.1 hjk with h1 | rfl; exact HA.out j hj h1; exact HQ.out), by trivial⟩
          case measure => simp [intOf]; omega
      · have HR := hide (HY.out fun j hj => HA.out j hj (by omega))
        have hr : l.take k = l := List.take_of_length_le (by omega)
        rw [hr]
        clear hr
        go_wp2
        go_ret2
        exact ⟨by rw [HR.out]; rfl, rfl⟩
end Go.Proofs.Ytejpfcomgamhjaa
