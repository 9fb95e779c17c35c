/-
  The walks of the reference implementation of layer 24: include, Include, extend, Extend.
-/
import Derived.Test.YtijnjgjpmgmifaaDoorRa
import Derived.Test.YtijnjgjpmgmifaaDoorEx
import Derived.Deep.RegionHeld3
namespace Go.Proofs.YtijnjgjpmgmifaaDoor
open Go.RowKit
theorem step_append_rd {P : Program} {ops : Array Oper} {o : Oper} {a : Act} {w : World} {K : Act → World → Prop} {Q : Exit → Act → World → Prop} {E : Prop} (hgd : o.guard = none) (s x : Operand) (t : TypeId)
    (ho : o.op = .call { callee := .builtin .append, args := #[s, x], argTypes := #[t, t] })
    (base : Nat) (e : TypeId) (i : TypeInfo) (z : Value) (size bytes : Nat) (ht : P.underlying t = some (.slice e)) (hi : P.info? e = some i) (hz : i.zero = some z)
    (hsize : i.size = size) (hby : i.bytes = bytes) (hzs : z.cells.size = size) (hsz : 0 < size)
    (v : Value) (n : Nat) (xs : List Value) (hs : a.eval s = v) (hown : w.ownsRow base e size v n xs)
    (A : Option Addr) (m c : Nat) (news : List Value) (hx : a.eval x = .slice A m c) (hl : news.length = m * size) (hr : Rd w A news) (h1 : ∀ u ∈ news, u.oneCell' = true)
    (h63 : n + m ≤ maxLen) (hbytes : (n + m) * bytes ≤ 140737488355328) (hbase : base ≤ w.heap.size)
    (h : ∀ v' w', w'.ownsRow base e size v' (n + m) (xs ++ news) → w.grownBy w' v.ownBlock → (v'.ownBlock = v.ownBlock ∨ v'.ownBlock = some w.heap.size) → K (a.put o.dst v') w') :
    if Region.wanted o (yielded ops a.tmps) = true then Oper.wp P o a w K Q else E := by
  have hw : Region.wanted o (yielded ops a.tmps) = true := by simp [Region.wanted, hgd]
  rw [if_pos hw]
  exact wp_append_rd w s x t ho base e i z size bytes ht hi hz hsize hby hzs hsz v n xs hs hown A m c news hx hl hr h1 h63 hbytes hbase h
theorem inclF_one {l : List Int} {i : Nat} (h : ¬2 ≤ l.length) : inclF l i = [] := inclT_one h
theorem inclF_len {l : List Int} {i : Nat} (h : l.length ≤ 10000) : (inclF l i).length ≤ 14 := by
  have h1 := incl_len (lf := leafF) (pr := pairF) l.length l rfl i
  unfold inclF
  rw [h1]
  exact plen_le 14 _ _ (by omega)
theorem extF_len {l : List Int} {i : Nat} {mark : Bool} (h : l.length ≤ 10000) : (extF l i mark).length ≤ 15 := by
  have h1 := ext_len (lf := leafF) (pr := pairF) l.length l rfl i mark
  unfold extF
  rw [h1]
  exact glen_le 14 _ _ _ (by omega)
set_option maxHeartbeats 4000000 in
theorem rinclude_any : ∀ (n : Nat) (A : Option Addr) (c : Nat) (l : List Int) (i : Nat) (w : World), l.length = n → 1 ≤ n → n ≤ 10000 → n ≤ c → i < n → KS .u64 w A l →
    Calls Tryd.prog 34 #[.slice A n c, .int .i64 i] w fun e w' => ∃ v, e = .returned v ∧ OwnK .u64 23 w' w.heap.size v (inclF l i) ∧ Below w.heap.size w w' := by
  intro n
  induction n using Nat.strongRecOn with
  | ind n ih =>
    intro A c l i w hl h1 hn hc hin h
    by_cases hn2 : 2 ≤ n
    · obtain ⟨b, o, rfl, hbl, hcell⟩ := h.at_ (i := 0) (by omega)
      have HL := hide (@inclF_left l i (by omega))
      have HR := hide (@inclF_right l i (by omega))
      rw [hl] at HL HR
      obtain ⟨s1, s2, s3⟩ := hf_spec hn2
      have HH := hide fun W => rHalf_any n W hn2 hn
      have hsh := KS.shift (n := hf n) h (by omega)
      obtain ⟨k, hk⟩ : ∃ k, k = hf n := ⟨_, rfl⟩
      rw [← hk] at HH s1 s2 s3 HL HR hsh
      have hne : ((n : Int) == 1) = false := by simp; omega
      have p1 : (0 : Int) ≤ k := by omega
      have p2 : (k : Int) ≤ n := by omega
      have p3 : (k : Int) ≤ c := by omega
      have p4 : ¬ c = k := by omega
      obtain ⟨i0, hi, hz0, hz1, hz2⟩ := info_parts infoU
      have R1 := hide fun W (s : Below w.heap.size w W) => rroot_any k (some ⟨b, o, none⟩) c (l.take k) W (by simp; omega) s1 (by omega) (by omega) (KS.below (h.pre k) s (Nat.le_refl _))
      have R2 := hide fun W (s : Below w.heap.size w W) => rroot_any (n - k) (some ⟨b, o + k, none⟩) (c - k) (l.drop k) W (by simp; omega) (by omega) (by omega) (by omega) (KS.below hsh s (Nat.le_refl _))
      by_cases hik : i < k
      · have d3 : decide ((i : Int) < (k : Int)) = true := decide_eq_true (by omega)
        have d4 : decide (i < k) = true := decide_eq_true (by omega)
        have I1 := hide fun W (s : Below w.heap.size w W) => (ih k s2 (some ⟨b, o, none⟩) c (l.take k) i W (by simp; omega) s1 (by omega) (by omega) hik (KS.below (h.pre k) s (Nat.le_refl _))).mono (R' := fun e w' => ∃ v, e = .returned v ∧ OwnK .u64 23 w' w.heap.size v (inclF (l.take k) i) ∧ Below W.heap.size W w' ∧ w.heap.size ≤ w'.heap.size ∧ Below w.heap.size w w') fun e w' ⟨v, he, ho, hb⟩ => ⟨v, he, ho.weak s.size, hb, Nat.le_trans s.size hb.size, s.trans (hb.mono s.size)⟩
        have H14 := inclF_len (l := l.take k) (i := i) (by simp; omega)
        have HE := hide (HL.out hik)
        clear hsh hcell h HL HR R1 ih hk hik
        go_enter Tryd.func34, Tryd.ntmps34
        go_upto_region 5 with (go_at_call 45; refine (HH.out _).mono ?_; rintro e w2 ⟨rfl, rfl⟩)
        go_region_held3 (fun w' => Below w.heap.size w w') ((repeat (first | exact Below.refl _ _ | (refine Below.drew ?_) | (refine Below.alloc ?_ (by (first | ((repeat (first | simp only [World.size_alloc] | simp only [heap_drew])); omega) | omega | (simp; omega))) _) | (refine Below.trans ?_ (Below.mono (by assumption) (by (first | ((repeat (first | simp only [World.size_alloc] | simp only [heap_drew])); omega) | omega | (simp; omega))))))))
          (first
            | (go_at_call 34; with_reducible refine (I1.out _ (by assumption)).mono ?_; rintro e w3 ⟨v3, rfl, ho3, hb3, hs3, hw3⟩)
            | (go_at_call 30; with_reducible refine (R2.out _ (by assumption)).mono ?_; rintro e w4 ⟨rfl, hb4⟩; have hs4 := hb4.size; (repeat (first | simp only [World.size_alloc] at hs4 | simp only [heap_drew] at hs4)))
            | (refine step_append_rd rfl _ _ 22 (by rfl) w.heap.size 23 i0 _ 1 8 Tryd.underlying22 hi hz0 hz1 hz2 rfl (by decide) _ _ _ (by rfl) (OwnK.below ho3 (by (repeat (first | exact Below.refl _ _ | (refine Below.drew ?_) | (refine Below.alloc ?_ (by (first | ((repeat (first | simp only [World.size_alloc] | simp only [heap_drew])); omega) | omega | (simp; omega))) _) | (refine Below.trans ?_ (Below.mono (by assumption) (by (first | ((repeat (first | simp only [World.size_alloc] | simp only [heap_drew])); omega) | omega | (simp; omega))))))))) _ 1 1 [.int .u64 (rootF (l.drop k))] (by rfl) rfl (Rd.new_row _ _ _) (by simp [Value.oneCell']) (by simp only [maxLen]; omega) (by omega) (show Below w.heap.size w _ by (repeat (first | exact Below.refl _ _ | (refine Below.drew ?_) | (refine Below.alloc ?_ (by (first | ((repeat (first | simp only [World.size_alloc] | simp only [heap_drew])); omega) | omega | (simp; omega))) _) | (refine Below.trans ?_ (Below.mono (by assumption) (by (first | ((repeat (first | simp only [World.size_alloc] | simp only [heap_drew])); omega) | omega | (simp; omega)))))))).size ?_; intro v6 w6 hown6 hgrow6 _; have hb6 : Below w.heap.size w w6 := (show Below w.heap.size w _ by (repeat (first | exact Below.refl _ _ | (refine Below.drew ?_) | (refine Below.alloc ?_ (by (first | ((repeat (first | simp only [World.size_alloc] | simp only [heap_drew])); omega) | omega | (simp; omega))) _) | (refine Below.trans ?_ (Below.mono (by assumption) (by (first | ((repeat (first | simp only [World.size_alloc] | simp only [heap_drew])); omega) | omega | (simp; omega)))))))).grown hgrow6 (show Below w.heap.size w _ by (repeat (first | exact Below.refl _ _ | (refine Below.drew ?_) | (refine Below.alloc ?_ (by (first | ((repeat (first | simp only [World.size_alloc] | simp only [heap_drew])); omega) | omega | (simp; omega))) _) | (refine Below.trans ?_ (Below.mono (by assumption) (by (first | ((repeat (first | simp only [World.size_alloc] | simp only [heap_drew])); omega) | omega | (simp; omega)))))))).size (fun g hg => (World.ownsRow.lt ho3 g hg).1)))
        all_goals
          go_wp2
          go_ret
          exact ⟨_, rfl, by rw [HE.out]; exact OwnK.snoc hown6 rfl rfl, hb6⟩
      · have d3 : decide ((i : Int) < (k : Int)) = false := decide_eq_false (by omega)
        have d4 : decide (i < k) = false := decide_eq_false (by omega)
        have q1 : (0 : Int) ≤ (i : Int) - k := by omega
        have q2 : (i : Int) - k ≤ 10000 := by omega
        have q3 : IntKind.i64.wrap ((i : Int) - k) = (i : Int) - k := IntWalk.i64_in _ (by omega)
        have I2 := ih (n - k) (by omega) (some ⟨b, o + k, none⟩) (c - k) (l.drop k) (i - k)
        rw [show ((i - k : Nat) : Int) = (i : Int) - k by omega] at I2
        have I1 := hide fun W (s : Below w.heap.size w W) => (I2 W (by simp; omega) (by omega) (by omega) (by omega) (by omega) (KS.below hsh s (Nat.le_refl _))).mono (R' := fun e w' => ∃ v, e = .returned v ∧ OwnK .u64 23 w' w.heap.size v (inclF (l.drop k) (i - k)) ∧ Below W.heap.size W w' ∧ w.heap.size ≤ w'.heap.size ∧ Below w.heap.size w w') fun e w' ⟨v, he, ho, hb⟩ => ⟨v, he, ho.weak s.size, hb, Nat.le_trans s.size hb.size, s.trans (hb.mono s.size)⟩
        have H14 := inclF_len (l := l.drop k) (i := i - k) (by simp; omega)
        have HE := hide (HR.out hik)
        clear hsh hcell h HL HR R2 ih hk hik I2
        go_enter Tryd.func34, Tryd.ntmps34
        go_upto_region 6 with (go_at_call 45; refine (HH.out _).mono ?_; rintro e w2 ⟨rfl, rfl⟩)
        go_region_held3 (fun w' => Below w.heap.size w w') ((repeat (first | exact Below.refl _ _ | (refine Below.drew ?_) | (refine Below.alloc ?_ (by (first | ((repeat (first | simp only [World.size_alloc] | simp only [heap_drew])); omega) | omega | (simp; omega))) _) | (refine Below.trans ?_ (Below.mono (by assumption) (by (first | ((repeat (first | simp only [World.size_alloc] | simp only [heap_drew])); omega) | omega | (simp; omega))))))))
          (first
            | (go_at_call 34; go_loud (with_reducible refine (I1.out _ (by assumption)).mono ?_); rintro e w3 ⟨v3, rfl, ho3, hb3, hs3, hw3⟩)
            | (go_at_call 30; with_reducible refine (R1.out _ (by assumption)).mono ?_; rintro e w4 ⟨rfl, hb4⟩; have hs4 := hb4.size; (repeat (first | simp only [World.size_alloc] at hs4 | simp only [heap_drew] at hs4)))
            | (refine step_append_rd rfl _ _ 22 (by rfl) w.heap.size 23 i0 _ 1 8 Tryd.underlying22 hi hz0 hz1 hz2 rfl (by decide) _ _ _ (by rfl) (OwnK.below ho3 (by (repeat (first | exact Below.refl _ _ | (refine Below.drew ?_) | (refine Below.alloc ?_ (by (first | ((repeat (first | simp only [World.size_alloc] | simp only [heap_drew])); omega) | omega | (simp; omega))) _) | (refine Below.trans ?_ (Below.mono (by assumption) (by (first | ((repeat (first | simp only [World.size_alloc] | simp only [heap_drew])); omega) | omega | (simp; omega))))))))) _ 1 1 [.int .u64 (rootF (l.take k))] (by rfl) rfl (Rd.new_row _ _ _) (by simp [Value.oneCell']) (by simp only [maxLen]; omega) (by omega) (show Below w.heap.size w _ by (repeat (first | exact Below.refl _ _ | (refine Below.drew ?_) | (refine Below.alloc ?_ (by (first | ((repeat (first | simp only [World.size_alloc] | simp only [heap_drew])); omega) | omega | (simp; omega))) _) | (refine Below.trans ?_ (Below.mono (by assumption) (by (first | ((repeat (first | simp only [World.size_alloc] | simp only [heap_drew])); omega) | omega | (simp; omega)))))))).size ?_; intro v6 w6 hown6 hgrow6 _; have hb6 : Below w.heap.size w w6 := (show Below w.heap.size w _ by (repeat (first | exact Below.refl _ _ | (refine Below.drew ?_) | (refine Below.alloc ?_ (by (first | ((repeat (first | simp only [World.size_alloc] | simp only [heap_drew])); omega) | omega | (simp; omega))) _) | (refine Below.trans ?_ (Below.mono (by assumption) (by (first | ((repeat (first | simp only [World.size_alloc] | simp only [heap_drew])); omega) | omega | (simp; omega)))))))).grown hgrow6 (show Below w.heap.size w _ by (repeat (first | exact Below.refl _ _ | (refine Below.drew ?_) | (refine Below.alloc ?_ (by (first | ((repeat (first | simp only [World.size_alloc] | simp only [heap_drew])); omega) | omega | (simp; omega))) _) | (refine Below.trans ?_ (Below.mono (by assumption) (by (first | ((repeat (first | simp only [World.size_alloc] | simp only [heap_drew])); omega) | omega | (simp; omega)))))))).size (fun g hg => (World.ownsRow.lt ho3 g hg).1)))
        all_goals
          go_wp2
          go_ret
          exact ⟨_, rfl, by rw [HE.out]; exact OwnK.snoc hown6 rfl rfl, hb6⟩
    · obtain rfl : n = 1 := by omega
      rw [inclF_one (by omega)]
      clear ih h
      go_enter Tryd.func34, Tryd.ntmps34
      go_wp2
      go_ret
      exact ⟨_, rfl, OwnK.nil, Below.refl _ _⟩
end Go.Proofs.YtijnjgjpmgmifaaDoor
