/-
  The walks of digest.Next at the integers 0, and of digest.Pair.
-/
import Derived.Test.YtijnjgjpmgmifaaDoorDg
import Derived.Test.YtijnjgjpmgmifaaDoorAps
import Derived.Test.YtijnjgjpmgmifaaDoorCopy
import Derived.Deep.RegionLaw
namespace Go.Proofs.YtijnjgjpmgmifaaDoor
open Go.RowKit
theorem infoB : (Tryd.prog.info? 5).map (fun i => (i.zero, i.size, i.bytes)) = some (some (.int .u8 0), 1, 1) := by kernel_rfl
def octL (n : Int) : List Int := [oct n 0, oct n 1, oct n 2, oct n 3, oct n 4, oct n 5, oct n 6, oct n 7]
theorem octRow_eq (n : Int) : octRow n 8 = ((octL n).map (Value.int .u8)).toArray := by simp [octRow, octL]
theorem ks_oct {w : World} {g : Nat} {t : TypeId} {n : Int} (h : Blk w g t (octRow n 8)) : KS .u8 w (some ⟨g, 0, none⟩) (octL n) := by
  rw [octRow_eq] at h
  exact Rd.of_blk h
theorem small0 (w : World) : Calls Tryd.prog 61 #[.int .i64 0] w fun e w' => e = .returned (.string ⟨#[48]⟩) ∧ w = w' := by
  go_enter Tryd.func61, Tryd.ntmps61
  go_wp2
  go_ret
  exact ⟨rfl, rfl⟩
set_option maxHeartbeats 1000000 in
theorem appendUint0 (A : Option Addr) (n : Nat) (l : List Int) (w : World) (hl : l.length = n) (hn : n ≤ 100000) (h : KS .u8 w A l) :
    Calls Tryd.prog 60 #[.slice A n n, .int .u64 0, .int .i64 10] w fun e w' => ∃ v, e = .returned v ∧ OwnK .u8 5 w' w.heap.size v (l ++ [48]) ∧ Below w.heap.size w w' := by
  obtain ⟨i0, hi, hz0, hz1, hz2⟩ := info_parts infoB
  go_enter Tryd.func60, Tryd.ntmps60
  go_wp2_with (first
    | (go_at_call 61; refine (small0 _).mono ?_; rintro e w2 ⟨rfl, rfl⟩)
    | (at_builtin; refine wpList_append_src_grows _ rfl _ _ 66 9 rfl 5 i0 _ 1 1 Tryd.underlying66 hi hz0 hz1 hz2 rfl A n n rfl (l.map (Value.int .u8)) (by simp [hl]) h (.string ⟨#[48]⟩) 1 [.int .u8 48] rfl (Src.ofString _ Tryd.underlying9 ⟨#[48]⟩) (by omega) ?_ ?_ ?_))
  · simp only [maxLen]; omega
  · omega
  intro v' w' hown hgrow
  go_wp2
  go_ret
  exact ⟨v', rfl, by simpa [OwnK, hl] using hown, Below.of_grown hgrow⟩
theorem appendIntI0 (A : Option Addr) (n : Nat) (l : List Int) (w : World) (hl : l.length = n) (hn : n ≤ 100000) (h : KS .u8 w A l) :
    Calls Tryd.prog 59 #[.slice A n n, .int .i64 0, .int .i64 10] w fun e w' => ∃ v, e = .returned v ∧ OwnK .u8 5 w' w.heap.size v (l ++ [48]) ∧ Below w.heap.size w w' := by
  go_enter Tryd.func59, Tryd.ntmps59
  go_wp2_with (go_at_call 60; refine (appendUint0 A n l _ hl hn h).mono ?_; rintro e w2 ⟨v, rfl, ho, hb⟩)
  go_ret
  exact ⟨v, rfl, ho, hb⟩
theorem appendInt0 (A : Option Addr) (n : Nat) (l : List Int) (w : World) (hl : l.length = n) (hn : n ≤ 100000) (h : KS .u8 w A l) :
    Calls Tryd.prog 54 #[.slice A n n, .int .i64 0, .int .i64 10] w fun e w' => ∃ v, e = .returned v ∧ OwnK .u8 5 w' w.heap.size v (l ++ [48]) ∧ Below w.heap.size w w' := by
  go_enter Tryd.func54, Tryd.ntmps54
  go_wp2_with (go_at_call 59; refine (appendIntI0 A n l _ hl hn h).mono ?_; rintro e w2 ⟨v, rfl, ho, hb⟩)
  go_ret
  exact ⟨v, rfl, ho, hb⟩
set_option maxHeartbeats 1000000 in
theorem text0 (A B : Option Addr) (n d : Nat) (l : List Int) (w : World) (hl : l.length = n) (hn : n ≤ 100000) (h : KS .u8 w A l) (h' : KS .i64 w B [0]) :
    Calls Tryd.prog 44 #[.slice A n n, .slice B 1 d] w fun e w' => ∃ v, e = .returned v ∧ OwnK .u8 5 w' w.heap.size v (l ++ [48] ++ [32]) ∧ Below w.heap.size w w' := by
  obtain ⟨i0, hi, hz0, hz1, hz2⟩ := info_parts infoB
  obtain ⟨b, o, rfl, hbl, hc⟩ := h'.at_ (i := 0) (by simp)
  have c0 := hc 0 (by simp)
  simp only [Nat.add_zero, List.getElem_cons_zero] at c0
  clear hc
  go_enter Tryd.func44, Tryd.ntmps44
  go_wp2
  go_loopw [0, 6, 9] (fun u0 _ i wr => (i = .int .i64 0 ∧ u0 = .slice A n n ∧ wr = w) ∨ (i = .int .i64 1 ∧ OwnK .u8 5 wr w.heap.size u0 (l ++ [48] ++ [32]) ∧ Below w.heap.size w wr)) (fun _ _ i _ => 1 - (intOf i).toNat)
  case atStart => exact .inl ⟨rfl, rfl, rfl⟩
  case round =>
    rcases hrel with ⟨rfl, rfl, rfl⟩ | ⟨rfl, ho, hb⟩
    · go_wp2_with (first
        | (go_at_call 54; refine (appendInt0 A n l _ hl hn h).mono ?_; rintro e w2 ⟨v, rfl, ho2, hb2⟩; have HO := hide ho2; have HB := hide hb2; have hs2 := hb2.size; clear ho2 hb2)
        | (at_builtin; refine wpList_append_rd _ rfl _ _ 66 rfl wr.heap.size 5 i0 _ 1 1 Tryd.underlying66 hi hz0 hz1 hz2 rfl (by decide) _ _ _ rfl (OwnK.below HO.out ((Below.refl _ _).alloc (Nat.le_refl _) _)) (some ⟨w2.heap.size, 0, none⟩) 1 1 [.int .u8 32] rfl rfl (Rd.new_row _ _ _) (by simp [Value.oneCell']) ?_ ?_ ?_ ?_))
      · simp only [maxLen, List.length_append, List.length_cons, List.length_nil]; omega
      · simp only [List.length_append, List.length_cons, List.length_nil]; omega
      · simp; omega
      intro v' w6 hown' hgrow _
      have b6 : Below wr.heap.size wr w6 := (HB.out.alloc hs2 _).grown hgrow (by simp; omega) (fun g hg => (HO.out.lt g hg).1)
      go_wp2
      go_roundw
      case rel => exact .inr ⟨rfl, by simpa [OwnK, hl] using hown', b6⟩
      case measure => simp [intOf]
    · have HO := hide ho
      have HB := hide hb
      clear ho hb
      go_wp2
      go_ret
      exact ⟨u0, rfl, HO.out, HB.out⟩
/-- the digest of a digest and the integer 0 -/
def leafF (n : Int) : Int := sumB (octL n ++ [48] ++ [32])
def pairF (a b : Int) : Int := sumB ([1] ++ octL a ++ octL b)
set_option maxHeartbeats 1000000 in
theorem next0 (n : Int) (B : Option Addr) (d : Nat) (w : World) (h' : KS .i64 w B [0]) :
    Calls Tryd.prog 26 #[.int .u64 n, .slice B 1 d] w fun e w' => e = .returned (.int .u64 (leafF n)) ∧ Below w.heap.size w w' := by
  have HB := hide h'
  have HS := hide fun A c l W hn s => sum_any A c l W hn s
  clear h'
  go_enter Tryd.func26, Tryd.ntmps26
  go_wp2_with (first
    | (go_at_call 42; refine (octets_any n _).mono ?_; rintro e w2 ⟨rfl, hb2⟩; have hs2 := hb2.size; have B2 := hide (hb2.alloc hs2 (.cells (octRow n 8) 64)); have K2 := hide (ks_oct (Blk.new w2 64 (octRow n 8))); have I2 := hide ((HB.out.then_ hb2).alloc (.cells (octRow n 8) 64)); clear hb2; simp only [octRow, Nat.reduceLT, if_true] at B2 K2 I2 ⊢)
    | (go_at_call 44; refine (text0 _ B 8 d (octL n) _ rfl (by omega) K2.out I2.out).mono ?_; rintro e w3 ⟨v3, rfl, ho3, hb3⟩; obtain ⟨A3, c3, rfl, hl3, hm3, hk3⟩ := ho3.form; have B3 := hide (B2.out.trans (hb3.mono B2.out.size)); have K3 := hide hk3; clear ho3 hb3 hk3)
    | (go_at_call 43; refine (HS.out A3 c3 _ _ (by simp [octL]) K3.out).mono ?_; rintro e w4 ⟨rfl, rfl⟩))
  go_ret
  exact ⟨rfl, B3.out⟩
theorem leaf_any (n : Int) (w : World) : Calls Tryd.prog 13 #[.int .u64 n] w fun e w' => e = .returned (.int .u64 (leafF n)) ∧ Below w.heap.size w w' := by
  have K := hide (show KS .i64 (w.alloc (.cells #[.int .i64 0] 3)) (some ⟨w.heap.size, 0, none⟩) [0] from Rd.new_row w 3 #[.int .i64 0])
  go_enter Tryd.func13, Tryd.ntmps13
  go_wp2_with (go_at_call 26; refine (next0 n _ _ _ K.out).mono ?_; rintro e w2 ⟨rfl, hb⟩)
  go_ret
  exact ⟨rfl, ((Below.refl w.heap.size w).alloc (Nat.le_refl _) _).trans (hb.mono (by simp))⟩
end Go.Proofs.YtijnjgjpmgmifaaDoor
