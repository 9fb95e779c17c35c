/-
  The walk of digest.Pair.
-/
import Derived.Test.YtijnjgjpmgmifaaDoorDh
namespace Go.Proofs.YtijnjgjpmgmifaaDoor
open Go.RowKit
def zer (n : Nat) : List Value := List.replicate n (.int .u8 0)
theorem blk_row {w w' : World} {g r : Nat} {t : TypeId} {cs : Array Value} (h : Blk w g t cs) (hg : w.grownBy w' (some r)) (hne : g ≠ r) : Blk w' g t cs := (hg.block g h.lt (fun e => hne (by injection e))).trans h
abbrev pairC0 : Array Value := #[.int .u8 1, .int .u8 0, .int .u8 0, .int .u8 0, .int .u8 0, .int .u8 0, .int .u8 0, .int .u8 0, .int .u8 0, .int .u8 0, .int .u8 0, .int .u8 0, .int .u8 0, .int .u8 0, .int .u8 0, .int .u8 0, .int .u8 0]
abbrev octA (n : Int) : Array Value := #[.int .u8 (oct n 0), .int .u8 (oct n 1), .int .u8 (oct n 2), .int .u8 (oct n 3), .int .u8 (oct n 4), .int .u8 (oct n 5), .int .u8 (oct n 6), .int .u8 (oct n 7)]
theorem octets_lit (n : Int) (w : World) : Calls Tryd.prog 42 #[.int .u64 n] w fun e w' => e = .returned (.agg (octA n)) ∧ Below w.heap.size w w' := octets_any n w
set_option maxHeartbeats 2000000 in
theorem pair_any (a b : Int) (w : World) : Calls Tryd.prog 25 #[.int .u64 a, .int .u64 b] w fun e w' => e = .returned (.int .u64 (pairF a b)) ∧ Below w.heap.size w w' := by
  have B1 := hide ((Below.refl w.heap.size w).alloc (Nat.le_refl _) (.cells pairC0 63))
  have Q5 := hide (Blk.new w 63 pairC0)
  have HS := hide fun A c l W hn s => sum_any A c l W hn s
  obtain ⟨i0, hi, hz0, hz1, hz2⟩ := info_parts infoB
  have hsz : (Tryd.prog.info? 5).map (·.size) = some 1 := by rw [hi]; simp [hz1]
  go_enter Tryd.func25, Tryd.ntmps25
  go_upto_region 3 with (first
    | (go_at_call 42; with_reducible refine (octets_lit a _).mono ?_; rintro e w2 ⟨rfl, hb2⟩; have B2 := hide (B1.out.trans (hb2.mono B1.out.size)); have Q5 := hide (Q5.out.below hb2 Q5.out.lt); clear hb2 B1)
    | (go_at_call 42; with_reducible refine (octets_lit b _).mono ?_; rintro e w3 ⟨rfl, hb3⟩; have B3 := hide (B2.out.trans (hb3.mono B2.out.size)); have Q5 := hide (Q5.out.below hb3 Q5.out.lt); clear hb3 B2))
  have hlt := Q5.out.lt
  have P5 := hide ((Q5.out.alloc (.cells (octA a) 64)).alloc (.cells (octA b) 64))
  have P6 := hide ((Blk.new w3 64 (octA a)).alloc (.cells (octA b) 64))
  have P7 := hide (Blk.new (w3.alloc (.cells (octA a) 64)) 64 (octA b))
  rw [World.size_alloc] at P7
  have hs3 := B3.out.size
  have BW := hide ((B3.out.alloc hs3 (.cells (octA a) 64)).alloc (by simp; omega) (.cells (octA b) 64))
  obtain ⟨W, hW⟩ : ∃ W, (w3.alloc (.cells (octA a) 64)).alloc (.cells (octA b) 64) = W := ⟨_, rfl⟩
  rw [hW] at P5 P6 P7 BW ⊢
  clear hW
  have hone : ∀ (n : Int), ∀ v ∈ (octA n).toList, v.oneCell' = true := fun n v hv => by simp at hv; rcases hv with rfl | rfl | rfl | rfl | rfl | rfl | rfl | rfl <;> rfl
  have HN := hide hone
  clear hone
  go_region_law ((refine step_copyN rfl _ _ 66 66 rfl 5 1 Tryd.underlying66 hsz (some ⟨w.heap.size, 1, none⟩) (some ⟨w3.heap.size, 0, none⟩) 16 16 8 8 (by rfl) (by rfl) w.heap.size 1 pairC0 63 P5.out.drew (octA a).toList rfl (fun _ => rfl) (Rd.of_blk P6.out.drew) (by simp) (HN.out a) ?_; intro w4 hb4 hg4 hs4))
  have P7 := hide (blk_row P7.out.drew hg4 (by omega))
  have P5 := hide hb4
  have BW := hide (BW.out.drew.grown hg4 (by have := BW.out.size; exact this) (fun k e => by injection e with e; omega))
  clear hb4 hg4
  go_upto_region 4 with fail
  go_region_law ((refine step_copyN rfl _ _ 66 66 rfl 5 1 Tryd.underlying66 hsz (some ⟨w.heap.size, 9, none⟩) (some ⟨w3.heap.size + 1, 0, none⟩) 8 8 8 8 (by rfl) (by rfl) w.heap.size 9 _ 63 P5.out.drew (octA b).toList rfl (fun _ => rfl) (Rd.of_blk P7.out.drew) (by simp [splice]) (HN.out b) ?_; intro w5 hb5 hg5 hs5))
  have K5 := hide (show KS .u8 w5 (some ⟨w.heap.size, 0, none⟩) ([1] ++ octL a ++ octL b) from Rd.of_blk hb5)
  have BW := hide (BW.out.drew.grown hg5 (by have := BW.out.size; exact this) (fun k e => by injection e with e; omega))
  clear hb5 hg5
  go_wp2_with (go_at_call 43; refine (HS.out (some ⟨w.heap.size, 0, none⟩) 17 ([1] ++ octL a ++ octL b) _ (by simp [octL]) K5.out).mono ?_; rintro e w6 ⟨rfl, rfl⟩)
  go_ret
  exact ⟨rfl, BW.out⟩
end Go.Proofs.YtijnjgjpmgmifaaDoor
