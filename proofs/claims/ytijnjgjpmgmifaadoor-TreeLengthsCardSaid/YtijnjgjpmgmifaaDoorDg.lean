/-
  The walks of package digest.
-/
import Derived.Test.YtijnjgjpmgmifaaDoorIs
import Derived.Test.YtijnjgjpmgmifaaDoorProg
namespace Go.Proofs.YtijnjgjpmgmifaaDoor
open Go.RowKit
/-- byte j of a number -/
def oct (n : Int) (j : Nat) : Int := (n / 2 ^ (56 - 8 * j)) % 256
def octRow (n : Int) (k : Nat) : Array Value :=
  #[.int .u8 (if 0 < k then oct n 0 else 0), .int .u8 (if 1 < k then oct n 1 else 0), .int .u8 (if 2 < k then oct n 2 else 0), .int .u8 (if 3 < k then oct n 3 else 0), .int .u8 (if 4 < k then oct n 4 else 0), .int .u8 (if 5 < k then oct n 5 else 0), .int .u8 (if 6 < k then oct n 6 else 0), .int .u8 (if 7 < k then oct n 7 else 0)]
set_option maxHeartbeats 2000000 in
theorem octets_any (n : Int) (w : World) : Calls Tryd.prog 42 #[.int .u64 n] w fun e w' => e = .returned (.agg (octRow n 8)) ∧ Below w.heap.size w w' := by
  go_enter Tryd.func42, Tryd.ntmps42
  go_wp2
  go_loopw [3, 4] (fun _ i wr => ∃ k : Nat, k ≤ 8 ∧ i = .int .i64 k ∧ Blk wr w.heap.size 64 (octRow n k) ∧ Below w.heap.size w wr) (fun _ i _ => 8 - (intOf i).toNat)
  case atStart => exact ⟨0, by omega, rfl, Blk.new _ _ _, (Below.refl _ _).alloc (Nat.le_refl _) _⟩
  case round =>
    obtain ⟨k, hk, rfl, hb, hbl⟩ := hrel
    have qc := hb.cell
    have qf := hb.frozen
    have HB := hide hb
    have HL := hide hbl
    clear hb hbl
    rcases (show k = 0 ∨ k = 1 ∨ k = 2 ∨ k = 3 ∨ k = 4 ∨ k = 5 ∨ k = 6 ∨ k = 7 ∨ k = 8 by omega) with rfl | rfl | rfl | rfl | rfl | rfl | rfl | rfl | rfl
    · simp [octRow] at qc
      go_wp2
      go_roundw
      case rel => exact ⟨1, by omega, rfl, by simpa [octRow, oct] using HB.out.set_ 0 (.int .u8 (oct n 0)), HL.out.setCell (p := ⟨w.heap.size, 0, none⟩) (Nat.le_refl _) _⟩
      case measure => simp [intOf]
    · simp [octRow] at qc
      go_wp2
      go_roundw
      case rel => exact ⟨2, by omega, rfl, by simpa [octRow, oct] using HB.out.set_ 1 (.int .u8 (oct n 1)), HL.out.setCell (p := ⟨w.heap.size, 1, none⟩) (Nat.le_refl _) _⟩
      case measure => simp [intOf]
    · simp [octRow] at qc
      go_wp2
      go_roundw
      case rel => exact ⟨3, by omega, rfl, by simpa [octRow, oct] using HB.out.set_ 2 (.int .u8 (oct n 2)), HL.out.setCell (p := ⟨w.heap.size, 2, none⟩) (Nat.le_refl _) _⟩
      case measure => simp [intOf]
    · simp [octRow] at qc
      go_wp2
      go_roundw
      case rel => exact ⟨4, by omega, rfl, by simpa [octRow, oct] using HB.out.set_ 3 (.int .u8 (oct n 3)), HL.out.setCell (p := ⟨w.heap.size, 3, none⟩) (Nat.le_refl _) _⟩
      case measure => simp [intOf]
    · simp [octRow] at qc
      go_wp2
      go_roundw
      case rel => exact ⟨5, by omega, rfl, by simpa [octRow, oct] using HB.out.set_ 4 (.int .u8 (oct n 4)), HL.out.setCell (p := ⟨w.heap.size, 4, none⟩) (Nat.le_refl _) _⟩
      case measure => simp [intOf]
    · simp [octRow] at qc
      go_wp2
      go_roundw
      case rel => exact ⟨6, by omega, rfl, by simpa [octRow, oct] using HB.out.set_ 5 (.int .u8 (oct n 5)), HL.out.setCell (p := ⟨w.heap.size, 5, none⟩) (Nat.le_refl _) _⟩
      case measure => simp [intOf]
    · simp [octRow] at qc
      go_wp2
      go_roundw
      case rel => exact ⟨7, by omega, rfl, by simpa [octRow, oct] using HB.out.set_ 6 (.int .u8 (oct n 6)), HL.out.setCell (p := ⟨w.heap.size, 6, none⟩) (Nat.le_refl _) _⟩
      case measure => simp [intOf]
    · simp [octRow] at qc
      go_wp2
      go_roundw
      case rel => exact ⟨8, by omega, rfl, by simpa [octRow, oct] using HB.out.set_ 7 (.int .u8 (oct n 7)), HL.out.setCell (p := ⟨w.heap.size, 7, none⟩) (Nat.le_refl _) _⟩
      case measure => simp [intOf]
    · simp [octRow] at qc
      go_wp2
      have h8 := ((((((((HB.out.set_ 0 (.int .u8 (oct n 0))).set_ 1 (.int .u8 (oct n 1))).set_ 2 (.int .u8 (oct n 2))).set_ 3 (.int .u8 (oct n 3))).set_ 4 (.int .u8 (oct n 4))).set_ 5 (.int .u8 (oct n 5))).set_ 6 (.int .u8 (oct n 6))).set_ 7 (.int .u8 (oct n 7)))
      have e8 : ((((((((octRow n 8).setIfInBounds 0 (.int .u8 (oct n 0))).setIfInBounds 1 (.int .u8 (oct n 1))).setIfInBounds 2 (.int .u8 (oct n 2))).setIfInBounds 3 (.int .u8 (oct n 3))).setIfInBounds 4 (.int .u8 (oct n 4))).setIfInBounds 5 (.int .u8 (oct n 5))).setIfInBounds 6 (.int .u8 (oct n 6))).setIfInBounds 7 (.int .u8 (oct n 7)) = octRow n 8 := by simp [octRow]
      rw [e8] at h8
      exact bodyPost_ret (results_blk1 rfl _ _ _ _ _ _ rfl h8 Tryd.underlying64 rfl (by kernel_rfl)) rfl ⟨rfl, ((((((((HL.out.setCell (p := ⟨w.heap.size, 0, none⟩) (Nat.le_refl _) (.int .u8 (oct n 0))).setCell (p := ⟨w.heap.size, 1, none⟩) (Nat.le_refl _) (.int .u8 (oct n 1))).setCell (p := ⟨w.heap.size, 2, none⟩) (Nat.le_refl _) (.int .u8 (oct n 2))).setCell (p := ⟨w.heap.size, 3, none⟩) (Nat.le_refl _) (.int .u8 (oct n 3))).setCell (p := ⟨w.heap.size, 4, none⟩) (Nat.le_refl _) (.int .u8 (oct n 4))).setCell (p := ⟨w.heap.size, 5, none⟩) (Nat.le_refl _) (.int .u8 (oct n 5))).setCell (p := ⟨w.heap.size, 6, none⟩) (Nat.le_refl _) (.int .u8 (oct n 6))).setCell (p := ⟨w.heap.size, 7, none⟩) (Nat.le_refl _) (.int .u8 (oct n 7)))⟩
/-- one byte more -/
def sumF (h x : Int) : Int := IntKind.u64.wrap (bits .xor .u64 h (IntKind.u64.wrap x) * 1099511628211)
theorem foldl_take1 {α β : Type} (f : β → α → β) (b : β) (l : List α) (k : Nat) (hk : k < l.length) : (l.take (k + 1)).foldl f b = f ((l.take k).foldl f b) l[k] := by
  rw [List.take_succ_eq_append_getElem hk, List.foldl_append]; rfl
def sumB (l : List Int) : Int := l.foldl sumF 14695981039346656037
set_option maxHeartbeats 1000000 in
theorem sum_any (A : Option Addr) (c : Nat) (l : List Int) (w : World) (hn : l.length ≤ 9223372036854775807) (h : KS .u8 w A l) :
    Calls Tryd.prog 43 #[.slice A l.length c] w fun e w' => e = .returned (.int .u64 (sumB l)) ∧ w = w' := by
  go_enter Tryd.func43, Tryd.ntmps43
  go_wp2
  go_loopw [3, 5, 8] (fun s _ i wr => ∃ k : Nat, k ≤ l.length ∧ i = .int .i64 k ∧ s = .int .u64 ((l.take k).foldl sumF 14695981039346656037) ∧ w = wr) (fun _ _ i _ => l.length - (intOf i).toNat)
  case atStart => exact ⟨0, Nat.zero_le _, rfl, rfl, rfl⟩
  case round =>
    obtain ⟨k, hk, rfl, rfl, rfl⟩ := hrel
    by_cases hlt : k < l.length
    · obtain ⟨b, o, rfl, hbl, hc⟩ := h.at_ hlt
      have c0 := hc k hlt
      clear hc
      have hs := foldl_take1 sumF 14695981039346656037 l k hlt
      have HS := hide hs
      clear hs
      go_wp2
      go_roundw
      case rel => exact ⟨k + 1, by omega, by go_num, by rw [HS.out]; rfl, by trivial⟩
      case measure => simp [intOf]; omega
    · have hr : l.take k = l := List.take_of_length_le (by omega)
      rw [hr]
      clear hr
      go_wp2
      go_ret
      exact ⟨rfl, rfl⟩
end Go.Proofs.YtijnjgjpmgmifaaDoor
