/-
  The walks of the laws' own functions of layer 33: usable, some, head.
-/
import Derived.Test.YtejpfcomgamhjaaRead2
import Derived.Test.YtejpfcomgamhjaaRef33e
namespace Go.Proofs.Ytejpfcomgamhjaa
open Go.RowKit
def usableB (l : List Ver) : Bool := decide (l.length ≤ 60) && validB l
theorem usable_any (A : Option Addr) (c : Nat) (l : List Ver) (w : World) (hn : l.length ≤ 9223372036854775807) (h : VS w A l) :
    Calls Try.prog 38 #[.slice A l.length c] w fun e w' => e = .returned (.bool (usableB l)) ∧ Below w.heap.size w w' := by
  by_cases hl : l.length ≤ 60
  · have hl2 : decide ((l.length : Int) ≤ 60) = true := by simp; omega
    have hp : usableB l = validB l := by simp [usableB, hl]
    rw [hp]
    have hv := rValid_any A c l w hn h
    clear hl
    go_enter Try.func38, Try.ntmps38
    go_wp2_with (go_at_call 33; with_reducible refine hv.mono ?_; rintro e w1 ⟨rfl, hb⟩)
    go_ret
    exact ⟨rfl, hb⟩
  · have hl2 : decide ((l.length : Int) ≤ 60) = false := by simp; omega
    have hp : usableB l = false := by simp [usableB, hl]
    rw [hp]
    clear hl
    go_enter Try.func38, Try.ntmps38
    go_wp2
    go_ret
    exact ⟨rfl, Below.refl _ _⟩
def someL : List Ver := [⟨3, 15, 1, false⟩, ⟨5, 10, 7, false⟩, ⟨5, 20, 0, true⟩]
theorem some_any (w : World) : Calls Try.prog 55 #[] w fun e w' => ∃ b, e = .returned (.slice (some ⟨b, 0, none⟩) 3 3) ∧ VS w' (some ⟨b, 0, none⟩) someL ∧ Below w.heap.size w w' := by
  go_enter Try.func55, Try.ntmps55
  go_wp2
  go_ret
  exact ⟨w.heap.size, rfl, Rd.new_row w 40 (someL.flatMap Ver.cells).toArray, (Below.refl _ _).alloc (Nat.le_refl _) _⟩
section
variable (A : Option Addr) (w : World) (h : VS w A someL)
theorem h33_r9 (h : VS w A someL) : Calls Try.prog 26 #[.slice A 3 3, .int .i64 9] w (RetVE w ([], 0)) := by
  have := read_any A 3 someL 9 w (by decide) h
  rw [show readS someL 9 = ([], 0) from by decide] at this
  exact this
theorem h33_r19 (h : VS w A someL) : Calls Try.prog 26 #[.slice A 3 3, .int .i64 19] w (RetVE w (someL.take 2, 0)) := by
  have := read_any A 3 someL 19 w (by decide) h
  rw [show readS someL 19 = (someL.take 2, 0) from by decide] at this
  exact this
theorem h33_r20 (h : VS w A someL) : Calls Try.prog 26 #[.slice A 3 3, .int .i64 20] w (RetVE w (someL.take 1, 0)) := by
  have := read_any A 3 someL 20 w (by decide) h
  rw [show readS someL 20 = (someL.take 1, 0) from by decide] at this
  exact this
theorem h33_a10 (h : VS w A someL) : Calls Try.prog 29 #[.slice A 3 3, .int .i64 5, .int .i64 10] w (RetVBE w (⟨5, 10, 7, false⟩, true, 0)) := by
  have := at_any A 3 someL 5 10 w (by decide) h
  rw [show atS someL 5 10 = (⟨5, 10, 7, false⟩, true, 0) from by decide] at this
  exact this
theorem h33_a20 (h : VS w A someL) : Calls Try.prog 29 #[.slice A 3 3, .int .i64 5, .int .i64 20] w (RetVBE w (Ver.zero, false, 0)) := by
  have := at_any A 3 someL 5 20 w (by decide) h
  rw [show atS someL 5 20 = (Ver.zero, false, 0) from by decide] at this
  exact this
theorem h33_p (h : VS w A someL) : Calls Try.prog 31 #[.slice A 3 3, .agg #[.int .i64 5, .int .i64 20, .int .i64 9, .bool false]] w (RetVE w ([], 30)) := by
  have := put_any A 3 someL ⟨5, 20, 9, false⟩ w (by decide) h
  rw [show putS someL ⟨5, 20, 9, false⟩ = ([], 30) from by decide] at this
  exact this
theorem h33_n (h : VS w A someL) : Calls Try.prog 36 #[.slice A 3 3, .int .i64 5] w fun e w' => e = .returned (.tuple #[.int .i64 20, .int .i64 0]) ∧ Below w.heap.size w w' := by
  have := newest_any A 3 someL 5 w (by decide) h
  rw [show newestS someL 5 = (20, 0) from by decide] at this
  exact this
theorem h33_q (h : VS w A (someL.drop 1)) : Calls Try.prog 31 #[.slice A 2 2, .agg #[.int .i64 3, .int .i64 15, .int .i64 1, .bool false]] w (RetVE w (someL, 0)) := by
  have := put_any A 2 (someL.drop 1) ⟨3, 15, 1, false⟩ w (by decide) h
  rw [show putS (someL.drop 1) ⟨3, 15, 1, false⟩ = (someL, 0) from by decide] at this
  exact this
theorem h33_v (h : VS w A someL) : Calls Try.prog 27 #[.slice A 3 3] w fun e w' => e = .returned (.bool true) ∧ Below w.heap.size w w' := by
  have := valid_any A 3 someL w (by decide) h
  rw [show validB someL = true from by decide] at this
  exact this
theorem h33_s (A B : Option Addr) (c d : Nat) (w : World) (l : List Ver) (h : VS w A l) (h' : VS w B l) (n m : Nat) (hl : l.length = n) (hm : l.length = m) (hn : l.length ≤ 60 := by decide) : Calls Try.prog 21 #[.slice A n c, .slice B m d] w fun e w' => e = .returned (.bool true) ∧ Below w.heap.size w w' := by
  subst hl; subst hm
  have := rSame_any A B c d l l w (by omega) h h'
  rw [show sameB l l = true from decide_eq_true rfl] at this
  exact this
end
set_option maxHeartbeats 4000000 in
theorem head_any (w : World) : Calls Try.prog 30 #[] w fun e w' => e = .returned (.bool true) ∧ Below w.heap.size w w' := by
  go_enter Try.func30, Try.ntmps30
  go_upto_region 9 with (first
    | (go_at_call 55; refine (some_any _).mono ?_; rintro e w1 ⟨b0, rfl, hs1, hb1⟩; have S := hide hs1; have BB := hide hb1; clear hs1 hb1)
    | (go_at_call 36; with_reducible refine (h33_n _ _ S.out).mono ?_; rintro e w8 ⟨rfl, hb8⟩; have S := hide (VS.below S.out hb8 (Nat.le_refl _)); have S3 := hide (VS.below S3.out hb8 (Nat.le_refl _)); have S4 := hide (VS.below S4.out hb8 (Nat.le_refl _)); have Q := hide (Blk.below Q.out hb8 Q.out.lt); have BB := hide (BB.out.trans (hb8.mono BB.out.size)); clear hb8)
    | (go_at_call 31; with_reducible refine (h33_p _ _ (VS.alloc S.out _)).mono ?_; unfold RetVE; dsimp only [List.length, someL, List.take]; rintro e w7 ⟨A7, c7, rfl, _, _, _, hb7⟩; have S := hide (VS.below (VS.alloc S.out _) hb7 (Nat.le_refl _)); have S3 := hide (VS.below (VS.alloc S3.out _) hb7 (Nat.le_refl _)); have S4 := hide (VS.below (VS.alloc S4.out _) hb7 (Nat.le_refl _)); have Q := hide (Blk.below (Blk.alloc Q.out _) hb7 (Blk.alloc Q.out _).lt); have BB := hide ((BB.out.alloc BB.out.size _).trans (hb7.mono (BB.out.alloc BB.out.size _).size)); clear hb7)
    | (go_at_call 29; with_reducible refine (h33_a10 _ _ S.out).mono ?_; unfold RetVBE; rintro e w5 ⟨rfl, hb5⟩; have S := hide (VS.below S.out hb5 (Nat.le_refl _)); have S3 := hide (VS.below S3.out hb5 (Nat.le_refl _)); have S4 := hide (VS.below S4.out hb5 (Nat.le_refl _)); have BB := hide (BB.out.trans (hb5.mono BB.out.size)); clear hb5)
    | (go_at_call 29; with_reducible refine (h33_a20 _ _ (VS.alloc S.out _)).mono ?_; unfold RetVBE; rintro e w6 ⟨rfl, hb6⟩; have S := hide (VS.below (VS.alloc S.out _) hb6 (Nat.le_refl _)); have S3 := hide (VS.below (VS.alloc S3.out _) hb6 (Nat.le_refl _)); have S4 := hide (VS.below (VS.alloc S4.out _) hb6 (Nat.le_refl _)); have Q := hide (Blk.below (Blk.new _ _ _) hb6 (Blk.new _ _ _).lt); have BB := hide ((BB.out.alloc BB.out.size _).trans (hb6.mono (BB.out.alloc BB.out.size _).size)); clear hb6)
    | (go_at_call 26; with_reducible refine (h33_r9 _ _ S.out).mono ?_; unfold RetVE; dsimp only [List.length, someL, List.take]; rintro e w2 ⟨A2, c2, rfl, _, _, _, hb2⟩; have S := hide (VS.below S.out hb2 (Nat.le_refl _)); have BB := hide (BB.out.trans (hb2.mono BB.out.size)); clear hb2)
    | (go_at_call 26; with_reducible refine (h33_r19 _ _ S.out).mono ?_; unfold RetVE; dsimp only [List.length, someL, List.take]; rintro e w3 ⟨A3, c3, rfl, _, _, hs3, hb3⟩; have S := hide (VS.below S.out hb3 (Nat.le_refl _)); have S3 := hide hs3; have BB := hide (BB.out.trans (hb3.mono BB.out.size)); clear hb3 hs3)
    | (go_at_call 26; with_reducible refine (h33_r20 _ _ S.out).mono ?_; unfold RetVE; dsimp only [List.length, someL, List.take]; rintro e w4 ⟨A4, c4, rfl, _, _, hs4, hb4⟩; have S := hide (VS.below S.out hb4 (Nat.le_refl _)); have S3 := hide (VS.below S3.out hb4 (Nat.le_refl _)); have S4 := hide hs4; have BB := hide (BB.out.trans (hb4.mono BB.out.size)); clear hb4 hs4))
  obtain ⟨b', o', e, hlb, hc⟩ := S.out.at_ (k := 0) (by decide)
  injection e with e; injection e with e1 e2; subst e1; subst e2
  have n0 : VAt w8 b0 0 ⟨3, 15, 1, false⟩ := by have := hc 0 (by decide); simpa [someL] using this
  have hd : VS w8 (some ⟨b0, 4, none⟩) (someL.drop 1) := by have := VS.shift (i := 1) S.out (by decide); simpa using this
  have hdr := hide hd
  have NN := hide n0
  clear hc hd n0
  go_region_held3 (fun w' => Below w8.heap.size w8 w' ∧ w'.cell? ⟨b0, 0, none⟩ = some (.int .i64 3) ∧ w'.cell? ⟨b0, 1, none⟩ = some (.int .i64 15) ∧ w'.cell? ⟨b0, 2, none⟩ = some (.int .i64 1) ∧ w'.cell? ⟨b0, 3, none⟩ = some (.bool false))
    ((refine keepV (v := ⟨3, 15, 1, false⟩) ?_ hlb NN.out; (repeat (first | exact Below.refl _ _ | (refine Below.drew ?_) | (refine Below.alloc ?_ (by (first | ((repeat (first | simp only [World.size_alloc] | simp only [heap_drew])); omega) | omega | (simp; omega))) _) | (refine Below.trans ?_ (Below.mono (by assumption) (by (first | ((repeat (first | simp only [World.size_alloc] | simp only [heap_drew])); omega) | omega | (simp; omega)))))))))
    (first
      | (go_at_call 31; with_reducible refine (h33_q _ _ (VS.below hdr.out (And.left (by assumption)) (Nat.le_refl _))).mono ?_; unfold RetVE; dsimp only [List.length, someL, List.take]; rintro e w9 ⟨A9, c9, rfl, _, _, hs9, hb9⟩; have z9 := hb9.size; (repeat (first | simp only [World.size_alloc] at z9 | simp only [heap_drew] at z9)); have S9 := hide hs9; clear hs9))
  have S := hide (VS.below (VS.drew S.out) hb9 (Nat.le_refl _))
  have S3 := hide (VS.below (VS.drew S3.out) hb9 (Nat.le_refl _))
  have S4 := hide (VS.below (VS.drew S4.out) hb9 (Nat.le_refl _))
  have Q := hide (Blk.below (Blk.drew Q.out) hb9 (Blk.drew Q.out).lt)
  have BB := hide (BB.out.drew.trans (hb9.mono BB.out.size))
  clear hb9
  go_upto_region 11 with (first
    | (go_at_call 27; with_reducible refine (h33_v _ _ S.out).mono ?_; rintro e w10 ⟨rfl, hb10⟩; have S := hide (VS.below S.out hb10 (Nat.le_refl _)); have S3 := hide (VS.below S3.out hb10 (Nat.le_refl _)); have S4 := hide (VS.below S4.out hb10 (Nat.le_refl _)); have S9 := hide (VS.below S9.out hb10 (Nat.le_refl _)); have Q := hide (Blk.below Q.out hb10 Q.out.lt); have BB := hide (BB.out.trans (hb10.mono BB.out.size)); clear hb10))
  obtain ⟨b', o', e, hlb, hc⟩ := S.out.at_ (k := 0) (by decide)
  injection e with e; injection e with e1 e2; subst e1; subst e2
  have n1 := ((hc 1 (by decide)).fut hlb)
  have q1 := fun x : Fut w10.heap.size w10 => (Q.out.below x.h Q.out.lt).cell
  have HV := hide n1
  have F0 := hide (fun x : Fut w10.heap.size w10 => VS.below S.out x.h (Nat.le_refl _))
  have G2 := hide (fun x : Fut w10.heap.size w10 => h33_s A3 (some ⟨b0, 0, none⟩) c3 3 x.v (someL.take 2) (VS.below S3.out x.h (Nat.le_refl _)) (F0.out x).pre 2 2 rfl rfl)
  have G1 := hide (fun x : Fut w10.heap.size w10 => h33_s A4 (some ⟨b0, 0, none⟩) c4 3 x.v (someL.take 1) (VS.below S4.out x.h (Nat.le_refl _)) (F0.out x).pre 1 1 rfl rfl)
  have G3 := hide (fun x : Fut w10.heap.size w10 => h33_s A9 (some ⟨b0, 0, none⟩) c9 3 x.v someL (VS.below S9.out x.h (Nat.le_refl _)) (F0.out x) 3 3 rfl rfl)
  unfold VAt at n1
  simp only [someL, List.getElem_cons_succ, List.getElem_cons_zero] at n1
  clear hc
  have he : eqB 5 10 7 false 5 10 7 false = true := by decide
  refine wp_region_fut w10.heap.size (by kernel_rfl) (by kernel_rfl) ?_
  repeat (go_big_quiet_step ((first | (go_at_call 21; (first | with_reducible exact Fut.call (Nat.le_refl _) (G2.out _) | with_reducible exact Fut.call (Nat.le_refl _) (G1.out _) | with_reducible exact Fut.call (Nat.le_refl _) (G3.out _))))))
  refine wpQuiet_nil ?_
  intro w11 hq'; have hb11 := Fut.of hq'; clear hq'
  go_wp2
  go_ret
  exact ⟨rfl, BB.out.trans (hb11.mono BB.out.size)⟩
end Go.Proofs.Ytejpfcomgamhjaa
