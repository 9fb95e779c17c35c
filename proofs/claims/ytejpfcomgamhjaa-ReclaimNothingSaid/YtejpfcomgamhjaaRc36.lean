/-
  The walk of reclaim.Reclaim.
-/
import Derived.Test.YtejpfcomgamhjaaSt36
import Derived.Test.YtejpfcomgamhjaaRevV
import Derived.Test.YtejpfcomgamhjaaValid
import Derived.Test.YtejpfcomgamhjaaPut
import Derived.Maps.OwnIn
namespace Go.Proofs.Ytejpfcomgamhjaa
open Go.RowKit Go.Shelf
attribute [local go_sem] Oper.semAt_some
theorem edge_any (n : Int) (w : World) : Calls Try.prog 43 #[.int .i64 n] w fun e w' => e = .returned (.bool (edgeB n)) ∧ w = w' := by
  unfold edgeB
  cases h : decide (0 ≤ n)
  all_goals
    go_enter Try.func43, Try.ntmps43
    go_wp2
    go_ret
    exact ⟨rfl, rfl⟩
theorem stamp36_any (n : Int) (w : World) : Calls Try.prog 42 #[.int .i64 n] w fun e w' => e = .returned (.bool (stampB n)) ∧ w = w' := by
  unfold stampB
  cases h : decide (1 ≤ n)
  all_goals
    go_enter Try.func42, Try.ntmps42
    go_wp2
    go_ret
    exact ⟨rfl, rfl⟩
/-- what an append onto the row in a box leaves -/
theorem box_appended {W w1 : World} {n₀ B0 ob : Nat} {v v' : Value} {k m : Nat} {xs ys : List Value} {tmp : Obj} (hv : Boxed W ob 22 v) (hrow : W.ownsRow B0 40 4 v k xs) (ho : n₀ ≤ ob) (hob : ob < B0) (hB : B0 ≤ W.heap.size)
    (hown' : w1.ownsRow B0 40 4 v' m ys) (hgrow : (W.alloc tmp).grownBy w1 v.ownBlock) :
    Boxed w1 ob 22 v ∧ Boxed (w1.setCell ⟨ob, 0, none⟩ v') ob 22 v' ∧ (w1.setCell ⟨ob, 0, none⟩ v').ownsRow B0 40 4 v' m ys ∧ KeepsOthers W (w1.setCell ⟨ob, 0, none⟩ v') ∧ KpB n₀ ob W (w1.setCell ⟨ob, 0, none⟩ v') := by
  have hte : 22 ≠ 40 := by decide
  have hv1 : Boxed w1 ob 22 v := (hv.alloc tmp).kept hgrow (hv.not_row hte hrow)
  refine ⟨hv1, hv1.set v', hown'.kept (grownBy_setCell' w1 ob v') (.inr (hv1.not_row hte hown').symm), ?_, ?_, fun b t u ht hb hu => ?_⟩
  · refine ((KeepsOthers.alloc W tmp).trans (KeepsOthers.of_grownBy hgrow fun j o ej hj => ?_)).trans (KeepsOthers.setCell _ _ _)
    rcases (hrow.alloc tmp).2 with ⟨rfl, _⟩ | ⟨g, cap, cur, rfl, _, hgb, _⟩
    · simp [Value.ownBlock] at ej
    · obtain rfl : g = j := by simpa [Value.ownBlock] using ej
      rw [hgb] at hj; cases hj; rfl
  · exact (((Below.refl n₀ W).alloc (by omega) tmp).grown hgrow (by simp; omega) fun j ej => by have := (hrow.lt j ej).1; omega).setCell (p := ⟨ob, 0, none⟩) ho v'
  · exact ((hu.alloc tmp).kept hgrow (hu.not_row ht hrow)).other hb _
theorem own_kept {A B : World} {row : Option Nat} {base : Nat} {v : Value} {l : List Ver} (h : OwnV A base v l) (hg : A.grownBy B row) (hr : ∀ r, row = some r → r < base ∨ ∃ o : Obj, A.heap[r]? = some o ∧ o.isCells = false) : OwnV B base v l := by
  refine ⟨h.1, ?_⟩
  rcases h.2 with h2 | ⟨g, cap, cur, hv, hb, hh, r⟩
  · exact .inl h2
  · refine .inr ⟨g, cap, cur, hv, hb, (hg.block g (Array.getElem?_eq_some_iff.1 hh).1 fun e => ?_).trans hh, r⟩
    rcases hr g e.symm with h1 | ⟨o, h1, h2⟩
    · omega
    · rw [hh] at h1; cases h1; cases h2
theorem news_at {W : World} {g : Nat} {t : TypeId} {cs : Array Value} (h : Blk W g t cs) : ∀ j u, cs.toList[j]? = some u → W.cell? ((⟨g, 0, none⟩ : Addr).add j) = some u := fun j u hu => by
  have e : (⟨g, 0, none⟩ : Addr).add j = ⟨g, 0 + j, none⟩ := by unfold Addr.add; split <;> simp_all
  rw [e, Nat.zero_add, h.cell, ← Array.getElem?_toList]
  exact hu
set_option maxRecDepth 100000 in
set_option maxHeartbeats 4000000 in
theorem reclaim_good (A : Option Addr) (c : Nat) (l : List Ver) (h : Int) (w : World) (hs : VS w A l) (hv : validB l = true) (he : edgeB h = true) :
    Calls Try.prog 19 #[.slice A l.length c, .int .i64 h] w (RetVE w ((stayR l h).reverse, 0)) := by
  have hst := (sto_iff l).1 hv
  have hn : l.length ≤ 4000 := hst.len
  obtain ⟨i0, hi, hz0, hz1, hz2⟩ := info_parts infoV
  refine (callsIn_wide (n := 4)).1 ?_
  refine callsIn_of_wp_marks Try.func19 rfl trivial ?_ rfl
  simp only [Try.ntmps19, List.size_toArray, List.length_cons, List.length_nil, Nat.reduceAdd, Nat.reduceSub, Array.replicate_succ, Array.replicate_zero, List.push_toArray, List.append_toArray, List.nil_append, List.cons_append]
  gi_wp2_with (first
    | (refine ⟨trivial, ?_⟩; gi_at_call 27; refine (callsIn_wide.2 (valid_any A c l _ (by omega) hs)).mono ?_; rw [hv]; rintro e w1 ⟨rfl, hb⟩)
    | (refine ⟨trivial, ?_⟩; gi_at_call 43; refine (callsIn_wide.2 (edge_any h _)).mono ?_; rw [he]; rintro e w2 ⟨rfl, rfl⟩)
    | (refine ⟨trivial, ?_⟩; gi_at_call 46; refine (callsIn_wide.2 (staying_any A l.length c h _)).mono ?_; rintro e w3 ⟨rfl, rfl⟩))
  obtain ⟨o1, h1⟩ : ∃ o, o = Obj.cells #[.slice none 0 0] 22 (0, 0) := ⟨_, rfl⟩
  obtain ⟨o2, h2⟩ : ∃ o, o = Obj.cells #[.slice A l.length c] 22 (0, 0) := ⟨_, rfl⟩
  obtain ⟨o3, h3⟩ : ∃ o, o = Obj.cells #[.int .i64 h] 3 (0, 0) := ⟨_, rfl⟩
  obtain ⟨o4, h4⟩ : ∃ o, o = Obj.cells #[.int .i64 0] 3 (0, 0) := ⟨_, rfl⟩
  obtain ⟨o5, h5⟩ : ∃ o, o = Obj.cells #[.func (.func 63) #[] #[.pointer (some ⟨w1.heap.size + 1 + 1 + 1, 0, none⟩)]] 46 (0, 0) := ⟨_, rfl⟩
  have n1 := Boxed.new w1 22 (.slice none 0 0)
  rw [← h1] at n1
  have n2 := Boxed.new (w1.alloc o1) 22 (.slice A l.length c)
  rw [← h2, World.size_alloc] at n2
  have n3 := Boxed.new ((w1.alloc o1).alloc o2) 3 (.int .i64 h)
  rw [← h3, World.size_alloc, World.size_alloc] at n3
  have n4 := Boxed.new (((w1.alloc o1).alloc o2).alloc o3) 3 (.int .i64 0)
  rw [← h4, World.size_alloc, World.size_alloc, World.size_alloc] at n4
  have n5 := Boxed.new ((((w1.alloc o1).alloc o2).alloc o3).alloc o4) 46 (.func (.func 63) #[] #[.pointer (some ⟨w1.heap.size + 1 + 1 + 1, 0, none⟩)])
  rw [← h5, World.size_alloc, World.size_alloc, World.size_alloc, World.size_alloc] at n5
  have hsz : (((((w1.alloc o1).alloc o2).alloc o3).alloc o4).alloc o5).heap.size = w1.heap.size + 5 := by simp
  have hb5 : Below w.heap.size w (((((w1.alloc o1).alloc o2).alloc o3).alloc o4).alloc o5) := by
    have hs1 := hb.size
    exact ((((hb.alloc (by omega) _).alloc (by simp; omega) _).alloc (by simp; omega) _).alloc (by simp; omega) _).alloc (by simp; omega) _
  have hs1 := hb.size
  have b1 := (((n1.alloc o2).alloc o3).alloc o4).alloc o5
  have b2 := ((n2.alloc o3).alloc o4).alloc o5
  have b3 := (n3.alloc o4).alloc o5
  have b4 := n4.alloc o5
  have b5 := n5
  clear n1 n2 n3 n4 n5
  rw [← h1, ← h2, ← h3, ← h4, ← h5]
  clear h1 h2 h3 h4 h5
  obtain ⟨W5, hW5⟩ : ∃ W5, (((((w1.alloc o1).alloc o2).alloc o3).alloc o4).alloc o5) = W5 := ⟨_, rfl⟩
  rw [hW5] at hsz hb5 b1 b2 b3 b4 b5 ⊢
  refine wpIn_range_at (F := Fence.wide) (n := 4) (w := W5) (xs := stayR l h) rfl (by omega) (gf := 64) (lb := #[.pointer (some ⟨w1.heap.size + 1 + 1 + 1, 0, none⟩), .pointer (some ⟨w1.heap.size + 1, 0, none⟩), .pointer (some ⟨w1.heap.size + 1 + 1, 0, none⟩), .pointer (some ⟨w1.heap.size + 1 + 1 + 1 + 1, 0, none⟩)]) rfl trivial (enters_of Try.func64 (by kernel_rfl) rfl)
    (staying_seq A c l h w W5 w1.heap.size hn hs hb5 (w1.heap.size + 1 + 1 + 1) (w1.heap.size + 1) (w1.heap.size + 1 + 1) (w1.heap.size + 1 + 1 + 1 + 1) (by omega) (by omega) (by omega) ⟨by omega, by omega, by omega, by omega⟩ (by omega) b4 b2 b3 b5)
    (by omega) (fun h k => h.trans k) ?kb
    (fun pre W => (∃ v, Boxed W w1.heap.size 22 v ∧ OwnV W (w1.heap.size + 5) v pre) ∧ Below w.heap.size w W) ?keep
    (fun x a' W => ∃ Bx, w1.heap.size + 5 ≤ Bx ∧ Blk W Bx 40 #[.int .i64 x.key, .int .i64 x.ts, .int .i64 x.value, .bool x.gone] ∧ a' = { tmps := #[.slice A l.length c, .int .i64 h, undef, undef, .slice none 0 0, .int .i64 0, .pointer (some ⟨w1.heap.size, 0, none⟩), .pointer (some ⟨Bx, 0, none⟩), .slice A l.length c, .bool true, .bool false, .bool false, .int .i64 h, .bool true, .bool false, .bool false, .slice A l.length c, .int .i64 h, .func (.func 64) #[] #[.pointer (some ⟨w1.heap.size + 1 + 1 + 1, 0, none⟩), .pointer (some ⟨w1.heap.size + 1, 0, none⟩), .pointer (some ⟨w1.heap.size + 1 + 1, 0, none⟩), .pointer (some ⟨w1.heap.size + 1 + 1 + 1 + 1, 0, none⟩)], .agg #[.int .i64 x.key, .int .i64 x.ts, .int .i64 x.value, .bool x.gone], undef, undef, undef, undef, undef, undef, undef], defers := [] }) ?keepA
    ⟨⟨_, b1, World.ownsRow_nil _ _ _ _⟩, hb5⟩ ?assign ?body ?done
  case kb =>
    intro W r o o' hr ho hc
    have hlt := (Array.getElem?_eq_some_iff.1 ho).1
    refine ⟨(Below.refl _ W).grown (grownBy_putObj' W r o') (by omega) (fun k e => by cases e; omega), fun b t v _ _ hu => hu.kept (grownBy_putObj' W r o') fun e => ?_⟩
    have hu' : W.heap[b]? = some (.cells #[v] t (0, 0)) := hu
    rw [Option.some.inj e, ho] at hu'
    cases hu'; cases hc
  case keep =>
    rintro ys A' B' row ⟨⟨v, hv, hrow⟩, hB⟩ hg hr
    refine ⟨⟨v, hv.kept hg fun e => ?_, own_kept hrow hg fun r e => ?_⟩, hB.grown hg hB.size fun k e => ?_⟩
    · rcases hr _ e.symm with h1 | ⟨h1, _⟩
      · omega
      · omega
    · rcases hr r e with h1 | ⟨_, h1⟩
      · exact .inl (by omega)
      · exact .inr h1
    · rcases hr k e with h1 | ⟨h1, _⟩
      · omega
      · omega
  case keepA =>
    rintro x a' A' B' row ⟨Bx, hBx, hblk, rfl⟩ hg hr
    refine ⟨Bx, hBx, (hg.block Bx hblk.lt fun e => ?_).trans hblk, rfl⟩
    obtain ⟨_, o, ho, hc⟩ := hr _ e.symm
    have hu' : A'.heap[Bx]? = some (.cells #[.int .i64 x.key, .int .i64 x.ts, .int .i64 x.value, .bool x.gone] 40 (0, 0)) := hblk
    rw [hu'] at ho; cases ho; cases hc
  case assign =>
    rintro yl pre ⟨xk, xt, xv, xg⟩ W K ⟨⟨v, hv, hrow⟩, hB⟩ hpre hsW hK
    dsimp only [Ver.val]
    have hKK := hide hK
    clear hK
    gi_wp2
    exact hKK.out _ _ ((KeepsOthers.alloc W _).from _) ⟨(Below.refl _ W).alloc hB.size _, fun b t v _ _ hu => hu.alloc _⟩ ⟨⟨v, hv.alloc _, own_kept hrow (World.grownBy_alloc W _ none) (fun r e => by cases e)⟩, hB.alloc hB.size _⟩ ⟨W.heap.size, by omega, Blk.new W _ _, rfl⟩
  case body =>
    rintro yl pre ⟨xk, xt, xv, xg⟩ a' W ⟨⟨v, hv, hrow⟩, hB⟩ ⟨Bx, hBx, hblk, rfl⟩ hpre hsW
    dsimp only at hblk
    have hc := hv.cell
    have q := hblk.cell
    have q0 := q 0
    have q1 := q 1
    have q2 := q 2
    have q3 := q 3
    have hpl : pre.length + 1 ≤ 4000 := by have h1 := hpre.length_le; have h2 := stayR_len l h; rw [List.length_append] at h1; simp only [List.length_cons, List.length_nil] at h1; omega
    gi_wp2_with (gi_at_builtin; refine wpListIn_append_own _ rfl _ _ 22 rfl (w1.heap.size + 5) 40 i0 _ 4 32 Try.underlying22 hi hz0 hz1 hz2 rfl (by decide) _ _ _ rfl (hrow.alloc _) ⟨W.heap.size, 0, none⟩ 1 1 (Ver.cells ⟨xk, xt, xv, xg⟩) rfl rfl (news_at (Blk.new W _ _)) (by simpa using ver_one [⟨xk, xt, xv, xg⟩]) (by simp only [maxLen]; omega) (by omega) (by simp; omega) ?_; intro v' w6 hown' hgrow _; obtain ⟨g', cap', rfl⟩ := ownsRow_succ hown'; obtain ⟨hv1, hv2, hr2, hk2, hb2⟩ := box_appended (n₀ := w.heap.size) hv hrow (by omega) (by omega) (by omega) hown' hgrow; have hc1 := hv1.cell; have hf1 := hv1.frozen)
    exact ⟨hk2.from _, hb2, ⟨_, hv2, OwnV.snoc hr2 rfl rfl⟩, hB.trans hb2.1⟩
  case done =>
    rintro D W hD ⟨⟨v, hv, hrow⟩, hB⟩ hK
    have hc := hv.cell
    obtain ⟨A6, c6, rfl, hlc, hcm, hvs⟩ := hrow.form
    have hDl := (Array.getElem?_eq_some_iff.1 hK).1
    have hrl := stayR_len l h
    have hmo : ∀ {row7 : Option Nat}, (∀ r, row7 = some r → ∃ a, A6 = some a ∧ a.block = r) → ∀ r, row7 = some r → w1.heap.size + 5 ≤ r ∧ ∃ o : Obj, W.heap[r]? = some o ∧ o.isCells = true := fun hr r e => by
      obtain ⟨a, ha, hab⟩ := hr r e
      obtain ⟨hb1, hb2⟩ := hrow.blk ha
      rcases hrow.2 with ⟨hv0, _⟩ | ⟨g, cap, cur, hv0, _, hh, _⟩
      · injection hv0 with hA; rw [hA] at ha; cases ha
      · injection hv0 with hA; rw [hA] at ha; cases ha; subst hab; exact ⟨hb1, _, hh, rfl⟩
    have HM := fun {row7 : Option Nat} h => hide (hmo (row7 := row7) h)
    clear hmo
    gi_wp2_with (refine ⟨trivial, ?_⟩; gi_at_call 47; refine (callsIn_wide.2 (revV_any (w1.heap.size + 5) A6 (stayR l h).length c6 (stayR l h) _ (by omega) hrow (by omega))).mono ?_; rintro e w7 ⟨⟨_, rfl⟩, hown7, row7, hg7, hr7⟩; have hq7 := HM hr7; have hv7 := hv.kept hg7 (fun e => by have := (hq7.out _ e.symm).1; omega); have hc7 := hv7.cell; have HO := hide hown7; have HG := hide hg7; clear hown7 hg7 hr7)
    have hK7 : w7.heap[D]? = some (.deferred (some [])) := (HG.out.block D hDl fun e => by obtain ⟨_, o, ho, hc⟩ := hq7.out _ e.symm; rw [hK] at ho; cases ho; cases hc).trans hK
    refine ⟨by simp, .inl ⟨_, _, rfl, run_takeDeferred hK7, ?_⟩⟩
    have hown8 := own_kept HO.out (grownBy_putObj' w7 D (.deferred none)) (fun r e => .inr (by cases e; exact ⟨_, hK7, rfl⟩))
    have hvs8 : VS (w7.putObj D (.deferred none)) A6 (stayR l h).reverse := Rd.of_own (by have := hown8; unfold OwnV at this; rw [List.length_reverse] at this; exact this)
    refine ⟨_, results_tmp2 rfl _ _ _, A6, c6, by rw [List.length_reverse]; rfl, by rw [List.length_reverse]; exact hlc, hcm, hvs8, ?_⟩
    exact (hB.grown HG.out hB.size (fun r e => by have := (hq7.out r e).1; omega)).grown (grownBy_putObj' w7 D _) (by have := (HG.out).size; omega) (fun r e => by cases e; omega)
set_option maxHeartbeats 1000000 in
theorem reclaim_any (A : Option Addr) (c : Nat) (l : List Ver) (h : Int) (w : World) (hn : l.length ≤ 9223372036854775807) (hs : VS w A l) :
    Calls Try.prog 19 #[.slice A l.length c, .int .i64 h] w (RetVE w (reclaimS l h)) := by
  cases hv : validB l
  · have hp : reclaimS l h = ([], 1) := by simp [reclaimS, hv]
    rw [hp]
    go_enter Try.func19, Try.ntmps19
    go_wp2_with (go_at_call 27; with_reducible refine (valid_any A c l _ hn hs).mono ?_; rw [hv]; rintro e w1 ⟨rfl, hb⟩)
    go_ret2
    exact RetVE.none_ hb
  · cases he : edgeB h
    · have hp : reclaimS l h = ([], 1) := by simp [reclaimS, he]
      rw [hp]
      go_enter Try.func19, Try.ntmps19
      go_wp2_with (first | (go_at_call 27; with_reducible refine (valid_any A c l _ hn hs).mono ?_; rw [hv]; rintro e w1 ⟨rfl, hb⟩) | (go_at_call 43; refine (edge_any _ _).mono ?_; rw [he]; rintro e w2 ⟨rfl, rfl⟩))
      go_ret2
      exact RetVE.none_ hb
    · have hp : reclaimS l h = ((stayR l h).reverse, 0) := by simp [reclaimS, hv, he]
      rw [hp]
      exact reclaim_good A c l h w hs hv he
/-- reclaim.Read -/
def readRS (l : List Ver) (h t : Int) : List Ver × Int := if !validB l || !edgeB h || !stampB t then ([], 1) else if t < h then ([], 64) else readS l t
end Go.Proofs.Ytejpfcomgamhjaa
