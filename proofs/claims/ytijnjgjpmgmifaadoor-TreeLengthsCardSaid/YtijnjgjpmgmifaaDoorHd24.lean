/-
  The walks of the laws' own functions of layer 24: few, head.
-/
import Derived.Test.YtijnjgjpmgmifaaDoorLw24
namespace Go.Proofs.YtijnjgjpmgmifaaDoor
open Go.RowKit
theorem thenB {w w1 w' : World} (h : Below w.heap.size w w1) (hb : Below w1.heap.size w1 w') : Below w.heap.size w w' := h.trans (hb.mono h.size)
/-- slices that read as lists of digests -/
def AllK (w : World) (ps : List (Option Addr × List Int)) : Prop := ∀ p ∈ ps, KS .u64 w p.1 p.2
theorem AllK.then_ {w w' : World} {ps : List (Option Addr × List Int)} (h : AllK w ps) (hb : Below w.heap.size w w') : AllK w' ps := fun p hp => (h p hp).then_ hb
theorem AllK.alloc {w : World} {ps : List (Option Addr × List Int)} (h : AllK w ps) (o : Obj) : AllK (w.alloc o) ps := fun p hp => (h p hp).alloc o
theorem AllK.add {w : World} {ps : List (Option Addr × List Int)} (h : AllK w ps) {A : Option Addr} {l : List Int} (hv : KS .u64 w A l) : AllK w ((A, l) :: ps) := fun p hp => by
  rcases List.mem_cons.1 hp with rfl | hp
  · exact hv
  · exact h p hp
theorem AllK.one {w : World} {A : Option Addr} {l : List Int} (hv : KS .u64 w A l) : AllK w [(A, l)] := fun p hp => by
  obtain rfl := List.mem_singleton.1 hp
  exact hv
theorem AllK.get {w : World} {ps : List (Option Addr × List Int)} (h : AllK w ps) {A : Option Addr} {l : List Int} (hp : (A, l) ∈ ps) : KS .u64 w A l := h _ hp
theorem wpList_append_rdg {P : Program} (w : World) {ops : Array Oper} {rest : List Oper} {o : Oper} {a : Act} {Q : Exit → Act → World → Prop} (hgd : Region.wanted o (yielded ops a.tmps) = true) (s x : Operand) (t : TypeId)
    (ho : o.op = .call { callee := .builtin .append, args := #[s, x], argTypes := #[t, t] })
    (base : Nat) (e : TypeId) (i : TypeInfo) (z : Value) (size bytes : Nat) (ht : P.underlying t = some (.slice e)) (hi : P.info? e = some i) (hz : i.zero = some z)
    (hsize : i.size = size) (hby : i.bytes = bytes) (hzs : z.cells.size = size) (hsz : 0 < size)
    (v : Value) (n : Nat) (xs : List Value) (hs : a.eval s = v) (hown : w.ownsRow base e size v n xs)
    (A : Option Addr) (m c : Nat) (news : List Value) (hx : a.eval x = .slice A m c) (hl : news.length = m * size) (hr : Rd w A news) (h1 : ∀ u ∈ news, u.oneCell' = true)
    (h63 : n + m ≤ maxLen) (hbytes : (n + m) * bytes ≤ 140737488355328) (hbase : base ≤ w.heap.size)
    (h : ∀ v' w', w'.ownsRow base e size v' (n + m) (xs ++ news) → w.grownBy w' v.ownBlock → (v'.ownBlock = v.ownBlock ∨ v'.ownBlock = some w.heap.size) → wpList P ops Q rest (a.put o.dst v') w') : wpList P ops Q (o :: rest) a w :=
  wpList_step fun K hK => by
    rw [if_pos hgd]
    exact wp_append_rd w s x t ho base e i z size bytes ht hi hz hsize hby hzs hsz v n xs hs hown A m c news hx hl hr h1 h63 hbytes hbase fun v' w' h2 h3 h4 => hK _ _ (h v' w' h2 h3 h4)
theorem grown_made {w w' : World} {e : TypeId} {c : Nat} (hg : (w.alloc (.cells #[] e)).grownBy w' (Value.slice (some ⟨w.heap.size, 0, none⟩) 0 c).ownBlock) : Below w.heap.size w w' :=
  ((Below.refl w.heap.size w).alloc (Nat.le_refl _) (.cells #[] e)).grown hg (by simp) (fun k hk => by simp [Value.ownBlock] at hk; omega)
def fewB (l : List Int) : Bool := decide (1 ≤ l.length) && decide (l.length ≤ 60)
theorem few_any (A : Option Addr) (c : Nat) (l : List Int) (w : World) :
    Calls Tryd.prog 24 #[.slice A l.length c] w fun e w' => e = .returned (.bool (fewB l)) ∧ w = w' := by
  obtain ⟨n, hn⟩ : ∃ n, n = l.length := ⟨_, rfl⟩
  unfold fewB
  rw [← hn]
  clear hn
  by_cases h1 : 1 ≤ n
  · have d1 : decide (1 ≤ (n : Int)) = true := decide_eq_true (by omega)
    have d1' : decide (1 ≤ n) = true := decide_eq_true (by omega)
    by_cases h2 : n ≤ 60
    · have d2 : decide ((n : Int) ≤ 60) = true := decide_eq_true (by omega)
      have d2' : decide (n ≤ 60) = true := decide_eq_true (by omega)
      go_enter Tryd.func24, Tryd.ntmps24
      go_wp2
      go_ret
      exact ⟨by simp [d1', d2'], rfl⟩
    · have d2 : decide ((n : Int) ≤ 60) = false := decide_eq_false (by omega)
      have d2' : decide (n ≤ 60) = false := decide_eq_false (by omega)
      go_enter Tryd.func24, Tryd.ntmps24
      go_wp2
      go_ret
      exact ⟨by simp [d1', d2'], rfl⟩
  · have d1 : decide (1 ≤ (n : Int)) = false := decide_eq_false (by omega)
    have d1' : decide (1 ≤ n) = false := decide_eq_false (by omega)
    go_enter Tryd.func24, Tryd.ntmps24
    go_wp2
    go_ret
    exact ⟨by simp [d1'], rfl⟩
theorem sameK (A B : Option Addr) (c d n m : Nat) (l : List Int) (w : World) (h : KS .u64 w A l) (h' : KS .u64 w B l) (hn : l.length = n) (hm : l.length = m) (hs : l.length ≤ 1000000) :
    Calls Tryd.prog 17 #[.slice A n c, .slice B m d] w fun e w' => e = .returned (.bool true) ∧ Below w.heap.size w w' := by
  subst hn; subst hm
  have := rSame_any A B c d l l w hs h h'
  rw [show decide (l = l) = true from decide_eq_true rfl] at this
  exact this
theorem sameN1 (A : Option Addr) (c : Nat) (x : Int) (w : World) (h : KS .u64 w A [x]) : Calls Tryd.prog 17 #[.slice A 1 c, .slice (some ⟨w.heap.size, 0, none⟩) 1 1] (w.alloc (.cells #[.int .u64 x] 23)) fun e w' => e = .returned (.bool true) ∧ Below w.heap.size w w' :=
  (sameK A (some ⟨w.heap.size, 0, none⟩) c 1 1 1 [x] _ (h.alloc _) (show KS .u64 (w.alloc (.cells #[.int .u64 x] 23)) (some ⟨w.heap.size, 0, none⟩) [x] from Rd.new_row w 23 #[.int .u64 x]) rfl rfl (by simp)).mono fun e w' ⟨he, hb⟩ => ⟨he, thenB ((Below.refl _ _).alloc (Nat.le_refl _) _) hb⟩
theorem sameN2 (A : Option Addr) (c : Nat) (x y : Int) (w : World) (h : KS .u64 w A [x, y]) : Calls Tryd.prog 17 #[.slice A 2 c, .slice (some ⟨w.heap.size, 0, none⟩) 2 2] (w.alloc (.cells #[.int .u64 x, .int .u64 y] 23)) fun e w' => e = .returned (.bool true) ∧ Below w.heap.size w w' :=
  (sameK A (some ⟨w.heap.size, 0, none⟩) c 2 2 2 [x, y] _ (h.alloc _) (show KS .u64 (w.alloc (.cells #[.int .u64 x, .int .u64 y] 23)) (some ⟨w.heap.size, 0, none⟩) [x, y] from Rd.new_row w 23 #[.int .u64 x, .int .u64 y]) rfl rfl (by simp)).mono fun e w' ⟨he, hb⟩ => ⟨he, thenB ((Below.refl _ _).alloc (Nat.le_refl _) _) hb⟩
abbrev l24 : List Int := [7, 8, 9]
theorem h24_root (A : Option Addr) (w : World) (h : KS .u64 w A l24) : Calls Tryd.prog 11 #[.slice A 3 3] w fun e w' => e = .returned (.tuple #[.int .u64 (pairF (pairF (leafF 7) (leafF 8)) (leafF 9)), .int .i64 0]) ∧ Below w.heap.size w w' := by
  have := Root_any A 3 l24 w (by decide) h
  rw [rootS_ok (by decide) (by decide), e_root3] at this
  exact this
theorem h24_rootn (w : World) : Calls Tryd.prog 11 #[.slice none 0 0] w fun e w' => e = .returned (.tuple #[.int .u64 0, .int .i64 1]) ∧ Below w.heap.size w w' := by
  have := Root_any none 0 [] w (by decide) (Rd.nil _ _)
  rw [show rootS [] = (0, 1) from rfl] at this
  exact this
/-- the contract of a call that returns a list of digests and a number -/
def RetKE (w : World) (l : List Int) (e : Ending) (w' : World) : Prop := ∃ A' c', e = .returned (.tuple #[.slice A' l.length c', .int .i64 0]) ∧ l.length ≤ c' ∧ KS .u64 w' A' l ∧ Below w.heap.size w w'
theorem Inc_ok (A : Option Addr) (c n : Nat) (l : List Int) (i : Nat) (w : World) (hl : l.length = n) (hi : i < n) (hn : n ≤ 4096) (hc : n ≤ c) (h : KS .u64 w A l) : Calls Tryd.prog 15 #[.slice A n c, .int .i64 i] w (RetKE w (inclF l i)) := by
  subst hl
  have := Include_any A c l i w hc h
  rw [incS_ok hi hn] at this
  exact this.mono fun e w' ⟨A', c', he, h1, h2, h3, h4⟩ => ⟨A', c', he, h1, h3, h4⟩
theorem Ext_ok (A : Option Addr) (c n : Nat) (l : List Int) (m : Nat) (w : World) (hl : l.length = n) (h1 : 1 ≤ m) (hm : m ≤ n) (hn : n ≤ 4096) (hc : n ≤ c) (h : KS .u64 w A l) : Calls Tryd.prog 18 #[.slice A n c, .int .i64 m] w (RetKE w (extF l m true)) := by
  subst hl
  have := Extend_any A c l m w hc h
  rw [extS_ok h1 hm hn] at this
  exact this.mono fun e w' ⟨A', c', he, h1, h2, h3, h4⟩ => ⟨A', c', he, h1, h3, h4⟩
theorem Root_ok (A : Option Addr) (c n : Nat) (l : List Int) (w : World) (hl : l.length = n) (h1 : 1 ≤ n) (hn : n ≤ 4096) (hc : n ≤ c) (h : KS .u64 w A l) : Calls Tryd.prog 11 #[.slice A n c] w fun e w' => e = .returned (.tuple #[.int .u64 (rootF l), .int .i64 0]) ∧ Below w.heap.size w w' := by
  subst hl
  have := Root_any A c l w hc h
  rw [rootS_ok h1 hn] at this
  exact this
theorem h24_inc1 (A : Option Addr) (w : World) (h : KS .u64 w A l24) : Calls Tryd.prog 15 #[.slice A 3 3, .int .i64 1] w (RetKE w [leafF 7, leafF 9]) := by
  have := Inc_ok A 3 3 l24 1 w rfl (by decide) (by decide) (by decide) h
  rw [e_inc1] at this
  exact this
theorem h24_inc2 (A : Option Addr) (w : World) (h : KS .u64 w A l24) : Calls Tryd.prog 15 #[.slice A 3 3, .int .i64 2] w (RetKE w [pairF (leafF 7) (leafF 8)]) := by
  have := Inc_ok A 3 3 l24 2 w rfl (by decide) (by decide) (by decide) h
  rw [e_inc2] at this
  exact this
theorem h24_ext2 (A : Option Addr) (w : World) (h : KS .u64 w A l24) : Calls Tryd.prog 18 #[.slice A 3 3, .int .i64 2] w (RetKE w [leafF 9]) := by
  have := Ext_ok A 3 3 l24 2 w rfl (by decide) (by decide) (by decide) (by decide) h
  rw [e_ext2] at this
  exact this
theorem h24_ext1 (A : Option Addr) (w : World) (h : KS .u64 w A l24) : Calls Tryd.prog 18 #[.slice A 3 3, .int .i64 1] w (RetKE w [leafF 8, leafF 9]) := by
  have := Ext_ok A 3 3 l24 1 w rfl (by decide) (by decide) (by decide) (by decide) h
  rw [e_ext1] at this
  exact this
theorem h24_ext3 (A : Option Addr) (w : World) (h : KS .u64 w A l24) : Calls Tryd.prog 18 #[.slice A 3 3, .int .i64 3] w (RetKE w []) := by
  have := Ext_ok A 3 3 l24 3 w rfl (by decide) (by decide) (by decide) (by decide) h
  rw [e_ext3] at this
  exact this
theorem h24_in1 (A : Option Addr) (c : Nat) (w : World) (h : KS .u64 w A [leafF 7, leafF 9]) : Calls Tryd.prog 20 #[.int .u64 (pairF (pairF (leafF 7) (leafF 8)) (leafF 9)), .int .u64 8, .int .i64 1, .int .i64 3, .slice A 2 c] w fun e w' => e = .returned (.bool true) ∧ Below w.heap.size w w' := by
  have := included_any (rootF l24) 8 1 3 A c [leafF 7, leafF 9] w (by simp) h
  have e : inclS (rootF l24) 8 1 3 [leafF 7, leafF 9] = true := by
    have := @inclS_law l24 1 8 (rootF l24) (by decide) (by decide)
    rw [e_inc1] at this
    exact this.trans (decide_eq_true rfl)
  rw [e, e_root3] at this
  exact this
theorem h24_in2 (A : Option Addr) (c : Nat) (w : World) (h : KS .u64 w A [pairF (leafF 7) (leafF 8)]) : Calls Tryd.prog 20 #[.int .u64 (pairF (pairF (leafF 7) (leafF 8)) (leafF 9)), .int .u64 8, .int .i64 1, .int .i64 3, .slice A 1 c] w fun e w' => e = .returned (.bool false) ∧ Below w.heap.size w w' := by
  have := included_any (rootF l24) 8 1 3 A c [pairF (leafF 7) (leafF 8)] w (by simp) h
  have e : inclS (rootF l24) 8 1 3 [pairF (leafF 7) (leafF 8)] = false := by
    exact @inclS_len (rootF l24) 8 l24 1 [pairF (leafF 7) (leafF 8)] (by decide) (by decide) (by rw [e_inc1]; decide)
  rw [e, e_root3] at this
  exact this
theorem h24_ex2 (A : Option Addr) (c : Nat) (w : World) (hc : 1 ≤ c) (h : KS .u64 w A [leafF 9]) : Calls Tryd.prog 22 #[.int .u64 (pairF (leafF 7) (leafF 8)), .int .u64 (pairF (pairF (leafF 7) (leafF 8)) (leafF 9)), .int .i64 2, .int .i64 3, .slice A 1 c] w fun e w' => e = .returned (.bool true) ∧ Below w.heap.size w w' := by
  have := Extended_any (rootF [7, 8]) (rootF l24) 2 3 A c [leafF 9] w (by simp) hc h
  have e : growS (rootF [7, 8]) (rootF l24) 2 3 [leafF 9] = true := by
    have := @growS_law l24 2 (by decide) (by decide) (by decide)
    rw [e_ext2] at this
    exact this
  rw [e, e_root3, e_root2] at this
  exact this
theorem h24_exn (w : World) : Calls Tryd.prog 22 #[.int .u64 (pairF (leafF 7) (leafF 8)), .int .u64 (pairF (pairF (leafF 7) (leafF 8)) (leafF 9)), .int .i64 2, .int .i64 3, .slice none 0 0] w fun e w' => e = .returned (.bool false) ∧ Below w.heap.size w w' := by
  have := Extended_any (rootF [7, 8]) (rootF l24) 2 3 none 0 [] w (by simp) (by simp) (Rd.nil _ _)
  have e : growS (rootF [7, 8]) (rootF l24) 2 3 [] = false := by
    exact @growS_len (rootF [7, 8]) (rootF l24) l24 2 [] (by decide) (by decide) (by decide) (by rw [e_ext2]; decide)
  rw [e, e_root3, e_root2] at this
  exact this
set_option maxHeartbeats 8000000 in
theorem head_any (w : World) : Calls Tryd.prog 10 #[] w fun e w' => e = .returned (.bool true) ∧ Below w.heap.size w w' := by
  have b0 := (Below.refl w.heap.size w).alloc (Nat.le_refl _) (.cells #[.int .u64 7, .int .u64 8, .int .u64 9] 23)
  have t0 : AllK (w.alloc (.cells #[.int .u64 7, .int .u64 8, .int .u64 9] 23)) [(some ⟨w.heap.size, 0, none⟩, l24)] := AllK.one (Rd.new_row w 23 #[.int .u64 7, .int .u64 8, .int .u64 9])
  have T := hide t0
  have BB := hide b0
  have C1 := hide h24_root
  have C2 := hide h24_inc1
  have C3 := hide h24_inc2
  have C4 := hide h24_ext1
  have C5 := hide h24_ext2
  have C6 := hide h24_ext3
  have C7 := hide h24_in1
  have C8 := hide h24_in2
  have C9 := hide h24_ex2
  have C10 := hide h24_exn
  have L7 := hide fun W => leaf_any 7 W
  have L8 := hide fun W => leaf_any 8 W
  have L9 := hide fun W => leaf_any 9 W
  have N7 := hide fun W : World => next0 7 (some ⟨W.heap.size, 0, none⟩) 1 (W.alloc (.cells #[.int .i64 0] 3)) (show KS .i64 (W.alloc (.cells #[.int .i64 0] 3)) (some ⟨W.heap.size, 0, none⟩) [0] from Rd.new_row W 3 #[.int .i64 0])
  obtain ⟨a, ha⟩ : ∃ a, a = leafF 7 := ⟨_, rfl⟩
  obtain ⟨b, hb⟩ : ∃ a, a = leafF 8 := ⟨_, rfl⟩
  obtain ⟨c, hc⟩ : ∃ a, a = leafF 9 := ⟨_, rfl⟩
  simp only [← ha, ← hb, ← hc] at C1 C2 C3 C4 C5 C6 C7 C8 C9 C10 L7 L8 L9 N7
  clear b0 t0 ha hb hc
  go_enter Tryd.func10, Tryd.ntmps10
  go_wp2_with (first
    | (go_at_call 13; with_reducible refine (L7.out _).mono ?_; rintro e w1 ⟨rfl, h1⟩; have T := hide (T.out.then_ h1); have BB := hide (thenB BB.out h1); clear h1)
    | (go_at_call 13; with_reducible refine (L8.out _).mono ?_; rintro e w2 ⟨rfl, h2⟩; have T := hide (T.out.then_ h2); have BB := hide (thenB BB.out h2); clear h2)
    | (go_at_call 13; with_reducible refine (L9.out _).mono ?_; rintro e w3 ⟨rfl, h3⟩; have T := hide (T.out.then_ h3); have BB := hide (thenB BB.out h3); clear h3)
    | (go_at_call 11; with_reducible refine (C1.out _ _ (T.out.get (A := some ⟨w.heap.size, 0, none⟩) (l := l24) (by simp))).mono ?_; rintro e w4 ⟨rfl, h4⟩; have T := hide (T.out.then_ h4); have BB := hide (thenB BB.out h4); clear h4)
    | (go_at_call 15; with_reducible refine (C2.out _ _ (T.out.get (A := some ⟨w.heap.size, 0, none⟩) (l := l24) (by simp))).mono ?_; unfold RetKE; dsimp only [List.length]; rintro e w5 ⟨A5, c5, rfl, hl5, hs5, h5⟩; have T := hide (T.out.then_ h5); have BB := hide (thenB BB.out h5); clear h5; have T := hide (T.out.add (A := A5) (l := [a, c]) hs5); clear hs5)
    | (go_at_call 15; with_reducible refine (C3.out _ _ (T.out.get (A := some ⟨w.heap.size, 0, none⟩) (l := l24) (by simp))).mono ?_; unfold RetKE; dsimp only [List.length]; rintro e w6 ⟨A6, c6, rfl, hl6, hs6, h6⟩; have T := hide (T.out.then_ h6); have BB := hide (thenB BB.out h6); clear h6; have T := hide (T.out.add (A := A6) (l := [pairF a b]) hs6); clear hs6)
    | (go_at_call 18; with_reducible refine (C5.out _ _ (T.out.get (A := some ⟨w.heap.size, 0, none⟩) (l := l24) (by simp))).mono ?_; unfold RetKE; dsimp only [List.length]; rintro e w7 ⟨A7, c7, rfl, hl7, hs7, h7⟩; have T := hide (T.out.then_ h7); have BB := hide (thenB BB.out h7); clear h7; have T := hide (T.out.add (A := A7) (l := [c]) hs7); clear hs7)
    | (go_at_call 18; with_reducible refine (C4.out _ _ (T.out.get (A := some ⟨w.heap.size, 0, none⟩) (l := l24) (by simp))).mono ?_; unfold RetKE; dsimp only [List.length]; rintro e w8 ⟨A8, c8, rfl, hl8, hs8, h8⟩; have T := hide (T.out.then_ h8); have BB := hide (thenB BB.out h8); clear h8; have T := hide (T.out.add (A := A8) (l := [b, c]) hs8); clear hs8)
    | (go_at_call 18; with_reducible refine (C6.out _ _ (T.out.get (A := some ⟨w.heap.size, 0, none⟩) (l := l24) (by simp))).mono ?_; unfold RetKE; dsimp only [List.length]; rintro e w9 ⟨A9, c9, rfl, hl9, hs9, h9⟩; have T := hide (T.out.then_ h9); have BB := hide (thenB BB.out h9); clear h9; clear hs9)
    | (go_at_call 11; with_reducible refine (h24_rootn _).mono ?_; rintro e w10 ⟨rfl, h10⟩; have T := hide (T.out.then_ h10); have BB := hide (thenB BB.out h10); clear h10)
    | (go_at_call 26; with_reducible refine (N7.out _).mono ?_; rintro e w11 ⟨rfl, h11⟩; have T := hide ((T.out.alloc _).then_ h11); have BB := hide (thenB (BB.out.alloc BB.out.size _) h11); clear h11)
    | (go_at_call 25; refine (pair_any _ _ _).mono ?_; rintro e w12 ⟨rfl, h12⟩; have T := hide (T.out.then_ h12); have BB := hide (thenB BB.out h12); clear h12)
    | (go_at_call 17; with_reducible refine (sameN2 A5 c5 a c _ (T.out.get (A := A5) (l := [a, c]) (by simp))).mono ?_; rintro e w13 ⟨rfl, h13⟩; have T := hide (T.out.then_ h13); have BB := hide (thenB BB.out h13); clear h13)
    | (go_at_call 17; with_reducible refine (sameN1 A6 c6 (pairF a b) _ (T.out.get (A := A6) (l := [pairF a b]) (by simp))).mono ?_; rintro e w14 ⟨rfl, h14⟩; have T := hide (T.out.then_ h14); have BB := hide (thenB BB.out h14); clear h14)
    | (go_at_call 17; with_reducible refine (sameN1 A7 c7 c _ (T.out.get (A := A7) (l := [c]) (by simp))).mono ?_; rintro e w15 ⟨rfl, h15⟩; have T := hide (T.out.then_ h15); have BB := hide (thenB BB.out h15); clear h15)
    | (go_at_call 17; with_reducible refine (sameN2 A8 c8 b c _ (T.out.get (A := A8) (l := [b, c]) (by simp))).mono ?_; rintro e w16 ⟨rfl, h16⟩; have T := hide (T.out.then_ h16); have BB := hide (thenB BB.out h16); clear h16)
    | (go_at_call 20; with_reducible refine (C7.out A5 c5 _ (T.out.get (A := A5) (l := [a, c]) (by simp))).mono ?_; rintro e w17 ⟨rfl, h17⟩; have T := hide (T.out.then_ h17); have BB := hide (thenB BB.out h17); clear h17)
    | (go_at_call 20; with_reducible refine (C8.out A6 c6 _ (T.out.get (A := A6) (l := [pairF a b]) (by simp))).mono ?_; rintro e w18 ⟨rfl, h18⟩; have T := hide (T.out.then_ h18); have BB := hide (thenB BB.out h18); clear h18)
    | (go_at_call 22; with_reducible refine (C9.out A7 c7 _ hl7 (T.out.get (A := A7) (l := [c]) (by simp))).mono ?_; rintro e w19 ⟨rfl, h19⟩; have T := hide (T.out.then_ h19); have BB := hide (thenB BB.out h19); clear h19)
    | (go_at_call 22; with_reducible refine (C10.out _).mono ?_; rintro e w20 ⟨rfl, h20⟩; have T := hide (T.out.then_ h20); have BB := hide (thenB BB.out h20); clear h20))
  go_ret
  exact ⟨rfl, BB.out⟩
end Go.Proofs.YtijnjgjpmgmifaaDoor
