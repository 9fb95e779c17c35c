/-
  What the calls in the head of layer 34's laws answer.
-/
import Derived.Test.YtficjpfhakggmaaSq34
import Derived.Test.YtficjpfhakggmaaRx34
import Derived.Test.YtficjpfhakggmaaSs34
namespace Go.Proofs.Ytficjpfhakggmaa
open Go.RowKit Go.Maps
def hT0 : Tx := ⟨1, 0, [], [⟨5, 7, false⟩]⟩
def hT1 : Tx := ⟨1, 110, [], [⟨5, 7, false⟩]⟩
def hS0 : Tx := ⟨2, 0, [⟨5, 110⟩], []⟩
def hS1 : Tx := ⟨2, 111, [⟨5, 110⟩], []⟩
def hS2 : Tx := ⟨2, 0, [⟨5, 0⟩], []⟩
def hA : LD := ⟨110, [], [hT1]⟩
def hC : LD := ⟨110, [⟨5, 110, 7, false⟩], []⟩
theorem hv_1 : stampS LD.zero hT0 100 110 = (hA, hT1, 0) := by kernel_rfl
theorem hv_2 : showS hA 105 110 = (hA, [], 0) := by kernel_rfl
theorem hv_3 : showS hA 111 120 = (hC, [hT1], 0) := by kernel_rfl
theorem hv_4 : (stampS hC hS0 1 3).2 = (hS1, 0) := by kernel_rfl
theorem hv_5 : (stampS hC hS2 1 3).2.2 = 60 := by kernel_rfl
def readLL (L : LD) (key ts lo hi : Int) : Ver × Bool × Int := readLS ⟨L.last, none, 0, L.st, none, 0, L.op.map fun t => ⟨t, none, 0, none, 0⟩⟩ key ts lo hi
theorem txs_map (l : List Tx) : txs (l.map fun t => (⟨t, none, 0, none, 0⟩ : TxV)) = l := by
  unfold txs
  rw [List.map_map]
  exact List.map_id'' (fun _ => rfl) l
theorem readLL_eq (L : LdV) (key ts lo hi : Int) : readLS L key ts lo hi = readLL L.d key ts lo hi := by
  unfold readLL readLS waitB LdV.ok LdV.d
  simp only [txs_map]
theorem hv_6 : (readLL hC 5 109 111 120).2 = (false, 0) := by kernel_rfl
theorem hv_7 : readLL hC 5 110 111 120 = (⟨5, 110, 7, false⟩, true, 0) := by kernel_rfl
theorem hv_8 : (readLL hC 5 115 111 120).2.2 = 61 := by kernel_rfl
def nowL (L : LD) (lo hi : Int) : Int × Int := if !leadB L.last L.st L.op || !ivB lo hi then (0, 1) else (max hi 1, 0)
theorem nowL_eq (L : LdV) (lo hi : Int) : nowS L lo hi = nowL L.d lo hi := rfl
theorem hv_9 : nowL hC 111 120 = (120, 0) := by kernel_rfl
theorem hv_10 : leadB hC.last hC.st hC.op = true := by kernel_rfl
theorem LdS.of {L : LdV} {D : LD} (h : L.d = D) (hs : Small D.op) (hl : D.st.length ≤ 1000000) : LdS L := by
  subst h
  exact ⟨hs, hl⟩
theorem hA_s : Small hA.op := ⟨by decide, by decide⟩
theorem hC_s : Small hC.op := ⟨by decide, by decide⟩
theorem hA_form {M : LdV} (h : M.d = hA) : ∃ sa sc oa oc x, M = ⟨110, sa, sc, [], oa, oc, [x]⟩ ∧ x.t = hT1 := by
  obtain ⟨last, sa, sc, st, oa, oc, op⟩ := M
  simp only [LdV.d, hA, LD.mk.injEq, txs] at h
  obtain ⟨rfl, rfl, h3⟩ := h
  obtain ⟨x, rfl, hx⟩ := List.map_eq_singleton_iff.1 h3
  exact ⟨sa, sc, oa, oc, x, rfl, hx⟩
theorem hC_form {M : LdV} (h : M.d = hC) : ∃ sa sc oa oc, M = ⟨110, sa, sc, [⟨5, 110, 7, false⟩], oa, oc, []⟩ := by
  obtain ⟨last, sa, sc, st, oa, oc, op⟩ := M
  simp only [LdV.d, hC, LD.mk.injEq, txs, List.map_eq_nil_iff] at h
  obtain ⟨rfl, rfl, rfl⟩ := h
  exact ⟨sa, sc, oa, oc, rfl⟩
theorem hz_s : LdS LdV.zero := ⟨⟨by decide, by decide⟩, by decide⟩
theorem hA_S {sa sc oa oc x} (hx : x.t = hT1) : LdS ⟨110, sa, sc, [], oa, oc, [x]⟩ := by
  refine LdS.of (D := hA) ?_ hA_s (by decide)
  simp [LdV.d, txs, hx, hA]
theorem hC_S {sa sc oa oc} : LdS ⟨110, sa, sc, [⟨5, 110, 7, false⟩], oa, oc, []⟩ := LdS.of (D := hC) rfl hC_s (by decide)
theorem h_stamp1 (wa : Option Addr) (wc : Nat) (w : World) (h : TxW w ⟨hT0, none, 0, wa, wc⟩) :
    Calls Try.prog 14 #[.agg #[.int .i64 0, .slice none 0 0, .slice none 0 0], .agg #[.int .i64 1, .int .i64 0, .slice none 0 0, .slice wa 1 wc], .agg #[.int .i64 100, .int .i64 110]] w
      fun e w' => ∃ sa sc oa oc x ra rc wa' wc', e = .returned (.tuple #[.agg #[.int .i64 110, .slice sa 0 sc, .slice oa 1 oc], .agg #[.int .i64 1, .int .i64 110, .slice ra 0 rc, .slice wa' 1 wc'], .int .i64 0]) ∧ LdW w' ⟨110, sa, sc, [], oa, oc, [x]⟩ ∧ x.t = hT1 ∧ Below w.heap.size w w' := by
  refine (stamp_any LdV.zero ⟨hT0, none, 0, wa, wc⟩ 100 110 w hz_s (by simp [hT0]) (LdW.zero w) h).mono ?_
  rintro e w' ⟨M, v, he, hM, hv, hw, _, hb⟩
  rw [show stampS LdV.zero.d hT0 100 110 = (hA, hT1, 0) from hv_1] at he hM hv
  obtain ⟨sa, sc, oa, oc, x, rfl, hx⟩ := hA_form hM
  obtain ⟨t, ra, rc, wa', wc'⟩ := v
  obtain rfl : t = hT1 := hv
  exact ⟨sa, sc, oa, oc, x, ra, rc, wa', wc', he, hw, hx, hb⟩
theorem h_show1 (sa : Option Addr) (sc : Nat) (oa : Option Addr) (oc : Nat) (x : TxV) (hx : x.t = hT1) (w : World) (h : LdW w ⟨110, sa, sc, [], oa, oc, [x]⟩) :
    Calls Try.prog 20 #[.agg #[.int .i64 110, .slice sa 0 sc, .slice oa 1 oc], .agg #[.int .i64 105, .int .i64 110]] w
      fun e w' => ∃ sa sc oa oc x A c, e = .returned (.tuple #[.agg #[.int .i64 110, .slice sa 0 sc, .slice oa 1 oc], .slice A 0 c, .int .i64 0]) ∧ LdW w' ⟨110, sa, sc, [], oa, oc, [x]⟩ ∧ x.t = hT1 ∧ Below w.heap.size w w' := by
  refine (show_any ⟨110, sa, sc, [], oa, oc, [x]⟩ 105 110 w (hA_S hx) h).mono ?_
  rintro e w' ⟨M, A, c, l, he, hM, hl, hw, _, _, _, hb⟩
  have hd : LdV.d ⟨110, sa, sc, [], oa, oc, [x]⟩ = hA := by simp [LdV.d, txs, hx, hA]
  rw [hd, hv_2] at he hM hl
  obtain ⟨sa, sc, oa, oc, x, rfl, hx⟩ := hA_form hM
  obtain rfl : l = [] := by simpa [txs] using hl
  exact ⟨sa, sc, oa, oc, x, A, c, he, hw, hx, hb⟩
theorem h_show2 (sa : Option Addr) (sc : Nat) (oa : Option Addr) (oc : Nat) (x : TxV) (hx : x.t = hT1) (w : World) (h : LdW w ⟨110, sa, sc, [], oa, oc, [x]⟩) :
    Calls Try.prog 20 #[.agg #[.int .i64 110, .slice sa 0 sc, .slice oa 1 oc], .agg #[.int .i64 111, .int .i64 120]] w
      fun e w' => ∃ sa sc oa oc A c, e = .returned (.tuple #[.agg #[.int .i64 110, .slice sa 1 sc, .slice oa 0 oc], .slice A 1 c, .int .i64 0]) ∧ LdW w' ⟨110, sa, sc, [⟨5, 110, 7, false⟩], oa, oc, []⟩ ∧ Below w.heap.size w w' := by
  refine (show_any ⟨110, sa, sc, [], oa, oc, [x]⟩ 111 120 w (hA_S hx) h).mono ?_
  rintro e w' ⟨M, A, c, l, he, hM, hl, hw, _, _, _, hb⟩
  have hd : LdV.d ⟨110, sa, sc, [], oa, oc, [x]⟩ = hA := by simp [LdV.d, txs, hx, hA]
  rw [hd, hv_3] at he hM hl
  obtain ⟨sa, sc, oa, oc, rfl⟩ := hC_form hM
  obtain ⟨y, rfl, _⟩ := List.map_eq_singleton_iff.1 hl
  exact ⟨sa, sc, oa, oc, A, c, he, hw, hb⟩
theorem h_stamp2 (sa : Option Addr) (sc : Nat) (oa : Option Addr) (oc : Nat) (ra : Option Addr) (w : World) (h : LdW w ⟨110, sa, sc, [⟨5, 110, 7, false⟩], oa, oc, []⟩) (h' : RS Sn.cells w ra [⟨5, 110⟩]) :
    Calls Try.prog 14 #[.agg #[.int .i64 110, .slice sa 1 sc, .slice oa 0 oc], .agg #[.int .i64 2, .int .i64 0, .slice ra 1 1, .slice none 0 0], .agg #[.int .i64 1, .int .i64 3]] w
      fun e w' => ∃ (l : Int) (sa : Option Addr) (n sc : Nat) (oa : Option Addr) (m oc : Nat) (ra : Option Addr) (k rc : Nat) (wa : Option Addr) (j wc : Nat), e = .returned (.tuple #[.agg #[.int .i64 l, .slice sa n sc, .slice oa m oc], .agg #[.int .i64 2, .int .i64 111, .slice ra k rc, .slice wa j wc], .int .i64 0]) ∧ Below w.heap.size w w' := by
  refine (stamp_any ⟨110, sa, sc, [⟨5, 110, 7, false⟩], oa, oc, []⟩ ⟨hS0, ra, 1, none, 0⟩ 1 3 w hC_S (by simp [hS0]) h ⟨h', RS.nil, by simp [hS0], by simp [maxLen], by simp [hS0], by simp [maxLen]⟩).mono ?_
  rintro e w' ⟨M, v, he, hM, hv, _, _, hb⟩
  have hd : LdV.d ⟨110, sa, sc, [⟨5, 110, 7, false⟩], oa, oc, []⟩ = hC := rfl
  rw [hd] at he hM hv
  rw [hv_4] at he hv
  obtain ⟨t, ra, rc, wa', wc'⟩ := v
  obtain rfl : t = hS1 := hv
  exact ⟨_, _, _, _, _, _, _, _, _, _, _, _, _, he, hb⟩
theorem h_stamp3 (sa : Option Addr) (sc : Nat) (oa : Option Addr) (oc : Nat) (ra : Option Addr) (w : World) (h : LdW w ⟨110, sa, sc, [⟨5, 110, 7, false⟩], oa, oc, []⟩) (h' : RS Sn.cells w ra [⟨5, 0⟩]) :
    Calls Try.prog 14 #[.agg #[.int .i64 110, .slice sa 1 sc, .slice oa 0 oc], .agg #[.int .i64 2, .int .i64 0, .slice ra 1 1, .slice none 0 0], .agg #[.int .i64 1, .int .i64 3]] w
      fun e w' => ∃ (l : Int) (sa : Option Addr) (n sc : Nat) (oa : Option Addr) (m oc : Nat) (i t : Int) (ra : Option Addr) (k rc : Nat) (wa : Option Addr) (j wc : Nat), e = .returned (.tuple #[.agg #[.int .i64 l, .slice sa n sc, .slice oa m oc], .agg #[.int .i64 i, .int .i64 t, .slice ra k rc, .slice wa j wc], .int .i64 60]) ∧ Below w.heap.size w w' := by
  refine (stamp_any ⟨110, sa, sc, [⟨5, 110, 7, false⟩], oa, oc, []⟩ ⟨hS2, ra, 1, none, 0⟩ 1 3 w hC_S (by simp [hS2]) h ⟨h', RS.nil, by simp [hS2], by simp [maxLen], by simp [hS2], by simp [maxLen]⟩).mono ?_
  rintro e w' ⟨M, v, he, hM, hv, _, _, hb⟩
  have hd : LdV.d ⟨110, sa, sc, [⟨5, 110, 7, false⟩], oa, oc, []⟩ = hC := rfl
  rw [hd, hv_5] at he
  exact ⟨_, _, _, _, _, _, _, _, _, _, _, _, _, _, _, he, hb⟩
theorem h_read1 (sa : Option Addr) (sc : Nat) (oa : Option Addr) (oc : Nat) (w : World) (h : LdW w ⟨110, sa, sc, [⟨5, 110, 7, false⟩], oa, oc, []⟩) :
    Calls Try.prog 23 #[.agg #[.int .i64 110, .slice sa 1 sc, .slice oa 0 oc], .int .i64 5, .int .i64 109, .agg #[.int .i64 111, .int .i64 120]] w
      fun e w' => ∃ (a b c : Int) (d : Bool), e = .returned (.tuple #[.agg #[.int .i64 a, .int .i64 b, .int .i64 c, .bool d], .bool false, .int .i64 0]) ∧ Below w.heap.size w w' := by
  refine (read_any ⟨110, sa, sc, [⟨5, 110, 7, false⟩], oa, oc, []⟩ 5 109 111 120 w hC_S h).mono ?_
  rintro e w' ⟨he, hb⟩
  rw [readLL_eq, show readLL (LdV.d ⟨110, sa, sc, [⟨5, 110, 7, false⟩], oa, oc, []⟩) = readLL hC from rfl, hv_6] at he
  exact ⟨_, _, _, _, he, hb⟩
theorem h_read2 (sa : Option Addr) (sc : Nat) (oa : Option Addr) (oc : Nat) (w : World) (h : LdW w ⟨110, sa, sc, [⟨5, 110, 7, false⟩], oa, oc, []⟩) :
    Calls Try.prog 23 #[.agg #[.int .i64 110, .slice sa 1 sc, .slice oa 0 oc], .int .i64 5, .int .i64 110, .agg #[.int .i64 111, .int .i64 120]] w
      fun e w' => e = .returned (.tuple #[.agg #[.int .i64 5, .int .i64 110, .int .i64 7, .bool false], .bool true, .int .i64 0]) ∧ Below w.heap.size w w' := by
  refine (read_any ⟨110, sa, sc, [⟨5, 110, 7, false⟩], oa, oc, []⟩ 5 110 111 120 w hC_S h).mono ?_
  rintro e w' ⟨he, hb⟩
  rw [readLL_eq, show readLL (LdV.d ⟨110, sa, sc, [⟨5, 110, 7, false⟩], oa, oc, []⟩) = readLL hC from rfl, hv_7] at he
  exact ⟨he, hb⟩
theorem h_read3 (sa : Option Addr) (sc : Nat) (oa : Option Addr) (oc : Nat) (w : World) (h : LdW w ⟨110, sa, sc, [⟨5, 110, 7, false⟩], oa, oc, []⟩) :
    Calls Try.prog 23 #[.agg #[.int .i64 110, .slice sa 1 sc, .slice oa 0 oc], .int .i64 5, .int .i64 115, .agg #[.int .i64 111, .int .i64 120]] w
      fun e w' => ∃ (a b c : Int) (d f : Bool), e = .returned (.tuple #[.agg #[.int .i64 a, .int .i64 b, .int .i64 c, .bool d], .bool f, .int .i64 61]) ∧ Below w.heap.size w w' := by
  refine (read_any ⟨110, sa, sc, [⟨5, 110, 7, false⟩], oa, oc, []⟩ 5 115 111 120 w hC_S h).mono ?_
  rintro e w' ⟨he, hb⟩
  rw [readLL_eq, show readLL (LdV.d ⟨110, sa, sc, [⟨5, 110, 7, false⟩], oa, oc, []⟩) = readLL hC from rfl, hv_8] at he
  exact ⟨_, _, _, _, _, he, hb⟩
theorem h_now (sa : Option Addr) (sc : Nat) (oa : Option Addr) (oc : Nat) (w : World) (h : LdW w ⟨110, sa, sc, [⟨5, 110, 7, false⟩], oa, oc, []⟩) :
    Calls Try.prog 25 #[.agg #[.int .i64 110, .slice sa 1 sc, .slice oa 0 oc], .agg #[.int .i64 111, .int .i64 120]] w
      fun e w' => e = .returned (.tuple #[.int .i64 120, .int .i64 0]) ∧ Below w.heap.size w w' := by
  refine (now_any ⟨110, sa, sc, [⟨5, 110, 7, false⟩], oa, oc, []⟩ 111 120 w hC_S h).mono ?_
  rintro e w' ⟨he, hb⟩
  rw [nowL_eq, show nowL (LdV.d ⟨110, sa, sc, [⟨5, 110, 7, false⟩], oa, oc, []⟩) = nowL hC from rfl, hv_9] at he
  exact ⟨he, hb⟩
theorem h_valid (sa : Option Addr) (sc : Nat) (oa : Option Addr) (oc : Nat) (w : World) (h : LdW w ⟨110, sa, sc, [⟨5, 110, 7, false⟩], oa, oc, []⟩) :
    Calls Try.prog 16 #[.agg #[.int .i64 110, .slice sa 1 sc, .slice oa 0 oc]] w fun e w' => e = .returned (.bool true) ∧ Below w.heap.size w w' := by
  refine (lv_any ⟨110, sa, sc, [⟨5, 110, 7, false⟩], oa, oc, []⟩ w hC_S h).mono ?_
  rintro e w' ⟨he, hb⟩
  rw [show LdV.ok ⟨110, sa, sc, [⟨5, 110, 7, false⟩], oa, oc, []⟩ = true from hv_10] at he
  exact ⟨he, hb⟩
end Go.Proofs.Ytficjpfhakggmaa

namespace Go.Proofs.Ytficjpfhakggmaa
open Go.RowKit Go.Maps
set_option maxHeartbeats 2000000 in
theorem put157_any (w : World) : Calls Try.prog 41 #[.int .i64 1, .int .i64 5, .int .i64 7] w
    fun e w' => ∃ wa wc, e = .returned (.agg #[.int .i64 1, .int .i64 0, .slice none 0 0, .slice wa 1 wc]) ∧ TxW w' ⟨hT0, none, 0, wa, wc⟩ ∧ Below w.heap.size w w' := by
  go_enter Try.func41, Try.ntmps41
  go_wp2
  have hr := Rd.new_row (w.alloc (.cells #[.int .i64 1, .int .i64 0, .slice none 0 0, .slice (some ⟨w.heap.size + 1, 0, none⟩) 1 1] 29)) 60 #[.int .i64 5, .int .i64 7, .bool false]
  rw [World.size_alloc] at hr
  exact bodyPost_ret (results_blk1 rfl _ _ w.heap.size 29 _ _ rfl ((Blk.new _ _ _).alloc _) Try.underlying29 rfl (by kernel_rfl)) rfl ⟨some ⟨w.heap.size + 1, 0, none⟩, 1, rfl, ⟨RS.nil, hr, by simp [hT0], by simp [maxLen], by simp [hT0], by simp [maxLen]⟩, ((Below.refl _ _).alloc (Nat.le_refl _) _).alloc (by simp) _⟩
/-- cells -/
def Cs (W : World) (l : List (Nat × Nat × Value)) : Prop := ∀ t ∈ l, W.cell? ⟨t.1, t.2.1, none⟩ = some t.2.2
section
variable {W W' : World} {l m : List (Nat × Nat × Value)}
theorem Cs.then_ (h : Cs W l) (hb : Below W.heap.size W W') : Cs W' l := fun t ht => (hb.cell (p := ⟨t.1, t.2.1, none⟩) (cell_lt (h t ht))).trans (h t ht)
theorem Cs.app (h : Cs W l) (h' : Cs W m) : Cs W (l ++ m) := fun t ht => by
  rcases List.mem_append.1 ht with ht | ht
  · exact h t ht
  · exact h' t ht
theorem Cs.blk {g : Nat} {t : TypeId} {cs : Array Value} (h : Blk W g t cs) {l : List (Nat × Nat × Value)} (hl : ∀ x ∈ l, x.1 = g ∧ cs[x.2.1]? = some x.2.2) : Cs W l := fun x hx => by
  obtain ⟨h1, h2⟩ := hl x hx
  rw [h1, h.cell]
  exact h2
end
set_option maxHeartbeats 16000000 in
set_option maxRecDepth 100000 in
theorem head34_any (w : World) : Calls Try.prog 11 #[] w fun e w' => e = .returned (.bool true) ∧ Below w.heap.size w w' := by
  have PU := hide put157_any
  go_enter Try.func11, Try.ntmps11
  go_upto_region 2 with (first
    | (go_at_call 41; refine (PU.out _).mono ?_; rintro e w1 ⟨wa, wc, rfl, x1, b1⟩; have X1 := hide x1; have B1 := hide b1; clear x1 b1)
    | (go_at_call 14; refine (h_stamp1 wa wc _ X1.out).mono ?_; rintro e w2 ⟨sa2, sc2, oa2, oc2, x2, ra2, rc2, wa2, wc2, rfl, l2, hx2, b2⟩; have L2 := hide l2; have HX2 := hide hx2; have B2 := hide (thenB B1.out b2); clear l2 hx2 b2))
  go_upto_region 3 with (go_at_call 20; refine (h_show1 sa2 sc2 oa2 oc2 x2 HX2.out _ (L2.out.then_ (((Below.refl _ _).alloc (Nat.le_refl _) _).alloc (by simp) _))).mono ?_; rintro e w3 ⟨sa3, sc3, oa3, oc3, x3, A3, c3, rfl, l3, hx3, b3⟩; have L3 := hide l3; have HX3 := hide hx3; have h2 := (Blk.new (w2.alloc (.cells #[.int .i64 110, .slice sa2 0 sc2, .slice oa2 1 oc2] 25)) 29 #[.int .i64 1, .int .i64 110, .slice ra2 0 rc2, .slice wa2 1 wc2]).below b3 (by simp); rw [World.size_alloc] at h2; have T2 := hide h2; have B3 := hide (thenB (thenB B2.out (((Below.refl _ _).alloc (Nat.le_refl _) _).alloc (by simp) _)) b3); clear l3 hx3 b3 h2)
  go_upto_region 5 with (go_at_call 20; refine (h_show2 sa3 sc3 oa3 oc3 x3 HX3.out _ (L3.out.then_ ((Below.refl _ _).alloc (Nat.le_refl _) _))).mono ?_; rintro e w4 ⟨sa4, sc4, oa4, oc4, A4, c4, rfl, l4, b4⟩; have L4 := hide l4; have h2 := (T2.out.alloc (.cells #[.int .i64 110, .slice sa3 0 sc3, .slice oa3 1 oc3] 25)).below b4 (Nat.lt_of_lt_of_le T2.out.lt (by simp)); clear T2; have T2 := hide h2; have B4 := hide (thenB (thenB B3.out ((Below.refl _ _).alloc (Nat.le_refl _) _)) b4); clear l4 b4 h2)
  have h24 := T2.out.lt
  have BB := hide B4.out
  have BL := hide (Below.refl w4.heap.size w4)
  obtain ⟨W4, hW4⟩ : ∃ W, W = (((w4.alloc (.cells #[.int .i64 110, .slice sa4 1 sc4, .slice oa4 0 oc4] 25)).alloc (.cells #[.int .i64 5, .int .i64 110] 65)).alloc (.cells #[.int .i64 2, .int .i64 0, .slice (some ⟨w4.heap.size + 1, 0, none⟩) 1 1, .slice none 0 0] 29)) := ⟨_, rfl⟩
  have qT2 : Blk W4 (w2.heap.size + 1) 29 #[.int .i64 1, .int .i64 110, .slice ra2 0 rc2, .slice wa2 1 wc2] := by rw [hW4]; exact (((T2.out.alloc _).alloc _).alloc _)
  have qK7 : Blk W4 (w4.heap.size) 25 #[.int .i64 110, .slice sa4 1 sc4, .slice oa4 0 oc4] := by
    have hh := (Blk.new w4 25 #[.int .i64 110, .slice sa4 1 sc4, .slice oa4 0 oc4])
    (repeat rw [World.size_alloc] at hh)
    rw [hW4]; exact ((hh.alloc _).alloc _)
  have qKR : Blk W4 (w4.heap.size + 1) 65 #[.int .i64 5, .int .i64 110] := by
    have hh := (Blk.new (w4.alloc (.cells #[.int .i64 110, .slice sa4 1 sc4, .slice oa4 0 oc4] 25)) 65 #[.int .i64 5, .int .i64 110])
    (repeat rw [World.size_alloc] at hh)
    rw [hW4]; exact (hh.alloc _)
  have qK10 : Blk W4 (w4.heap.size + 2) 29 #[.int .i64 2, .int .i64 0, .slice (some ⟨w4.heap.size + 1, 0, none⟩) 1 1, .slice none 0 0] := by
    have hh := (Blk.new ((w4.alloc (.cells #[.int .i64 110, .slice sa4 1 sc4, .slice oa4 0 oc4] 25)).alloc (.cells #[.int .i64 5, .int .i64 110] 65)) 29 #[.int .i64 2, .int .i64 0, .slice (some ⟨w4.heap.size + 1, 0, none⟩) 1 1, .slice none 0 0])
    (repeat rw [World.size_alloc] at hh)
    rw [hW4]; exact hh
  have qB : Below w.heap.size w W4 := by rw [hW4]; exact (((BB.out.alloc (by have := BB.out.size; (try simp); (try omega)) _).alloc (by have := BB.out.size; (try simp); (try omega)) _).alloc (by have := BB.out.size; (try simp); (try omega)) _)
  have qL : Below w4.heap.size w4 W4 := by rw [hW4]; exact (((BL.out.alloc (by have := BL.out.size; (try simp); (try omega)) _).alloc (by have := BL.out.size; (try simp); (try omega)) _).alloc (by have := BL.out.size; (try simp); (try omega)) _)
  have qs : W4.heap.size = w4.heap.size + 3 := by rw [hW4]; simp
  rw [← hW4]
  clear hW4 T2 BB BL
  have T2 := hide qT2
  have K7 := hide qK7
  have KR := hide qKR
  have K10 := hide qK10
  have BB := hide qB
  have BL := hide qL
  have QSW4 := hide qs
  clear qT2 qK7 qKR qK10 qB qL qs
  have RR : RS Sn.cells W4 (some ⟨w4.heap.size + 1, 0, none⟩) [⟨5, 110⟩] := Rd.of_blk KR.out
  have RX := hide RR
  clear RR
  have cK7 := K7.out.cell
  have cK10 := K10.out.cell
  go_upto_region 6 with (go_at_call 14; refine (h_stamp2 sa4 sc4 oa4 oc4 (some ⟨w4.heap.size + 1, 0, none⟩) _ (L4.out.then_ BL.out) RX.out).mono ?_; rintro e w5 ⟨l5, sa5, n5, sc5, oa5, m5, oc5, ra5, k5, rc5, wa5, j5, wc5, rfl, hb⟩; have hs5 := hb.size; have qT2 := T2.out.below hb T2.out.lt; have qK7 := K7.out.below hb K7.out.lt; have qKR := KR.out.below hb KR.out.lt; have qK10 := K10.out.below hb K10.out.lt; have qB := thenB BB.out hb; have qL := BL.out.trans (hb.mono BL.out.size); clear T2 K7 KR K10 BB BL; have T2 := hide qT2; have K7 := hide qK7; have KR := hide qKR; have K10 := hide qK10; have BB := hide qB; have BL := hide qL; clear qT2 qK7 qKR qK10 qB qL; (try clear hb); clear cK7 cK10)
  obtain ⟨W5, hW5⟩ : ∃ W, W = ((w5.alloc (.cells #[.int .i64 l5, .slice sa5 n5 sc5, .slice oa5 m5 oc5] 25)).alloc (.cells #[.int .i64 2, .int .i64 111, .slice ra5 k5 rc5, .slice wa5 j5 wc5] 29)) := ⟨_, rfl⟩
  have qT2 : Blk W5 (w2.heap.size + 1) 29 #[.int .i64 1, .int .i64 110, .slice ra2 0 rc2, .slice wa2 1 wc2] := by rw [hW5]; exact ((T2.out.alloc _).alloc _)
  have qK7 : Blk W5 (w4.heap.size) 25 #[.int .i64 110, .slice sa4 1 sc4, .slice oa4 0 oc4] := by rw [hW5]; exact ((K7.out.alloc _).alloc _)
  have qKR : Blk W5 (w4.heap.size + 1) 65 #[.int .i64 5, .int .i64 110] := by rw [hW5]; exact ((KR.out.alloc _).alloc _)
  have qK10 : Blk W5 (w4.heap.size + 2) 29 #[.int .i64 2, .int .i64 0, .slice (some ⟨w4.heap.size + 1, 0, none⟩) 1 1, .slice none 0 0] := by rw [hW5]; exact ((K10.out.alloc _).alloc _)
  have qT12 : Blk W5 (w5.heap.size + 1) 29 #[.int .i64 2, .int .i64 111, .slice ra5 k5 rc5, .slice wa5 j5 wc5] := by
    have hh := (Blk.new (w5.alloc (.cells #[.int .i64 l5, .slice sa5 n5 sc5, .slice oa5 m5 oc5] 25)) 29 #[.int .i64 2, .int .i64 111, .slice ra5 k5 rc5, .slice wa5 j5 wc5])
    (repeat rw [World.size_alloc] at hh)
    rw [hW5]; exact hh
  have qB : Below w.heap.size w W5 := by rw [hW5]; exact ((BB.out.alloc (by have := BB.out.size; (try simp); (try omega)) _).alloc (by have := BB.out.size; (try simp); (try omega)) _)
  have qL : Below w4.heap.size w4 W5 := by rw [hW5]; exact ((BL.out.alloc (by have := BL.out.size; (try simp); (try omega)) _).alloc (by have := BL.out.size; (try simp); (try omega)) _)
  have qs : W5.heap.size = w5.heap.size + 2 := by rw [hW5]; simp
  rw [← hW5]
  clear hW5 T2 K7 KR K10 BB BL
  have T2 := hide qT2
  have K7 := hide qK7
  have KR := hide qKR
  have K10 := hide qK10
  have T12 := hide qT12
  have BB := hide qB
  have BL := hide qL
  have QSW5 := hide qs
  clear qT2 qK7 qKR qK10 qT12 qB qL qs
  have hs45 : w4.heap.size + 3 ≤ w5.heap.size := by have := QSW4.out; omega
  have cK10 := K10.out.cell
  have cKR := KR.out.cell
  have fKR := KR.out.frozen
  go_upto_region 7 with fail
  clear cK10 cKR
  clear fKR
  obtain ⟨W6, hW6⟩ : ∃ W, W = W5.setCell ⟨w4.heap.size + 1, 1, none⟩ (.int .i64 0) := ⟨_, rfl⟩
  have qT2 : Blk W6 (w2.heap.size + 1) 29 #[.int .i64 1, .int .i64 110, .slice ra2 0 rc2, .slice wa2 1 wc2] := by rw [hW6]; exact T2.out.far (p := ⟨w4.heap.size + 1, 1, none⟩) (by show _ ≠ w4.heap.size + 1; omega) _
  have qK7 : Blk W6 (w4.heap.size) 25 #[.int .i64 110, .slice sa4 1 sc4, .slice oa4 0 oc4] := by rw [hW6]; exact K7.out.far (p := ⟨w4.heap.size + 1, 1, none⟩) (by show _ ≠ w4.heap.size + 1; omega) _
  have qKR : Blk W6 (w4.heap.size + 1) 65 #[.int .i64 5, .int .i64 0] := by rw [hW6]; exact KR.out.set_ 1 (.int .i64 0)
  have qK10 : Blk W6 (w4.heap.size + 2) 29 #[.int .i64 2, .int .i64 0, .slice (some ⟨w4.heap.size + 1, 0, none⟩) 1 1, .slice none 0 0] := by rw [hW6]; exact K10.out.far (p := ⟨w4.heap.size + 1, 1, none⟩) (by show _ ≠ w4.heap.size + 1; omega) _
  have qT12 : Blk W6 (w5.heap.size + 1) 29 #[.int .i64 2, .int .i64 111, .slice ra5 k5 rc5, .slice wa5 j5 wc5] := by rw [hW6]; exact T12.out.far (p := ⟨w4.heap.size + 1, 1, none⟩) (by show _ ≠ w4.heap.size + 1; omega) _
  have qB : Below w.heap.size w W6 := by rw [hW6]; exact BB.out.setCell (p := ⟨w4.heap.size + 1, 1, none⟩) (by show w.heap.size ≤ w4.heap.size + 1; have := B4.out.size; omega) _
  have qL : Below w4.heap.size w4 W6 := by rw [hW6]; exact BL.out.setCell (p := ⟨w4.heap.size + 1, 1, none⟩) (by show w4.heap.size ≤ w4.heap.size + 1; omega) _
  rw [← hW6]
  clear hW6 T2 K7 KR K10 T12 BB BL RX
  have T2 := hide qT2
  have K7 := hide qK7
  have KR := hide qKR
  have K10 := hide qK10
  have T12 := hide qT12
  have BB := hide qB
  have BL := hide qL
  clear qT2 qK7 qKR qK10 qT12 qB qL
  have RY := hide (show RS Sn.cells W6 (some ⟨w4.heap.size + 1, 0, none⟩) [⟨5, 0⟩] from Rd.of_blk KR.out)
  have cK7 := K7.out.cell
  have cK10 := K10.out.cell
  go_upto_region 9 with (go_at_call 14; refine (h_stamp3 sa4 sc4 oa4 oc4 (some ⟨w4.heap.size + 1, 0, none⟩) _ (L4.out.then_ BL.out) RY.out).mono ?_; rintro e w7 ⟨l7, sa7, n7, sc7, oa7, m7, oc7, i7, t7, ra7, k7, rc7, wa7, j7, wc7, rfl, hb⟩; have qT2 := T2.out.below hb T2.out.lt; have qK7 := K7.out.below hb K7.out.lt; have qKR := KR.out.below hb KR.out.lt; have qK10 := K10.out.below hb K10.out.lt; have qT12 := T12.out.below hb T12.out.lt; have qB := thenB BB.out hb; have qL := BL.out.trans (hb.mono BL.out.size); clear T2 K7 KR K10 T12 BB BL; have T2 := hide qT2; have K7 := hide qK7; have KR := hide qKR; have K10 := hide qK10; have T12 := hide qT12; have BB := hide qB; have BL := hide qL; clear qT2 qK7 qKR qK10 qT12 qB qL; (try clear hb); clear cK7 cK10)
  clear KR
  clear K10
  obtain ⟨W7, hW7⟩ : ∃ W, W = (((w7.alloc (.cells #[.int .i64 l7, .slice sa7 n7 sc7, .slice oa7 m7 oc7] 25)).alloc (.cells #[.int .i64 i7, .int .i64 t7, .slice ra7 k7 rc7, .slice wa7 j7 wc7] 29)).alloc (.cells #[.int .i64 111, .int .i64 120] 31)) := ⟨_, rfl⟩
  have qT2 : Blk W7 (w2.heap.size + 1) 29 #[.int .i64 1, .int .i64 110, .slice ra2 0 rc2, .slice wa2 1 wc2] := by rw [hW7]; exact (((T2.out.alloc _).alloc _).alloc _)
  have qK7 : Blk W7 (w4.heap.size) 25 #[.int .i64 110, .slice sa4 1 sc4, .slice oa4 0 oc4] := by rw [hW7]; exact (((K7.out.alloc _).alloc _).alloc _)
  have qT12 : Blk W7 (w5.heap.size + 1) 29 #[.int .i64 2, .int .i64 111, .slice ra5 k5 rc5, .slice wa5 j5 wc5] := by rw [hW7]; exact (((T12.out.alloc _).alloc _).alloc _)
  have qK17 : Blk W7 (w7.heap.size + 2) 31 #[.int .i64 111, .int .i64 120] := by
    have hh := (Blk.new ((w7.alloc (.cells #[.int .i64 l7, .slice sa7 n7 sc7, .slice oa7 m7 oc7] 25)).alloc (.cells #[.int .i64 i7, .int .i64 t7, .slice ra7 k7 rc7, .slice wa7 j7 wc7] 29)) 31 #[.int .i64 111, .int .i64 120])
    (repeat rw [World.size_alloc] at hh)
    rw [hW7]; exact hh
  have qB : Below w.heap.size w W7 := by rw [hW7]; exact (((BB.out.alloc (by have := BB.out.size; (try simp); (try omega)) _).alloc (by have := BB.out.size; (try simp); (try omega)) _).alloc (by have := BB.out.size; (try simp); (try omega)) _)
  have qL : Below w4.heap.size w4 W7 := by rw [hW7]; exact (((BL.out.alloc (by have := BL.out.size; (try simp); (try omega)) _).alloc (by have := BL.out.size; (try simp); (try omega)) _).alloc (by have := BL.out.size; (try simp); (try omega)) _)
  have qs : W7.heap.size = w7.heap.size + 3 := by rw [hW7]; simp
  rw [← hW7]
  clear hW7 T2 K7 T12 BB BL
  have T2 := hide qT2
  have K7 := hide qK7
  have T12 := hide qT12
  have K17 := hide qK17
  have BB := hide qB
  have BL := hide qL
  have QSW7 := hide qs
  clear qT2 qK7 qT12 qK17 qB qL qs
  have cK7 := K7.out.cell
  have cK17 := K17.out.cell
  go_upto_region 10 with (go_at_call 23; refine (h_read1 sa4 sc4 oa4 oc4 _ (L4.out.then_ BL.out)).mono ?_; rintro e w8 ⟨a8, b8, c8, d8, rfl, hb⟩; have qT2 := T2.out.below hb T2.out.lt; have qK7 := K7.out.below hb K7.out.lt; have qT12 := T12.out.below hb T12.out.lt; have qK17 := K17.out.below hb K17.out.lt; have qB := thenB BB.out hb; have qL := BL.out.trans (hb.mono BL.out.size); clear T2 K7 T12 K17 BB BL; have T2 := hide qT2; have K7 := hide qK7; have T12 := hide qT12; have K17 := hide qK17; have BB := hide qB; have BL := hide qL; clear qT2 qK7 qT12 qK17 qB qL; (try clear hb); clear cK7 cK17)
  obtain ⟨W8, hW8⟩ : ∃ W, W = (w8.alloc (.cells #[.int .i64 a8, .int .i64 b8, .int .i64 c8, .bool d8] 44)) := ⟨_, rfl⟩
  have qT2 : Blk W8 (w2.heap.size + 1) 29 #[.int .i64 1, .int .i64 110, .slice ra2 0 rc2, .slice wa2 1 wc2] := by rw [hW8]; exact (T2.out.alloc _)
  have qK7 : Blk W8 (w4.heap.size) 25 #[.int .i64 110, .slice sa4 1 sc4, .slice oa4 0 oc4] := by rw [hW8]; exact (K7.out.alloc _)
  have qT12 : Blk W8 (w5.heap.size + 1) 29 #[.int .i64 2, .int .i64 111, .slice ra5 k5 rc5, .slice wa5 j5 wc5] := by rw [hW8]; exact (T12.out.alloc _)
  have qK17 : Blk W8 (w7.heap.size + 2) 31 #[.int .i64 111, .int .i64 120] := by rw [hW8]; exact (K17.out.alloc _)
  have qB : Below w.heap.size w W8 := by rw [hW8]; exact (BB.out.alloc (by have := BB.out.size; (try simp); (try omega)) _)
  have qL : Below w4.heap.size w4 W8 := by rw [hW8]; exact (BL.out.alloc (by have := BL.out.size; (try simp); (try omega)) _)
  have qs : W8.heap.size = w8.heap.size + 1 := by rw [hW8]; simp
  rw [← hW8]
  clear hW8 T2 K7 T12 K17 BB BL
  have T2 := hide qT2
  have K7 := hide qK7
  have T12 := hide qT12
  have K17 := hide qK17
  have BB := hide qB
  have BL := hide qL
  have QSW8 := hide qs
  clear qT2 qK7 qT12 qK17 qB qL qs
  have cK7 := K7.out.cell
  have cK17 := K17.out.cell
  go_upto_region 11 with (go_at_call 23; refine (h_read2 sa4 sc4 oa4 oc4 _ (L4.out.then_ BL.out)).mono ?_; rintro e w9 ⟨rfl, hb⟩; have qT2 := T2.out.below hb T2.out.lt; have qK7 := K7.out.below hb K7.out.lt; have qT12 := T12.out.below hb T12.out.lt; have qK17 := K17.out.below hb K17.out.lt; have qB := thenB BB.out hb; have qL := BL.out.trans (hb.mono BL.out.size); clear T2 K7 T12 K17 BB BL; have T2 := hide qT2; have K7 := hide qK7; have T12 := hide qT12; have K17 := hide qK17; have BB := hide qB; have BL := hide qL; clear qT2 qK7 qT12 qK17 qB qL; (try clear hb); clear cK7 cK17)
  obtain ⟨W9, hW9⟩ : ∃ W, W = (w9.alloc (.cells #[.int .i64 5, .int .i64 110, .int .i64 7, .bool false] 44)) := ⟨_, rfl⟩
  have qT2 : Blk W9 (w2.heap.size + 1) 29 #[.int .i64 1, .int .i64 110, .slice ra2 0 rc2, .slice wa2 1 wc2] := by rw [hW9]; exact (T2.out.alloc _)
  have qK7 : Blk W9 (w4.heap.size) 25 #[.int .i64 110, .slice sa4 1 sc4, .slice oa4 0 oc4] := by rw [hW9]; exact (K7.out.alloc _)
  have qT12 : Blk W9 (w5.heap.size + 1) 29 #[.int .i64 2, .int .i64 111, .slice ra5 k5 rc5, .slice wa5 j5 wc5] := by rw [hW9]; exact (T12.out.alloc _)
  have qK17 : Blk W9 (w7.heap.size + 2) 31 #[.int .i64 111, .int .i64 120] := by rw [hW9]; exact (K17.out.alloc _)
  have qV21 : Blk W9 (w9.heap.size) 44 #[.int .i64 5, .int .i64 110, .int .i64 7, .bool false] := by
    have hh := (Blk.new w9 44 #[.int .i64 5, .int .i64 110, .int .i64 7, .bool false])
    (repeat rw [World.size_alloc] at hh)
    rw [hW9]; exact hh
  have qB : Below w.heap.size w W9 := by rw [hW9]; exact (BB.out.alloc (by have := BB.out.size; (try simp); (try omega)) _)
  have qL : Below w4.heap.size w4 W9 := by rw [hW9]; exact (BL.out.alloc (by have := BL.out.size; (try simp); (try omega)) _)
  have qs : W9.heap.size = w9.heap.size + 1 := by rw [hW9]; simp
  rw [← hW9]
  clear hW9 T2 K7 T12 K17 BB BL
  have T2 := hide qT2
  have K7 := hide qK7
  have T12 := hide qT12
  have K17 := hide qK17
  have V21 := hide qV21
  have BB := hide qB
  have BL := hide qL
  have QSW9 := hide qs
  clear qT2 qK7 qT12 qK17 qV21 qB qL qs
  have cK7 := K7.out.cell
  have cK17 := K17.out.cell
  go_upto_region 12 with (go_at_call 23; refine (h_read3 sa4 sc4 oa4 oc4 _ (L4.out.then_ BL.out)).mono ?_; rintro e w10 ⟨a10, b10, c10, d10, f10, rfl, hb⟩; have qT2 := T2.out.below hb T2.out.lt; have qK7 := K7.out.below hb K7.out.lt; have qT12 := T12.out.below hb T12.out.lt; have qK17 := K17.out.below hb K17.out.lt; have qV21 := V21.out.below hb V21.out.lt; have qB := thenB BB.out hb; have qL := BL.out.trans (hb.mono BL.out.size); clear T2 K7 T12 K17 V21 BB BL; have T2 := hide qT2; have K7 := hide qK7; have T12 := hide qT12; have K17 := hide qK17; have V21 := hide qV21; have BB := hide qB; have BL := hide qL; clear qT2 qK7 qT12 qK17 qV21 qB qL; (try clear hb); clear cK7 cK17)
  obtain ⟨W10, hW10⟩ : ∃ W, W = (w10.alloc (.cells #[.int .i64 a10, .int .i64 b10, .int .i64 c10, .bool d10] 44)) := ⟨_, rfl⟩
  have qT2 : Blk W10 (w2.heap.size + 1) 29 #[.int .i64 1, .int .i64 110, .slice ra2 0 rc2, .slice wa2 1 wc2] := by rw [hW10]; exact (T2.out.alloc _)
  have qK7 : Blk W10 (w4.heap.size) 25 #[.int .i64 110, .slice sa4 1 sc4, .slice oa4 0 oc4] := by rw [hW10]; exact (K7.out.alloc _)
  have qT12 : Blk W10 (w5.heap.size + 1) 29 #[.int .i64 2, .int .i64 111, .slice ra5 k5 rc5, .slice wa5 j5 wc5] := by rw [hW10]; exact (T12.out.alloc _)
  have qK17 : Blk W10 (w7.heap.size + 2) 31 #[.int .i64 111, .int .i64 120] := by rw [hW10]; exact (K17.out.alloc _)
  have qV21 : Blk W10 (w9.heap.size) 44 #[.int .i64 5, .int .i64 110, .int .i64 7, .bool false] := by rw [hW10]; exact (V21.out.alloc _)
  have qB : Below w.heap.size w W10 := by rw [hW10]; exact (BB.out.alloc (by have := BB.out.size; (try simp); (try omega)) _)
  have qL : Below w4.heap.size w4 W10 := by rw [hW10]; exact (BL.out.alloc (by have := BL.out.size; (try simp); (try omega)) _)
  have qs : W10.heap.size = w10.heap.size + 1 := by rw [hW10]; simp
  rw [← hW10]
  clear hW10 T2 K7 T12 K17 V21 BB BL
  have T2 := hide qT2
  have K7 := hide qK7
  have T12 := hide qT12
  have K17 := hide qK17
  have V21 := hide qV21
  have BB := hide qB
  have BL := hide qL
  have QSW10 := hide qs
  clear qT2 qK7 qT12 qK17 qV21 qB qL qs
  have cK7 := K7.out.cell
  have cK17 := K17.out.cell
  go_upto_region 13 with (go_at_call 25; refine (h_now sa4 sc4 oa4 oc4 _ (L4.out.then_ BL.out)).mono ?_; rintro e w11 ⟨rfl, hb⟩; have qT2 := T2.out.below hb T2.out.lt; have qK7 := K7.out.below hb K7.out.lt; have qT12 := T12.out.below hb T12.out.lt; have qK17 := K17.out.below hb K17.out.lt; have qV21 := V21.out.below hb V21.out.lt; have qB := thenB BB.out hb; have qL := BL.out.trans (hb.mono BL.out.size); clear T2 K7 T12 K17 V21 BB BL; have T2 := hide qT2; have K7 := hide qK7; have T12 := hide qT12; have K17 := hide qK17; have V21 := hide qV21; have BB := hide qB; have BL := hide qL; clear qT2 qK7 qT12 qK17 qV21 qB qL; (try clear hb); clear cK7 cK17)
  have cK7 := K7.out.cell
  have cT2 := T2.out.cell
  have cT12 := T12.out.cell
  have cV21 := V21.out.cell
  go_wp2_with (go_at_call 16; refine (h_valid sa4 sc4 oa4 oc4 _ (L4.out.then_ BL.out)).mono ?_; rintro e w12 ⟨rfl, hb⟩; have BF := hide (thenB BB.out hb); clear hb)
  go_ret
  exact ⟨rfl, BF.out⟩
end Go.Proofs.Ytficjpfhakggmaa

namespace Go.Proofs.Ytficjpfhakggmaa
open Go.RowKit Go.Maps
/-- a leader and a transaction that were answered -/
def AnsLX (w : World) (D : LD) (t : Tx) (x : Int) (e : Ending) (w' : World) : Prop :=
  ∃ (M : LdV) (v : TxV), e = .returned (.tuple #[.agg #[.int .i64 M.last, .slice M.sa M.st.length M.sc, .slice M.oa M.op.length M.oc], .agg #[.int .i64 v.t.id, .int .i64 v.t.ts, .slice v.ra v.t.reads.length v.rc, .slice v.wa v.t.writes.length v.wc], .int .i64 x]) ∧ M.d = D ∧ v.t = t ∧ LdW w' M ∧ TxW w' v ∧ Below w.heap.size w w'
def AnsLT (w : World) (D : LD) (l : List Tx) (x : Int) (e : Ending) (w' : World) : Prop :=
  ∃ (M : LdV) (A : Option Addr) (c : Nat) (m : List TxV), e = .returned (.tuple #[.agg #[.int .i64 M.last, .slice M.sa M.st.length M.sc, .slice M.oa M.op.length M.oc], .slice A m.length c, .int .i64 x]) ∧ M.d = D ∧ txs m = l ∧ LdW w' M ∧ TS w' A m ∧ m.length ≤ c ∧ c ≤ maxLen ∧ Below w.heap.size w w'
theorem few_small {D : LD} (h : fewLB D = true) : D.st.length ≤ 60 ∧ Small D.op ∧ D.op.length ≤ 30 := by
  simp only [fewLB, fewTB, Bool.and_eq_true, decide_eq_true_eq, List.all_eq_true, smTx] at h
  exact ⟨h.1, ⟨by omega, fun t ht => by have := h.2.1 t ht; omega⟩, h.2.2⟩
theorem fewT_small {t : Tx} (h : fewTB [t] = true) : t.reads.length ≤ 20 ∧ t.writes.length ≤ 20 := by
  simp only [fewTB, Bool.and_eq_true, decide_eq_true_eq, List.all_eq_true, smTx] at h
  exact h.1 t (by simp)
theorem few_S {L : LdV} (h : fewLB L.d = true) : LdS L := by
  obtain ⟨h1, h2, _⟩ := few_small h
  exact ⟨h2, by have : L.st.length ≤ 60 := h1; omega⟩
/-- not too much to be compared -/
structure LitD (D : LD) : Prop where
  op : ∀ t ∈ D.op, t.reads.length ≤ 100 ∧ t.writes.length ≤ 100
  st : D.st.length ≤ 100000
  ol : D.op.length ≤ 100000
theorem LitD.l {M : LdV} {D : LD} (h : LitD D) (hM : M.d = D) : LitL M.op ∧ M.st.length ≤ 100000 ∧ M.op.length ≤ 100000 := by
  subst hM
  exact ⟨fun v hv => h.op v.t (List.mem_map.2 ⟨v, hv, rfl⟩), h.st, by have := h.ol; rw [show (LdV.d M).op.length = M.op.length from txs_len _] at this; exact this⟩
theorem lit_zero : LitD LD.zero := by
  refine ⟨fun t ht => ?_, by decide, by decide⟩
  cases ht
theorem lit_stamp {D : LD} {t : Tx} {lo hi : Int} (hD : LitD D) (ht : t.reads.length ≤ 100 ∧ t.writes.length ≤ 100) (hl : D.op.length ≤ 99999) : LitD (stampS D t lo hi).1 := by
  unfold stampS
  split
  · exact lit_zero
  · split
    · exact lit_zero
    · split
      · exact lit_zero
      · split
        · exact lit_zero
        · refine ⟨fun x hx => ?_, hD.st, by simp; omega⟩
          rcases List.mem_append.1 hx with hx | hx
          · exact hD.op x hx
          · obtain rfl : x = t.at (max (D.last + 1) hi) := by simpa using hx
            exact ht
theorem lit_show {D : LD} {lo hi : Int} (hD : LitD D) : LitD (showS D lo hi).1 ∧ ∀ t ∈ (showS D lo hi).2.1, t.reads.length ≤ 100 ∧ t.writes.length ≤ 100 := by
  unfold showS
  split
  · exact ⟨lit_zero, fun t ht => by cases ht⟩
  · next hc =>
    have hok : leadB D.last D.st D.op = true := by
      cases h1 : leadB D.last D.st D.op
      · simp [h1] at hc
      · rfl
    refine ⟨⟨fun t ht => hD.op t (List.mem_of_mem_drop ht), ?_, ?_⟩, fun t ht => hD.op t (List.mem_of_mem_take ht)⟩
    · by_cases hi : pastN D.op lo < D.op.length
      · have := stAt_len hok (i := pastN D.op lo) (j := 0) hi
        show (stAt D.st D.op (pastN D.op lo) 0).length ≤ 100000
        omega
      · have h2 := puts_sto (lead_adds hok).1 (lead_adds hok).2
        have h3 := (lead_adds hok).2.len
        show (stAt D.st D.op (pastN D.op lo) 0).length ≤ 100000
        rw [stAt_zero, List.take_of_length_le (by omega), h2.2]
        omega
    · have := hD.ol
      show (D.op.drop _).length ≤ 100000
      simp; omega
theorem lit_stampT {D : LD} {t : Tx} {lo hi : Int} (ht : t.reads.length ≤ 100 ∧ t.writes.length ≤ 100) : (stampS D t lo hi).2.1.reads.length ≤ 100 ∧ (stampS D t lo hi).2.1.writes.length ≤ 100 := by
  unfold stampS
  split
  · exact ⟨by decide, by decide⟩
  · split
    · exact ⟨by decide, by decide⟩
    · split
      · exact ⟨by decide, by decide⟩
      · split
        · exact ⟨by decide, by decide⟩
        · exact ht
theorem show_len {D : LD} {lo hi : Int} : (showS D lo hi).2.1.length ≤ D.op.length := by
  unfold showS
  split
  · exact Nat.zero_le _
  · show (D.op.take _).length ≤ _
    simp; omega
theorem few_lit {D : LD} (h : fewLB D = true) : LitD D := by
  obtain ⟨h1, h2, h3⟩ := few_small h
  exact ⟨h2.each, by omega, by omega⟩
/-- two answers side by side -/
abbrev Bm (w w' : World) (g g' : Nat) (L M N : LdV) (v u : TxV) : Prop :=
  (Below w.heap.size w w' ∧ LdW w' L ∧ LdW w' M ∧ LdW w' N ∧ TxW w' v ∧ TxW w' u) ∧
  (w'.cell? ⟨w.heap.size, 0, none⟩ = some (.int .i64 L.last) ∧ w'.cell? ⟨w.heap.size, 1, none⟩ = some (.slice L.sa L.st.length L.sc) ∧ w'.cell? ⟨w.heap.size, 2, none⟩ = some (.slice L.oa L.op.length L.oc)) ∧
  (w'.cell? ⟨g, 0, none⟩ = some (.int .i64 M.last) ∧ w'.cell? ⟨g, 1, none⟩ = some (.slice M.sa M.st.length M.sc) ∧ w'.cell? ⟨g, 2, none⟩ = some (.slice M.oa M.op.length M.oc)) ∧
  (w'.cell? ⟨g', 0, none⟩ = some (.int .i64 N.last) ∧ w'.cell? ⟨g', 1, none⟩ = some (.slice N.sa N.st.length N.sc) ∧ w'.cell? ⟨g', 2, none⟩ = some (.slice N.oa N.op.length N.oc)) ∧
  (w'.cell? ⟨g + 1, 0, none⟩ = some (.int .i64 v.t.id) ∧ w'.cell? ⟨g + 1, 1, none⟩ = some (.int .i64 v.t.ts) ∧ w'.cell? ⟨g + 1, 2, none⟩ = some (.slice v.ra v.t.reads.length v.rc) ∧ w'.cell? ⟨g + 1, 3, none⟩ = some (.slice v.wa v.t.writes.length v.wc)) ∧
  (w'.cell? ⟨g' + 1, 0, none⟩ = some (.int .i64 u.t.id) ∧ w'.cell? ⟨g' + 1, 1, none⟩ = some (.int .i64 u.t.ts) ∧ w'.cell? ⟨g' + 1, 2, none⟩ = some (.slice u.ra u.t.reads.length u.rc) ∧ w'.cell? ⟨g' + 1, 3, none⟩ = some (.slice u.wa u.t.writes.length u.wc))
theorem ct {w w' : World} {g i : Nat} {u : Value} (hb : Below w.heap.size w w') (h : w.cell? ⟨g, i, none⟩ = some u) : w'.cell? ⟨g, i, none⟩ = some u := (hb.cell (p := ⟨g, i, none⟩) (cell_lt h)).trans h
theorem Bm.call {w W W' : World} {g g' : Nat} {L M N : LdV} {v u : TxV} (hb : Below W.heap.size W W') (h : Bm w W g g' L M N v u) : Bm w W' g g' L M N v u :=
  ⟨⟨thenB h.1.1 hb, h.1.2.1.then_ hb, h.1.2.2.1.then_ hb, h.1.2.2.2.1.then_ hb, h.1.2.2.2.2.1.then_ hb, h.1.2.2.2.2.2.then_ hb⟩, ⟨ct hb h.2.1.1, ct hb h.2.1.2.1, ct hb h.2.1.2.2⟩, ⟨ct hb h.2.2.1.1, ct hb h.2.2.1.2.1, ct hb h.2.2.1.2.2⟩, ⟨ct hb h.2.2.2.1.1, ct hb h.2.2.2.1.2.1, ct hb h.2.2.2.1.2.2⟩,
    ⟨ct hb h.2.2.2.2.1.1, ct hb h.2.2.2.2.1.2.1, ct hb h.2.2.2.2.1.2.2.1, ct hb h.2.2.2.2.1.2.2.2⟩, ⟨ct hb h.2.2.2.2.2.1, ct hb h.2.2.2.2.2.2.1, ct hb h.2.2.2.2.2.2.2.1, ct hb h.2.2.2.2.2.2.2.2⟩⟩
theorem Bm.drew {w W : World} {g g' : Nat} {L M N : LdV} {v u : TxV} (h : Bm w W g g' L M N v u) : Bm w W.drew g g' L M N v u := Bm.call (Below.refl _ _).drew h
theorem Bm.of {w W : World} {g g' : Nat} {L M N : LdV} {v u : TxV} {t s : TypeId} (hb : Below w.heap.size w W) (hL : LdW W L) (hM : LdW W M) (hN : LdW W N) (hv : TxW W v) (hu : TxW W u)
    (k0 : Blk W w.heap.size t #[.int .i64 L.last, .slice L.sa L.st.length L.sc, .slice L.oa L.op.length L.oc]) (k1 : Blk W g t #[.int .i64 M.last, .slice M.sa M.st.length M.sc, .slice M.oa M.op.length M.oc]) (k2 : Blk W g' t #[.int .i64 N.last, .slice N.sa N.st.length N.sc, .slice N.oa N.op.length N.oc])
    (k3 : Blk W (g + 1) s #[.int .i64 v.t.id, .int .i64 v.t.ts, .slice v.ra v.t.reads.length v.rc, .slice v.wa v.t.writes.length v.wc]) (k4 : Blk W (g' + 1) s #[.int .i64 u.t.id, .int .i64 u.t.ts, .slice u.ra u.t.reads.length u.rc, .slice u.wa u.t.writes.length u.wc]) : Bm w W g g' L M N v u :=
  ⟨⟨hb, hL, hM, hN, hv, hu⟩, ⟨k0.cell 0, k0.cell 1, k0.cell 2⟩, ⟨k1.cell 0, k1.cell 1, k1.cell 2⟩, ⟨k2.cell 0, k2.cell 1, k2.cell 2⟩, ⟨k3.cell 0, k3.cell 1, k3.cell 2, k3.cell 3⟩, ⟨k4.cell 0, k4.cell 1, k4.cell 2, k4.cell 3⟩⟩
theorem TxW.off {w W : World} {v : TxV} {g : Nat} {t : TypeId} {a : Value} {p q : Option Addr} {m n m' n' : Nat} (h : TxW w v) (hb : Blk w g t #[a, .slice p m n, .slice q m' n']) (hs : w.heap.size ≤ W.heap.size) (hk : ∀ k, k ≠ g → W.heap[k]? = w.heap[k]?) : TxW W v := by
  have h1 : TS w none [v] → TS W none [v] := fun h => TS.off h hb hs hk
  refine ⟨Rd.off h.r hb (fun hne => ?_) hs hk, Rd.off h.s hb (fun hne => ?_) hs hk, h.rl, h.rm, h.wl, h.wm⟩
  · obtain ⟨⟨_, _, rd, _⟩, _⟩ := v
    cases rd with
    | nil => exact absurd rfl hne
    | cons x l => exact ⟨_, rfl⟩
  · obtain ⟨⟨_, _, _, wt⟩, _⟩ := v
    cases wt with
    | nil => exact absurd rfl hne
    | cons x l => exact ⟨_, rfl⟩
theorem LdW.off {w W : World} {L : LdV} {g : Nat} {t : TypeId} {a : Value} {p q : Option Addr} {m n m' n' : Nat} (h : LdW w L) (hb : Blk w g t #[a, .slice p m n, .slice q m' n']) (hs : w.heap.size ≤ W.heap.size) (hk : ∀ k, k ≠ g → W.heap[k]? = w.heap[k]?) : LdW W L :=
  ⟨VS.off h.s hb hs hk, TS.off h.o hb hs hk, h.sl, h.sm, h.ol, h.om⟩
end Go.Proofs.Ytficjpfhakggmaa
