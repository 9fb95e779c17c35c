/-
  The walk of the law CommitConflicts.
-/
import Derived.Test.YtcofkflihleckaaPr34
import Derived.Test.YtcofkflihleckaaVc
namespace Go.Proofs.Ytcofkflihleckaa
open Go.RowKit Go.Maps
/-- every read is the newest, of a list of reads -/
def newR (D : LD) (l : List Sn) : Bool := l.all fun s => newestLS D s.key == s.ts
theorem newR_next {D : LD} {l : List Sn} {i : Nat} {s : Sn} (h : l[i]? = some s) : newR D (l.take (i + 1)) = (newR D (l.take i) && (newestLS D s.key == s.ts)) := by
  obtain ⟨hi, rfl⟩ := List.getElem?_eq_some_iff.1 h
  unfold newR
  rw [List.take_succ_eq_append_getElem hi, List.all_append]
  simp
def nwW (k T : Int) (l : List Wr) (a : Int) : Int := l.foldl (fun a x => if x.key = k then max a T else a) a
theorem nwW_next {k T a : Int} {l : List Wr} {i : Nat} {x : Wr} (h : l[i]? = some x) : nwW k T (l.take (i + 1)) a = if x.key = k then max (nwW k T (l.take i) a) T else nwW k T (l.take i) a := by
  obtain ⟨hi, rfl⟩ := List.getElem?_eq_some_iff.1 h
  unfold nwW
  rw [List.take_succ_eq_append_getElem hi, List.foldl_append]
  rfl
theorem nwO_next {k a : Int} {l : List TxV} {j : Nat} {x : TxV} (h : l[j]? = some x) : ((txs l).take (j + 1)).foldl (nwTx k) a = nwW k x.t.ts x.t.writes (((txs l).take j).foldl (nwTx k) a) := by
  have h' := txs_at h
  obtain ⟨hi, he⟩ := List.getElem?_eq_some_iff.1 h'
  rw [List.take_succ_eq_append_getElem hi, List.foldl_append, he]
  rfl
theorem nwO_end {L : LdV} {k : Int} {j : Nat} (h : L.op.length ≤ j) : ((txs L.op).take j).foldl (nwTx k) (newestRS L.st k).1 = newestLS L.d k := by
  rw [List.take_of_length_le (by rw [txs_len]; exact h)]
  rfl
theorem new_any (D : LD) (l : List Sn) : newR D l = !(l.any (oldS (newestLS D))) := by
  unfold newR
  induction l with
  | nil => rfl
  | cons s l ih =>
    rw [List.all_cons, List.any_cons, ih]
    show (_ && !(l.any (oldS (newestLS D)))) = !((!(newestLS D s.key == s.ts)) || l.any (oldS (newestLS D)))
    cases (newestLS D s.key == s.ts) <;> simp
theorem conf_law {D : LD} {t : Tx} {lo hi : Int} (h1 : leadB D.last D.st D.op = true) (h2 : ivB lo hi = true) (h3 : formB t = true) (h4 : t.ts = 0) {k : Nat} (hk : t.reads.length ≤ k) :
    (((stampS D t lo hi).2.2 == 60) == newR D (t.reads.take k)) = false := by
  rw [List.take_of_length_le hk, new_any]
  rcases stamp_cases D t lo hi with ⟨e, _⟩ | ⟨_, ⟨e, _⟩ | ⟨_, ⟨e, _⟩ | ⟨_, ⟨e, _⟩ | ⟨_, ⟨e, r⟩ | ⟨e, ⟨_, r⟩ | ⟨_, ⟨_, r⟩ | ⟨_, ⟨_, r⟩ | ⟨_, r⟩⟩⟩⟩⟩⟩⟩⟩
  · rw [h1] at e; cases e
  · rw [h2] at e; cases e
  · rw [h3] at e; cases e
  · exact absurd h4 e
  all_goals
    rw [e, r]; rfl
theorem arg_law {D : LD} {t : Tx} {lo hi : Int} (h3 : formB t = false ∨ t.ts ≠ 0) : ((stampS D t lo hi).2.2 == 1) = true := by
  rcases stamp_cases D t lo hi with ⟨e, r⟩ | ⟨_, ⟨e, r⟩ | ⟨_, ⟨e, r⟩ | ⟨e, ⟨e', r⟩ | ⟨e', _⟩⟩⟩⟩
  · rw [r]; rfl
  · rw [r]; rfl
  · rw [r]; rfl
  · rw [r]; rfl
  · rcases h3 with h | h
    · rw [h] at e; cases e
    · exact absurd e' h
theorem oldW_ge {k T a : Int} : ∀ {l : List Wr}, (∃ w ∈ l, w.key = k) → T ≤ nwW k T l a := by
  have up : ∀ (l : List Wr) (a : Int), a ≤ nwW k T l a := by
    intro l
    induction l with
    | nil => intro a; exact Int.le_refl _
    | cons x l ih =>
      intro a
      show a ≤ nwW k T l (if x.key = k then max a T else a)
      refine Int.le_trans ?_ (ih _)
      split <;> omega
  intro l
  induction l generalizing a with
  | nil => rintro ⟨w, hw, _⟩; cases hw
  | cons x l ih =>
    rintro ⟨w, hw, hk⟩
    show T ≤ nwW k T l (if x.key = k then max a T else a)
    rcases List.mem_cons.1 hw with rfl | hw
    · rw [if_pos hk]
      exact Int.le_trans (by omega) (up l (max a T))
    · exact ih ⟨w, hw, hk⟩
def oldW (T : Int) (l : List Wr) (s : Sn) : Bool := l.any fun w => w.key == s.key && !(s.ts == T)
def oldR (T : Int) (ws : List Wr) (l : List Sn) : Bool := l.any (oldW T ws)
theorem oldW_next {T : Int} {l : List Wr} {i : Nat} {x : Wr} {s : Sn} (h : l[i]? = some x) : oldW T (l.take (i + 1)) s = (oldW T (l.take i) s || (x.key == s.key && !(s.ts == T))) := by
  obtain ⟨hi, rfl⟩ := List.getElem?_eq_some_iff.1 h
  unfold oldW
  rw [List.take_succ_eq_append_getElem hi, List.any_append]
  simp
theorem oldR_next {T : Int} {ws : List Wr} {l : List Sn} {i j : Nat} {s : Sn} (h : l[i]? = some s) (hj : ws.length ≤ j) : oldR T ws (l.take (i + 1)) = (oldR T ws (l.take i) || oldW T (ws.take j) s) := by
  obtain ⟨hi, rfl⟩ := List.getElem?_eq_some_iff.1 h
  unfold oldR
  rw [List.take_succ_eq_append_getElem hi, List.any_append, List.take_of_length_le hj]
  simp
theorem conf2_law {D : LD} {t u : Tx} {lo hi : Int} (hs : (stampS D t lo hi).2.2 = 0) (h2 : ivB lo hi = true) (h3 : formB u = true) (h4 : u.ts = 0) {k : Nat}
    (ho : oldR (stampS D t lo hi).2.1.ts t.writes (u.reads.take k) = true) : ((stampS (stampS D t lo hi).1 u lo hi).2.2 == 60) = true := by
  obtain ⟨r1, r2, r3, r4, r5, r6, r7, r8, r9⟩ := rises_law hs
  have hany : u.reads.any (oldS (newestLS (stampS D t lo hi).1)) = true := by
    obtain ⟨s, hsm, hsw⟩ := List.any_eq_true.1 ho
    have hsm' := List.mem_of_mem_take hsm
    obtain ⟨w, hw, hww⟩ := List.any_eq_true.1 hsw
    rw [Bool.and_eq_true] at hww
    have hk := eq_of_beq hww.1
    refine List.any_eq_true.2 ⟨s, hsm', ?_⟩
    obtain ⟨q, hq, hqs⟩ := List.getElem_of_mem hsm'
    have hkey : keyB s.key = true := hqs ▸ form_rkey h3 hq
    have hm := mapL_eq r5 hkey
    rw [r7, lastTs_snoc] at hm
    have hge : (stampS D t lo hi).2.1.ts ≤ newestLS (stampS D t lo hi).1 s.key := by
      unfold newestLS
      rw [r7, List.foldl_append]
      refine oldW_ge (a := _) ?_
      rw [← r4]
      exact ⟨w, hw, hk⟩
    unfold oldS
    have hne : ¬ s.ts = (stampS D t lo hi).2.1.ts := by
      intro e
      have := hww.2
      rw [e] at this
      simp at this
    have : ¬ newestLS (stampS D t lo hi).1 s.key = s.ts := by
      have := hm.1; have := hm.2; omega
    simpa [bne_iff_ne] using this
  have hc := conf_law (k := u.reads.length) r5 h2 h3 h4 (Nat.le_refl _)
  rw [List.take_of_length_le (Nat.le_refl _), new_any, hany] at hc
  cases h : ((stampS (stampS D t lo hi).1 u lo hi).2.2 == 60)
  · rw [h] at hc; exact absurd hc (by decide)
  · rfl
theorem fewT_two1 {t u : Tx} (h : fewTB [t, u] = true) : t.reads.length ≤ 100 ∧ t.writes.length ≤ 100 := by
  simp only [fewTB, Bool.and_eq_true, decide_eq_true_eq, List.all_eq_true, smTx] at h
  have := h.1 t (by simp)
  omega
theorem fewT_two2 {t u : Tx} (h : fewTB [t, u] = true) : u.reads.length ≤ 100 ∧ u.writes.length ≤ 100 := by
  simp only [fewTB, Bool.and_eq_true, decide_eq_true_eq, List.all_eq_true, smTx] at h
  have := h.1 u (by simp)
  omega

set_option maxRecDepth 100000 in
set_option maxHeartbeats 32000000 in
theorem conflicts_any (L : LdV) (t u : TxV) (lo hi : Int) (w : World) (h : LdW w L) (h' : TxW w t) (h'' : TxW w u) : Calls Try.prog 8 #[.agg #[.int .i64 L.last, .slice L.sa L.st.length L.sc, .slice L.oa L.op.length L.oc], .agg #[.int .i64 t.t.id, .int .i64 t.t.ts, .slice t.ra t.t.reads.length t.rc, .slice t.wa t.t.writes.length t.wc], .agg #[.int .i64 u.t.id, .int .i64 u.t.ts, .slice u.ra u.t.reads.length u.rc, .slice u.wa u.t.writes.length u.wc], .agg #[.int .i64 lo, .int .i64 hi]] w fun e w' => e = .returned (.bool true) ∧ Below w.heap.size w w' := by
  refine vc_enter (n := 181) Try.func8 rfl rfl rfl (fun a hK => ?_)
  replace hK := hK.weak (K' := [(0, .agg #[.int .i64 L.last, .slice L.sa L.st.length L.sc, .slice L.oa L.op.length L.oc]), (1, .agg #[.int .i64 t.t.id, .int .i64 t.t.ts, .slice t.ra t.t.reads.length t.rc, .slice t.wa t.t.writes.length t.wc]), (2, .agg #[.int .i64 u.t.id, .int .i64 u.t.ts, .slice u.ra u.t.reads.length u.rc, .slice u.wa u.t.writes.length u.wc]), (3, .agg #[.int .i64 lo, .int .i64 hi])]) ⟨rfl, rfl, rfl, rfl, trivial⟩
  have hE := Ev.start w
  replace hE := hE.dat (p := fun W => LdW W L) (fun W hW => LdW.then_ h hW)
  replace hE := hE.dat (p := fun W => RS TxV.cells W L.oa L.op) (fun W hW => (LdW.then_ h hW).o.row)
  replace hE := hE.dat (p := fun W => TxW W t) (fun W hW => TxW.then_ h' hW)
  replace hE := hE.dat (p := fun W => TxW W u) (fun W hW => TxW.then_ h'' hW)
  replace hE := hE.dat (p := fun W => RS Sn.cells W t.ra t.t.reads) (fun W hW => (TxW.then_ h' hW).r)
  replace hE := hE.dat (p := fun W => RS Wr.cells W t.wa t.t.writes) (fun W hW => (TxW.then_ h' hW).s)
  replace hE := hE.dat (p := fun W => RS Sn.cells W u.ra u.t.reads) (fun W hW => (TxW.then_ h'' hW).r)
  refine wp_seq ?_
  refine wp_region_lit ?_
  refine st_new (d := 4) (v := fun g => .pointer (some ⟨g, 0, none⟩)) (cs := #[.int .i64 L.last, .slice L.sa L.st.length L.sc, .slice L.oa L.op.length L.oc]) (t := 25) hK hE rfl (fun _ _ => by kernel_rfl) rfl rfl ?_
  clear hK hE a; intro a g1 w2 _ _ hK hE
  refine st_new (d := 5) (v := fun g => .pointer (some ⟨g, 0, none⟩)) (cs := #[.int .i64 t.t.id, .int .i64 t.t.ts, .slice t.ra t.t.reads.length t.rc, .slice t.wa t.t.writes.length t.wc]) (t := 29) hK hE rfl (fun _ _ => by kernel_rfl) rfl rfl ?_
  clear hK hE a; intro a g3 w4 _ _ hK hE
  refine st_new (d := 6) (v := fun g => .pointer (some ⟨g, 0, none⟩)) (cs := #[.int .i64 u.t.id, .int .i64 u.t.ts, .slice u.ra u.t.reads.length u.rc, .slice u.wa u.t.writes.length u.wc]) (t := 29) hK hE rfl (fun _ _ => by kernel_rfl) rfl rfl ?_
  clear hK hE a; intro a g5 w6 _ _ hK hE
  refine st_new (d := 7) (v := fun g => .pointer (some ⟨g, 0, none⟩)) (cs := #[.int .i64 lo, .int .i64 hi]) (t := 31) hK hE rfl (fun _ _ => by kernel_rfl) rfl rfl ?_
  clear hK hE a; intro a g7 w8 _ _ hK hE
  refine st_op (d := 8) (v' := .bool false) (vs := []) (obs := []) hK rfl (fun _ => by kernel_rfl) trivial rfl rfl rfl ?_
  clear hK a; intro a hK
  refine wpList_nil ?_
  refine xt_norm ?_
  refine wp_seq ?_
  refine wp_region_lit ?_
  refine st_call (d := 30) (f := 10) (args := #[]) hK rfl (fun _ => by kernel_rfl) rfl rfl (head34_any _) ?_
  rintro e w9 ⟨rfl, hb⟩
  refine ⟨_, rfl, ?_⟩
  clear hK a; intro a hK
  replace hE := hE.call hb
  clear hb
  refine st_op (d := 9) (v' := .bool true) (vs := []) (obs := []) hK rfl (fun _ => by kernel_rfl) trivial rfl rfl rfl ?_
  clear hK a; intro a hK
  refine wpList_nil ?_
  refine xt_norm ?_
  refine wp_seq ?_
  refine wp_seq ?_
  refine wp_region_lit ?_
  refine st_op (d := 31) (v' := .agg #[.int .i64 L.last, .slice L.sa L.st.length L.sc, .slice L.oa L.op.length L.oc]) (vs := [.int .i64 L.last, .slice L.sa L.st.length L.sc, .slice L.oa L.op.length L.oc]) (obs := [(⟨g1, 0, none⟩, .int .i64 L.last), (⟨g1, 1, none⟩, .slice L.sa L.st.length L.sc), (⟨g1, 2, none⟩, .slice L.oa L.op.length L.oc)]) hK rfl (fun _ => by kernel_rfl) ⟨((hE.blk 3 rfl).cell 0).trans rfl, ((hE.blk 3 rfl).cell 1).trans rfl, ((hE.blk 3 rfl).cell 2).trans rfl, trivial⟩ rfl rfl rfl ?_
  clear hK a; intro a hK
  refine st_call (d := 32) (f := 26) (args := #[.agg #[.int .i64 L.last, .slice L.sa L.st.length L.sc, .slice L.oa L.op.length L.oc]]) hK rfl (fun _ => by kernel_rfl) rfl rfl (usable_any L _ (hE.get 10 rfl)) ?_
  rintro e w10 ⟨rfl, hb⟩
  refine ⟨_, rfl, ?_⟩
  clear hK a; intro a hK
  replace hE := hE.call hb
  clear hb
  refine st_op (d := 33) (v' := .bool (!(fewLB L.d && L.ok))) (vs := []) (obs := []) hK rfl (fun _ => by kernel_rfl) trivial rfl rfl rfl ?_
  clear hK a; intro a hK
  refine st_op (d := 34) (v' := .bool (!(fewLB L.d && L.ok))) (vs := []) (obs := []) hK rfl (fun _ => by kernel_rfl) trivial rfl rfl rfl ?_
  clear hK a; intro a hK
  rcases Bool.eq_false_or_eq_true (fewLB L.d && L.ok) with hc11 | hc11
  · have hus_ := (Bool.and_eq_true _ _).mp hc11
    have hfew := hus_.1; have hok := hus_.2; have hLS := few_S hfew; have hbd := lead_bd hok; clear hus_
    have hfs := few_small hfew
    have hol : L.op.length ≤ 30 := by have := hfs.2.2; rw [show L.d.op.length = L.op.length from txs_len _] at this; exact this
    replace hK := hK.sub (d := 34) (v' := .bool false) rfl (congrArg (fun b => Value.bool !b) hc11)
    refine st_op (d := 35) (v' := .agg #[.int .i64 t.t.id, .int .i64 t.t.ts, .slice t.ra t.t.reads.length t.rc, .slice t.wa t.t.writes.length t.wc]) (vs := [.int .i64 t.t.id, .int .i64 t.t.ts, .slice t.ra t.t.reads.length t.rc, .slice t.wa t.t.writes.length t.wc]) (obs := [(⟨g3, 0, none⟩, .int .i64 t.t.id), (⟨g3, 1, none⟩, .int .i64 t.t.ts), (⟨g3, 2, none⟩, .slice t.ra t.t.reads.length t.rc), (⟨g3, 3, none⟩, .slice t.wa t.t.writes.length t.wc)]) hK rfl (fun _ => by kernel_rfl) ⟨((hE.blk 2 rfl).cell 0).trans rfl, ((hE.blk 2 rfl).cell 1).trans rfl, ((hE.blk 2 rfl).cell 2).trans rfl, ((hE.blk 2 rfl).cell 3).trans rfl, trivial⟩ rfl rfl rfl ?_
    clear hK a; intro a hK
    refine st_op (d := 36) (v' := .agg #[.int .i64 u.t.id, .int .i64 u.t.ts, .slice u.ra u.t.reads.length u.rc, .slice u.wa u.t.writes.length u.wc]) (vs := [.int .i64 u.t.id, .int .i64 u.t.ts, .slice u.ra u.t.reads.length u.rc, .slice u.wa u.t.writes.length u.wc]) (obs := [(⟨g5, 0, none⟩, .int .i64 u.t.id), (⟨g5, 1, none⟩, .int .i64 u.t.ts), (⟨g5, 2, none⟩, .slice u.ra u.t.reads.length u.rc), (⟨g5, 3, none⟩, .slice u.wa u.t.writes.length u.wc)]) hK rfl (fun _ => by kernel_rfl) ⟨((hE.blk 1 rfl).cell 0).trans rfl, ((hE.blk 1 rfl).cell 1).trans rfl, ((hE.blk 1 rfl).cell 2).trans rfl, ((hE.blk 1 rfl).cell 3).trans rfl, trivial⟩ rfl rfl rfl ?_
    clear hK a; intro a hK
    refine st_new (d := 37) (v := fun g => .slice (some ⟨g, 0, none⟩) 2 2) (cs := #[.int .i64 t.t.id, .int .i64 t.t.ts, .slice t.ra t.t.reads.length t.rc, .slice t.wa t.t.writes.length t.wc, .int .i64 u.t.id, .int .i64 u.t.ts, .slice u.ra u.t.reads.length u.rc, .slice u.wa u.t.writes.length u.wc]) (t := 29) hK hE rfl (fun _ _ => by kernel_rfl) rfl rfl ?_
    clear hK hE a; intro a g12 w13 _ _ hK hE
    refine st_call (d := 38) (f := 12) (args := #[.slice (some ⟨g12, 0, none⟩) 2 2]) hK rfl (fun _ => by kernel_rfl) rfl rfl (fewTxs_any (some ⟨g12, 0, none⟩) 2 [t, u] _ (Nat.le_refl _) (by simp [maxLen]) ⟨by have hh := Rd.of_blk (hE.blk 0 rfl); exact hh, fun x hx => by rcases (by simpa using hx : x = t ∨ x = u) with rfl | rfl; exact (hE.get 9 rfl); exact (hE.get 8 rfl)⟩) ?_
    rintro e _ ⟨rfl, rfl⟩
    refine ⟨_, rfl, ?_⟩
    clear hK a; intro a hK
    refine st_op (d := 39) (v' := .bool (!(fewTB (txs [t, u])))) (vs := []) (obs := []) hK rfl (fun _ => by kernel_rfl) trivial rfl rfl rfl ?_
    clear hK a; intro a hK
    refine st_op (d := 40) (v' := .bool (!(fewTB (txs [t, u])))) (vs := []) (obs := []) hK rfl (fun _ => by kernel_rfl) trivial rfl rfl rfl ?_
    clear hK a; intro a hK
    refine st_op (d := 41) (v' := .bool (!(fewTB (txs [t, u])))) (vs := []) (obs := []) hK rfl (fun _ => by kernel_rfl) trivial rfl rfl rfl ?_
    clear hK a; intro a hK
    rcases Bool.eq_false_or_eq_true (fewTB (txs [t, u])) with hc14 | hc14
    · have hsmt : t.t.reads.length ≤ 100 ∧ t.t.writes.length ≤ 100 := fewT_two1 hc14
      have hsmu : u.t.reads.length ≤ 100 ∧ u.t.writes.length ≤ 100 := fewT_two2 hc14
      replace hK := hK.sub (d := 41) (v' := .bool false) rfl (congrArg (fun b => Value.bool !b) hc14)
      refine st_op (d := 42) (v' := .agg #[.int .i64 t.t.id, .int .i64 t.t.ts, .slice t.ra t.t.reads.length t.rc, .slice t.wa t.t.writes.length t.wc]) (vs := [.int .i64 t.t.id, .int .i64 t.t.ts, .slice t.ra t.t.reads.length t.rc, .slice t.wa t.t.writes.length t.wc]) (obs := [(⟨g3, 0, none⟩, .int .i64 t.t.id), (⟨g3, 1, none⟩, .int .i64 t.t.ts), (⟨g3, 2, none⟩, .slice t.ra t.t.reads.length t.rc), (⟨g3, 3, none⟩, .slice t.wa t.t.writes.length t.wc)]) hK rfl (fun _ => by kernel_rfl) ⟨((hE.blk 3 rfl).cell 0).trans rfl, ((hE.blk 3 rfl).cell 1).trans rfl, ((hE.blk 3 rfl).cell 2).trans rfl, ((hE.blk 3 rfl).cell 3).trans rfl, trivial⟩ rfl rfl rfl ?_
      clear hK a; intro a hK
      refine st_call (d := 43) (f := 30) (args := #[.agg #[.int .i64 t.t.id, .int .i64 t.t.ts, .slice t.ra t.t.reads.length t.rc, .slice t.wa t.t.writes.length t.wc]]) hK rfl (fun _ => by kernel_rfl) rfl rfl (rTx_any t _ hsmt (hE.get 9 rfl)) ?_
      rintro e w15 ⟨rfl, hb⟩
      refine ⟨_, rfl, ?_⟩
      clear hK a; intro a hK
      replace hE := hE.call hb
      clear hb
      refine st_op (d := 44) (v' := .bool (!(formB t.t))) (vs := []) (obs := []) hK rfl (fun _ => by kernel_rfl) trivial rfl rfl rfl ?_
      clear hK a; intro a hK
      refine st_op (d := 45) (v' := .bool (!(formB t.t))) (vs := []) (obs := []) hK rfl (fun _ => by kernel_rfl) trivial rfl rfl rfl ?_
      clear hK a; intro a hK
      refine st_op (d := 46) (v' := .bool (!(formB t.t))) (vs := []) (obs := []) hK rfl (fun _ => by kernel_rfl) trivial rfl rfl rfl ?_
      clear hK a; intro a hK
      rcases Bool.eq_false_or_eq_true (formB t.t) with hc16 | hc16
      · replace hK := hK.sub (d := 46) (v' := .bool false) rfl (congrArg (fun b => Value.bool !b) hc16)
        refine st_op (d := 47) (v' := .pointer (some ⟨g3, 1, none⟩)) (vs := []) (obs := []) hK rfl (fun _ => by kernel_rfl) trivial rfl rfl rfl ?_
        clear hK a; intro a hK
        refine st_op (d := 48) (v' := .int .i64 t.t.ts) (vs := [.int .i64 t.t.ts]) (obs := [(⟨g3, 1, none⟩, .int .i64 t.t.ts)]) hK rfl (fun _ => by kernel_rfl) ⟨((hE.blk 3 rfl).cell 1).trans rfl, trivial⟩ rfl rfl rfl ?_
        clear hK a; intro a hK
        refine st_op (d := 49) (v' := .bool (t.t.ts != 0)) (v := .bool (!(t.t.ts == 0))) (vs := []) (obs := []) hK rfl (fun _ => by kernel_rfl) trivial rfl rfl rfl ?_
        clear hK a; intro a hK
        refine st_op (d := 50) (v' := .bool (!(t.t.ts == 0))) (vs := []) (obs := []) hK rfl (fun _ => by kernel_rfl) trivial rfl rfl rfl ?_
        clear hK a; intro a hK
        refine st_op (d := 51) (v' := .bool (!(t.t.ts == 0))) (vs := []) (obs := []) hK rfl (fun _ => by kernel_rfl) trivial rfl rfl rfl ?_
        clear hK a; intro a hK
        rcases Bool.eq_false_or_eq_true ((t.t.ts == 0)) with hc17 | hc17
        · have hc17p := eq_of_beq hc17
          replace hK := hK.sub (d := 51) (v' := .bool false) rfl (congrArg (fun b => Value.bool !b) hc17)
          refine st_op (d := 52) (v' := .agg #[.int .i64 lo, .int .i64 hi]) (vs := [.int .i64 lo, .int .i64 hi]) (obs := [(⟨g7, 0, none⟩, .int .i64 lo), (⟨g7, 1, none⟩, .int .i64 hi)]) hK rfl (fun _ => by kernel_rfl) ⟨((hE.blk 1 rfl).cell 0).trans rfl, ((hE.blk 1 rfl).cell 1).trans rfl, trivial⟩ rfl rfl rfl ?_
          clear hK a; intro a hK
          refine st_call (d := 53) (f := 28) (args := #[.agg #[.int .i64 lo, .int .i64 hi]]) hK rfl (fun _ => by kernel_rfl) rfl rfl (rIv_any lo hi _) ?_
          rintro e w18 ⟨rfl, hb⟩
          refine ⟨_, rfl, ?_⟩
          clear hK a; intro a hK
          replace hE := hE.call hb
          clear hb
          refine st_op (d := 54) (v' := .bool (!(ivB lo hi))) (vs := []) (obs := []) hK rfl (fun _ => by kernel_rfl) trivial rfl rfl rfl ?_
          clear hK a; intro a hK
          refine st_op (d := 55) (v' := .bool (!(ivB lo hi))) (vs := []) (obs := []) hK rfl (fun _ => by kernel_rfl) trivial rfl rfl rfl ?_
          clear hK a; intro a hK
          refine wpList_nil ?_
          replace hK := hK.weak (K' := [(4, .pointer (some ⟨g1, 0, none⟩)), (5, .pointer (some ⟨g3, 0, none⟩)), (6, .pointer (some ⟨g5, 0, none⟩)), (7, .pointer (some ⟨g7, 0, none⟩)), (8, .bool false), (9, .bool true), (55, .bool (!(ivB lo hi)))]) ⟨rfl, rfl, rfl, rfl, rfl, rfl, rfl, trivial⟩
          refine xt_norm ?_
          rcases Bool.eq_false_or_eq_true (ivB lo hi) with hc19 | hc19
          · have hiv := hc19
            replace hK := hK.sub (d := 55) (v' := .bool false) rfl (congrArg (fun b => Value.bool !b) hc19)
            refine vc_cond (t := false) hK (fun _ => rfl) ?_
            rw [if_neg (by simp)]
            refine wp_skip ?_
            refine xt_norm ?_
            refine wp_seq ?_
            refine wp_region_lit ?_
            refine st_op (d := 10) (v' := .bool true) (vs := []) (obs := []) hK rfl (fun _ => by kernel_rfl) trivial rfl rfl rfl ?_
            clear hK a; intro a hK
            refine wpList_nil ?_
            refine xt_norm ?_
            refine wp_seq ?_
            refine wp_seq ?_
            refine wp_region_lit ?_
            refine st_op (d := 57) (v' := .pointer (some ⟨g3, 2, none⟩)) (vs := []) (obs := []) hK rfl (fun _ => by kernel_rfl) trivial rfl rfl rfl ?_
            clear hK a; intro a hK
            refine st_op (d := 58) (v' := .slice t.ra t.t.reads.length t.rc) (vs := [.slice t.ra t.t.reads.length t.rc]) (obs := [(⟨g3, 2, none⟩, .slice t.ra t.t.reads.length t.rc)]) hK rfl (fun _ => by kernel_rfl) ⟨((hE.blk 3 rfl).cell 2).trans rfl, trivial⟩ rfl rfl rfl ?_
            clear hK a; intro a hK
            refine st_op (d := 59) (v' := .int .i64 ((t.t.reads.length : Nat) : Int)) (vs := []) (obs := []) hK rfl (fun _ => by kernel_rfl) trivial rfl rfl rfl ?_
            clear hK a; intro a hK
            refine st_op (d := 60) (v' := .int .i64 0) (vs := []) (obs := []) hK rfl (fun _ => by kernel_rfl) trivial rfl rfl rfl ?_
            clear hK a; intro a hK
            refine wpList_nil ?_
            refine xt_norm ?_
            refine wp_block ?_
            refine vc_loop (γ := Nat) (fun k a w_ => Kn 181 [(4, .pointer (some ⟨g1, 0, none⟩)), (5, .pointer (some ⟨g3, 0, none⟩)), (6, .pointer (some ⟨g5, 0, none⟩)), (7, .pointer (some ⟨g7, 0, none⟩)), (8, .bool false), (9, .bool true), (58, .slice t.ra t.t.reads.length t.rc), (59, .int .i64 ((t.t.reads.length : Nat) : Int)), (60, .int .i64 ((k : Nat) : Int)), (10, .bool (newR L.d (t.t.reads.take k)))] a ∧ Ev w w_ [.blk g12 29 #[.int .i64 t.t.id, .int .i64 t.t.ts, .slice t.ra t.t.reads.length t.rc, .slice t.wa t.t.writes.length t.wc, .int .i64 u.t.id, .int .i64 u.t.ts, .slice u.ra u.t.reads.length u.rc, .slice u.wa u.t.writes.length u.wc], .blk g7 31 #[.int .i64 lo, .int .i64 hi], .blk g5 29 #[.int .i64 u.t.id, .int .i64 u.t.ts, .slice u.ra u.t.reads.length u.rc, .slice u.wa u.t.writes.length u.wc], .blk g3 29 #[.int .i64 t.t.id, .int .i64 t.t.ts, .slice t.ra t.t.reads.length t.rc, .slice t.wa t.t.writes.length t.wc], .blk g1 25 #[.int .i64 L.last, .slice L.sa L.st.length L.sc, .slice L.oa L.op.length L.oc], .dat (fun W => RS Sn.cells W u.ra u.t.reads), .dat (fun W => RS Wr.cells W t.wa t.t.writes), .dat (fun W => RS Sn.cells W t.ra t.t.reads), .dat (fun W => TxW W u), .dat (fun W => TxW W t), .dat (fun W => RS TxV.cells W L.oa L.op), .dat (fun W => LdW W L)] ∧ (k ≤ t.t.reads.length) ∧ (True)) (fun k => t.t.reads.length - k) 0 ?_ ?_
            · replace hK := hK.sub (d := 60) (v' := .int .i64 ((0 : Nat) : Int)) rfl (by first | rfl | (congr 1; omega))
              replace hK := hK.sub (d := 10) (v' := .bool (newR L.d (t.t.reads.take 0))) rfl (by first | rfl | (congr 1; omega))
              refine ⟨hK.weak ⟨rfl, rfl, rfl, rfl, rfl, rfl, rfl, rfl, rfl, rfl, trivial⟩, hE, by omega, trivial⟩
            · clear hK hE a; rintro k a w20 ⟨hK, hE, hf21, -⟩
              refine wp_seq ?_
              refine wp_region_lit ?_
              refine st_op (d := 61) (v' := .bool (decide (((k : Nat) : Int) < ((t.t.reads.length : Nat) : Int)))) (vs := []) (obs := []) hK rfl (fun _ => by kernel_rfl) trivial rfl rfl rfl ?_
              clear hK a; intro a hK
              refine wpList_nil ?_
              refine xt_norm ?_
              refine wp_seq ?_
              rcases Bool.eq_false_or_eq_true (decide (((k : Nat) : Int) < ((t.t.reads.length : Nat) : Int))) with hc22 | hc22
              · have hc22p := of_decide_eq_true hc22
                replace hK := hK.sub (d := 61) (v' := .bool true) rfl (congrArg Value.bool hc22)
                refine vc_cond (t := true) hK (fun _ => rfl) ?_
                rw [if_pos rfl]
                refine wp_skip ?_
                refine xt_norm ?_
                refine wp_seq ?_
                refine wp_block ?_
                refine wp_seq ?_
                refine wp_region_lit ?_
                obtain ⟨x23, hx24⟩ : ∃ x, t.t.reads[k]? = some x := ⟨_, List.getElem?_eq_getElem (by omega)⟩
                obtain ⟨b25, o26, hA27⟩ := row_some (f := Sn.cells) (m := 2) (fun _ => rfl) (hE.get 7 rfl) (by decide) hx24
                replace hE := hE.from_ 7 rfl (p := fun W => ∀ i x, t.t.reads[i]? = some x → Rec W b25 (o26 + i * 2) (Sn.cells x)) (fun W hq => row_recs (fun _ => rfl) (by decide) hA27 hq)
                replace hE := hE.from_ 7 rfl (p := fun W => Rec W b25 (o26 + k * 2) (Sn.cells x23)) (fun W hq => hq _ _ hx24)
                refine st_ix (d := 62) (j := k) (m := 2) hK rfl rfl (fun _ => congrArg (fun A => Value.slice A t.t.reads.length t.rc) hA27) (fun _ => rfl) (by omega) (by have := (List.getElem?_eq_some_iff.1 hx24).1; omega) Try.underlying26 rfl rfl rfl rfl ?_
                clear hK a; intro a hK
                refine st_op (d := 63) (v' := .agg #[.int .i64 x23.key, .int .i64 x23.ts]) (vs := [.int .i64 x23.key, .int .i64 x23.ts]) (obs := [(⟨b25, o26 + k * 2, none⟩, .int .i64 x23.key), (⟨b25, o26 + k * 2 + 1, none⟩, .int .i64 x23.ts)]) hK rfl (fun _ => by kernel_rfl) ⟨(hE.get 7 rfl) 0 _ rfl, (hE.get 7 rfl) 1 _ rfl, trivial⟩ rfl rfl rfl ?_
                clear hK a; intro a hK
                refine st_new (d := 12) (v := fun g => .pointer (some ⟨g, 0, none⟩)) (cs := #[.int .i64 0, .int .i64 0]) (t := 65) hK hE rfl (fun _ _ => by kernel_rfl) rfl rfl ?_
                clear hK hE a; intro a g28 w29 _ _ hK hE
                refine st_store2 0 [(0, .int .i64 x23.key), (1, .int .i64 x23.ts)] hK hE rfl rfl (fun _ => by kernel_rfl) rfl rfl rfl ?_
                clear hE; intro w30 hs_ hk_ hE
                clear hs_ hk_
                refine wpList_nil ?_
                refine xt_norm ?_
                refine wp_seq ?_
                refine wp_region_lit ?_
                refine st_op (d := 65) (v' := .pointer (some ⟨g1, 1, none⟩)) (vs := []) (obs := []) hK rfl (fun _ => by kernel_rfl) trivial rfl rfl rfl ?_
                clear hK a; intro a hK
                refine st_op (d := 66) (v' := .slice L.sa L.st.length L.sc) (vs := [.slice L.sa L.st.length L.sc]) (obs := [(⟨g1, 1, none⟩, .slice L.sa L.st.length L.sc)]) hK rfl (fun _ => by kernel_rfl) ⟨((hE.blk 5 rfl).cell 1).trans rfl, trivial⟩ rfl rfl rfl ?_
                clear hK a; intro a hK
                refine st_op (d := 67) (v' := .pointer (some ⟨g28, 0, none⟩)) (vs := []) (obs := []) hK rfl (fun _ => by kernel_rfl) trivial rfl rfl rfl ?_
                clear hK a; intro a hK
                refine st_op (d := 68) (v' := .int .i64 x23.key) (vs := [.int .i64 x23.key]) (obs := [(⟨g28, 0, none⟩, .int .i64 x23.key)]) hK rfl (fun _ => by kernel_rfl) ⟨((hE.blk 0 rfl).cell 0).trans rfl, trivial⟩ rfl rfl rfl ?_
                clear hK a; intro a hK
                refine st_call (d := 69) (f := 31) (args := #[.slice L.sa L.st.length L.sc, .int .i64 x23.key]) hK rfl (fun _ => by kernel_rfl) rfl rfl (rNewest_any L.sa L.sc L.st x23.key _ (by have := hLS.st; omega) (LdW.s (hE.get 14 rfl))) ?_
                rintro e w31 ⟨rfl, hb⟩
                refine ⟨_, rfl, ?_⟩
                clear hK a; intro a hK
                replace hE := hE.call hb
                clear hb
                refine st_op (d := 64) (v' := .tuple #[.int .i64 (newestRS L.st x23.key).1, .int .i64 (newestRS L.st x23.key).2]) (vs := []) (obs := []) hK rfl (fun _ => by kernel_rfl) trivial rfl rfl rfl ?_
                clear hK a; intro a hK
                refine st_op (d := 70) (v' := .int .i64 (newestRS L.st x23.key).1) (vs := []) (obs := []) hK rfl (fun _ => by kernel_rfl) trivial rfl rfl rfl ?_
                clear hK a; intro a hK
                refine st_op (d := 71) (v' := .int .i64 (newestRS L.st x23.key).2) (vs := []) (obs := []) hK rfl (fun _ => by kernel_rfl) trivial rfl rfl rfl ?_
                clear hK a; intro a hK
                refine st_op (d := 13) (v' := .int .i64 (newestRS L.st x23.key).1) (vs := []) (obs := []) hK rfl (fun _ => by kernel_rfl) trivial rfl rfl rfl ?_
                clear hK a; intro a hK
                refine st_op (d := 14) (v' := .int .i64 (newestRS L.st x23.key).2) (vs := []) (obs := []) hK rfl (fun _ => by kernel_rfl) trivial rfl rfl rfl ?_
                clear hK a; intro a hK
                refine wpList_nil ?_
                refine xt_norm ?_
                refine wp_seq ?_
                refine wp_seq ?_
                refine wp_region_lit ?_
                refine st_op (d := 72) (v' := .pointer (some ⟨g1, 2, none⟩)) (vs := []) (obs := []) hK rfl (fun _ => by kernel_rfl) trivial rfl rfl rfl ?_
                clear hK a; intro a hK
                refine st_op (d := 73) (v' := .slice L.oa L.op.length L.oc) (vs := [.slice L.oa L.op.length L.oc]) (obs := [(⟨g1, 2, none⟩, .slice L.oa L.op.length L.oc)]) hK rfl (fun _ => by kernel_rfl) ⟨((hE.blk 5 rfl).cell 2).trans rfl, trivial⟩ rfl rfl rfl ?_
                clear hK a; intro a hK
                refine st_op (d := 74) (v' := .int .i64 ((L.op.length : Nat) : Int)) (vs := []) (obs := []) hK rfl (fun _ => by kernel_rfl) trivial rfl rfl rfl ?_
                clear hK a; intro a hK
                refine st_op (d := 75) (v' := .int .i64 0) (vs := []) (obs := []) hK rfl (fun _ => by kernel_rfl) trivial rfl rfl rfl ?_
                clear hK a; intro a hK
                refine wpList_nil ?_
                refine xt_norm ?_
                refine wp_block ?_
                refine vc_loop (γ := Nat) (fun j a w_ => Kn 181 [(4, .pointer (some ⟨g1, 0, none⟩)), (5, .pointer (some ⟨g3, 0, none⟩)), (6, .pointer (some ⟨g5, 0, none⟩)), (7, .pointer (some ⟨g7, 0, none⟩)), (8, .bool false), (9, .bool true), (58, .slice t.ra t.t.reads.length t.rc), (59, .int .i64 ((t.t.reads.length : Nat) : Int)), (60, .int .i64 ((k : Nat) : Int)), (10, .bool (newR L.d (t.t.reads.take k))), (61, .bool true), (62, .pointer (some ⟨b25, o26 + k * 2, none⟩)), (63, .agg #[.int .i64 x23.key, .int .i64 x23.ts]), (12, .pointer (some ⟨g28, 0, none⟩)), (65, .pointer (some ⟨g1, 1, none⟩)), (66, .slice L.sa L.st.length L.sc), (67, .pointer (some ⟨g28, 0, none⟩)), (68, .int .i64 x23.key), (69, .tuple #[.int .i64 (newestRS L.st x23.key).1, .int .i64 (newestRS L.st x23.key).2]), (64, .tuple #[.int .i64 (newestRS L.st x23.key).1, .int .i64 (newestRS L.st x23.key).2]), (70, .int .i64 (newestRS L.st x23.key).1), (71, .int .i64 (newestRS L.st x23.key).2), (72, .pointer (some ⟨g1, 2, none⟩)), (73, .slice L.oa L.op.length L.oc), (74, .int .i64 ((L.op.length : Nat) : Int)), (75, .int .i64 ((j : Nat) : Int)), (13, .int .i64 (((txs L.op).take j).foldl (nwTx x23.key) (newestRS L.st x23.key).1))] a ∧ Ev w w_ [.blk g28 65 #[.int .i64 x23.key, .int .i64 x23.ts], .blk g12 29 #[.int .i64 t.t.id, .int .i64 t.t.ts, .slice t.ra t.t.reads.length t.rc, .slice t.wa t.t.writes.length t.wc, .int .i64 u.t.id, .int .i64 u.t.ts, .slice u.ra u.t.reads.length u.rc, .slice u.wa u.t.writes.length u.wc], .blk g7 31 #[.int .i64 lo, .int .i64 hi], .blk g5 29 #[.int .i64 u.t.id, .int .i64 u.t.ts, .slice u.ra u.t.reads.length u.rc, .slice u.wa u.t.writes.length u.wc], .blk g3 29 #[.int .i64 t.t.id, .int .i64 t.t.ts, .slice t.ra t.t.reads.length t.rc, .slice t.wa t.t.writes.length t.wc], .blk g1 25 #[.int .i64 L.last, .slice L.sa L.st.length L.sc, .slice L.oa L.op.length L.oc], .dat (fun W => RS Sn.cells W u.ra u.t.reads), .dat (fun W => RS Wr.cells W t.wa t.t.writes), .dat (fun W => Rec W b25 (o26 + k * 2) (Sn.cells x23)), .dat (fun W => ∀ i x, t.t.reads[i]? = some x → Rec W b25 (o26 + i * 2) (Sn.cells x)), .dat (fun W => RS Sn.cells W t.ra t.t.reads), .dat (fun W => TxW W u), .dat (fun W => TxW W t), .dat (fun W => RS TxV.cells W L.oa L.op), .dat (fun W => LdW W L)] ∧ (j ≤ L.op.length) ∧ (True)) (fun j => L.op.length - j) 0 ?_ ?_
                · replace hK := hK.sub (d := 75) (v' := .int .i64 ((0 : Nat) : Int)) rfl (by first | rfl | (congr 1; omega))
                  replace hK := hK.sub (d := 13) (v' := .int .i64 (((txs L.op).take 0).foldl (nwTx x23.key) (newestRS L.st x23.key).1)) rfl (rfl)
                  refine ⟨hK.weak ⟨rfl, rfl, rfl, rfl, rfl, rfl, rfl, rfl, rfl, rfl, rfl, rfl, rfl, rfl, rfl, rfl, rfl, rfl, rfl, rfl, rfl, rfl, rfl, rfl, rfl, rfl, rfl, trivial⟩, hE, by omega, trivial⟩
                · clear hK hE a; rintro j a w32 ⟨hK, hE, hf33, -⟩
                  refine wp_seq ?_
                  refine wp_region_lit ?_
                  refine st_op (d := 76) (v' := .bool (decide (((j : Nat) : Int) < ((L.op.length : Nat) : Int)))) (vs := []) (obs := []) hK rfl (fun _ => by kernel_rfl) trivial rfl rfl rfl ?_
                  clear hK a; intro a hK
                  refine wpList_nil ?_
                  refine xt_norm ?_
                  refine wp_seq ?_
                  rcases Bool.eq_false_or_eq_true (decide (((j : Nat) : Int) < ((L.op.length : Nat) : Int))) with hc34 | hc34
                  · have hc34p := of_decide_eq_true hc34
                    replace hK := hK.sub (d := 76) (v' := .bool true) rfl (congrArg Value.bool hc34)
                    refine vc_cond (t := true) hK (fun _ => rfl) ?_
                    rw [if_pos rfl]
                    refine wp_skip ?_
                    refine xt_norm ?_
                    refine wp_seq ?_
                    refine wp_block ?_
                    refine wp_seq ?_
                    refine wp_region_lit ?_
                    obtain ⟨x35, hx36⟩ : ∃ x, L.op[j]? = some x := ⟨_, List.getElem?_eq_getElem (by omega)⟩
                    obtain ⟨b37, o38, hA39⟩ := row_some (f := TxV.cells) (m := 4) TxV.len (hE.get 13 rfl) (by decide) hx36
                    replace hE := hE.from_ 13 rfl (p := fun W => ∀ i x, L.op[i]? = some x → Rec W b37 (o38 + i * 4) (TxV.cells x)) (fun W hq => row_recs TxV.len (by decide) hA39 hq)
                    replace hE := hE.from_ 13 rfl (p := fun W => Rec W b37 (o38 + j * 4) (TxV.cells x35)) (fun W hq => hq _ _ hx36)
                    replace hE := hE.from_ 16 rfl (p := fun W => RS Wr.cells W x35.wa x35.t.writes) (fun W hq => ((LdW.o hq).each _ (List.mem_of_getElem? hx36)).s)
                    have hwl := (LdW.o (hE.get 17 rfl)).each _ (List.mem_of_getElem? hx36)
                    have hw1 := hwl.wl; have hw2 := hwl.wm; simp only [maxLen] at hw2; clear hwl
                    refine st_ix (d := 77) (j := j) (m := 4) hK rfl rfl (fun _ => congrArg (fun A => Value.slice A L.op.length L.oc) hA39) (fun _ => rfl) (by omega) (by have := (List.getElem?_eq_some_iff.1 hx36).1; omega) Try.underlying23 rfl rfl rfl rfl ?_
                    clear hK a; intro a hK
                    refine st_op (d := 78) (v' := .agg #[.int .i64 x35.t.id, .int .i64 x35.t.ts, .slice x35.ra x35.t.reads.length x35.rc, .slice x35.wa x35.t.writes.length x35.wc]) (vs := [.int .i64 x35.t.id, .int .i64 x35.t.ts, .slice x35.ra x35.t.reads.length x35.rc, .slice x35.wa x35.t.writes.length x35.wc]) (obs := [(⟨b37, o38 + j * 4, none⟩, .int .i64 x35.t.id), (⟨b37, o38 + j * 4 + 1, none⟩, .int .i64 x35.t.ts), (⟨b37, o38 + j * 4 + 2, none⟩, .slice x35.ra x35.t.reads.length x35.rc), (⟨b37, o38 + j * 4 + 3, none⟩, .slice x35.wa x35.t.writes.length x35.wc)]) hK rfl (fun _ => by kernel_rfl) ⟨(hE.get 13 rfl) 0 _ rfl, (hE.get 13 rfl) 1 _ rfl, (hE.get 13 rfl) 2 _ rfl, (hE.get 13 rfl) 3 _ rfl, trivial⟩ rfl rfl rfl ?_
                    clear hK a; intro a hK
                    refine st_new (d := 16) (v := fun g => .pointer (some ⟨g, 0, none⟩)) (cs := #[.int .i64 0, .int .i64 0, .slice none 0 0, .slice none 0 0]) (t := 29) hK hE rfl (fun _ _ => by kernel_rfl) rfl rfl ?_
                    clear hK hE a; intro a g40 w41 _ _ hK hE
                    refine st_store2 0 [(0, .int .i64 x35.t.id), (1, .int .i64 x35.t.ts), (2, .slice x35.ra x35.t.reads.length x35.rc), (3, .slice x35.wa x35.t.writes.length x35.wc)] hK hE rfl rfl (fun _ => by kernel_rfl) rfl rfl rfl ?_
                    clear hE; intro w42 hs_ hk_ hE
                    clear hs_ hk_
                    refine wpList_nil ?_
                    replace hK := hK.weak (K' := [(4, .pointer (some ⟨g1, 0, none⟩)), (5, .pointer (some ⟨g3, 0, none⟩)), (6, .pointer (some ⟨g5, 0, none⟩)), (7, .pointer (some ⟨g7, 0, none⟩)), (8, .bool false), (9, .bool true), (58, .slice t.ra t.t.reads.length t.rc), (59, .int .i64 ((t.t.reads.length : Nat) : Int)), (60, .int .i64 ((k : Nat) : Int)), (10, .bool (newR L.d (t.t.reads.take k))), (61, .bool true), (62, .pointer (some ⟨b25, o26 + k * 2, none⟩)), (63, .agg #[.int .i64 x23.key, .int .i64 x23.ts]), (12, .pointer (some ⟨g28, 0, none⟩)), (65, .pointer (some ⟨g1, 1, none⟩)), (66, .slice L.sa L.st.length L.sc), (67, .pointer (some ⟨g28, 0, none⟩)), (68, .int .i64 x23.key), (69, .tuple #[.int .i64 (newestRS L.st x23.key).1, .int .i64 (newestRS L.st x23.key).2]), (64, .tuple #[.int .i64 (newestRS L.st x23.key).1, .int .i64 (newestRS L.st x23.key).2]), (70, .int .i64 (newestRS L.st x23.key).1), (71, .int .i64 (newestRS L.st x23.key).2), (72, .pointer (some ⟨g1, 2, none⟩)), (73, .slice L.oa L.op.length L.oc), (74, .int .i64 ((L.op.length : Nat) : Int)), (75, .int .i64 ((j : Nat) : Int)), (13, .int .i64 (((txs L.op).take j).foldl (nwTx x23.key) (newestRS L.st x23.key).1)), (76, .bool true), (77, .pointer (some ⟨b37, o38 + j * 4, none⟩)), (78, .agg #[.int .i64 x35.t.id, .int .i64 x35.t.ts, .slice x35.ra x35.t.reads.length x35.rc, .slice x35.wa x35.t.writes.length x35.wc]), (16, .pointer (some ⟨g40, 0, none⟩))]) ⟨rfl, rfl, rfl, rfl, rfl, rfl, rfl, rfl, rfl, rfl, rfl, rfl, rfl, rfl, rfl, rfl, rfl, rfl, rfl, rfl, rfl, rfl, rfl, rfl, rfl, rfl, rfl, rfl, rfl, rfl, rfl, trivial⟩
                    refine xt_norm ?_
                    refine wp_seq ?_
                    refine wp_region_lit ?_
                    refine st_op (d := 79) (v' := .pointer (some ⟨g40, 3, none⟩)) (vs := []) (obs := []) hK rfl (fun _ => by kernel_rfl) trivial rfl rfl rfl ?_
                    clear hK a; intro a hK
                    refine st_op (d := 80) (v' := .slice x35.wa x35.t.writes.length x35.wc) (vs := [.slice x35.wa x35.t.writes.length x35.wc]) (obs := [(⟨g40, 3, none⟩, .slice x35.wa x35.t.writes.length x35.wc)]) hK rfl (fun _ => by kernel_rfl) ⟨((hE.blk 0 rfl).cell 3).trans rfl, trivial⟩ rfl rfl rfl ?_
                    clear hK a; intro a hK
                    refine st_op (d := 81) (v' := .int .i64 ((x35.t.writes.length : Nat) : Int)) (vs := []) (obs := []) hK rfl (fun _ => by kernel_rfl) trivial rfl rfl rfl ?_
                    clear hK a; intro a hK
                    refine st_op (d := 82) (v' := .int .i64 0) (vs := []) (obs := []) hK rfl (fun _ => by kernel_rfl) trivial rfl rfl rfl ?_
                    clear hK a; intro a hK
                    refine wpList_nil ?_
                    replace hK := hK.weak (K' := [(4, .pointer (some ⟨g1, 0, none⟩)), (5, .pointer (some ⟨g3, 0, none⟩)), (6, .pointer (some ⟨g5, 0, none⟩)), (7, .pointer (some ⟨g7, 0, none⟩)), (8, .bool false), (9, .bool true), (58, .slice t.ra t.t.reads.length t.rc), (59, .int .i64 ((t.t.reads.length : Nat) : Int)), (60, .int .i64 ((k : Nat) : Int)), (10, .bool (newR L.d (t.t.reads.take k))), (61, .bool true), (62, .pointer (some ⟨b25, o26 + k * 2, none⟩)), (63, .agg #[.int .i64 x23.key, .int .i64 x23.ts]), (12, .pointer (some ⟨g28, 0, none⟩)), (65, .pointer (some ⟨g1, 1, none⟩)), (66, .slice L.sa L.st.length L.sc), (67, .pointer (some ⟨g28, 0, none⟩)), (68, .int .i64 x23.key), (69, .tuple #[.int .i64 (newestRS L.st x23.key).1, .int .i64 (newestRS L.st x23.key).2]), (64, .tuple #[.int .i64 (newestRS L.st x23.key).1, .int .i64 (newestRS L.st x23.key).2]), (70, .int .i64 (newestRS L.st x23.key).1), (71, .int .i64 (newestRS L.st x23.key).2), (72, .pointer (some ⟨g1, 2, none⟩)), (73, .slice L.oa L.op.length L.oc), (74, .int .i64 ((L.op.length : Nat) : Int)), (75, .int .i64 ((j : Nat) : Int)), (13, .int .i64 (((txs L.op).take j).foldl (nwTx x23.key) (newestRS L.st x23.key).1)), (76, .bool true), (77, .pointer (some ⟨b37, o38 + j * 4, none⟩)), (78, .agg #[.int .i64 x35.t.id, .int .i64 x35.t.ts, .slice x35.ra x35.t.reads.length x35.rc, .slice x35.wa x35.t.writes.length x35.wc]), (16, .pointer (some ⟨g40, 0, none⟩)), (79, .pointer (some ⟨g40, 3, none⟩)), (80, .slice x35.wa x35.t.writes.length x35.wc), (81, .int .i64 ((x35.t.writes.length : Nat) : Int)), (82, .int .i64 0)]) ⟨rfl, rfl, rfl, rfl, rfl, rfl, rfl, rfl, rfl, rfl, rfl, rfl, rfl, rfl, rfl, rfl, rfl, rfl, rfl, rfl, rfl, rfl, rfl, rfl, rfl, rfl, rfl, rfl, rfl, rfl, rfl, rfl, rfl, rfl, rfl, trivial⟩
                    refine xt_norm ?_
                    refine wp_block ?_
                    refine vc_loop (γ := Nat) (fun i a w_ => Kn 181 [(4, .pointer (some ⟨g1, 0, none⟩)), (5, .pointer (some ⟨g3, 0, none⟩)), (6, .pointer (some ⟨g5, 0, none⟩)), (7, .pointer (some ⟨g7, 0, none⟩)), (8, .bool false), (9, .bool true), (58, .slice t.ra t.t.reads.length t.rc), (59, .int .i64 ((t.t.reads.length : Nat) : Int)), (60, .int .i64 ((k : Nat) : Int)), (10, .bool (newR L.d (t.t.reads.take k))), (61, .bool true), (62, .pointer (some ⟨b25, o26 + k * 2, none⟩)), (63, .agg #[.int .i64 x23.key, .int .i64 x23.ts]), (12, .pointer (some ⟨g28, 0, none⟩)), (65, .pointer (some ⟨g1, 1, none⟩)), (66, .slice L.sa L.st.length L.sc), (67, .pointer (some ⟨g28, 0, none⟩)), (68, .int .i64 x23.key), (69, .tuple #[.int .i64 (newestRS L.st x23.key).1, .int .i64 (newestRS L.st x23.key).2]), (64, .tuple #[.int .i64 (newestRS L.st x23.key).1, .int .i64 (newestRS L.st x23.key).2]), (70, .int .i64 (newestRS L.st x23.key).1), (71, .int .i64 (newestRS L.st x23.key).2), (72, .pointer (some ⟨g1, 2, none⟩)), (73, .slice L.oa L.op.length L.oc), (74, .int .i64 ((L.op.length : Nat) : Int)), (75, .int .i64 ((j : Nat) : Int)), (76, .bool true), (77, .pointer (some ⟨b37, o38 + j * 4, none⟩)), (78, .agg #[.int .i64 x35.t.id, .int .i64 x35.t.ts, .slice x35.ra x35.t.reads.length x35.rc, .slice x35.wa x35.t.writes.length x35.wc]), (16, .pointer (some ⟨g40, 0, none⟩)), (79, .pointer (some ⟨g40, 3, none⟩)), (80, .slice x35.wa x35.t.writes.length x35.wc), (81, .int .i64 ((x35.t.writes.length : Nat) : Int)), (82, .int .i64 ((i : Nat) : Int)), (13, .int .i64 (nwW x23.key x35.t.ts (x35.t.writes.take i) (((txs L.op).take j).foldl (nwTx x23.key) (newestRS L.st x23.key).1)))] a ∧ Ev w w_ [.blk g40 29 #[.int .i64 x35.t.id, .int .i64 x35.t.ts, .slice x35.ra x35.t.reads.length x35.rc, .slice x35.wa x35.t.writes.length x35.wc], .blk g28 65 #[.int .i64 x23.key, .int .i64 x23.ts], .blk g12 29 #[.int .i64 t.t.id, .int .i64 t.t.ts, .slice t.ra t.t.reads.length t.rc, .slice t.wa t.t.writes.length t.wc, .int .i64 u.t.id, .int .i64 u.t.ts, .slice u.ra u.t.reads.length u.rc, .slice u.wa u.t.writes.length u.wc], .blk g7 31 #[.int .i64 lo, .int .i64 hi], .blk g5 29 #[.int .i64 u.t.id, .int .i64 u.t.ts, .slice u.ra u.t.reads.length u.rc, .slice u.wa u.t.writes.length u.wc], .blk g3 29 #[.int .i64 t.t.id, .int .i64 t.t.ts, .slice t.ra t.t.reads.length t.rc, .slice t.wa t.t.writes.length t.wc], .blk g1 25 #[.int .i64 L.last, .slice L.sa L.st.length L.sc, .slice L.oa L.op.length L.oc], .dat (fun W => RS Sn.cells W u.ra u.t.reads), .dat (fun W => RS Wr.cells W t.wa t.t.writes), .dat (fun W => Rec W b25 (o26 + k * 2) (Sn.cells x23)), .dat (fun W => ∀ i x, t.t.reads[i]? = some x → Rec W b25 (o26 + i * 2) (Sn.cells x)), .dat (fun W => RS Sn.cells W t.ra t.t.reads), .dat (fun W => TxW W u), .dat (fun W => TxW W t), .dat (fun W => Rec W b37 (o38 + j * 4) (TxV.cells x35)), .dat (fun W => ∀ i x, L.op[i]? = some x → Rec W b37 (o38 + i * 4) (TxV.cells x)), .dat (fun W => RS TxV.cells W L.oa L.op), .dat (fun W => RS Wr.cells W x35.wa x35.t.writes), .dat (fun W => LdW W L)] ∧ (i ≤ x35.t.writes.length) ∧ (True)) (fun i => x35.t.writes.length - i) 0 ?_ ?_
                    · replace hK := hK.sub (d := 82) (v' := .int .i64 ((0 : Nat) : Int)) rfl (by first | rfl | (congr 1; omega))
                      replace hK := hK.sub (d := 13) (v' := .int .i64 (nwW x23.key x35.t.ts (x35.t.writes.take 0) (((txs L.op).take j).foldl (nwTx x23.key) (newestRS L.st x23.key).1))) rfl (rfl)
                      refine ⟨hK.weak ⟨rfl, rfl, rfl, rfl, rfl, rfl, rfl, rfl, rfl, rfl, rfl, rfl, rfl, rfl, rfl, rfl, rfl, rfl, rfl, rfl, rfl, rfl, rfl, rfl, rfl, rfl, rfl, rfl, rfl, rfl, rfl, rfl, rfl, rfl, rfl, trivial⟩, hE, by omega, trivial⟩
                    · clear hK hE a; rintro i a w43 ⟨hK, hE, hf44, -⟩
                      refine wp_seq ?_
                      refine wp_region_lit ?_
                      refine st_op (d := 83) (v' := .bool (decide (((i : Nat) : Int) < ((x35.t.writes.length : Nat) : Int)))) (vs := []) (obs := []) hK rfl (fun _ => by kernel_rfl) trivial rfl rfl rfl ?_
                      clear hK a; intro a hK
                      refine wpList_nil ?_
                      replace hK := hK.weak (K' := [(4, .pointer (some ⟨g1, 0, none⟩)), (5, .pointer (some ⟨g3, 0, none⟩)), (6, .pointer (some ⟨g5, 0, none⟩)), (7, .pointer (some ⟨g7, 0, none⟩)), (8, .bool false), (9, .bool true), (58, .slice t.ra t.t.reads.length t.rc), (59, .int .i64 ((t.t.reads.length : Nat) : Int)), (60, .int .i64 ((k : Nat) : Int)), (10, .bool (newR L.d (t.t.reads.take k))), (61, .bool true), (62, .pointer (some ⟨b25, o26 + k * 2, none⟩)), (63, .agg #[.int .i64 x23.key, .int .i64 x23.ts]), (12, .pointer (some ⟨g28, 0, none⟩)), (65, .pointer (some ⟨g1, 1, none⟩)), (66, .slice L.sa L.st.length L.sc), (67, .pointer (some ⟨g28, 0, none⟩)), (68, .int .i64 x23.key), (69, .tuple #[.int .i64 (newestRS L.st x23.key).1, .int .i64 (newestRS L.st x23.key).2]), (64, .tuple #[.int .i64 (newestRS L.st x23.key).1, .int .i64 (newestRS L.st x23.key).2]), (70, .int .i64 (newestRS L.st x23.key).1), (71, .int .i64 (newestRS L.st x23.key).2), (72, .pointer (some ⟨g1, 2, none⟩)), (73, .slice L.oa L.op.length L.oc), (74, .int .i64 ((L.op.length : Nat) : Int)), (75, .int .i64 ((j : Nat) : Int)), (76, .bool true), (77, .pointer (some ⟨b37, o38 + j * 4, none⟩)), (78, .agg #[.int .i64 x35.t.id, .int .i64 x35.t.ts, .slice x35.ra x35.t.reads.length x35.rc, .slice x35.wa x35.t.writes.length x35.wc]), (16, .pointer (some ⟨g40, 0, none⟩)), (79, .pointer (some ⟨g40, 3, none⟩)), (80, .slice x35.wa x35.t.writes.length x35.wc), (81, .int .i64 ((x35.t.writes.length : Nat) : Int)), (82, .int .i64 ((i : Nat) : Int)), (13, .int .i64 (nwW x23.key x35.t.ts (x35.t.writes.take i) (((txs L.op).take j).foldl (nwTx x23.key) (newestRS L.st x23.key).1))), (83, .bool (decide (((i : Nat) : Int) < ((x35.t.writes.length : Nat) : Int))))]) ⟨rfl, rfl, rfl, rfl, rfl, rfl, rfl, rfl, rfl, rfl, rfl, rfl, rfl, rfl, rfl, rfl, rfl, rfl, rfl, rfl, rfl, rfl, rfl, rfl, rfl, rfl, rfl, rfl, rfl, rfl, rfl, rfl, rfl, rfl, rfl, rfl, trivial⟩
                      refine xt_norm ?_
                      refine wp_seq ?_
                      rcases Bool.eq_false_or_eq_true (decide (((i : Nat) : Int) < ((x35.t.writes.length : Nat) : Int))) with hc45 | hc45
                      · have hc45p := of_decide_eq_true hc45
                        replace hK := hK.sub (d := 83) (v' := .bool true) rfl (congrArg Value.bool hc45)
                        refine vc_cond (t := true) hK (fun _ => rfl) ?_
                        rw [if_pos rfl]
                        refine wp_skip ?_
                        refine xt_norm ?_
                        refine wp_seq ?_
                        refine wp_block ?_
                        refine wp_seq ?_
                        refine wp_region_lit ?_
                        obtain ⟨x46, hx47⟩ : ∃ x, x35.t.writes[i]? = some x := ⟨_, List.getElem?_eq_getElem (by omega)⟩
                        obtain ⟨b48, o49, hA50⟩ := row_some (f := Wr.cells) (m := 3) (fun _ => rfl) (hE.get 17 rfl) (by decide) hx47
                        replace hE := hE.from_ 17 rfl (p := fun W => ∀ i x, x35.t.writes[i]? = some x → Rec W b48 (o49 + i * 3) (Wr.cells x)) (fun W hq => row_recs (fun _ => rfl) (by decide) hA50 hq)
                        replace hE := hE.from_ 17 rfl (p := fun W => Rec W b48 (o49 + i * 3) (Wr.cells x46)) (fun W hq => hq _ _ hx47)
                        refine st_ix (d := 84) (j := i) (m := 3) hK rfl rfl (fun _ => congrArg (fun A => Value.slice A x35.t.writes.length x35.wc) hA50) (fun _ => rfl) (by omega) (by have := (List.getElem?_eq_some_iff.1 hx47).1; omega) Try.underlying27 rfl rfl rfl rfl ?_
                        clear hK a; intro a hK
                        refine st_op (d := 85) (v' := .agg #[.int .i64 x46.key, .int .i64 x46.value, .bool x46.gone]) (vs := [.int .i64 x46.key, .int .i64 x46.value, .bool x46.gone]) (obs := [(⟨b48, o49 + i * 3, none⟩, .int .i64 x46.key), (⟨b48, o49 + i * 3 + 1, none⟩, .int .i64 x46.value), (⟨b48, o49 + i * 3 + 2, none⟩, .bool x46.gone)]) hK rfl (fun _ => by kernel_rfl) ⟨(hE.get 17 rfl) 0 _ rfl, (hE.get 17 rfl) 1 _ rfl, (hE.get 17 rfl) 2 _ rfl, trivial⟩ rfl rfl rfl ?_
                        clear hK a; intro a hK
                        refine st_new (d := 18) (v := fun g => .pointer (some ⟨g, 0, none⟩)) (cs := #[.int .i64 0, .int .i64 0, .bool false]) (t := 60) hK hE rfl (fun _ _ => by kernel_rfl) rfl rfl ?_
                        clear hK hE a; intro a g51 w52 _ _ hK hE
                        refine st_store2 0 [(0, .int .i64 x46.key), (1, .int .i64 x46.value), (2, .bool x46.gone)] hK hE rfl rfl (fun _ => by kernel_rfl) rfl rfl rfl ?_
                        clear hE; intro w53 hs_ hk_ hE
                        clear hs_ hk_
                        refine wpList_nil ?_
                        replace hK := hK.weak (K' := [(4, .pointer (some ⟨g1, 0, none⟩)), (5, .pointer (some ⟨g3, 0, none⟩)), (6, .pointer (some ⟨g5, 0, none⟩)), (7, .pointer (some ⟨g7, 0, none⟩)), (8, .bool false), (9, .bool true), (58, .slice t.ra t.t.reads.length t.rc), (59, .int .i64 ((t.t.reads.length : Nat) : Int)), (60, .int .i64 ((k : Nat) : Int)), (10, .bool (newR L.d (t.t.reads.take k))), (61, .bool true), (62, .pointer (some ⟨b25, o26 + k * 2, none⟩)), (63, .agg #[.int .i64 x23.key, .int .i64 x23.ts]), (12, .pointer (some ⟨g28, 0, none⟩)), (65, .pointer (some ⟨g1, 1, none⟩)), (66, .slice L.sa L.st.length L.sc), (67, .pointer (some ⟨g28, 0, none⟩)), (68, .int .i64 x23.key), (69, .tuple #[.int .i64 (newestRS L.st x23.key).1, .int .i64 (newestRS L.st x23.key).2]), (64, .tuple #[.int .i64 (newestRS L.st x23.key).1, .int .i64 (newestRS L.st x23.key).2]), (70, .int .i64 (newestRS L.st x23.key).1), (71, .int .i64 (newestRS L.st x23.key).2), (72, .pointer (some ⟨g1, 2, none⟩)), (73, .slice L.oa L.op.length L.oc), (74, .int .i64 ((L.op.length : Nat) : Int)), (75, .int .i64 ((j : Nat) : Int)), (76, .bool true), (77, .pointer (some ⟨b37, o38 + j * 4, none⟩)), (78, .agg #[.int .i64 x35.t.id, .int .i64 x35.t.ts, .slice x35.ra x35.t.reads.length x35.rc, .slice x35.wa x35.t.writes.length x35.wc]), (16, .pointer (some ⟨g40, 0, none⟩)), (79, .pointer (some ⟨g40, 3, none⟩)), (80, .slice x35.wa x35.t.writes.length x35.wc), (81, .int .i64 ((x35.t.writes.length : Nat) : Int)), (82, .int .i64 ((i : Nat) : Int)), (13, .int .i64 (nwW x23.key x35.t.ts (x35.t.writes.take i) (((txs L.op).take j).foldl (nwTx x23.key) (newestRS L.st x23.key).1))), (83, .bool true), (84, .pointer (some ⟨b48, o49 + i * 3, none⟩)), (85, .agg #[.int .i64 x46.key, .int .i64 x46.value, .bool x46.gone]), (18, .pointer (some ⟨g51, 0, none⟩))]) ⟨rfl, rfl, rfl, rfl, rfl, rfl, rfl, rfl, rfl, rfl, rfl, rfl, rfl, rfl, rfl, rfl, rfl, rfl, rfl, rfl, rfl, rfl, rfl, rfl, rfl, rfl, rfl, rfl, rfl, rfl, rfl, rfl, rfl, rfl, rfl, rfl, rfl, rfl, rfl, trivial⟩
                        refine xt_norm ?_
                        refine wp_seq ?_
                        refine wp_region_lit ?_
                        refine st_op (d := 86) (v' := .pointer (some ⟨g51, 0, none⟩)) (vs := []) (obs := []) hK rfl (fun _ => by kernel_rfl) trivial rfl rfl rfl ?_
                        clear hK a; intro a hK
                        refine st_op (d := 87) (v' := .int .i64 x46.key) (vs := [.int .i64 x46.key]) (obs := [(⟨g51, 0, none⟩, .int .i64 x46.key)]) hK rfl (fun _ => by kernel_rfl) ⟨((hE.blk 0 rfl).cell 0).trans rfl, trivial⟩ rfl rfl rfl ?_
                        clear hK a; intro a hK
                        refine st_op (d := 88) (v' := .pointer (some ⟨g28, 0, none⟩)) (vs := []) (obs := []) hK rfl (fun _ => by kernel_rfl) trivial rfl rfl rfl ?_
                        clear hK a; intro a hK
                        refine st_op (d := 89) (v' := .int .i64 x23.key) (vs := [.int .i64 x23.key]) (obs := [(⟨g28, 0, none⟩, .int .i64 x23.key)]) hK rfl (fun _ => by kernel_rfl) ⟨((hE.blk 2 rfl).cell 0).trans rfl, trivial⟩ rfl rfl rfl ?_
                        clear hK a; intro a hK
                        refine st_op (d := 90) (v' := .bool (x46.key == x23.key)) (vs := []) (obs := []) hK rfl (fun _ => by kernel_rfl) trivial rfl rfl rfl ?_
                        clear hK a; intro a hK
                        refine wpList_nil ?_
                        replace hK := hK.weak (K' := [(4, .pointer (some ⟨g1, 0, none⟩)), (5, .pointer (some ⟨g3, 0, none⟩)), (6, .pointer (some ⟨g5, 0, none⟩)), (7, .pointer (some ⟨g7, 0, none⟩)), (8, .bool false), (9, .bool true), (58, .slice t.ra t.t.reads.length t.rc), (59, .int .i64 ((t.t.reads.length : Nat) : Int)), (60, .int .i64 ((k : Nat) : Int)), (10, .bool (newR L.d (t.t.reads.take k))), (61, .bool true), (62, .pointer (some ⟨b25, o26 + k * 2, none⟩)), (63, .agg #[.int .i64 x23.key, .int .i64 x23.ts]), (12, .pointer (some ⟨g28, 0, none⟩)), (65, .pointer (some ⟨g1, 1, none⟩)), (66, .slice L.sa L.st.length L.sc), (67, .pointer (some ⟨g28, 0, none⟩)), (68, .int .i64 x23.key), (69, .tuple #[.int .i64 (newestRS L.st x23.key).1, .int .i64 (newestRS L.st x23.key).2]), (64, .tuple #[.int .i64 (newestRS L.st x23.key).1, .int .i64 (newestRS L.st x23.key).2]), (70, .int .i64 (newestRS L.st x23.key).1), (71, .int .i64 (newestRS L.st x23.key).2), (72, .pointer (some ⟨g1, 2, none⟩)), (73, .slice L.oa L.op.length L.oc), (74, .int .i64 ((L.op.length : Nat) : Int)), (75, .int .i64 ((j : Nat) : Int)), (76, .bool true), (77, .pointer (some ⟨b37, o38 + j * 4, none⟩)), (78, .agg #[.int .i64 x35.t.id, .int .i64 x35.t.ts, .slice x35.ra x35.t.reads.length x35.rc, .slice x35.wa x35.t.writes.length x35.wc]), (16, .pointer (some ⟨g40, 0, none⟩)), (79, .pointer (some ⟨g40, 3, none⟩)), (80, .slice x35.wa x35.t.writes.length x35.wc), (81, .int .i64 ((x35.t.writes.length : Nat) : Int)), (82, .int .i64 ((i : Nat) : Int)), (13, .int .i64 (nwW x23.key x35.t.ts (x35.t.writes.take i) (((txs L.op).take j).foldl (nwTx x23.key) (newestRS L.st x23.key).1))), (83, .bool true), (84, .pointer (some ⟨b48, o49 + i * 3, none⟩)), (85, .agg #[.int .i64 x46.key, .int .i64 x46.value, .bool x46.gone]), (18, .pointer (some ⟨g51, 0, none⟩)), (86, .pointer (some ⟨g51, 0, none⟩)), (87, .int .i64 x46.key), (88, .pointer (some ⟨g28, 0, none⟩)), (89, .int .i64 x23.key), (90, .bool (x46.key == x23.key))]) ⟨rfl, rfl, rfl, rfl, rfl, rfl, rfl, rfl, rfl, rfl, rfl, rfl, rfl, rfl, rfl, rfl, rfl, rfl, rfl, rfl, rfl, rfl, rfl, rfl, rfl, rfl, rfl, rfl, rfl, rfl, rfl, rfl, rfl, rfl, rfl, rfl, rfl, rfl, rfl, rfl, rfl, rfl, rfl, rfl, trivial⟩
                        refine xt_norm ?_
                        rcases Bool.eq_false_or_eq_true ((x46.key == x23.key)) with hc54 | hc54
                        · have hc54p := eq_of_beq hc54
                          replace hK := hK.sub (d := 90) (v' := .bool true) rfl (congrArg Value.bool hc54)
                          refine vc_cond (t := true) hK (fun _ => rfl) ?_
                          rw [if_pos rfl]
                          refine wp_region_lit ?_
                          refine st_op (d := 91) (v' := .int .i64 (nwW x23.key x35.t.ts (x35.t.writes.take i) (((txs L.op).take j).foldl (nwTx x23.key) (newestRS L.st x23.key).1))) (vs := []) (obs := []) hK rfl (fun _ => by kernel_rfl) trivial rfl rfl rfl ?_
                          clear hK a; intro a hK
                          refine st_op (d := 92) (v' := .pointer (some ⟨g40, 1, none⟩)) (vs := []) (obs := []) hK rfl (fun _ => by kernel_rfl) trivial rfl rfl rfl ?_
                          clear hK a; intro a hK
                          refine st_op (d := 93) (v' := .int .i64 x35.t.ts) (vs := [.int .i64 x35.t.ts]) (obs := [(⟨g40, 1, none⟩, .int .i64 x35.t.ts)]) hK rfl (fun _ => by kernel_rfl) ⟨((hE.blk 1 rfl).cell 1).trans rfl, trivial⟩ rfl rfl rfl ?_
                          clear hK a; intro a hK
                          refine st_op (d := 94) (v' := .int .i64 (if x35.t.ts > (nwW x23.key x35.t.ts (x35.t.writes.take i) (((txs L.op).take j).foldl (nwTx x23.key) (newestRS L.st x23.key).1)) then x35.t.ts else (nwW x23.key x35.t.ts (x35.t.writes.take i) (((txs L.op).take j).foldl (nwTx x23.key) (newestRS L.st x23.key).1)))) (v := .int .i64 (max (nwW x23.key x35.t.ts (x35.t.writes.take i) (((txs L.op).take j).foldl (nwTx x23.key) (newestRS L.st x23.key).1)) x35.t.ts)) (vs := []) (obs := []) hK rfl (fun _ => by kernel_rfl) trivial (congrArg (Value.int .i64) (by omega)) rfl rfl ?_
                          clear hK a; intro a hK
                          refine st_op (d := 13) (v' := .int .i64 (max (nwW x23.key x35.t.ts (x35.t.writes.take i) (((txs L.op).take j).foldl (nwTx x23.key) (newestRS L.st x23.key).1)) x35.t.ts)) (vs := []) (obs := []) hK rfl (fun _ => by kernel_rfl) trivial rfl rfl rfl ?_
                          clear hK a; intro a hK
                          refine wpList_nil ?_
                          replace hK := hK.weak (K' := [(4, .pointer (some ⟨g1, 0, none⟩)), (5, .pointer (some ⟨g3, 0, none⟩)), (6, .pointer (some ⟨g5, 0, none⟩)), (7, .pointer (some ⟨g7, 0, none⟩)), (8, .bool false), (9, .bool true), (58, .slice t.ra t.t.reads.length t.rc), (59, .int .i64 ((t.t.reads.length : Nat) : Int)), (60, .int .i64 ((k : Nat) : Int)), (10, .bool (newR L.d (t.t.reads.take k))), (61, .bool true), (62, .pointer (some ⟨b25, o26 + k * 2, none⟩)), (63, .agg #[.int .i64 x23.key, .int .i64 x23.ts]), (12, .pointer (some ⟨g28, 0, none⟩)), (65, .pointer (some ⟨g1, 1, none⟩)), (66, .slice L.sa L.st.length L.sc), (67, .pointer (some ⟨g28, 0, none⟩)), (68, .int .i64 x23.key), (69, .tuple #[.int .i64 (newestRS L.st x23.key).1, .int .i64 (newestRS L.st x23.key).2]), (64, .tuple #[.int .i64 (newestRS L.st x23.key).1, .int .i64 (newestRS L.st x23.key).2]), (70, .int .i64 (newestRS L.st x23.key).1), (71, .int .i64 (newestRS L.st x23.key).2), (72, .pointer (some ⟨g1, 2, none⟩)), (73, .slice L.oa L.op.length L.oc), (74, .int .i64 ((L.op.length : Nat) : Int)), (75, .int .i64 ((j : Nat) : Int)), (76, .bool true), (77, .pointer (some ⟨b37, o38 + j * 4, none⟩)), (78, .agg #[.int .i64 x35.t.id, .int .i64 x35.t.ts, .slice x35.ra x35.t.reads.length x35.rc, .slice x35.wa x35.t.writes.length x35.wc]), (16, .pointer (some ⟨g40, 0, none⟩)), (79, .pointer (some ⟨g40, 3, none⟩)), (80, .slice x35.wa x35.t.writes.length x35.wc), (81, .int .i64 ((x35.t.writes.length : Nat) : Int)), (82, .int .i64 ((i : Nat) : Int)), (13, .int .i64 (max (nwW x23.key x35.t.ts (x35.t.writes.take i) (((txs L.op).take j).foldl (nwTx x23.key) (newestRS L.st x23.key).1)) x35.t.ts)), (83, .bool true), (84, .pointer (some ⟨b48, o49 + i * 3, none⟩)), (85, .agg #[.int .i64 x46.key, .int .i64 x46.value, .bool x46.gone]), (18, .pointer (some ⟨g51, 0, none⟩)), (86, .pointer (some ⟨g51, 0, none⟩)), (87, .int .i64 x46.key), (88, .pointer (some ⟨g28, 0, none⟩)), (89, .int .i64 x23.key), (90, .bool true), (91, .int .i64 (nwW x23.key x35.t.ts (x35.t.writes.take i) (((txs L.op).take j).foldl (nwTx x23.key) (newestRS L.st x23.key).1))), (92, .pointer (some ⟨g40, 1, none⟩)), (93, .int .i64 x35.t.ts), (94, .int .i64 (max (nwW x23.key x35.t.ts (x35.t.writes.take i) (((txs L.op).take j).foldl (nwTx x23.key) (newestRS L.st x23.key).1)) x35.t.ts))]) ⟨rfl, rfl, rfl, rfl, rfl, rfl, rfl, rfl, rfl, rfl, rfl, rfl, rfl, rfl, rfl, rfl, rfl, rfl, rfl, rfl, rfl, rfl, rfl, rfl, rfl, rfl, rfl, rfl, rfl, rfl, rfl, rfl, rfl, rfl, rfl, rfl, rfl, rfl, rfl, rfl, rfl, rfl, rfl, rfl, rfl, rfl, rfl, rfl, trivial⟩
                          refine xb_norm ?_
                          refine xt_norm ?_
                          refine wp_region_lit ?_
                          refine st_op (d := 95) (v' := .int .i64 (IntKind.i64.wrap (((i : Nat) : Int) + 1))) (v := .int .i64 (((i : Nat) : Int) + 1)) (vs := []) (obs := []) hK rfl (fun _ => by kernel_rfl) trivial (congrArg (Value.int .i64) (IntWalk.i64_in _ (by omega))) rfl rfl ?_
                          clear hK a; intro a hK
                          refine st_op (d := 82) (v' := .int .i64 (((i : Nat) : Int) + 1)) (vs := []) (obs := []) hK rfl (fun _ => by kernel_rfl) trivial rfl rfl rfl ?_
                          clear hK a; intro a hK
                          refine wpList_nil ?_
                          replace hK := hK.weak (K' := [(4, .pointer (some ⟨g1, 0, none⟩)), (5, .pointer (some ⟨g3, 0, none⟩)), (6, .pointer (some ⟨g5, 0, none⟩)), (7, .pointer (some ⟨g7, 0, none⟩)), (8, .bool false), (9, .bool true), (58, .slice t.ra t.t.reads.length t.rc), (59, .int .i64 ((t.t.reads.length : Nat) : Int)), (60, .int .i64 ((k : Nat) : Int)), (10, .bool (newR L.d (t.t.reads.take k))), (61, .bool true), (62, .pointer (some ⟨b25, o26 + k * 2, none⟩)), (63, .agg #[.int .i64 x23.key, .int .i64 x23.ts]), (12, .pointer (some ⟨g28, 0, none⟩)), (65, .pointer (some ⟨g1, 1, none⟩)), (66, .slice L.sa L.st.length L.sc), (67, .pointer (some ⟨g28, 0, none⟩)), (68, .int .i64 x23.key), (69, .tuple #[.int .i64 (newestRS L.st x23.key).1, .int .i64 (newestRS L.st x23.key).2]), (64, .tuple #[.int .i64 (newestRS L.st x23.key).1, .int .i64 (newestRS L.st x23.key).2]), (70, .int .i64 (newestRS L.st x23.key).1), (71, .int .i64 (newestRS L.st x23.key).2), (72, .pointer (some ⟨g1, 2, none⟩)), (73, .slice L.oa L.op.length L.oc), (74, .int .i64 ((L.op.length : Nat) : Int)), (75, .int .i64 ((j : Nat) : Int)), (76, .bool true), (77, .pointer (some ⟨b37, o38 + j * 4, none⟩)), (78, .agg #[.int .i64 x35.t.id, .int .i64 x35.t.ts, .slice x35.ra x35.t.reads.length x35.rc, .slice x35.wa x35.t.writes.length x35.wc]), (16, .pointer (some ⟨g40, 0, none⟩)), (79, .pointer (some ⟨g40, 3, none⟩)), (80, .slice x35.wa x35.t.writes.length x35.wc), (81, .int .i64 ((x35.t.writes.length : Nat) : Int)), (82, .int .i64 (((i : Nat) : Int) + 1)), (13, .int .i64 (max (nwW x23.key x35.t.ts (x35.t.writes.take i) (((txs L.op).take j).foldl (nwTx x23.key) (newestRS L.st x23.key).1)) x35.t.ts)), (83, .bool true), (84, .pointer (some ⟨b48, o49 + i * 3, none⟩)), (85, .agg #[.int .i64 x46.key, .int .i64 x46.value, .bool x46.gone]), (18, .pointer (some ⟨g51, 0, none⟩)), (86, .pointer (some ⟨g51, 0, none⟩)), (87, .int .i64 x46.key), (88, .pointer (some ⟨g28, 0, none⟩)), (89, .int .i64 x23.key), (90, .bool true), (91, .int .i64 (nwW x23.key x35.t.ts (x35.t.writes.take i) (((txs L.op).take j).foldl (nwTx x23.key) (newestRS L.st x23.key).1))), (92, .pointer (some ⟨g40, 1, none⟩)), (93, .int .i64 x35.t.ts), (94, .int .i64 (max (nwW x23.key x35.t.ts (x35.t.writes.take i) (((txs L.op).take j).foldl (nwTx x23.key) (newestRS L.st x23.key).1)) x35.t.ts)), (95, .int .i64 (((i : Nat) : Int) + 1))]) ⟨rfl, rfl, rfl, rfl, rfl, rfl, rfl, rfl, rfl, rfl, rfl, rfl, rfl, rfl, rfl, rfl, rfl, rfl, rfl, rfl, rfl, rfl, rfl, rfl, rfl, rfl, rfl, rfl, rfl, rfl, rfl, rfl, rfl, rfl, rfl, rfl, rfl, rfl, rfl, rfl, rfl, rfl, rfl, rfl, rfl, rfl, rfl, rfl, rfl, trivial⟩
                          refine xt_norm ?_
                          replace hK := hK.sub (d := 82) (v' := .int .i64 (((i + 1) : Nat) : Int)) rfl (by first | rfl | (congr 1; omega))
                          replace hK := hK.sub (d := 13) (v' := .int .i64 (nwW x23.key x35.t.ts (x35.t.writes.take (i + 1)) (((txs L.op).take j).foldl (nwTx x23.key) (newestRS L.st x23.key).1))) rfl (congrArg (Value.int .i64) (by rw [nwW_next hx47, if_pos hc54p]; first | done | omega))
                          refine ⟨i + 1, ⟨hK.weak ⟨rfl, rfl, rfl, rfl, rfl, rfl, rfl, rfl, rfl, rfl, rfl, rfl, rfl, rfl, rfl, rfl, rfl, rfl, rfl, rfl, rfl, rfl, rfl, rfl, rfl, rfl, rfl, rfl, rfl, rfl, rfl, rfl, rfl, rfl, rfl, trivial⟩, hE.drop (.cons _ (.cons_cons _ (.cons_cons _ (.cons_cons _ (.cons_cons _ (.cons_cons _ (.cons_cons _ (.cons_cons _ (.cons_cons _ (.cons_cons _ (.cons_cons _ (.cons_cons _ (.cons_cons _ (.cons_cons _ (.cons_cons _ (.cons_cons _ (.cons_cons _ (.cons_cons _ (.cons _ (.cons _ (.cons_cons _ (.cons_cons _ .slnil)))))))))))))))))))))), by omega, trivial⟩, by omega⟩
                        · have hc54p := ne_of_beq_false hc54
                          replace hK := hK.sub (d := 90) (v' := .bool false) rfl (congrArg Value.bool hc54)
                          refine vc_cond (t := false) hK (fun _ => rfl) ?_
                          rw [if_neg (by simp)]
                          refine wp_skip ?_
                          refine xb_norm ?_
                          refine xt_norm ?_
                          refine wp_region_lit ?_
                          refine st_op (d := 95) (v' := .int .i64 (IntKind.i64.wrap (((i : Nat) : Int) + 1))) (v := .int .i64 (((i : Nat) : Int) + 1)) (vs := []) (obs := []) hK rfl (fun _ => by kernel_rfl) trivial (congrArg (Value.int .i64) (IntWalk.i64_in _ (by omega))) rfl rfl ?_
                          clear hK a; intro a hK
                          refine st_op (d := 82) (v' := .int .i64 (((i : Nat) : Int) + 1)) (vs := []) (obs := []) hK rfl (fun _ => by kernel_rfl) trivial rfl rfl rfl ?_
                          clear hK a; intro a hK
                          refine wpList_nil ?_
                          replace hK := hK.weak (K' := [(4, .pointer (some ⟨g1, 0, none⟩)), (5, .pointer (some ⟨g3, 0, none⟩)), (6, .pointer (some ⟨g5, 0, none⟩)), (7, .pointer (some ⟨g7, 0, none⟩)), (8, .bool false), (9, .bool true), (58, .slice t.ra t.t.reads.length t.rc), (59, .int .i64 ((t.t.reads.length : Nat) : Int)), (60, .int .i64 ((k : Nat) : Int)), (10, .bool (newR L.d (t.t.reads.take k))), (61, .bool true), (62, .pointer (some ⟨b25, o26 + k * 2, none⟩)), (63, .agg #[.int .i64 x23.key, .int .i64 x23.ts]), (12, .pointer (some ⟨g28, 0, none⟩)), (65, .pointer (some ⟨g1, 1, none⟩)), (66, .slice L.sa L.st.length L.sc), (67, .pointer (some ⟨g28, 0, none⟩)), (68, .int .i64 x23.key), (69, .tuple #[.int .i64 (newestRS L.st x23.key).1, .int .i64 (newestRS L.st x23.key).2]), (64, .tuple #[.int .i64 (newestRS L.st x23.key).1, .int .i64 (newestRS L.st x23.key).2]), (70, .int .i64 (newestRS L.st x23.key).1), (71, .int .i64 (newestRS L.st x23.key).2), (72, .pointer (some ⟨g1, 2, none⟩)), (73, .slice L.oa L.op.length L.oc), (74, .int .i64 ((L.op.length : Nat) : Int)), (75, .int .i64 ((j : Nat) : Int)), (76, .bool true), (77, .pointer (some ⟨b37, o38 + j * 4, none⟩)), (78, .agg #[.int .i64 x35.t.id, .int .i64 x35.t.ts, .slice x35.ra x35.t.reads.length x35.rc, .slice x35.wa x35.t.writes.length x35.wc]), (16, .pointer (some ⟨g40, 0, none⟩)), (79, .pointer (some ⟨g40, 3, none⟩)), (80, .slice x35.wa x35.t.writes.length x35.wc), (81, .int .i64 ((x35.t.writes.length : Nat) : Int)), (82, .int .i64 (((i : Nat) : Int) + 1)), (13, .int .i64 (nwW x23.key x35.t.ts (x35.t.writes.take i) (((txs L.op).take j).foldl (nwTx x23.key) (newestRS L.st x23.key).1))), (83, .bool true), (84, .pointer (some ⟨b48, o49 + i * 3, none⟩)), (85, .agg #[.int .i64 x46.key, .int .i64 x46.value, .bool x46.gone]), (18, .pointer (some ⟨g51, 0, none⟩)), (86, .pointer (some ⟨g51, 0, none⟩)), (87, .int .i64 x46.key), (88, .pointer (some ⟨g28, 0, none⟩)), (89, .int .i64 x23.key), (90, .bool false), (95, .int .i64 (((i : Nat) : Int) + 1))]) ⟨rfl, rfl, rfl, rfl, rfl, rfl, rfl, rfl, rfl, rfl, rfl, rfl, rfl, rfl, rfl, rfl, rfl, rfl, rfl, rfl, rfl, rfl, rfl, rfl, rfl, rfl, rfl, rfl, rfl, rfl, rfl, rfl, rfl, rfl, rfl, rfl, rfl, rfl, rfl, rfl, rfl, rfl, rfl, rfl, rfl, trivial⟩
                          refine xt_norm ?_
                          replace hK := hK.sub (d := 82) (v' := .int .i64 (((i + 1) : Nat) : Int)) rfl (by first | rfl | (congr 1; omega))
                          replace hK := hK.sub (d := 13) (v' := .int .i64 (nwW x23.key x35.t.ts (x35.t.writes.take (i + 1)) (((txs L.op).take j).foldl (nwTx x23.key) (newestRS L.st x23.key).1))) rfl (congrArg (Value.int .i64) (by rw [nwW_next hx47, if_neg hc54p]))
                          refine ⟨i + 1, ⟨hK.weak ⟨rfl, rfl, rfl, rfl, rfl, rfl, rfl, rfl, rfl, rfl, rfl, rfl, rfl, rfl, rfl, rfl, rfl, rfl, rfl, rfl, rfl, rfl, rfl, rfl, rfl, rfl, rfl, rfl, rfl, rfl, rfl, rfl, rfl, rfl, rfl, trivial⟩, hE.drop (.cons _ (.cons_cons _ (.cons_cons _ (.cons_cons _ (.cons_cons _ (.cons_cons _ (.cons_cons _ (.cons_cons _ (.cons_cons _ (.cons_cons _ (.cons_cons _ (.cons_cons _ (.cons_cons _ (.cons_cons _ (.cons_cons _ (.cons_cons _ (.cons_cons _ (.cons_cons _ (.cons _ (.cons _ (.cons_cons _ (.cons_cons _ .slnil)))))))))))))))))))))), by omega, trivial⟩, by omega⟩
                      · have hc45p := of_decide_eq_false hc45
                        replace hK := hK.sub (d := 83) (v' := .bool false) rfl (congrArg Value.bool hc45)
                        refine vc_cond (t := false) hK (fun _ => rfl) ?_
                        rw [if_neg (by simp)]
                        refine wp_exit ?_
                        refine xt_exit ?_
                        refine xt_exit ?_
                        refine xb_hit ?_
                        refine xb_norm ?_
                        refine xt_norm ?_
                        refine wp_region_lit ?_
                        refine st_op (d := 96) (v' := .int .i64 (IntKind.i64.wrap (((j : Nat) : Int) + 1))) (v := .int .i64 (((j : Nat) : Int) + 1)) (vs := []) (obs := []) hK rfl (fun _ => by kernel_rfl) trivial (congrArg (Value.int .i64) (IntWalk.i64_in _ (by omega))) rfl rfl ?_
                        clear hK a; intro a hK
                        refine st_op (d := 75) (v' := .int .i64 (((j : Nat) : Int) + 1)) (vs := []) (obs := []) hK rfl (fun _ => by kernel_rfl) trivial rfl rfl rfl ?_
                        clear hK a; intro a hK
                        refine wpList_nil ?_
                        replace hK := hK.weak (K' := [(4, .pointer (some ⟨g1, 0, none⟩)), (5, .pointer (some ⟨g3, 0, none⟩)), (6, .pointer (some ⟨g5, 0, none⟩)), (7, .pointer (some ⟨g7, 0, none⟩)), (8, .bool false), (9, .bool true), (58, .slice t.ra t.t.reads.length t.rc), (59, .int .i64 ((t.t.reads.length : Nat) : Int)), (60, .int .i64 ((k : Nat) : Int)), (10, .bool (newR L.d (t.t.reads.take k))), (61, .bool true), (62, .pointer (some ⟨b25, o26 + k * 2, none⟩)), (63, .agg #[.int .i64 x23.key, .int .i64 x23.ts]), (12, .pointer (some ⟨g28, 0, none⟩)), (65, .pointer (some ⟨g1, 1, none⟩)), (66, .slice L.sa L.st.length L.sc), (67, .pointer (some ⟨g28, 0, none⟩)), (68, .int .i64 x23.key), (69, .tuple #[.int .i64 (newestRS L.st x23.key).1, .int .i64 (newestRS L.st x23.key).2]), (64, .tuple #[.int .i64 (newestRS L.st x23.key).1, .int .i64 (newestRS L.st x23.key).2]), (70, .int .i64 (newestRS L.st x23.key).1), (71, .int .i64 (newestRS L.st x23.key).2), (72, .pointer (some ⟨g1, 2, none⟩)), (73, .slice L.oa L.op.length L.oc), (74, .int .i64 ((L.op.length : Nat) : Int)), (75, .int .i64 (((j : Nat) : Int) + 1)), (76, .bool true), (77, .pointer (some ⟨b37, o38 + j * 4, none⟩)), (78, .agg #[.int .i64 x35.t.id, .int .i64 x35.t.ts, .slice x35.ra x35.t.reads.length x35.rc, .slice x35.wa x35.t.writes.length x35.wc]), (16, .pointer (some ⟨g40, 0, none⟩)), (79, .pointer (some ⟨g40, 3, none⟩)), (80, .slice x35.wa x35.t.writes.length x35.wc), (81, .int .i64 ((x35.t.writes.length : Nat) : Int)), (82, .int .i64 ((i : Nat) : Int)), (13, .int .i64 (nwW x23.key x35.t.ts (x35.t.writes.take i) (((txs L.op).take j).foldl (nwTx x23.key) (newestRS L.st x23.key).1))), (83, .bool false), (96, .int .i64 (((j : Nat) : Int) + 1))]) ⟨rfl, rfl, rfl, rfl, rfl, rfl, rfl, rfl, rfl, rfl, rfl, rfl, rfl, rfl, rfl, rfl, rfl, rfl, rfl, rfl, rfl, rfl, rfl, rfl, rfl, rfl, rfl, rfl, rfl, rfl, rfl, rfl, rfl, rfl, rfl, rfl, rfl, trivial⟩
                        refine xt_norm ?_
                        replace hK := hK.sub (d := 75) (v' := .int .i64 (((j + 1) : Nat) : Int)) rfl (by first | rfl | (congr 1; omega))
                        replace hK := hK.sub (d := 13) (v' := .int .i64 (((txs L.op).take (j + 1)).foldl (nwTx x23.key) (newestRS L.st x23.key).1)) rfl (congrArg (Value.int .i64) (by rw [nwO_next hx36, List.take_of_length_le (by omega)]))
                        refine ⟨j + 1, ⟨hK.weak ⟨rfl, rfl, rfl, rfl, rfl, rfl, rfl, rfl, rfl, rfl, rfl, rfl, rfl, rfl, rfl, rfl, rfl, rfl, rfl, rfl, rfl, rfl, rfl, rfl, rfl, rfl, rfl, trivial⟩, hE.drop (.cons _ (.cons_cons _ (.cons_cons _ (.cons_cons _ (.cons_cons _ (.cons_cons _ (.cons_cons _ (.cons_cons _ (.cons_cons _ (.cons_cons _ (.cons_cons _ (.cons_cons _ (.cons_cons _ (.cons_cons _ (.cons _ (.cons _ (.cons_cons _ (.cons _ (.cons_cons _ .slnil))))))))))))))))))), by omega, trivial⟩, by omega⟩
                  · have hc34p := of_decide_eq_false hc34
                    replace hK := hK.sub (d := 76) (v' := .bool false) rfl (congrArg Value.bool hc34)
                    refine vc_cond (t := false) hK (fun _ => rfl) ?_
                    rw [if_neg (by simp)]
                    refine wp_exit ?_
                    refine xt_exit ?_
                    refine xt_exit ?_
                    refine xb_hit ?_
                    refine xt_norm ?_
                    refine wp_region_lit ?_
                    refine st_op (d := 97) (v' := .bool (newR L.d (t.t.reads.take k))) (vs := []) (obs := []) hK rfl (fun _ => by kernel_rfl) trivial rfl rfl rfl ?_
                    clear hK a; intro a hK
                    refine st_op (d := 98) (v' := .bool (newR L.d (t.t.reads.take k))) (vs := []) (obs := []) hK rfl (fun _ => by kernel_rfl) trivial rfl rfl rfl ?_
                    clear hK a; intro a hK
                    rcases Bool.eq_false_or_eq_true (newR L.d (t.t.reads.take k)) with hc55 | hc55
                    · replace hK := hK.sub (d := 98) (v' := .bool true) rfl (congrArg Value.bool hc55)
                      refine st_op (d := 99) (v' := .int .i64 (((txs L.op).take j).foldl (nwTx x23.key) (newestRS L.st x23.key).1)) (vs := []) (obs := []) hK rfl (fun _ => by kernel_rfl) trivial rfl rfl rfl ?_
                      clear hK a; intro a hK
                      refine st_op (d := 100) (v' := .pointer (some ⟨g28, 1, none⟩)) (vs := []) (obs := []) hK rfl (fun _ => by kernel_rfl) trivial rfl rfl rfl ?_
                      clear hK a; intro a hK
                      refine st_op (d := 101) (v' := .int .i64 x23.ts) (vs := [.int .i64 x23.ts]) (obs := [(⟨g28, 1, none⟩, .int .i64 x23.ts)]) hK rfl (fun _ => by kernel_rfl) ⟨((hE.blk 0 rfl).cell 1).trans rfl, trivial⟩ rfl rfl rfl ?_
                      clear hK a; intro a hK
                      refine st_op (d := 102) (v' := .bool ((((txs L.op).take j).foldl (nwTx x23.key) (newestRS L.st x23.key).1) == x23.ts)) (vs := []) (obs := []) hK rfl (fun _ => by kernel_rfl) trivial rfl rfl rfl ?_
                      clear hK a; intro a hK
                      refine st_op (d := 103) (v' := .bool ((((txs L.op).take j).foldl (nwTx x23.key) (newestRS L.st x23.key).1) == x23.ts)) (vs := []) (obs := []) hK rfl (fun _ => by kernel_rfl) trivial rfl rfl rfl ?_
                      clear hK a; intro a hK
                      refine st_op (d := 10) (v' := .bool ((((txs L.op).take j).foldl (nwTx x23.key) (newestRS L.st x23.key).1) == x23.ts)) (vs := []) (obs := []) hK rfl (fun _ => by kernel_rfl) trivial rfl rfl rfl ?_
                      clear hK a; intro a hK
                      refine wpList_nil ?_
                      replace hK := hK.weak (K' := [(4, .pointer (some ⟨g1, 0, none⟩)), (5, .pointer (some ⟨g3, 0, none⟩)), (6, .pointer (some ⟨g5, 0, none⟩)), (7, .pointer (some ⟨g7, 0, none⟩)), (8, .bool false), (9, .bool true), (58, .slice t.ra t.t.reads.length t.rc), (59, .int .i64 ((t.t.reads.length : Nat) : Int)), (60, .int .i64 ((k : Nat) : Int)), (10, .bool ((((txs L.op).take j).foldl (nwTx x23.key) (newestRS L.st x23.key).1) == x23.ts)), (61, .bool true), (62, .pointer (some ⟨b25, o26 + k * 2, none⟩)), (63, .agg #[.int .i64 x23.key, .int .i64 x23.ts]), (12, .pointer (some ⟨g28, 0, none⟩)), (65, .pointer (some ⟨g1, 1, none⟩)), (66, .slice L.sa L.st.length L.sc), (67, .pointer (some ⟨g28, 0, none⟩)), (68, .int .i64 x23.key), (69, .tuple #[.int .i64 (newestRS L.st x23.key).1, .int .i64 (newestRS L.st x23.key).2]), (64, .tuple #[.int .i64 (newestRS L.st x23.key).1, .int .i64 (newestRS L.st x23.key).2]), (70, .int .i64 (newestRS L.st x23.key).1), (71, .int .i64 (newestRS L.st x23.key).2), (72, .pointer (some ⟨g1, 2, none⟩)), (73, .slice L.oa L.op.length L.oc), (74, .int .i64 ((L.op.length : Nat) : Int)), (75, .int .i64 ((j : Nat) : Int)), (13, .int .i64 (((txs L.op).take j).foldl (nwTx x23.key) (newestRS L.st x23.key).1)), (76, .bool false), (97, .bool (newR L.d (t.t.reads.take k))), (98, .bool true), (99, .int .i64 (((txs L.op).take j).foldl (nwTx x23.key) (newestRS L.st x23.key).1)), (100, .pointer (some ⟨g28, 1, none⟩)), (101, .int .i64 x23.ts), (102, .bool ((((txs L.op).take j).foldl (nwTx x23.key) (newestRS L.st x23.key).1) == x23.ts)), (103, .bool ((((txs L.op).take j).foldl (nwTx x23.key) (newestRS L.st x23.key).1) == x23.ts))]) ⟨rfl, rfl, rfl, rfl, rfl, rfl, rfl, rfl, rfl, rfl, rfl, rfl, rfl, rfl, rfl, rfl, rfl, rfl, rfl, rfl, rfl, rfl, rfl, rfl, rfl, rfl, rfl, rfl, rfl, rfl, rfl, rfl, rfl, rfl, rfl, trivial⟩
                      refine xb_norm ?_
                      refine xt_norm ?_
                      refine wp_region_lit ?_
                      refine st_op (d := 104) (v' := .int .i64 (IntKind.i64.wrap (((k : Nat) : Int) + 1))) (v := .int .i64 (((k : Nat) : Int) + 1)) (vs := []) (obs := []) hK rfl (fun _ => by kernel_rfl) trivial (congrArg (Value.int .i64) (IntWalk.i64_in _ (by omega))) rfl rfl ?_
                      clear hK a; intro a hK
                      refine st_op (d := 60) (v' := .int .i64 (((k : Nat) : Int) + 1)) (vs := []) (obs := []) hK rfl (fun _ => by kernel_rfl) trivial rfl rfl rfl ?_
                      clear hK a; intro a hK
                      refine wpList_nil ?_
                      replace hK := hK.weak (K' := [(4, .pointer (some ⟨g1, 0, none⟩)), (5, .pointer (some ⟨g3, 0, none⟩)), (6, .pointer (some ⟨g5, 0, none⟩)), (7, .pointer (some ⟨g7, 0, none⟩)), (8, .bool false), (9, .bool true), (58, .slice t.ra t.t.reads.length t.rc), (59, .int .i64 ((t.t.reads.length : Nat) : Int)), (60, .int .i64 (((k : Nat) : Int) + 1)), (10, .bool ((((txs L.op).take j).foldl (nwTx x23.key) (newestRS L.st x23.key).1) == x23.ts)), (61, .bool true), (62, .pointer (some ⟨b25, o26 + k * 2, none⟩)), (63, .agg #[.int .i64 x23.key, .int .i64 x23.ts]), (12, .pointer (some ⟨g28, 0, none⟩)), (65, .pointer (some ⟨g1, 1, none⟩)), (66, .slice L.sa L.st.length L.sc), (67, .pointer (some ⟨g28, 0, none⟩)), (68, .int .i64 x23.key), (69, .tuple #[.int .i64 (newestRS L.st x23.key).1, .int .i64 (newestRS L.st x23.key).2]), (64, .tuple #[.int .i64 (newestRS L.st x23.key).1, .int .i64 (newestRS L.st x23.key).2]), (70, .int .i64 (newestRS L.st x23.key).1), (71, .int .i64 (newestRS L.st x23.key).2), (72, .pointer (some ⟨g1, 2, none⟩)), (73, .slice L.oa L.op.length L.oc), (74, .int .i64 ((L.op.length : Nat) : Int)), (75, .int .i64 ((j : Nat) : Int)), (13, .int .i64 (((txs L.op).take j).foldl (nwTx x23.key) (newestRS L.st x23.key).1)), (76, .bool false), (97, .bool (newR L.d (t.t.reads.take k))), (98, .bool true), (99, .int .i64 (((txs L.op).take j).foldl (nwTx x23.key) (newestRS L.st x23.key).1)), (100, .pointer (some ⟨g28, 1, none⟩)), (101, .int .i64 x23.ts), (102, .bool ((((txs L.op).take j).foldl (nwTx x23.key) (newestRS L.st x23.key).1) == x23.ts)), (103, .bool ((((txs L.op).take j).foldl (nwTx x23.key) (newestRS L.st x23.key).1) == x23.ts)), (104, .int .i64 (((k : Nat) : Int) + 1))]) ⟨rfl, rfl, rfl, rfl, rfl, rfl, rfl, rfl, rfl, rfl, rfl, rfl, rfl, rfl, rfl, rfl, rfl, rfl, rfl, rfl, rfl, rfl, rfl, rfl, rfl, rfl, rfl, rfl, rfl, rfl, rfl, rfl, rfl, rfl, rfl, rfl, trivial⟩
                      refine xt_norm ?_
                      replace hK := hK.sub (d := 60) (v' := .int .i64 (((k + 1) : Nat) : Int)) rfl (by first | rfl | (congr 1; omega))
                      replace hK := hK.sub (d := 10) (v' := .bool (newR L.d (t.t.reads.take (k + 1)))) rfl (congrArg Value.bool (by rw [newR_next hx24, hc55]; rw [← nwO_end (k := x23.key) (j := j) (by omega)]; rfl))
                      refine ⟨k + 1, ⟨hK.weak ⟨rfl, rfl, rfl, rfl, rfl, rfl, rfl, rfl, rfl, rfl, trivial⟩, hE.drop (.cons _ (.cons_cons _ (.cons_cons _ (.cons_cons _ (.cons_cons _ (.cons_cons _ (.cons_cons _ (.cons_cons _ (.cons _ (.cons _ (.cons_cons _ (.cons_cons _ (.cons_cons _ (.cons_cons _ (.cons_cons _ .slnil))))))))))))))), by omega, trivial⟩, by omega⟩
                    · replace hK := hK.sub (d := 98) (v' := .bool false) rfl (congrArg Value.bool hc55)
                      refine st_skip (d := 99) hK rfl rfl rfl ?_
                      clear hK a; intro a hK
                      refine st_skip (d := 100) hK rfl rfl rfl ?_
                      clear hK a; intro a hK
                      refine st_skip (d := 101) hK rfl rfl rfl ?_
                      clear hK a; intro a hK
                      refine st_skip (d := 102) hK rfl rfl rfl ?_
                      clear hK a; intro a hK
                      refine st_op (d := 103) (v' := .bool false) (vs := []) (obs := []) hK rfl (fun _ => by kernel_rfl) trivial rfl rfl rfl ?_
                      clear hK a; intro a hK
                      refine st_op (d := 10) (v' := .bool false) (vs := []) (obs := []) hK rfl (fun _ => by kernel_rfl) trivial rfl rfl rfl ?_
                      clear hK a; intro a hK
                      refine wpList_nil ?_
                      replace hK := hK.weak (K' := [(4, .pointer (some ⟨g1, 0, none⟩)), (5, .pointer (some ⟨g3, 0, none⟩)), (6, .pointer (some ⟨g5, 0, none⟩)), (7, .pointer (some ⟨g7, 0, none⟩)), (8, .bool false), (9, .bool true), (58, .slice t.ra t.t.reads.length t.rc), (59, .int .i64 ((t.t.reads.length : Nat) : Int)), (60, .int .i64 ((k : Nat) : Int)), (10, .bool false), (61, .bool true), (62, .pointer (some ⟨b25, o26 + k * 2, none⟩)), (63, .agg #[.int .i64 x23.key, .int .i64 x23.ts]), (12, .pointer (some ⟨g28, 0, none⟩)), (65, .pointer (some ⟨g1, 1, none⟩)), (66, .slice L.sa L.st.length L.sc), (67, .pointer (some ⟨g28, 0, none⟩)), (68, .int .i64 x23.key), (69, .tuple #[.int .i64 (newestRS L.st x23.key).1, .int .i64 (newestRS L.st x23.key).2]), (64, .tuple #[.int .i64 (newestRS L.st x23.key).1, .int .i64 (newestRS L.st x23.key).2]), (70, .int .i64 (newestRS L.st x23.key).1), (71, .int .i64 (newestRS L.st x23.key).2), (72, .pointer (some ⟨g1, 2, none⟩)), (73, .slice L.oa L.op.length L.oc), (74, .int .i64 ((L.op.length : Nat) : Int)), (75, .int .i64 ((j : Nat) : Int)), (13, .int .i64 (((txs L.op).take j).foldl (nwTx x23.key) (newestRS L.st x23.key).1)), (76, .bool false), (97, .bool (newR L.d (t.t.reads.take k))), (98, .bool false), (103, .bool false)]) ⟨rfl, rfl, rfl, rfl, rfl, rfl, rfl, rfl, rfl, rfl, rfl, rfl, rfl, rfl, rfl, rfl, rfl, rfl, rfl, rfl, rfl, rfl, rfl, rfl, rfl, rfl, rfl, rfl, rfl, rfl, rfl, trivial⟩
                      refine xb_norm ?_
                      refine xt_norm ?_
                      refine wp_region_lit ?_
                      refine st_op (d := 104) (v' := .int .i64 (IntKind.i64.wrap (((k : Nat) : Int) + 1))) (v := .int .i64 (((k : Nat) : Int) + 1)) (vs := []) (obs := []) hK rfl (fun _ => by kernel_rfl) trivial (congrArg (Value.int .i64) (IntWalk.i64_in _ (by omega))) rfl rfl ?_
                      clear hK a; intro a hK
                      refine st_op (d := 60) (v' := .int .i64 (((k : Nat) : Int) + 1)) (vs := []) (obs := []) hK rfl (fun _ => by kernel_rfl) trivial rfl rfl rfl ?_
                      clear hK a; intro a hK
                      refine wpList_nil ?_
                      replace hK := hK.weak (K' := [(4, .pointer (some ⟨g1, 0, none⟩)), (5, .pointer (some ⟨g3, 0, none⟩)), (6, .pointer (some ⟨g5, 0, none⟩)), (7, .pointer (some ⟨g7, 0, none⟩)), (8, .bool false), (9, .bool true), (58, .slice t.ra t.t.reads.length t.rc), (59, .int .i64 ((t.t.reads.length : Nat) : Int)), (60, .int .i64 (((k : Nat) : Int) + 1)), (10, .bool false), (61, .bool true), (62, .pointer (some ⟨b25, o26 + k * 2, none⟩)), (63, .agg #[.int .i64 x23.key, .int .i64 x23.ts]), (12, .pointer (some ⟨g28, 0, none⟩)), (65, .pointer (some ⟨g1, 1, none⟩)), (66, .slice L.sa L.st.length L.sc), (67, .pointer (some ⟨g28, 0, none⟩)), (68, .int .i64 x23.key), (69, .tuple #[.int .i64 (newestRS L.st x23.key).1, .int .i64 (newestRS L.st x23.key).2]), (64, .tuple #[.int .i64 (newestRS L.st x23.key).1, .int .i64 (newestRS L.st x23.key).2]), (70, .int .i64 (newestRS L.st x23.key).1), (71, .int .i64 (newestRS L.st x23.key).2), (72, .pointer (some ⟨g1, 2, none⟩)), (73, .slice L.oa L.op.length L.oc), (74, .int .i64 ((L.op.length : Nat) : Int)), (75, .int .i64 ((j : Nat) : Int)), (13, .int .i64 (((txs L.op).take j).foldl (nwTx x23.key) (newestRS L.st x23.key).1)), (76, .bool false), (97, .bool (newR L.d (t.t.reads.take k))), (98, .bool false), (103, .bool false), (104, .int .i64 (((k : Nat) : Int) + 1))]) ⟨rfl, rfl, rfl, rfl, rfl, rfl, rfl, rfl, rfl, rfl, rfl, rfl, rfl, rfl, rfl, rfl, rfl, rfl, rfl, rfl, rfl, rfl, rfl, rfl, rfl, rfl, rfl, rfl, rfl, rfl, rfl, rfl, trivial⟩
                      refine xt_norm ?_
                      replace hK := hK.sub (d := 60) (v' := .int .i64 (((k + 1) : Nat) : Int)) rfl (by first | rfl | (congr 1; omega))
                      replace hK := hK.sub (d := 10) (v' := .bool (newR L.d (t.t.reads.take (k + 1)))) rfl (congrArg Value.bool (by rw [newR_next hx24, hc55]; rfl))
                      refine ⟨k + 1, ⟨hK.weak ⟨rfl, rfl, rfl, rfl, rfl, rfl, rfl, rfl, rfl, rfl, trivial⟩, hE.drop (.cons _ (.cons_cons _ (.cons_cons _ (.cons_cons _ (.cons_cons _ (.cons_cons _ (.cons_cons _ (.cons_cons _ (.cons _ (.cons _ (.cons_cons _ (.cons_cons _ (.cons_cons _ (.cons_cons _ (.cons_cons _ .slnil))))))))))))))), by omega, trivial⟩, by omega⟩
              · have hc22p := of_decide_eq_false hc22
                replace hK := hK.sub (d := 61) (v' := .bool false) rfl (congrArg Value.bool hc22)
                refine vc_cond (t := false) hK (fun _ => rfl) ?_
                rw [if_neg (by simp)]
                refine wp_exit ?_
                refine xt_exit ?_
                refine xt_exit ?_
                refine xb_hit ?_
                refine xt_norm ?_
                refine wp_seq ?_
                refine wp_region_lit ?_
                refine st_op (d := 106) (v' := .agg #[.int .i64 L.last, .slice L.sa L.st.length L.sc, .slice L.oa L.op.length L.oc]) (vs := [.int .i64 L.last, .slice L.sa L.st.length L.sc, .slice L.oa L.op.length L.oc]) (obs := [(⟨g1, 0, none⟩, .int .i64 L.last), (⟨g1, 1, none⟩, .slice L.sa L.st.length L.sc), (⟨g1, 2, none⟩, .slice L.oa L.op.length L.oc)]) hK rfl (fun _ => by kernel_rfl) ⟨((hE.blk 4 rfl).cell 0).trans rfl, ((hE.blk 4 rfl).cell 1).trans rfl, ((hE.blk 4 rfl).cell 2).trans rfl, trivial⟩ rfl rfl rfl ?_
                clear hK a; intro a hK
                refine st_op (d := 107) (v' := .agg #[.int .i64 t.t.id, .int .i64 t.t.ts, .slice t.ra t.t.reads.length t.rc, .slice t.wa t.t.writes.length t.wc]) (vs := [.int .i64 t.t.id, .int .i64 t.t.ts, .slice t.ra t.t.reads.length t.rc, .slice t.wa t.t.writes.length t.wc]) (obs := [(⟨g3, 0, none⟩, .int .i64 t.t.id), (⟨g3, 1, none⟩, .int .i64 t.t.ts), (⟨g3, 2, none⟩, .slice t.ra t.t.reads.length t.rc), (⟨g3, 3, none⟩, .slice t.wa t.t.writes.length t.wc)]) hK rfl (fun _ => by kernel_rfl) ⟨((hE.blk 3 rfl).cell 0).trans rfl, ((hE.blk 3 rfl).cell 1).trans rfl, ((hE.blk 3 rfl).cell 2).trans rfl, ((hE.blk 3 rfl).cell 3).trans rfl, trivial⟩ rfl rfl rfl ?_
                clear hK a; intro a hK
                refine st_op (d := 108) (v' := .agg #[.int .i64 lo, .int .i64 hi]) (vs := [.int .i64 lo, .int .i64 hi]) (obs := [(⟨g7, 0, none⟩, .int .i64 lo), (⟨g7, 1, none⟩, .int .i64 hi)]) hK rfl (fun _ => by kernel_rfl) ⟨((hE.blk 1 rfl).cell 0).trans rfl, ((hE.blk 1 rfl).cell 1).trans rfl, trivial⟩ rfl rfl rfl ?_
                clear hK a; intro a hK
                refine st_call (d := 109) (f := 13) (args := #[.agg #[.int .i64 L.last, .slice L.sa L.st.length L.sc, .slice L.oa L.op.length L.oc], .agg #[.int .i64 t.t.id, .int .i64 t.t.ts, .slice t.ra t.t.reads.length t.rc, .slice t.wa t.t.writes.length t.wc], .agg #[.int .i64 lo, .int .i64 hi]]) hK rfl (fun _ => by kernel_rfl) rfl rfl (stamp_anyF L t lo hi _ hLS hsmt (hE.get 11 rfl) (hE.get 9 rfl)) ?_
                rintro e w58 ⟨M56, v57, rfl, hM56, hv56, hl56, hx56, hfr56, hb⟩
                refine ⟨_, rfl, ?_⟩
                clear hK a; intro a hK
                replace hE := hE.call hb
                clear hb
                replace hE := hE.dat (p := fun W => LdW W M56) (fun W hW => LdW.then_ hl56 hW)
                replace hE := hE.dat (p := fun W => TxW W v57) (fun W hW => TxW.then_ hx56 hW)
                refine st_op (d := 105) (v' := .tuple #[.agg #[.int .i64 M56.last, .slice M56.sa M56.st.length M56.sc, .slice M56.oa M56.op.length M56.oc], .agg #[.int .i64 v57.t.id, .int .i64 v57.t.ts, .slice v57.ra v57.t.reads.length v57.rc, .slice v57.wa v57.t.writes.length v57.wc], .int .i64 (stampS L.d t.t lo hi).2.2]) (vs := []) (obs := []) hK rfl (fun _ => by kernel_rfl) trivial rfl rfl rfl ?_
                clear hK a; intro a hK
                refine st_op (d := 110) (v' := .agg #[.int .i64 M56.last, .slice M56.sa M56.st.length M56.sc, .slice M56.oa M56.op.length M56.oc]) (vs := []) (obs := []) hK rfl (fun _ => by kernel_rfl) trivial rfl rfl rfl ?_
                clear hK a; intro a hK
                refine st_op (d := 111) (v' := .agg #[.int .i64 v57.t.id, .int .i64 v57.t.ts, .slice v57.ra v57.t.reads.length v57.rc, .slice v57.wa v57.t.writes.length v57.wc]) (vs := []) (obs := []) hK rfl (fun _ => by kernel_rfl) trivial rfl rfl rfl ?_
                clear hK a; intro a hK
                refine st_op (d := 112) (v' := .int .i64 (stampS L.d t.t lo hi).2.2) (vs := []) (obs := []) hK rfl (fun _ => by kernel_rfl) trivial rfl rfl rfl ?_
                clear hK a; intro a hK
                refine st_new (d := 19) (v := fun g => .pointer (some ⟨g, 0, none⟩)) (cs := #[.int .i64 0, .slice none 0 0, .slice none 0 0]) (t := 25) hK hE rfl (fun _ _ => by kernel_rfl) rfl rfl ?_
                clear hK hE a; intro a g59 w60 _ _ hK hE
                refine st_new (d := 20) (v := fun g => .pointer (some ⟨g, 0, none⟩)) (cs := #[.int .i64 0, .int .i64 0, .slice none 0 0, .slice none 0 0]) (t := 29) hK hE rfl (fun _ _ => by kernel_rfl) rfl rfl ?_
                clear hK hE a; intro a g61 w62 _ _ hK hE
                refine st_store2 1 [(0, .int .i64 M56.last), (1, .slice M56.sa M56.st.length M56.sc), (2, .slice M56.oa M56.op.length M56.oc)] hK hE rfl rfl (fun _ => by kernel_rfl) rfl rfl rfl ?_
                clear hE; intro w63 hs_ hk_ hE
                clear hs_ hk_
                refine st_store2 0 [(0, .int .i64 v57.t.id), (1, .int .i64 v57.t.ts), (2, .slice v57.ra v57.t.reads.length v57.rc), (3, .slice v57.wa v57.t.writes.length v57.wc)] hK hE rfl rfl (fun _ => by kernel_rfl) rfl rfl rfl ?_
                clear hE; intro w64 hs_ hk_ hE
                clear hs_ hk_
                refine st_op (d := 21) (v' := .int .i64 (stampS L.d t.t lo hi).2.2) (vs := []) (obs := []) hK rfl (fun _ => by kernel_rfl) trivial rfl rfl rfl ?_
                clear hK a; intro a hK
                refine wpList_nil ?_
                refine xt_norm ?_
                refine wp_seq ?_
                refine wp_seq ?_
                refine wp_region_lit ?_
                refine st_op (d := 113) (v' := .int .i64 (stampS L.d t.t lo hi).2.2) (vs := []) (obs := []) hK rfl (fun _ => by kernel_rfl) trivial rfl rfl rfl ?_
                clear hK a; intro a hK
                refine st_op (d := 114) (v' := .bool ((stampS L.d t.t lo hi).2.2 == 60)) (vs := []) (obs := []) hK rfl (fun _ => by kernel_rfl) trivial rfl rfl rfl ?_
                clear hK a; intro a hK
                refine st_op (d := 115) (v' := .bool (newR L.d (t.t.reads.take k))) (vs := []) (obs := []) hK rfl (fun _ => by kernel_rfl) trivial rfl rfl rfl ?_
                clear hK a; intro a hK
                refine st_op (d := 116) (v' := .bool (((stampS L.d t.t lo hi).2.2 == 60) == newR L.d (t.t.reads.take k))) (vs := []) (obs := []) hK rfl (fun _ => by kernel_rfl) trivial rfl rfl rfl ?_
                clear hK a; intro a hK
                refine wpList_nil ?_
                refine xt_norm ?_
                have hd65 : ((((stampS L.d t.t lo hi).2.2 == 60) == newR L.d (t.t.reads.take k))) = false := conf_law (D := L.d) hok hiv hc16 hc17p (by omega)
                replace hK := hK.sub (d := 116) (v' := .bool false) rfl (congrArg Value.bool hd65)
                refine vc_cond (t := false) hK (fun _ => rfl) ?_
                rw [if_neg (by simp)]
                refine wp_skip ?_
                refine xt_norm ?_
                refine wp_seq ?_
                refine wp_seq ?_
                refine wp_region_lit ?_
                refine st_op (d := 117) (v' := .int .i64 (stampS L.d t.t lo hi).2.2) (vs := []) (obs := []) hK rfl (fun _ => by kernel_rfl) trivial rfl rfl rfl ?_
                clear hK a; intro a hK
                refine st_op (d := 118) (v' := .bool ((stampS L.d t.t lo hi).2.2 != 0)) (v := .bool (!((stampS L.d t.t lo hi).2.2 == 0))) (vs := []) (obs := []) hK rfl (fun _ => by kernel_rfl) trivial rfl rfl rfl ?_
                clear hK a; intro a hK
                refine wpList_nil ?_
                refine xt_norm ?_
                rcases Bool.eq_false_or_eq_true (((stampS L.d t.t lo hi).2.2 == 0)) with hc66 | hc66
                · have hc66p := eq_of_beq hc66
                  have hml := (rises_law hc66p).2.2.2.2.1
                  have hLSM56 := LdS.stamped hfew hsmt hc66p hM56
                  replace hK := hK.sub (d := 118) (v' := .bool false) rfl (congrArg (fun b => Value.bool !b) hc66)
                  refine vc_cond (t := false) hK (fun _ => rfl) ?_
                  rw [if_neg (by simp)]
                  refine wp_skip ?_
                  refine xt_norm ?_
                  refine wp_seq ?_
                  refine wp_region_lit ?_
                  refine st_op (d := 121) (v' := .agg #[.int .i64 M56.last, .slice M56.sa M56.st.length M56.sc, .slice M56.oa M56.op.length M56.oc]) (vs := [.int .i64 M56.last, .slice M56.sa M56.st.length M56.sc, .slice M56.oa M56.op.length M56.oc]) (obs := [(⟨g59, 0, none⟩, .int .i64 M56.last), (⟨g59, 1, none⟩, .slice M56.sa M56.st.length M56.sc), (⟨g59, 2, none⟩, .slice M56.oa M56.op.length M56.oc)]) hK rfl (fun _ => by kernel_rfl) ⟨((hE.blk 1 rfl).cell 0).trans rfl, ((hE.blk 1 rfl).cell 1).trans rfl, ((hE.blk 1 rfl).cell 2).trans rfl, trivial⟩ rfl rfl rfl ?_
                  clear hK a; intro a hK
                  refine st_op (d := 122) (v' := .agg #[.int .i64 u.t.id, .int .i64 u.t.ts, .slice u.ra u.t.reads.length u.rc, .slice u.wa u.t.writes.length u.wc]) (vs := [.int .i64 u.t.id, .int .i64 u.t.ts, .slice u.ra u.t.reads.length u.rc, .slice u.wa u.t.writes.length u.wc]) (obs := [(⟨g5, 0, none⟩, .int .i64 u.t.id), (⟨g5, 1, none⟩, .int .i64 u.t.ts), (⟨g5, 2, none⟩, .slice u.ra u.t.reads.length u.rc), (⟨g5, 3, none⟩, .slice u.wa u.t.writes.length u.wc)]) hK rfl (fun _ => by kernel_rfl) ⟨((hE.blk 6 rfl).cell 0).trans rfl, ((hE.blk 6 rfl).cell 1).trans rfl, ((hE.blk 6 rfl).cell 2).trans rfl, ((hE.blk 6 rfl).cell 3).trans rfl, trivial⟩ rfl rfl rfl ?_
                  clear hK a; intro a hK
                  refine st_op (d := 123) (v' := .agg #[.int .i64 lo, .int .i64 hi]) (vs := [.int .i64 lo, .int .i64 hi]) (obs := [(⟨g7, 0, none⟩, .int .i64 lo), (⟨g7, 1, none⟩, .int .i64 hi)]) hK rfl (fun _ => by kernel_rfl) ⟨((hE.blk 5 rfl).cell 0).trans rfl, ((hE.blk 5 rfl).cell 1).trans rfl, trivial⟩ rfl rfl rfl ?_
                  clear hK a; intro a hK
                  refine st_call (d := 124) (f := 13) (args := #[.agg #[.int .i64 M56.last, .slice M56.sa M56.st.length M56.sc, .slice M56.oa M56.op.length M56.oc], .agg #[.int .i64 u.t.id, .int .i64 u.t.ts, .slice u.ra u.t.reads.length u.rc, .slice u.wa u.t.writes.length u.wc], .agg #[.int .i64 lo, .int .i64 hi]]) hK rfl (fun _ => by kernel_rfl) rfl rfl (stamp_anyF M56 u lo hi _ hLSM56 hsmu (hE.get 3 rfl) (hE.get 12 rfl)) ?_
                  rintro e w69 ⟨M67, v68, rfl, hM67, hv67, hl67, hx67, hfr67, hb⟩
                  refine ⟨_, rfl, ?_⟩
                  clear hK a; intro a hK
                  replace hE := hE.call hb
                  clear hb
                  replace hE := hE.dat (p := fun W => LdW W M67) (fun W hW => LdW.then_ hl67 hW)
                  replace hE := hE.dat (p := fun W => TxW W v68) (fun W hW => TxW.then_ hx67 hW)
                  refine st_op (d := 120) (v' := .tuple #[.agg #[.int .i64 M67.last, .slice M67.sa M67.st.length M67.sc, .slice M67.oa M67.op.length M67.oc], .agg #[.int .i64 v68.t.id, .int .i64 v68.t.ts, .slice v68.ra v68.t.reads.length v68.rc, .slice v68.wa v68.t.writes.length v68.wc], .int .i64 (stampS M56.d u.t lo hi).2.2]) (vs := []) (obs := []) hK rfl (fun _ => by kernel_rfl) trivial rfl rfl rfl ?_
                  clear hK a; intro a hK
                  refine st_op (d := 125) (v' := .agg #[.int .i64 M67.last, .slice M67.sa M67.st.length M67.sc, .slice M67.oa M67.op.length M67.oc]) (vs := []) (obs := []) hK rfl (fun _ => by kernel_rfl) trivial rfl rfl rfl ?_
                  clear hK a; intro a hK
                  refine st_op (d := 126) (v' := .agg #[.int .i64 v68.t.id, .int .i64 v68.t.ts, .slice v68.ra v68.t.reads.length v68.rc, .slice v68.wa v68.t.writes.length v68.wc]) (vs := []) (obs := []) hK rfl (fun _ => by kernel_rfl) trivial rfl rfl rfl ?_
                  clear hK a; intro a hK
                  refine st_op (d := 127) (v' := .int .i64 (stampS M56.d u.t lo hi).2.2) (vs := []) (obs := []) hK rfl (fun _ => by kernel_rfl) trivial rfl rfl rfl ?_
                  clear hK a; intro a hK
                  refine st_new (d := 22) (v := fun g => .pointer (some ⟨g, 0, none⟩)) (cs := #[.int .i64 0, .slice none 0 0, .slice none 0 0]) (t := 25) hK hE rfl (fun _ _ => by kernel_rfl) rfl rfl ?_
                  clear hK hE a; intro a g70 w71 _ _ hK hE
                  refine st_new (d := 23) (v := fun g => .pointer (some ⟨g, 0, none⟩)) (cs := #[.int .i64 0, .int .i64 0, .slice none 0 0, .slice none 0 0]) (t := 29) hK hE rfl (fun _ _ => by kernel_rfl) rfl rfl ?_
                  clear hK hE a; intro a g72 w73 _ _ hK hE
                  refine st_store2 1 [(0, .int .i64 M67.last), (1, .slice M67.sa M67.st.length M67.sc), (2, .slice M67.oa M67.op.length M67.oc)] hK hE rfl rfl (fun _ => by kernel_rfl) rfl rfl rfl ?_
                  clear hE; intro w74 hs_ hk_ hE
                  clear hs_ hk_
                  refine st_store2 0 [(0, .int .i64 v68.t.id), (1, .int .i64 v68.t.ts), (2, .slice v68.ra v68.t.reads.length v68.rc), (3, .slice v68.wa v68.t.writes.length v68.wc)] hK hE rfl rfl (fun _ => by kernel_rfl) rfl rfl rfl ?_
                  clear hE; intro w75 hs_ hk_ hE
                  clear hs_ hk_
                  refine st_op (d := 24) (v' := .int .i64 (stampS M56.d u.t lo hi).2.2) (vs := []) (obs := []) hK rfl (fun _ => by kernel_rfl) trivial rfl rfl rfl ?_
                  clear hK a; intro a hK
                  refine wpList_nil ?_
                  replace hK := hK.weak (K' := [(5, .pointer (some ⟨g3, 0, none⟩)), (6, .pointer (some ⟨g5, 0, none⟩)), (8, .bool false), (9, .bool true), (20, .pointer (some ⟨g61, 0, none⟩)), (24, .int .i64 (stampS M56.d u.t lo hi).2.2)]) ⟨rfl, rfl, rfl, rfl, rfl, rfl, trivial⟩
                  refine xt_norm ?_
                  refine wp_seq ?_
                  refine wp_seq ?_
                  refine wp_region_lit ?_
                  refine st_op (d := 128) (v' := .agg #[.int .i64 u.t.id, .int .i64 u.t.ts, .slice u.ra u.t.reads.length u.rc, .slice u.wa u.t.writes.length u.wc]) (vs := [.int .i64 u.t.id, .int .i64 u.t.ts, .slice u.ra u.t.reads.length u.rc, .slice u.wa u.t.writes.length u.wc]) (obs := [(⟨g5, 0, none⟩, .int .i64 u.t.id), (⟨g5, 1, none⟩, .int .i64 u.t.ts), (⟨g5, 2, none⟩, .slice u.ra u.t.reads.length u.rc), (⟨g5, 3, none⟩, .slice u.wa u.t.writes.length u.wc)]) hK rfl (fun _ => by kernel_rfl) ⟨((hE.blk 10 rfl).cell 0).trans rfl, ((hE.blk 10 rfl).cell 1).trans rfl, ((hE.blk 10 rfl).cell 2).trans rfl, ((hE.blk 10 rfl).cell 3).trans rfl, trivial⟩ rfl rfl rfl ?_
                  clear hK a; intro a hK
                  refine st_call (d := 129) (f := 30) (args := #[.agg #[.int .i64 u.t.id, .int .i64 u.t.ts, .slice u.ra u.t.reads.length u.rc, .slice u.wa u.t.writes.length u.wc]]) hK rfl (fun _ => by kernel_rfl) rfl rfl (rTx_any u _ hsmu (hE.get 16 rfl)) ?_
                  rintro e w76 ⟨rfl, hb⟩
                  refine ⟨_, rfl, ?_⟩
                  clear hK a; intro a hK
                  replace hE := hE.call hb
                  clear hb
                  refine st_op (d := 130) (v' := .bool (!(formB u.t))) (vs := []) (obs := []) hK rfl (fun _ => by kernel_rfl) trivial rfl rfl rfl ?_
                  clear hK a; intro a hK
                  refine st_op (d := 131) (v' := .bool (!(formB u.t))) (vs := []) (obs := []) hK rfl (fun _ => by kernel_rfl) trivial rfl rfl rfl ?_
                  clear hK a; intro a hK
                  rcases Bool.eq_false_or_eq_true (formB u.t) with hc77 | hc77
                  · replace hK := hK.sub (d := 131) (v' := .bool false) rfl (congrArg (fun b => Value.bool !b) hc77)
                    refine st_op (d := 132) (v' := .pointer (some ⟨g5, 1, none⟩)) (vs := []) (obs := []) hK rfl (fun _ => by kernel_rfl) trivial rfl rfl rfl ?_
                    clear hK a; intro a hK
                    refine st_op (d := 133) (v' := .int .i64 u.t.ts) (vs := [.int .i64 u.t.ts]) (obs := [(⟨g5, 1, none⟩, .int .i64 u.t.ts)]) hK rfl (fun _ => by kernel_rfl) ⟨((hE.blk 10 rfl).cell 1).trans rfl, trivial⟩ rfl rfl rfl ?_
                    clear hK a; intro a hK
                    refine st_op (d := 134) (v' := .bool (u.t.ts != 0)) (v := .bool (!(u.t.ts == 0))) (vs := []) (obs := []) hK rfl (fun _ => by kernel_rfl) trivial rfl rfl rfl ?_
                    clear hK a; intro a hK
                    refine st_op (d := 135) (v' := .bool (!(u.t.ts == 0))) (vs := []) (obs := []) hK rfl (fun _ => by kernel_rfl) trivial rfl rfl rfl ?_
                    clear hK a; intro a hK
                    refine wpList_nil ?_
                    refine xt_norm ?_
                    rcases Bool.eq_false_or_eq_true ((u.t.ts == 0)) with hc78 | hc78
                    · have hc78p := eq_of_beq hc78
                      replace hK := hK.sub (d := 135) (v' := .bool false) rfl (congrArg (fun b => Value.bool !b) hc78)
                      refine vc_cond (t := false) hK (fun _ => rfl) ?_
                      rw [if_neg (by simp)]
                      refine wp_skip ?_
                      refine xt_norm ?_
                      refine wp_seq ?_
                      refine wp_region_lit ?_
                      refine st_op (d := 25) (v' := .bool false) (vs := []) (obs := []) hK rfl (fun _ => by kernel_rfl) trivial rfl rfl rfl ?_
                      clear hK a; intro a hK
                      refine wpList_nil ?_
                      refine xt_norm ?_
                      refine wp_seq ?_
                      refine wp_seq ?_
                      refine wp_region_lit ?_
                      refine st_op (d := 141) (v' := .pointer (some ⟨g5, 2, none⟩)) (vs := []) (obs := []) hK rfl (fun _ => by kernel_rfl) trivial rfl rfl rfl ?_
                      clear hK a; intro a hK
                      refine st_op (d := 142) (v' := .slice u.ra u.t.reads.length u.rc) (vs := [.slice u.ra u.t.reads.length u.rc]) (obs := [(⟨g5, 2, none⟩, .slice u.ra u.t.reads.length u.rc)]) hK rfl (fun _ => by kernel_rfl) ⟨((hE.blk 10 rfl).cell 2).trans rfl, trivial⟩ rfl rfl rfl ?_
                      clear hK a; intro a hK
                      refine st_op (d := 143) (v' := .int .i64 ((u.t.reads.length : Nat) : Int)) (vs := []) (obs := []) hK rfl (fun _ => by kernel_rfl) trivial rfl rfl rfl ?_
                      clear hK a; intro a hK
                      refine st_op (d := 144) (v' := .int .i64 0) (vs := []) (obs := []) hK rfl (fun _ => by kernel_rfl) trivial rfl rfl rfl ?_
                      clear hK a; intro a hK
                      refine wpList_nil ?_
                      refine xt_norm ?_
                      refine wp_block ?_
                      refine vc_loop (γ := Nat) (fun k2 a w_ => Kn 181 [(5, .pointer (some ⟨g3, 0, none⟩)), (8, .bool false), (9, .bool true), (20, .pointer (some ⟨g61, 0, none⟩)), (24, .int .i64 (stampS M56.d u.t lo hi).2.2), (142, .slice u.ra u.t.reads.length u.rc), (143, .int .i64 ((u.t.reads.length : Nat) : Int)), (144, .int .i64 ((k2 : Nat) : Int)), (25, .bool (oldR v57.t.ts t.t.writes (u.t.reads.take k2)))] a ∧ Ev w w_ [.blk g72 29 #[.int .i64 v68.t.id, .int .i64 v68.t.ts, .slice v68.ra v68.t.reads.length v68.rc, .slice v68.wa v68.t.writes.length v68.wc], .blk g70 25 #[.int .i64 M67.last, .slice M67.sa M67.st.length M67.sc, .slice M67.oa M67.op.length M67.oc], .dat (fun W => TxW W v68), .dat (fun W => LdW W M67), .blk g61 29 #[.int .i64 v57.t.id, .int .i64 v57.t.ts, .slice v57.ra v57.t.reads.length v57.rc, .slice v57.wa v57.t.writes.length v57.wc], .blk g59 25 #[.int .i64 M56.last, .slice M56.sa M56.st.length M56.sc, .slice M56.oa M56.op.length M56.oc], .dat (fun W => TxW W v57), .dat (fun W => LdW W M56), .blk g12 29 #[.int .i64 t.t.id, .int .i64 t.t.ts, .slice t.ra t.t.reads.length t.rc, .slice t.wa t.t.writes.length t.wc, .int .i64 u.t.id, .int .i64 u.t.ts, .slice u.ra u.t.reads.length u.rc, .slice u.wa u.t.writes.length u.wc], .blk g7 31 #[.int .i64 lo, .int .i64 hi], .blk g5 29 #[.int .i64 u.t.id, .int .i64 u.t.ts, .slice u.ra u.t.reads.length u.rc, .slice u.wa u.t.writes.length u.wc], .blk g3 29 #[.int .i64 t.t.id, .int .i64 t.t.ts, .slice t.ra t.t.reads.length t.rc, .slice t.wa t.t.writes.length t.wc], .blk g1 25 #[.int .i64 L.last, .slice L.sa L.st.length L.sc, .slice L.oa L.op.length L.oc], .dat (fun W => RS Sn.cells W u.ra u.t.reads), .dat (fun W => RS Wr.cells W t.wa t.t.writes), .dat (fun W => RS Sn.cells W t.ra t.t.reads), .dat (fun W => TxW W u), .dat (fun W => TxW W t), .dat (fun W => RS TxV.cells W L.oa L.op), .dat (fun W => LdW W L)] ∧ (k2 ≤ u.t.reads.length) ∧ (True)) (fun k2 => u.t.reads.length - k2) 0 ?_ ?_
                      · replace hK := hK.sub (d := 144) (v' := .int .i64 ((0 : Nat) : Int)) rfl (by first | rfl | (congr 1; omega))
                        replace hK := hK.sub (d := 25) (v' := .bool (oldR v57.t.ts t.t.writes (u.t.reads.take 0))) rfl (rfl)
                        refine ⟨hK.weak ⟨rfl, rfl, rfl, rfl, rfl, rfl, rfl, rfl, rfl, trivial⟩, hE, by omega, trivial⟩
                      · clear hK hE a; rintro k2 a w79 ⟨hK, hE, hf80, -⟩
                        refine wp_seq ?_
                        refine wp_region_lit ?_
                        refine st_op (d := 145) (v' := .bool (decide (((k2 : Nat) : Int) < ((u.t.reads.length : Nat) : Int)))) (vs := []) (obs := []) hK rfl (fun _ => by kernel_rfl) trivial rfl rfl rfl ?_
                        clear hK a; intro a hK
                        refine wpList_nil ?_
                        refine xt_norm ?_
                        refine wp_seq ?_
                        rcases Bool.eq_false_or_eq_true (decide (((k2 : Nat) : Int) < ((u.t.reads.length : Nat) : Int))) with hc81 | hc81
                        · have hc81p := of_decide_eq_true hc81
                          replace hK := hK.sub (d := 145) (v' := .bool true) rfl (congrArg Value.bool hc81)
                          refine vc_cond (t := true) hK (fun _ => rfl) ?_
                          rw [if_pos rfl]
                          refine wp_skip ?_
                          refine xt_norm ?_
                          refine wp_seq ?_
                          refine wp_block ?_
                          refine wp_seq ?_
                          refine wp_region_lit ?_
                          obtain ⟨x82, hx83⟩ : ∃ x, u.t.reads[k2]? = some x := ⟨_, List.getElem?_eq_getElem (by omega)⟩
                          obtain ⟨b84, o85, hA86⟩ := row_some (f := Sn.cells) (m := 2) (fun _ => rfl) (hE.get 13 rfl) (by decide) hx83
                          replace hE := hE.from_ 13 rfl (p := fun W => ∀ i x, u.t.reads[i]? = some x → Rec W b84 (o85 + i * 2) (Sn.cells x)) (fun W hq => row_recs (fun _ => rfl) (by decide) hA86 hq)
                          replace hE := hE.from_ 13 rfl (p := fun W => Rec W b84 (o85 + k2 * 2) (Sn.cells x82)) (fun W hq => hq _ _ hx83)
                          refine st_ix (d := 146) (j := k2) (m := 2) hK rfl rfl (fun _ => congrArg (fun A => Value.slice A u.t.reads.length u.rc) hA86) (fun _ => rfl) (by omega) (by have := (List.getElem?_eq_some_iff.1 hx83).1; omega) Try.underlying26 rfl rfl rfl rfl ?_
                          clear hK a; intro a hK
                          refine st_op (d := 147) (v' := .agg #[.int .i64 x82.key, .int .i64 x82.ts]) (vs := [.int .i64 x82.key, .int .i64 x82.ts]) (obs := [(⟨b84, o85 + k2 * 2, none⟩, .int .i64 x82.key), (⟨b84, o85 + k2 * 2 + 1, none⟩, .int .i64 x82.ts)]) hK rfl (fun _ => by kernel_rfl) ⟨(hE.get 13 rfl) 0 _ rfl, (hE.get 13 rfl) 1 _ rfl, trivial⟩ rfl rfl rfl ?_
                          clear hK a; intro a hK
                          refine st_new (d := 27) (v := fun g => .pointer (some ⟨g, 0, none⟩)) (cs := #[.int .i64 0, .int .i64 0]) (t := 65) hK hE rfl (fun _ _ => by kernel_rfl) rfl rfl ?_
                          clear hK hE a; intro a g87 w88 _ _ hK hE
                          refine st_store2 0 [(0, .int .i64 x82.key), (1, .int .i64 x82.ts)] hK hE rfl rfl (fun _ => by kernel_rfl) rfl rfl rfl ?_
                          clear hE; intro w89 hs_ hk_ hE
                          clear hs_ hk_
                          refine wpList_nil ?_
                          refine xt_norm ?_
                          refine wp_seq ?_
                          refine wp_region_lit ?_
                          refine st_op (d := 148) (v' := .pointer (some ⟨g3, 3, none⟩)) (vs := []) (obs := []) hK rfl (fun _ => by kernel_rfl) trivial rfl rfl rfl ?_
                          clear hK a; intro a hK
                          refine st_op (d := 149) (v' := .slice t.wa t.t.writes.length t.wc) (vs := [.slice t.wa t.t.writes.length t.wc]) (obs := [(⟨g3, 3, none⟩, .slice t.wa t.t.writes.length t.wc)]) hK rfl (fun _ => by kernel_rfl) ⟨((hE.blk 12 rfl).cell 3).trans rfl, trivial⟩ rfl rfl rfl ?_
                          clear hK a; intro a hK
                          refine st_op (d := 150) (v' := .int .i64 ((t.t.writes.length : Nat) : Int)) (vs := []) (obs := []) hK rfl (fun _ => by kernel_rfl) trivial rfl rfl rfl ?_
                          clear hK a; intro a hK
                          refine st_op (d := 151) (v' := .int .i64 0) (vs := []) (obs := []) hK rfl (fun _ => by kernel_rfl) trivial rfl rfl rfl ?_
                          clear hK a; intro a hK
                          refine wpList_nil ?_
                          refine xt_norm ?_
                          refine wp_block ?_
                          refine vc_loop (γ := Nat) (fun j2 a w_ => Kn 181 [(5, .pointer (some ⟨g3, 0, none⟩)), (8, .bool false), (9, .bool true), (20, .pointer (some ⟨g61, 0, none⟩)), (24, .int .i64 (stampS M56.d u.t lo hi).2.2), (142, .slice u.ra u.t.reads.length u.rc), (143, .int .i64 ((u.t.reads.length : Nat) : Int)), (144, .int .i64 ((k2 : Nat) : Int)), (145, .bool true), (146, .pointer (some ⟨b84, o85 + k2 * 2, none⟩)), (147, .agg #[.int .i64 x82.key, .int .i64 x82.ts]), (27, .pointer (some ⟨g87, 0, none⟩)), (148, .pointer (some ⟨g3, 3, none⟩)), (149, .slice t.wa t.t.writes.length t.wc), (150, .int .i64 ((t.t.writes.length : Nat) : Int)), (151, .int .i64 ((j2 : Nat) : Int)), (25, .bool (oldR v57.t.ts t.t.writes (u.t.reads.take k2) || oldW v57.t.ts (t.t.writes.take j2) x82))] a ∧ Ev w w_ [.blk g87 65 #[.int .i64 x82.key, .int .i64 x82.ts], .blk g72 29 #[.int .i64 v68.t.id, .int .i64 v68.t.ts, .slice v68.ra v68.t.reads.length v68.rc, .slice v68.wa v68.t.writes.length v68.wc], .blk g70 25 #[.int .i64 M67.last, .slice M67.sa M67.st.length M67.sc, .slice M67.oa M67.op.length M67.oc], .dat (fun W => TxW W v68), .dat (fun W => LdW W M67), .blk g61 29 #[.int .i64 v57.t.id, .int .i64 v57.t.ts, .slice v57.ra v57.t.reads.length v57.rc, .slice v57.wa v57.t.writes.length v57.wc], .blk g59 25 #[.int .i64 M56.last, .slice M56.sa M56.st.length M56.sc, .slice M56.oa M56.op.length M56.oc], .dat (fun W => TxW W v57), .dat (fun W => LdW W M56), .blk g12 29 #[.int .i64 t.t.id, .int .i64 t.t.ts, .slice t.ra t.t.reads.length t.rc, .slice t.wa t.t.writes.length t.wc, .int .i64 u.t.id, .int .i64 u.t.ts, .slice u.ra u.t.reads.length u.rc, .slice u.wa u.t.writes.length u.wc], .blk g7 31 #[.int .i64 lo, .int .i64 hi], .blk g5 29 #[.int .i64 u.t.id, .int .i64 u.t.ts, .slice u.ra u.t.reads.length u.rc, .slice u.wa u.t.writes.length u.wc], .blk g3 29 #[.int .i64 t.t.id, .int .i64 t.t.ts, .slice t.ra t.t.reads.length t.rc, .slice t.wa t.t.writes.length t.wc], .blk g1 25 #[.int .i64 L.last, .slice L.sa L.st.length L.sc, .slice L.oa L.op.length L.oc], .dat (fun W => Rec W b84 (o85 + k2 * 2) (Sn.cells x82)), .dat (fun W => ∀ i x, u.t.reads[i]? = some x → Rec W b84 (o85 + i * 2) (Sn.cells x)), .dat (fun W => RS Sn.cells W u.ra u.t.reads), .dat (fun W => RS Wr.cells W t.wa t.t.writes), .dat (fun W => RS Sn.cells W t.ra t.t.reads), .dat (fun W => TxW W u), .dat (fun W => TxW W t), .dat (fun W => RS TxV.cells W L.oa L.op), .dat (fun W => LdW W L)] ∧ (j2 ≤ t.t.writes.length) ∧ (True)) (fun j2 => t.t.writes.length - j2) 0 ?_ ?_
                          · replace hK := hK.sub (d := 151) (v' := .int .i64 ((0 : Nat) : Int)) rfl (by first | rfl | (congr 1; omega))
                            replace hK := hK.sub (d := 25) (v' := .bool (oldR v57.t.ts t.t.writes (u.t.reads.take k2) || oldW v57.t.ts (t.t.writes.take 0) x82)) rfl (congrArg Value.bool (Bool.or_false _).symm)
                            refine ⟨hK.weak ⟨rfl, rfl, rfl, rfl, rfl, rfl, rfl, rfl, rfl, rfl, rfl, rfl, rfl, rfl, rfl, rfl, rfl, trivial⟩, hE, by omega, trivial⟩
                          · clear hK hE a; rintro j2 a w90 ⟨hK, hE, hf91, -⟩
                            refine wp_seq ?_
                            refine wp_region_lit ?_
                            refine st_op (d := 152) (v' := .bool (decide (((j2 : Nat) : Int) < ((t.t.writes.length : Nat) : Int)))) (vs := []) (obs := []) hK rfl (fun _ => by kernel_rfl) trivial rfl rfl rfl ?_
                            clear hK a; intro a hK
                            refine wpList_nil ?_
                            refine xt_norm ?_
                            refine wp_seq ?_
                            rcases Bool.eq_false_or_eq_true (decide (((j2 : Nat) : Int) < ((t.t.writes.length : Nat) : Int))) with hc92 | hc92
                            · have hc92p := of_decide_eq_true hc92
                              replace hK := hK.sub (d := 152) (v' := .bool true) rfl (congrArg Value.bool hc92)
                              refine vc_cond (t := true) hK (fun _ => rfl) ?_
                              rw [if_pos rfl]
                              refine wp_skip ?_
                              refine xt_norm ?_
                              refine wp_seq ?_
                              refine wp_block ?_
                              refine wp_seq ?_
                              refine wp_region_lit ?_
                              obtain ⟨x93, hx94⟩ : ∃ x, t.t.writes[j2]? = some x := ⟨_, List.getElem?_eq_getElem (by omega)⟩
                              obtain ⟨b95, o96, hA97⟩ := row_some (f := Wr.cells) (m := 3) (fun _ => rfl) (hE.get 17 rfl) (by decide) hx94
                              replace hE := hE.from_ 17 rfl (p := fun W => ∀ i x, t.t.writes[i]? = some x → Rec W b95 (o96 + i * 3) (Wr.cells x)) (fun W hq => row_recs (fun _ => rfl) (by decide) hA97 hq)
                              replace hE := hE.from_ 17 rfl (p := fun W => Rec W b95 (o96 + j2 * 3) (Wr.cells x93)) (fun W hq => hq _ _ hx94)
                              refine st_ix (d := 153) (j := j2) (m := 3) hK rfl rfl (fun _ => congrArg (fun A => Value.slice A t.t.writes.length t.wc) hA97) (fun _ => rfl) (by omega) (by have := (List.getElem?_eq_some_iff.1 hx94).1; omega) Try.underlying27 rfl rfl rfl rfl ?_
                              clear hK a; intro a hK
                              refine st_op (d := 154) (v' := .agg #[.int .i64 x93.key, .int .i64 x93.value, .bool x93.gone]) (vs := [.int .i64 x93.key, .int .i64 x93.value, .bool x93.gone]) (obs := [(⟨b95, o96 + j2 * 3, none⟩, .int .i64 x93.key), (⟨b95, o96 + j2 * 3 + 1, none⟩, .int .i64 x93.value), (⟨b95, o96 + j2 * 3 + 2, none⟩, .bool x93.gone)]) hK rfl (fun _ => by kernel_rfl) ⟨(hE.get 17 rfl) 0 _ rfl, (hE.get 17 rfl) 1 _ rfl, (hE.get 17 rfl) 2 _ rfl, trivial⟩ rfl rfl rfl ?_
                              clear hK a; intro a hK
                              refine st_new (d := 29) (v := fun g => .pointer (some ⟨g, 0, none⟩)) (cs := #[.int .i64 0, .int .i64 0, .bool false]) (t := 60) hK hE rfl (fun _ _ => by kernel_rfl) rfl rfl ?_
                              clear hK hE a; intro a g98 w99 _ _ hK hE
                              refine st_store2 0 [(0, .int .i64 x93.key), (1, .int .i64 x93.value), (2, .bool x93.gone)] hK hE rfl rfl (fun _ => by kernel_rfl) rfl rfl rfl ?_
                              clear hE; intro w100 hs_ hk_ hE
                              clear hs_ hk_
                              refine wpList_nil ?_
                              refine xt_norm ?_
                              refine wp_region_lit ?_
                              refine st_op (d := 155) (v' := .bool (oldR v57.t.ts t.t.writes (u.t.reads.take k2) || oldW v57.t.ts (t.t.writes.take j2) x82)) (vs := []) (obs := []) hK rfl (fun _ => by kernel_rfl) trivial rfl rfl rfl ?_
                              clear hK a; intro a hK
                              refine st_op (d := 156) (v' := .bool (oldR v57.t.ts t.t.writes (u.t.reads.take k2) || oldW v57.t.ts (t.t.writes.take j2) x82)) (vs := []) (obs := []) hK rfl (fun _ => by kernel_rfl) trivial rfl rfl rfl ?_
                              clear hK a; intro a hK
                              rcases Bool.eq_false_or_eq_true (oldR v57.t.ts t.t.writes (u.t.reads.take k2) || oldW v57.t.ts (t.t.writes.take j2) x82) with hc101 | hc101
                              · replace hK := hK.sub (d := 156) (v' := .bool true) rfl (congrArg Value.bool hc101)
                                refine st_skip (d := 157) hK rfl rfl rfl ?_
                                clear hK a; intro a hK
                                refine st_skip (d := 158) hK rfl rfl rfl ?_
                                clear hK a; intro a hK
                                refine st_skip (d := 159) hK rfl rfl rfl ?_
                                clear hK a; intro a hK
                                refine st_skip (d := 160) hK rfl rfl rfl ?_
                                clear hK a; intro a hK
                                refine st_skip (d := 161) hK rfl rfl rfl ?_
                                clear hK a; intro a hK
                                refine st_skip (d := 162) hK rfl rfl rfl ?_
                                clear hK a; intro a hK
                                refine st_skip (d := 163) hK rfl rfl rfl ?_
                                clear hK a; intro a hK
                                refine st_skip (d := 164) hK rfl rfl rfl ?_
                                clear hK a; intro a hK
                                refine st_skip (d := 165) hK rfl rfl rfl ?_
                                clear hK a; intro a hK
                                refine st_skip (d := 166) hK rfl rfl rfl ?_
                                clear hK a; intro a hK
                                refine st_skip (d := 167) hK rfl rfl rfl ?_
                                clear hK a; intro a hK
                                refine st_skip (d := 168) hK rfl rfl rfl ?_
                                clear hK a; intro a hK
                                refine st_op (d := 169) (v' := .bool true) (vs := []) (obs := []) hK rfl (fun _ => by kernel_rfl) trivial rfl rfl rfl ?_
                                clear hK a; intro a hK
                                refine st_op (d := 25) (v' := .bool true) (vs := []) (obs := []) hK rfl (fun _ => by kernel_rfl) trivial rfl rfl rfl ?_
                                clear hK a; intro a hK
                                refine wpList_nil ?_
                                replace hK := hK.weak (K' := [(5, .pointer (some ⟨g3, 0, none⟩)), (8, .bool false), (9, .bool true), (20, .pointer (some ⟨g61, 0, none⟩)), (24, .int .i64 (stampS M56.d u.t lo hi).2.2), (142, .slice u.ra u.t.reads.length u.rc), (143, .int .i64 ((u.t.reads.length : Nat) : Int)), (144, .int .i64 ((k2 : Nat) : Int)), (145, .bool true), (146, .pointer (some ⟨b84, o85 + k2 * 2, none⟩)), (147, .agg #[.int .i64 x82.key, .int .i64 x82.ts]), (27, .pointer (some ⟨g87, 0, none⟩)), (148, .pointer (some ⟨g3, 3, none⟩)), (149, .slice t.wa t.t.writes.length t.wc), (150, .int .i64 ((t.t.writes.length : Nat) : Int)), (151, .int .i64 ((j2 : Nat) : Int)), (25, .bool true), (152, .bool true), (153, .pointer (some ⟨b95, o96 + j2 * 3, none⟩)), (154, .agg #[.int .i64 x93.key, .int .i64 x93.value, .bool x93.gone]), (29, .pointer (some ⟨g98, 0, none⟩)), (155, .bool (oldR v57.t.ts t.t.writes (u.t.reads.take k2) || oldW v57.t.ts (t.t.writes.take j2) x82)), (156, .bool true), (169, .bool true)]) ⟨rfl, rfl, rfl, rfl, rfl, rfl, rfl, rfl, rfl, rfl, rfl, rfl, rfl, rfl, rfl, rfl, rfl, rfl, rfl, rfl, rfl, rfl, rfl, rfl, trivial⟩
                                refine xb_norm ?_
                                refine xt_norm ?_
                                refine wp_region_lit ?_
                                refine st_op (d := 170) (v' := .int .i64 (IntKind.i64.wrap (((j2 : Nat) : Int) + 1))) (v := .int .i64 (((j2 : Nat) : Int) + 1)) (vs := []) (obs := []) hK rfl (fun _ => by kernel_rfl) trivial (congrArg (Value.int .i64) (IntWalk.i64_in _ (by omega))) rfl rfl ?_
                                clear hK a; intro a hK
                                refine st_op (d := 151) (v' := .int .i64 (((j2 : Nat) : Int) + 1)) (vs := []) (obs := []) hK rfl (fun _ => by kernel_rfl) trivial rfl rfl rfl ?_
                                clear hK a; intro a hK
                                refine wpList_nil ?_
                                refine xt_norm ?_
                                replace hK := hK.sub (d := 151) (v' := .int .i64 (((j2 + 1) : Nat) : Int)) rfl (by first | rfl | (congr 1; omega))
                                replace hK := hK.sub (d := 25) (v' := .bool (oldR v57.t.ts t.t.writes (u.t.reads.take k2) || oldW v57.t.ts (t.t.writes.take (j2 + 1)) x82)) rfl (congrArg Value.bool (by rw [oldW_next hx94, ← Bool.or_assoc, hc101]; rfl))
                                refine ⟨j2 + 1, ⟨hK.weak ⟨rfl, rfl, rfl, rfl, rfl, rfl, rfl, rfl, rfl, rfl, rfl, rfl, rfl, rfl, rfl, rfl, rfl, trivial⟩, hE.drop (.cons _ (.cons_cons _ (.cons_cons _ (.cons_cons _ (.cons_cons _ (.cons_cons _ (.cons_cons _ (.cons_cons _ (.cons_cons _ (.cons_cons _ (.cons_cons _ (.cons_cons _ (.cons_cons _ (.cons_cons _ (.cons_cons _ (.cons_cons _ (.cons_cons _ (.cons_cons _ (.cons _ (.cons _ (.cons_cons _ (.cons_cons _ (.cons_cons _ (.cons_cons _ (.cons_cons _ (.cons_cons _ .slnil)))))))))))))))))))))))))), by omega, trivial⟩, by omega⟩
                              · replace hK := hK.sub (d := 156) (v' := .bool false) rfl (congrArg Value.bool hc101)
                                refine st_op (d := 157) (v' := .pointer (some ⟨g98, 0, none⟩)) (vs := []) (obs := []) hK rfl (fun _ => by kernel_rfl) trivial rfl rfl rfl ?_
                                clear hK a; intro a hK
                                refine st_op (d := 158) (v' := .int .i64 x93.key) (vs := [.int .i64 x93.key]) (obs := [(⟨g98, 0, none⟩, .int .i64 x93.key)]) hK rfl (fun _ => by kernel_rfl) ⟨((hE.blk 0 rfl).cell 0).trans rfl, trivial⟩ rfl rfl rfl ?_
                                clear hK a; intro a hK
                                refine st_op (d := 159) (v' := .pointer (some ⟨g87, 0, none⟩)) (vs := []) (obs := []) hK rfl (fun _ => by kernel_rfl) trivial rfl rfl rfl ?_
                                clear hK a; intro a hK
                                refine st_op (d := 160) (v' := .int .i64 x82.key) (vs := [.int .i64 x82.key]) (obs := [(⟨g87, 0, none⟩, .int .i64 x82.key)]) hK rfl (fun _ => by kernel_rfl) ⟨((hE.blk 1 rfl).cell 0).trans rfl, trivial⟩ rfl rfl rfl ?_
                                clear hK a; intro a hK
                                refine st_op (d := 161) (v' := .bool (x93.key == x82.key)) (vs := []) (obs := []) hK rfl (fun _ => by kernel_rfl) trivial rfl rfl rfl ?_
                                clear hK a; intro a hK
                                refine st_op (d := 162) (v' := .bool (x93.key == x82.key)) (vs := []) (obs := []) hK rfl (fun _ => by kernel_rfl) trivial rfl rfl rfl ?_
                                clear hK a; intro a hK
                                rcases Bool.eq_false_or_eq_true ((x93.key == x82.key)) with hc102 | hc102
                                · have hc102p := eq_of_beq hc102
                                  replace hK := hK.sub (d := 162) (v' := .bool true) rfl (congrArg Value.bool hc102)
                                  refine st_op (d := 163) (v' := .pointer (some ⟨g87, 1, none⟩)) (vs := []) (obs := []) hK rfl (fun _ => by kernel_rfl) trivial rfl rfl rfl ?_
                                  clear hK a; intro a hK
                                  refine st_op (d := 164) (v' := .int .i64 x82.ts) (vs := [.int .i64 x82.ts]) (obs := [(⟨g87, 1, none⟩, .int .i64 x82.ts)]) hK rfl (fun _ => by kernel_rfl) ⟨((hE.blk 1 rfl).cell 1).trans rfl, trivial⟩ rfl rfl rfl ?_
                                  clear hK a; intro a hK
                                  refine st_op (d := 165) (v' := .pointer (some ⟨g61, 1, none⟩)) (vs := []) (obs := []) hK rfl (fun _ => by kernel_rfl) trivial rfl rfl rfl ?_
                                  clear hK a; intro a hK
                                  refine st_op (d := 166) (v' := .int .i64 v57.t.ts) (vs := [.int .i64 v57.t.ts]) (obs := [(⟨g61, 1, none⟩, .int .i64 v57.t.ts)]) hK rfl (fun _ => by kernel_rfl) ⟨((hE.blk 6 rfl).cell 1).trans rfl, trivial⟩ rfl rfl rfl ?_
                                  clear hK a; intro a hK
                                  refine st_op (d := 167) (v' := .bool (x82.ts != v57.t.ts)) (v := .bool (!(x82.ts == v57.t.ts))) (vs := []) (obs := []) hK rfl (fun _ => by kernel_rfl) trivial rfl rfl rfl ?_
                                  clear hK a; intro a hK
                                  refine st_op (d := 168) (v' := .bool (!(x82.ts == v57.t.ts))) (vs := []) (obs := []) hK rfl (fun _ => by kernel_rfl) trivial rfl rfl rfl ?_
                                  clear hK a; intro a hK
                                  refine st_op (d := 169) (v' := .bool (!(x82.ts == v57.t.ts))) (vs := []) (obs := []) hK rfl (fun _ => by kernel_rfl) trivial rfl rfl rfl ?_
                                  clear hK a; intro a hK
                                  refine st_op (d := 25) (v' := .bool (!(x82.ts == v57.t.ts))) (vs := []) (obs := []) hK rfl (fun _ => by kernel_rfl) trivial rfl rfl rfl ?_
                                  clear hK a; intro a hK
                                  refine wpList_nil ?_
                                  replace hK := hK.weak (K' := [(5, .pointer (some ⟨g3, 0, none⟩)), (8, .bool false), (9, .bool true), (20, .pointer (some ⟨g61, 0, none⟩)), (24, .int .i64 (stampS M56.d u.t lo hi).2.2), (142, .slice u.ra u.t.reads.length u.rc), (143, .int .i64 ((u.t.reads.length : Nat) : Int)), (144, .int .i64 ((k2 : Nat) : Int)), (145, .bool true), (146, .pointer (some ⟨b84, o85 + k2 * 2, none⟩)), (147, .agg #[.int .i64 x82.key, .int .i64 x82.ts]), (27, .pointer (some ⟨g87, 0, none⟩)), (148, .pointer (some ⟨g3, 3, none⟩)), (149, .slice t.wa t.t.writes.length t.wc), (150, .int .i64 ((t.t.writes.length : Nat) : Int)), (151, .int .i64 ((j2 : Nat) : Int)), (25, .bool (!(x82.ts == v57.t.ts))), (152, .bool true), (153, .pointer (some ⟨b95, o96 + j2 * 3, none⟩)), (154, .agg #[.int .i64 x93.key, .int .i64 x93.value, .bool x93.gone]), (29, .pointer (some ⟨g98, 0, none⟩)), (155, .bool (oldR v57.t.ts t.t.writes (u.t.reads.take k2) || oldW v57.t.ts (t.t.writes.take j2) x82)), (156, .bool false), (157, .pointer (some ⟨g98, 0, none⟩)), (158, .int .i64 x93.key), (159, .pointer (some ⟨g87, 0, none⟩)), (160, .int .i64 x82.key), (161, .bool (x93.key == x82.key)), (162, .bool true), (163, .pointer (some ⟨g87, 1, none⟩)), (164, .int .i64 x82.ts), (165, .pointer (some ⟨g61, 1, none⟩)), (166, .int .i64 v57.t.ts), (167, .bool (!(x82.ts == v57.t.ts))), (168, .bool (!(x82.ts == v57.t.ts))), (169, .bool (!(x82.ts == v57.t.ts)))]) ⟨rfl, rfl, rfl, rfl, rfl, rfl, rfl, rfl, rfl, rfl, rfl, rfl, rfl, rfl, rfl, rfl, rfl, rfl, rfl, rfl, rfl, rfl, rfl, rfl, rfl, rfl, rfl, rfl, rfl, rfl, rfl, rfl, rfl, rfl, rfl, rfl, trivial⟩
                                  refine xb_norm ?_
                                  refine xt_norm ?_
                                  refine wp_region_lit ?_
                                  refine st_op (d := 170) (v' := .int .i64 (IntKind.i64.wrap (((j2 : Nat) : Int) + 1))) (v := .int .i64 (((j2 : Nat) : Int) + 1)) (vs := []) (obs := []) hK rfl (fun _ => by kernel_rfl) trivial (congrArg (Value.int .i64) (IntWalk.i64_in _ (by omega))) rfl rfl ?_
                                  clear hK a; intro a hK
                                  refine st_op (d := 151) (v' := .int .i64 (((j2 : Nat) : Int) + 1)) (vs := []) (obs := []) hK rfl (fun _ => by kernel_rfl) trivial rfl rfl rfl ?_
                                  clear hK a; intro a hK
                                  refine wpList_nil ?_
                                  replace hK := hK.weak (K' := [(5, .pointer (some ⟨g3, 0, none⟩)), (8, .bool false), (9, .bool true), (20, .pointer (some ⟨g61, 0, none⟩)), (24, .int .i64 (stampS M56.d u.t lo hi).2.2), (142, .slice u.ra u.t.reads.length u.rc), (143, .int .i64 ((u.t.reads.length : Nat) : Int)), (144, .int .i64 ((k2 : Nat) : Int)), (145, .bool true), (146, .pointer (some ⟨b84, o85 + k2 * 2, none⟩)), (147, .agg #[.int .i64 x82.key, .int .i64 x82.ts]), (27, .pointer (some ⟨g87, 0, none⟩)), (148, .pointer (some ⟨g3, 3, none⟩)), (149, .slice t.wa t.t.writes.length t.wc), (150, .int .i64 ((t.t.writes.length : Nat) : Int)), (151, .int .i64 (((j2 : Nat) : Int) + 1)), (25, .bool (!(x82.ts == v57.t.ts))), (152, .bool true), (153, .pointer (some ⟨b95, o96 + j2 * 3, none⟩)), (154, .agg #[.int .i64 x93.key, .int .i64 x93.value, .bool x93.gone]), (29, .pointer (some ⟨g98, 0, none⟩)), (155, .bool (oldR v57.t.ts t.t.writes (u.t.reads.take k2) || oldW v57.t.ts (t.t.writes.take j2) x82)), (156, .bool false), (157, .pointer (some ⟨g98, 0, none⟩)), (158, .int .i64 x93.key), (159, .pointer (some ⟨g87, 0, none⟩)), (160, .int .i64 x82.key), (161, .bool (x93.key == x82.key)), (162, .bool true), (163, .pointer (some ⟨g87, 1, none⟩)), (164, .int .i64 x82.ts), (165, .pointer (some ⟨g61, 1, none⟩)), (166, .int .i64 v57.t.ts), (167, .bool (!(x82.ts == v57.t.ts))), (168, .bool (!(x82.ts == v57.t.ts))), (169, .bool (!(x82.ts == v57.t.ts))), (170, .int .i64 (((j2 : Nat) : Int) + 1))]) ⟨rfl, rfl, rfl, rfl, rfl, rfl, rfl, rfl, rfl, rfl, rfl, rfl, rfl, rfl, rfl, rfl, rfl, rfl, rfl, rfl, rfl, rfl, rfl, rfl, rfl, rfl, rfl, rfl, rfl, rfl, rfl, rfl, rfl, rfl, rfl, rfl, rfl, trivial⟩
                                  refine xt_norm ?_
                                  replace hK := hK.sub (d := 151) (v' := .int .i64 (((j2 + 1) : Nat) : Int)) rfl (by first | rfl | (congr 1; omega))
                                  replace hK := hK.sub (d := 25) (v' := .bool (oldR v57.t.ts t.t.writes (u.t.reads.take k2) || oldW v57.t.ts (t.t.writes.take (j2 + 1)) x82)) rfl (congrArg Value.bool (by rw [oldW_next hx94, ← Bool.or_assoc, hc101]; rw [hc102]; rfl))
                                  refine ⟨j2 + 1, ⟨hK.weak ⟨rfl, rfl, rfl, rfl, rfl, rfl, rfl, rfl, rfl, rfl, rfl, rfl, rfl, rfl, rfl, rfl, rfl, trivial⟩, hE.drop (.cons _ (.cons_cons _ (.cons_cons _ (.cons_cons _ (.cons_cons _ (.cons_cons _ (.cons_cons _ (.cons_cons _ (.cons_cons _ (.cons_cons _ (.cons_cons _ (.cons_cons _ (.cons_cons _ (.cons_cons _ (.cons_cons _ (.cons_cons _ (.cons_cons _ (.cons_cons _ (.cons _ (.cons _ (.cons_cons _ (.cons_cons _ (.cons_cons _ (.cons_cons _ (.cons_cons _ (.cons_cons _ .slnil)))))))))))))))))))))))))), by omega, trivial⟩, by omega⟩
                                · have hc102p := ne_of_beq_false hc102
                                  replace hK := hK.sub (d := 162) (v' := .bool false) rfl (congrArg Value.bool hc102)
                                  refine st_skip (d := 163) hK rfl rfl rfl ?_
                                  clear hK a; intro a hK
                                  refine st_skip (d := 164) hK rfl rfl rfl ?_
                                  clear hK a; intro a hK
                                  refine st_skip (d := 165) hK rfl rfl rfl ?_
                                  clear hK a; intro a hK
                                  refine st_skip (d := 166) hK rfl rfl rfl ?_
                                  clear hK a; intro a hK
                                  refine st_skip (d := 167) hK rfl rfl rfl ?_
                                  clear hK a; intro a hK
                                  refine st_op (d := 168) (v' := .bool false) (vs := []) (obs := []) hK rfl (fun _ => by kernel_rfl) trivial rfl rfl rfl ?_
                                  clear hK a; intro a hK
                                  refine st_op (d := 169) (v' := .bool false) (vs := []) (obs := []) hK rfl (fun _ => by kernel_rfl) trivial rfl rfl rfl ?_
                                  clear hK a; intro a hK
                                  refine st_op (d := 25) (v' := .bool false) (vs := []) (obs := []) hK rfl (fun _ => by kernel_rfl) trivial rfl rfl rfl ?_
                                  clear hK a; intro a hK
                                  refine wpList_nil ?_
                                  replace hK := hK.weak (K' := [(5, .pointer (some ⟨g3, 0, none⟩)), (8, .bool false), (9, .bool true), (20, .pointer (some ⟨g61, 0, none⟩)), (24, .int .i64 (stampS M56.d u.t lo hi).2.2), (142, .slice u.ra u.t.reads.length u.rc), (143, .int .i64 ((u.t.reads.length : Nat) : Int)), (144, .int .i64 ((k2 : Nat) : Int)), (145, .bool true), (146, .pointer (some ⟨b84, o85 + k2 * 2, none⟩)), (147, .agg #[.int .i64 x82.key, .int .i64 x82.ts]), (27, .pointer (some ⟨g87, 0, none⟩)), (148, .pointer (some ⟨g3, 3, none⟩)), (149, .slice t.wa t.t.writes.length t.wc), (150, .int .i64 ((t.t.writes.length : Nat) : Int)), (151, .int .i64 ((j2 : Nat) : Int)), (25, .bool false), (152, .bool true), (153, .pointer (some ⟨b95, o96 + j2 * 3, none⟩)), (154, .agg #[.int .i64 x93.key, .int .i64 x93.value, .bool x93.gone]), (29, .pointer (some ⟨g98, 0, none⟩)), (155, .bool (oldR v57.t.ts t.t.writes (u.t.reads.take k2) || oldW v57.t.ts (t.t.writes.take j2) x82)), (156, .bool false), (157, .pointer (some ⟨g98, 0, none⟩)), (158, .int .i64 x93.key), (159, .pointer (some ⟨g87, 0, none⟩)), (160, .int .i64 x82.key), (161, .bool (x93.key == x82.key)), (162, .bool false), (168, .bool false), (169, .bool false)]) ⟨rfl, rfl, rfl, rfl, rfl, rfl, rfl, rfl, rfl, rfl, rfl, rfl, rfl, rfl, rfl, rfl, rfl, rfl, rfl, rfl, rfl, rfl, rfl, rfl, rfl, rfl, rfl, rfl, rfl, rfl, rfl, trivial⟩
                                  refine xb_norm ?_
                                  refine xt_norm ?_
                                  refine wp_region_lit ?_
                                  refine st_op (d := 170) (v' := .int .i64 (IntKind.i64.wrap (((j2 : Nat) : Int) + 1))) (v := .int .i64 (((j2 : Nat) : Int) + 1)) (vs := []) (obs := []) hK rfl (fun _ => by kernel_rfl) trivial (congrArg (Value.int .i64) (IntWalk.i64_in _ (by omega))) rfl rfl ?_
                                  clear hK a; intro a hK
                                  refine st_op (d := 151) (v' := .int .i64 (((j2 : Nat) : Int) + 1)) (vs := []) (obs := []) hK rfl (fun _ => by kernel_rfl) trivial rfl rfl rfl ?_
                                  clear hK a; intro a hK
                                  refine wpList_nil ?_
                                  replace hK := hK.weak (K' := [(5, .pointer (some ⟨g3, 0, none⟩)), (8, .bool false), (9, .bool true), (20, .pointer (some ⟨g61, 0, none⟩)), (24, .int .i64 (stampS M56.d u.t lo hi).2.2), (142, .slice u.ra u.t.reads.length u.rc), (143, .int .i64 ((u.t.reads.length : Nat) : Int)), (144, .int .i64 ((k2 : Nat) : Int)), (145, .bool true), (146, .pointer (some ⟨b84, o85 + k2 * 2, none⟩)), (147, .agg #[.int .i64 x82.key, .int .i64 x82.ts]), (27, .pointer (some ⟨g87, 0, none⟩)), (148, .pointer (some ⟨g3, 3, none⟩)), (149, .slice t.wa t.t.writes.length t.wc), (150, .int .i64 ((t.t.writes.length : Nat) : Int)), (151, .int .i64 (((j2 : Nat) : Int) + 1)), (25, .bool false), (152, .bool true), (153, .pointer (some ⟨b95, o96 + j2 * 3, none⟩)), (154, .agg #[.int .i64 x93.key, .int .i64 x93.value, .bool x93.gone]), (29, .pointer (some ⟨g98, 0, none⟩)), (155, .bool (oldR v57.t.ts t.t.writes (u.t.reads.take k2) || oldW v57.t.ts (t.t.writes.take j2) x82)), (156, .bool false), (157, .pointer (some ⟨g98, 0, none⟩)), (158, .int .i64 x93.key), (159, .pointer (some ⟨g87, 0, none⟩)), (160, .int .i64 x82.key), (161, .bool (x93.key == x82.key)), (162, .bool false), (168, .bool false), (169, .bool false), (170, .int .i64 (((j2 : Nat) : Int) + 1))]) ⟨rfl, rfl, rfl, rfl, rfl, rfl, rfl, rfl, rfl, rfl, rfl, rfl, rfl, rfl, rfl, rfl, rfl, rfl, rfl, rfl, rfl, rfl, rfl, rfl, rfl, rfl, rfl, rfl, rfl, rfl, rfl, rfl, trivial⟩
                                  refine xt_norm ?_
                                  replace hK := hK.sub (d := 151) (v' := .int .i64 (((j2 + 1) : Nat) : Int)) rfl (by first | rfl | (congr 1; omega))
                                  replace hK := hK.sub (d := 25) (v' := .bool (oldR v57.t.ts t.t.writes (u.t.reads.take k2) || oldW v57.t.ts (t.t.writes.take (j2 + 1)) x82)) rfl (congrArg Value.bool (by rw [oldW_next hx94, ← Bool.or_assoc, hc101]; rw [hc102]; rfl))
                                  refine ⟨j2 + 1, ⟨hK.weak ⟨rfl, rfl, rfl, rfl, rfl, rfl, rfl, rfl, rfl, rfl, rfl, rfl, rfl, rfl, rfl, rfl, rfl, trivial⟩, hE.drop (.cons _ (.cons_cons _ (.cons_cons _ (.cons_cons _ (.cons_cons _ (.cons_cons _ (.cons_cons _ (.cons_cons _ (.cons_cons _ (.cons_cons _ (.cons_cons _ (.cons_cons _ (.cons_cons _ (.cons_cons _ (.cons_cons _ (.cons_cons _ (.cons_cons _ (.cons_cons _ (.cons _ (.cons _ (.cons_cons _ (.cons_cons _ (.cons_cons _ (.cons_cons _ (.cons_cons _ (.cons_cons _ .slnil)))))))))))))))))))))))))), by omega, trivial⟩, by omega⟩
                            · have hc92p := of_decide_eq_false hc92
                              replace hK := hK.sub (d := 152) (v' := .bool false) rfl (congrArg Value.bool hc92)
                              refine vc_cond (t := false) hK (fun _ => rfl) ?_
                              rw [if_neg (by simp)]
                              refine wp_exit ?_
                              refine xt_exit ?_
                              refine xt_exit ?_
                              refine xb_hit ?_
                              refine xb_norm ?_
                              refine xt_norm ?_
                              refine wp_region_lit ?_
                              refine st_op (d := 171) (v' := .int .i64 (IntKind.i64.wrap (((k2 : Nat) : Int) + 1))) (v := .int .i64 (((k2 : Nat) : Int) + 1)) (vs := []) (obs := []) hK rfl (fun _ => by kernel_rfl) trivial (congrArg (Value.int .i64) (IntWalk.i64_in _ (by omega))) rfl rfl ?_
                              clear hK a; intro a hK
                              refine st_op (d := 144) (v' := .int .i64 (((k2 : Nat) : Int) + 1)) (vs := []) (obs := []) hK rfl (fun _ => by kernel_rfl) trivial rfl rfl rfl ?_
                              clear hK a; intro a hK
                              refine wpList_nil ?_
                              refine xt_norm ?_
                              replace hK := hK.sub (d := 144) (v' := .int .i64 (((k2 + 1) : Nat) : Int)) rfl (by first | rfl | (congr 1; omega))
                              replace hK := hK.sub (d := 25) (v' := .bool (oldR v57.t.ts t.t.writes (u.t.reads.take (k2 + 1)))) rfl (congrArg Value.bool (oldR_next hx83 (by omega)).symm)
                              refine ⟨k2 + 1, ⟨hK.weak ⟨rfl, rfl, rfl, rfl, rfl, rfl, rfl, rfl, rfl, trivial⟩, hE.drop (.cons _ (.cons_cons _ (.cons_cons _ (.cons_cons _ (.cons_cons _ (.cons_cons _ (.cons_cons _ (.cons_cons _ (.cons_cons _ (.cons_cons _ (.cons_cons _ (.cons_cons _ (.cons_cons _ (.cons_cons _ (.cons _ (.cons _ (.cons_cons _ (.cons_cons _ (.cons_cons _ (.cons_cons _ (.cons_cons _ (.cons_cons _ (.cons_cons _ .slnil))))))))))))))))))))))), by omega, trivial⟩, by omega⟩
                        · have hc81p := of_decide_eq_false hc81
                          replace hK := hK.sub (d := 145) (v' := .bool false) rfl (congrArg Value.bool hc81)
                          refine vc_cond (t := false) hK (fun _ => rfl) ?_
                          rw [if_neg (by simp)]
                          refine wp_exit ?_
                          refine xt_exit ?_
                          refine xt_exit ?_
                          refine xb_hit ?_
                          refine xt_norm ?_
                          refine wp_seq ?_
                          refine wp_region_lit ?_
                          refine st_op (d := 172) (v' := .bool true) (vs := []) (obs := []) hK rfl (fun _ => by kernel_rfl) trivial rfl rfl rfl ?_
                          clear hK a; intro a hK
                          refine st_op (d := 173) (v' := .bool true) (vs := []) (obs := []) hK rfl (fun _ => by kernel_rfl) trivial rfl rfl rfl ?_
                          clear hK a; intro a hK
                          refine st_op (d := 174) (v' := .bool (oldR v57.t.ts t.t.writes (u.t.reads.take k2))) (vs := []) (obs := []) hK rfl (fun _ => by kernel_rfl) trivial rfl rfl rfl ?_
                          clear hK a; intro a hK
                          refine st_op (d := 175) (v' := .bool (!(oldR v57.t.ts t.t.writes (u.t.reads.take k2)))) (vs := []) (obs := []) hK rfl (fun _ => by kernel_rfl) trivial rfl rfl rfl ?_
                          clear hK a; intro a hK
                          refine st_op (d := 176) (v' := .bool (!(oldR v57.t.ts t.t.writes (u.t.reads.take k2)))) (vs := []) (obs := []) hK rfl (fun _ => by kernel_rfl) trivial rfl rfl rfl ?_
                          clear hK a; intro a hK
                          rcases Bool.eq_false_or_eq_true (oldR v57.t.ts t.t.writes (u.t.reads.take k2)) with hc103 | hc103
                          · replace hK := hK.sub (d := 176) (v' := .bool false) rfl (congrArg (fun b => Value.bool !b) hc103)
                            refine st_op (d := 177) (v' := .int .i64 (stampS M56.d u.t lo hi).2.2) (vs := []) (obs := []) hK rfl (fun _ => by kernel_rfl) trivial rfl rfl rfl ?_
                            clear hK a; intro a hK
                            refine st_op (d := 178) (v' := .bool ((stampS M56.d u.t lo hi).2.2 == 60)) (vs := []) (obs := []) hK rfl (fun _ => by kernel_rfl) trivial rfl rfl rfl ?_
                            clear hK a; intro a hK
                            refine st_op (d := 179) (v' := .bool ((stampS M56.d u.t lo hi).2.2 == 60)) (vs := []) (obs := []) hK rfl (fun _ => by kernel_rfl) trivial rfl rfl rfl ?_
                            clear hK a; intro a hK
                            refine st_op (d := 180) (v' := .bool ((stampS M56.d u.t lo hi).2.2 == 60)) (vs := []) (obs := []) hK rfl (fun _ => by kernel_rfl) trivial rfl rfl rfl ?_
                            clear hK a; intro a hK
                            refine st_op (d := 8) (v' := .bool ((stampS M56.d u.t lo hi).2.2 == 60)) (vs := []) (obs := []) hK rfl (fun _ => by kernel_rfl) trivial rfl rfl rfl ?_
                            clear hK a; intro a hK
                            refine wpList_nil ?_
                            refine xt_norm ?_
                            refine wp_ret ?_
                            have hd104 : (((stampS M56.d u.t lo hi).2.2 == 60)) = true := by rw [hM56]; exact conf2_law hc66p hiv hc77 hc78p (hv56 ▸ hc103)
                            replace hK := hK.sub (d := 8) (v' := .bool true) rfl (congrArg Value.bool hd104)
                            refine vc_ret (v' := .bool true) (vs := []) (obs := []) hK (fun _ => by kernel_rfl) trivial rfl ?_
                            exact ⟨rfl, hE.b⟩
                          · replace hK := hK.sub (d := 176) (v' := .bool true) rfl (congrArg (fun b => Value.bool !b) hc103)
                            refine st_skip (d := 177) hK rfl rfl rfl ?_
                            clear hK a; intro a hK
                            refine st_skip (d := 178) hK rfl rfl rfl ?_
                            clear hK a; intro a hK
                            refine st_op (d := 179) (v' := .bool true) (vs := []) (obs := []) hK rfl (fun _ => by kernel_rfl) trivial rfl rfl rfl ?_
                            clear hK a; intro a hK
                            refine st_op (d := 180) (v' := .bool true) (vs := []) (obs := []) hK rfl (fun _ => by kernel_rfl) trivial rfl rfl rfl ?_
                            clear hK a; intro a hK
                            refine st_op (d := 8) (v' := .bool true) (vs := []) (obs := []) hK rfl (fun _ => by kernel_rfl) trivial rfl rfl rfl ?_
                            clear hK a; intro a hK
                            refine wpList_nil ?_
                            refine xt_norm ?_
                            refine wp_ret ?_
                            refine vc_ret (v' := .bool true) (vs := []) (obs := []) hK (fun _ => by kernel_rfl) trivial rfl ?_
                            exact ⟨rfl, hE.b⟩
                    · have hc78p := ne_of_beq_false hc78
                      replace hK := hK.sub (d := 135) (v' := .bool true) rfl (congrArg (fun b => Value.bool !b) hc78)
                      refine vc_cond (t := true) hK (fun _ => rfl) ?_
                      rw [if_pos rfl]
                      refine wp_seq ?_
                      refine wp_region_lit ?_
                      refine st_op (d := 136) (v' := .bool true) (vs := []) (obs := []) hK rfl (fun _ => by kernel_rfl) trivial rfl rfl rfl ?_
                      clear hK a; intro a hK
                      refine st_op (d := 137) (v' := .bool true) (vs := []) (obs := []) hK rfl (fun _ => by kernel_rfl) trivial rfl rfl rfl ?_
                      clear hK a; intro a hK
                      refine st_op (d := 138) (v' := .int .i64 (stampS M56.d u.t lo hi).2.2) (vs := []) (obs := []) hK rfl (fun _ => by kernel_rfl) trivial rfl rfl rfl ?_
                      clear hK a; intro a hK
                      refine st_op (d := 139) (v' := .bool ((stampS M56.d u.t lo hi).2.2 == 1)) (vs := []) (obs := []) hK rfl (fun _ => by kernel_rfl) trivial rfl rfl rfl ?_
                      clear hK a; intro a hK
                      refine st_op (d := 140) (v' := .bool ((stampS M56.d u.t lo hi).2.2 == 1)) (vs := []) (obs := []) hK rfl (fun _ => by kernel_rfl) trivial rfl rfl rfl ?_
                      clear hK a; intro a hK
                      refine st_op (d := 8) (v' := .bool ((stampS M56.d u.t lo hi).2.2 == 1)) (vs := []) (obs := []) hK rfl (fun _ => by kernel_rfl) trivial rfl rfl rfl ?_
                      clear hK a; intro a hK
                      refine wpList_nil ?_
                      refine xt_norm ?_
                      refine wp_ret ?_
                      refine xt_ret ?_
                      have hd105 : (((stampS M56.d u.t lo hi).2.2 == 1)) = true := arg_law (.inr hc78p)
                      replace hK := hK.sub (d := 8) (v' := .bool true) rfl (congrArg Value.bool hd105)
                      refine vc_ret (v' := .bool true) (vs := []) (obs := []) hK (fun _ => by kernel_rfl) trivial rfl ?_
                      exact ⟨rfl, hE.b⟩
                  · replace hK := hK.sub (d := 131) (v' := .bool true) rfl (congrArg (fun b => Value.bool !b) hc77)
                    refine st_skip (d := 132) hK rfl rfl rfl ?_
                    clear hK a; intro a hK
                    refine st_skip (d := 133) hK rfl rfl rfl ?_
                    clear hK a; intro a hK
                    refine st_skip (d := 134) hK rfl rfl rfl ?_
                    clear hK a; intro a hK
                    refine st_op (d := 135) (v' := .bool true) (vs := []) (obs := []) hK rfl (fun _ => by kernel_rfl) trivial rfl rfl rfl ?_
                    clear hK a; intro a hK
                    refine wpList_nil ?_
                    refine xt_norm ?_
                    refine vc_cond (t := true) hK (fun _ => rfl) ?_
                    rw [if_pos rfl]
                    refine wp_seq ?_
                    refine wp_region_lit ?_
                    refine st_op (d := 136) (v' := .bool true) (vs := []) (obs := []) hK rfl (fun _ => by kernel_rfl) trivial rfl rfl rfl ?_
                    clear hK a; intro a hK
                    refine st_op (d := 137) (v' := .bool true) (vs := []) (obs := []) hK rfl (fun _ => by kernel_rfl) trivial rfl rfl rfl ?_
                    clear hK a; intro a hK
                    refine st_op (d := 138) (v' := .int .i64 (stampS M56.d u.t lo hi).2.2) (vs := []) (obs := []) hK rfl (fun _ => by kernel_rfl) trivial rfl rfl rfl ?_
                    clear hK a; intro a hK
                    refine st_op (d := 139) (v' := .bool ((stampS M56.d u.t lo hi).2.2 == 1)) (vs := []) (obs := []) hK rfl (fun _ => by kernel_rfl) trivial rfl rfl rfl ?_
                    clear hK a; intro a hK
                    refine st_op (d := 140) (v' := .bool ((stampS M56.d u.t lo hi).2.2 == 1)) (vs := []) (obs := []) hK rfl (fun _ => by kernel_rfl) trivial rfl rfl rfl ?_
                    clear hK a; intro a hK
                    refine st_op (d := 8) (v' := .bool ((stampS M56.d u.t lo hi).2.2 == 1)) (vs := []) (obs := []) hK rfl (fun _ => by kernel_rfl) trivial rfl rfl rfl ?_
                    clear hK a; intro a hK
                    refine wpList_nil ?_
                    refine xt_norm ?_
                    refine wp_ret ?_
                    refine xt_ret ?_
                    have hd106 : (((stampS M56.d u.t lo hi).2.2 == 1)) = true := arg_law (.inl hc77)
                    replace hK := hK.sub (d := 8) (v' := .bool true) rfl (congrArg Value.bool hd106)
                    refine vc_ret (v' := .bool true) (vs := []) (obs := []) hK (fun _ => by kernel_rfl) trivial rfl ?_
                    exact ⟨rfl, hE.b⟩
                · have hc66p := ne_of_beq_false hc66
                  replace hK := hK.sub (d := 118) (v' := .bool true) rfl (congrArg (fun b => Value.bool !b) hc66)
                  refine vc_cond (t := true) hK (fun _ => rfl) ?_
                  rw [if_pos rfl]
                  refine wp_seq ?_
                  refine wp_region_lit ?_
                  refine st_op (d := 119) (v' := .bool true) (vs := []) (obs := []) hK rfl (fun _ => by kernel_rfl) trivial rfl rfl rfl ?_
                  clear hK a; intro a hK
                  refine st_op (d := 8) (v' := .bool true) (vs := []) (obs := []) hK rfl (fun _ => by kernel_rfl) trivial rfl rfl rfl ?_
                  clear hK a; intro a hK
                  refine wpList_nil ?_
                  refine xt_norm ?_
                  refine wp_ret ?_
                  refine xt_ret ?_
                  refine vc_ret (v' := .bool true) (vs := []) (obs := []) hK (fun _ => by kernel_rfl) trivial rfl ?_
                  exact ⟨rfl, hE.b⟩
          · replace hK := hK.sub (d := 55) (v' := .bool true) rfl (congrArg (fun b => Value.bool !b) hc19)
            refine vc_cond (t := true) hK (fun _ => rfl) ?_
            rw [if_pos rfl]
            refine wp_seq ?_
            refine wp_region_lit ?_
            refine st_op (d := 56) (v' := .bool true) (vs := []) (obs := []) hK rfl (fun _ => by kernel_rfl) trivial rfl rfl rfl ?_
            clear hK a; intro a hK
            refine st_op (d := 8) (v' := .bool true) (vs := []) (obs := []) hK rfl (fun _ => by kernel_rfl) trivial rfl rfl rfl ?_
            clear hK a; intro a hK
            refine wpList_nil ?_
            refine xt_norm ?_
            refine wp_ret ?_
            refine xt_ret ?_
            refine vc_ret (v' := .bool true) (vs := []) (obs := []) hK (fun _ => by kernel_rfl) trivial rfl ?_
            exact ⟨rfl, hE.b⟩
        · have hc17p := ne_of_beq_false hc17
          replace hK := hK.sub (d := 51) (v' := .bool true) rfl (congrArg (fun b => Value.bool !b) hc17)
          refine st_skip (d := 52) hK rfl rfl rfl ?_
          clear hK a; intro a hK
          refine st_skip (d := 53) hK rfl rfl rfl ?_
          clear hK a; intro a hK
          refine st_skip (d := 54) hK rfl rfl rfl ?_
          clear hK a; intro a hK
          refine st_op (d := 55) (v' := .bool true) (vs := []) (obs := []) hK rfl (fun _ => by kernel_rfl) trivial rfl rfl rfl ?_
          clear hK a; intro a hK
          refine wpList_nil ?_
          replace hK := hK.weak (K' := [(4, .pointer (some ⟨g1, 0, none⟩)), (5, .pointer (some ⟨g3, 0, none⟩)), (6, .pointer (some ⟨g5, 0, none⟩)), (7, .pointer (some ⟨g7, 0, none⟩)), (8, .bool false), (9, .bool true), (55, .bool true)]) ⟨rfl, rfl, rfl, rfl, rfl, rfl, rfl, trivial⟩
          refine xt_norm ?_
          refine vc_cond (t := true) hK (fun _ => rfl) ?_
          rw [if_pos rfl]
          refine wp_seq ?_
          refine wp_region_lit ?_
          refine st_op (d := 56) (v' := .bool true) (vs := []) (obs := []) hK rfl (fun _ => by kernel_rfl) trivial rfl rfl rfl ?_
          clear hK a; intro a hK
          refine st_op (d := 8) (v' := .bool true) (vs := []) (obs := []) hK rfl (fun _ => by kernel_rfl) trivial rfl rfl rfl ?_
          clear hK a; intro a hK
          refine wpList_nil ?_
          refine xt_norm ?_
          refine wp_ret ?_
          refine xt_ret ?_
          refine vc_ret (v' := .bool true) (vs := []) (obs := []) hK (fun _ => by kernel_rfl) trivial rfl ?_
          exact ⟨rfl, hE.b⟩
      · replace hK := hK.sub (d := 46) (v' := .bool true) rfl (congrArg (fun b => Value.bool !b) hc16)
        refine st_skip (d := 47) hK rfl rfl rfl ?_
        clear hK a; intro a hK
        refine st_skip (d := 48) hK rfl rfl rfl ?_
        clear hK a; intro a hK
        refine st_skip (d := 49) hK rfl rfl rfl ?_
        clear hK a; intro a hK
        refine st_op (d := 50) (v' := .bool true) (vs := []) (obs := []) hK rfl (fun _ => by kernel_rfl) trivial rfl rfl rfl ?_
        clear hK a; intro a hK
        refine st_op (d := 51) (v' := .bool true) (vs := []) (obs := []) hK rfl (fun _ => by kernel_rfl) trivial rfl rfl rfl ?_
        clear hK a; intro a hK
        refine st_skip (d := 52) hK rfl rfl rfl ?_
        clear hK a; intro a hK
        refine st_skip (d := 53) hK rfl rfl rfl ?_
        clear hK a; intro a hK
        refine st_skip (d := 54) hK rfl rfl rfl ?_
        clear hK a; intro a hK
        refine st_op (d := 55) (v' := .bool true) (vs := []) (obs := []) hK rfl (fun _ => by kernel_rfl) trivial rfl rfl rfl ?_
        clear hK a; intro a hK
        refine wpList_nil ?_
        replace hK := hK.weak (K' := [(4, .pointer (some ⟨g1, 0, none⟩)), (5, .pointer (some ⟨g3, 0, none⟩)), (6, .pointer (some ⟨g5, 0, none⟩)), (7, .pointer (some ⟨g7, 0, none⟩)), (8, .bool false), (9, .bool true), (55, .bool true)]) ⟨rfl, rfl, rfl, rfl, rfl, rfl, rfl, trivial⟩
        refine xt_norm ?_
        refine vc_cond (t := true) hK (fun _ => rfl) ?_
        rw [if_pos rfl]
        refine wp_seq ?_
        refine wp_region_lit ?_
        refine st_op (d := 56) (v' := .bool true) (vs := []) (obs := []) hK rfl (fun _ => by kernel_rfl) trivial rfl rfl rfl ?_
        clear hK a; intro a hK
        refine st_op (d := 8) (v' := .bool true) (vs := []) (obs := []) hK rfl (fun _ => by kernel_rfl) trivial rfl rfl rfl ?_
        clear hK a; intro a hK
        refine wpList_nil ?_
        refine xt_norm ?_
        refine wp_ret ?_
        refine xt_ret ?_
        refine vc_ret (v' := .bool true) (vs := []) (obs := []) hK (fun _ => by kernel_rfl) trivial rfl ?_
        exact ⟨rfl, hE.b⟩
    · replace hK := hK.sub (d := 41) (v' := .bool true) rfl (congrArg (fun b => Value.bool !b) hc14)
      refine st_skip (d := 42) hK rfl rfl rfl ?_
      clear hK a; intro a hK
      refine st_skip (d := 43) hK rfl rfl rfl ?_
      clear hK a; intro a hK
      refine st_skip (d := 44) hK rfl rfl rfl ?_
      clear hK a; intro a hK
      refine st_op (d := 45) (v' := .bool true) (vs := []) (obs := []) hK rfl (fun _ => by kernel_rfl) trivial rfl rfl rfl ?_
      clear hK a; intro a hK
      refine st_op (d := 46) (v' := .bool true) (vs := []) (obs := []) hK rfl (fun _ => by kernel_rfl) trivial rfl rfl rfl ?_
      clear hK a; intro a hK
      refine st_skip (d := 47) hK rfl rfl rfl ?_
      clear hK a; intro a hK
      refine st_skip (d := 48) hK rfl rfl rfl ?_
      clear hK a; intro a hK
      refine st_skip (d := 49) hK rfl rfl rfl ?_
      clear hK a; intro a hK
      refine st_op (d := 50) (v' := .bool true) (vs := []) (obs := []) hK rfl (fun _ => by kernel_rfl) trivial rfl rfl rfl ?_
      clear hK a; intro a hK
      refine st_op (d := 51) (v' := .bool true) (vs := []) (obs := []) hK rfl (fun _ => by kernel_rfl) trivial rfl rfl rfl ?_
      clear hK a; intro a hK
      refine st_skip (d := 52) hK rfl rfl rfl ?_
      clear hK a; intro a hK
      refine st_skip (d := 53) hK rfl rfl rfl ?_
      clear hK a; intro a hK
      refine st_skip (d := 54) hK rfl rfl rfl ?_
      clear hK a; intro a hK
      refine st_op (d := 55) (v' := .bool true) (vs := []) (obs := []) hK rfl (fun _ => by kernel_rfl) trivial rfl rfl rfl ?_
      clear hK a; intro a hK
      refine wpList_nil ?_
      replace hK := hK.weak (K' := [(4, .pointer (some ⟨g1, 0, none⟩)), (5, .pointer (some ⟨g3, 0, none⟩)), (6, .pointer (some ⟨g5, 0, none⟩)), (7, .pointer (some ⟨g7, 0, none⟩)), (8, .bool false), (9, .bool true), (55, .bool true)]) ⟨rfl, rfl, rfl, rfl, rfl, rfl, rfl, trivial⟩
      refine xt_norm ?_
      refine vc_cond (t := true) hK (fun _ => rfl) ?_
      rw [if_pos rfl]
      refine wp_seq ?_
      refine wp_region_lit ?_
      refine st_op (d := 56) (v' := .bool true) (vs := []) (obs := []) hK rfl (fun _ => by kernel_rfl) trivial rfl rfl rfl ?_
      clear hK a; intro a hK
      refine st_op (d := 8) (v' := .bool true) (vs := []) (obs := []) hK rfl (fun _ => by kernel_rfl) trivial rfl rfl rfl ?_
      clear hK a; intro a hK
      refine wpList_nil ?_
      refine xt_norm ?_
      refine wp_ret ?_
      refine xt_ret ?_
      refine vc_ret (v' := .bool true) (vs := []) (obs := []) hK (fun _ => by kernel_rfl) trivial rfl ?_
      exact ⟨rfl, hE.b⟩
  · replace hK := hK.sub (d := 34) (v' := .bool true) rfl (congrArg (fun b => Value.bool !b) hc11)
    refine st_skip (d := 35) hK rfl rfl rfl ?_
    clear hK a; intro a hK
    refine st_skip (d := 36) hK rfl rfl rfl ?_
    clear hK a; intro a hK
    refine st_skip (d := 37) hK rfl rfl rfl ?_
    clear hK a; intro a hK
    refine st_skip (d := 38) hK rfl rfl rfl ?_
    clear hK a; intro a hK
    refine st_skip (d := 39) hK rfl rfl rfl ?_
    clear hK a; intro a hK
    refine st_op (d := 40) (v' := .bool true) (vs := []) (obs := []) hK rfl (fun _ => by kernel_rfl) trivial rfl rfl rfl ?_
    clear hK a; intro a hK
    refine st_op (d := 41) (v' := .bool true) (vs := []) (obs := []) hK rfl (fun _ => by kernel_rfl) trivial rfl rfl rfl ?_
    clear hK a; intro a hK
    refine st_skip (d := 42) hK rfl rfl rfl ?_
    clear hK a; intro a hK
    refine st_skip (d := 43) hK rfl rfl rfl ?_
    clear hK a; intro a hK
    refine st_skip (d := 44) hK rfl rfl rfl ?_
    clear hK a; intro a hK
    refine st_op (d := 45) (v' := .bool true) (vs := []) (obs := []) hK rfl (fun _ => by kernel_rfl) trivial rfl rfl rfl ?_
    clear hK a; intro a hK
    refine st_op (d := 46) (v' := .bool true) (vs := []) (obs := []) hK rfl (fun _ => by kernel_rfl) trivial rfl rfl rfl ?_
    clear hK a; intro a hK
    refine st_skip (d := 47) hK rfl rfl rfl ?_
    clear hK a; intro a hK
    refine st_skip (d := 48) hK rfl rfl rfl ?_
    clear hK a; intro a hK
    refine st_skip (d := 49) hK rfl rfl rfl ?_
    clear hK a; intro a hK
    refine st_op (d := 50) (v' := .bool true) (vs := []) (obs := []) hK rfl (fun _ => by kernel_rfl) trivial rfl rfl rfl ?_
    clear hK a; intro a hK
    refine st_op (d := 51) (v' := .bool true) (vs := []) (obs := []) hK rfl (fun _ => by kernel_rfl) trivial rfl rfl rfl ?_
    clear hK a; intro a hK
    refine st_skip (d := 52) hK rfl rfl rfl ?_
    clear hK a; intro a hK
    refine st_skip (d := 53) hK rfl rfl rfl ?_
    clear hK a; intro a hK
    refine st_skip (d := 54) hK rfl rfl rfl ?_
    clear hK a; intro a hK
    refine st_op (d := 55) (v' := .bool true) (vs := []) (obs := []) hK rfl (fun _ => by kernel_rfl) trivial rfl rfl rfl ?_
    clear hK a; intro a hK
    refine wpList_nil ?_
    replace hK := hK.weak (K' := [(4, .pointer (some ⟨g1, 0, none⟩)), (5, .pointer (some ⟨g3, 0, none⟩)), (6, .pointer (some ⟨g5, 0, none⟩)), (7, .pointer (some ⟨g7, 0, none⟩)), (8, .bool false), (9, .bool true), (55, .bool true)]) ⟨rfl, rfl, rfl, rfl, rfl, rfl, rfl, trivial⟩
    refine xt_norm ?_
    refine vc_cond (t := true) hK (fun _ => rfl) ?_
    rw [if_pos rfl]
    refine wp_seq ?_
    refine wp_region_lit ?_
    refine st_op (d := 56) (v' := .bool true) (vs := []) (obs := []) hK rfl (fun _ => by kernel_rfl) trivial rfl rfl rfl ?_
    clear hK a; intro a hK
    refine st_op (d := 8) (v' := .bool true) (vs := []) (obs := []) hK rfl (fun _ => by kernel_rfl) trivial rfl rfl rfl ?_
    clear hK a; intro a hK
    refine wpList_nil ?_
    refine xt_norm ?_
    refine wp_ret ?_
    refine xt_ret ?_
    refine vc_ret (v' := .bool true) (vs := []) (obs := []) hK (fun _ => by kernel_rfl) trivial rfl ?_
    exact ⟨rfl, hE.b⟩
end Go.Proofs.Ytcofkflihleckaa
