/-
  Plain laws of layer 36: which versions stay, told as a filter; what is read of a reclaimed store.
-/
import Derived.Test.YtejpfcomgamhjaaRd36
import Derived.Test.YtejpfcomgamhjaaPl33v
namespace Go.Proofs.Ytejpfcomgamhjaa
/-- whether a version is still needed -/
def stP (l : List Ver) (h : Int) (v : Ver) : Bool := decide (h < v.ts) || (!v.gone && !(l.any fun x => x.key == v.key && decide (v.ts < x.ts) && decide (x.ts ≤ h)))
theorem stP_iff {l : List Ver} {h : Int} {v : Ver} : stP l h v = true ↔ h < v.ts ∨ v.gone = false ∧ ∀ x ∈ l, x.key = v.key → v.ts < x.ts → h < x.ts := by
  unfold stP
  simp only [Bool.or_eq_true, decide_eq_true_eq, Bool.and_eq_true, Bool.not_eq_true', List.any_eq_false, beq_iff_eq, not_and, Int.not_le]
  constructor
  · rintro (h1 | ⟨h1, h2⟩)
    · exact .inl h1
    · exact .inr ⟨h1, fun x hx hk ht => h2 x hx ⟨hk, ht⟩⟩
  · rintro (h1 | ⟨h1, h2⟩)
    · exact .inl h1
    · exact .inr ⟨h1, fun x hx hk => h2 x hx hk.1 hk.2⟩
def stL (l : List Ver) (h : Int) : List Ver := l.filter (stP l h)
theorem sto_stL {l : List Ver} (hs : Sto l) (h : Int) : Sto (stL l h) := sto_filter _ hs
theorem mem_stL {l : List Ver} {h : Int} {v : Ver} : v ∈ stL l h ↔ v ∈ l ∧ (h < v.ts ∨ v.gone = false ∧ ∀ x ∈ l, x.key = v.key → v.ts < x.ts → h < x.ts) := by
  unfold stL
  rw [List.mem_filter, stP_iff]
/-- two versions of one key and timestamp in a store are the same -/
theorem sto_inj {l : List Ver} (hs : Sto l) {x y : Ver} (hx : x ∈ l) (hy : y ∈ l) (hk : x.key = y.key) (ht : x.ts = y.ts) : x = y := by
  obtain ⟨i, hi, rfl⟩ := List.getElem_of_mem hx
  obtain ⟨j, hj, rfl⟩ := List.getElem_of_mem hy
  have hup := List.pairwise_iff_getElem.1 hs.up
  rcases Nat.lt_trichotomy i j with h | h | h
  · have := hup i j hi hj h; unfold ltV at this; omega
  · subst h; rfl
  · have := hup j i hj hi h; unfold ltV at this; omega
theorem lastV_mem {l : List Ver} (hs : Sto l) (k t : Int) : (lastV l k t = Ver.zero ∧ ∀ v ∈ l, ¬(v.key = k ∧ v.ts ≤ t)) ∨
    ∃ x ∈ l, lastV l k t = x ∧ x.key = k ∧ x.ts ≤ t ∧ ∀ y ∈ l, y.key = k → y.ts ≤ t → y.ts ≤ x.ts := by
  rcases lastV_spec hs.up k t with h | ⟨j, hj, e, hm, hmax⟩
  · exact .inl h
  · refine .inr ⟨l[j], List.getElem_mem hj, e, hm.1, hm.2, fun y hy hk ht => ?_⟩
    obtain ⟨i, hi, rfl⟩ := List.getElem_of_mem hy
    have hup := List.pairwise_iff_getElem.1 hs.up
    rcases Nat.lt_trichotomy i j with h | h | h
    · have := hup i j hi hj h; unfold ltV at this; omega
    · subst h; exact Int.le_refl _
    · exact absurd ⟨hk, ht⟩ (hmax i hi h)
theorem lastV_eq {l : List Ver} (hs : Sto l) {k t : Int} {x : Ver} (hx : x ∈ l) (hk : x.key = k) (ht : x.ts ≤ t) (hm : ∀ y ∈ l, y.key = k → y.ts ≤ t → y.ts ≤ x.ts) : lastV l k t = x := by
  rcases lastV_mem hs k t with ⟨_, h⟩ | ⟨z, hz, e, hzk, hzt, hzm⟩
  · exact absurd ⟨hk, ht⟩ (h x hx)
  · rw [e]
    have h1 := hzm x hx hk ht
    have h2 := hm z hz hzk hzt
    exact sto_inj hs hz hx (by rw [hzk, hk]) (by omega)
theorem lastV_none {l : List Ver} (hs : Sto l) {k t : Int} (h : ∀ v ∈ l, ¬(v.key = k ∧ v.ts ≤ t)) : lastV l k t = Ver.zero := by
  rcases lastV_mem hs k t with ⟨h1, _⟩ | ⟨z, hz, _, hzk, hzt, _⟩
  · exact h1
  · exact absurd ⟨hzk, hzt⟩ (h z hz)
/-- the walk of reclaim.staying keeps just what is needed -/
theorem stayK_inv {l : List Ver} (hs : Sto l) (h : Int) : ∀ k, k ≤ l.length → (stayK l h k).2.reverse = (l.drop (l.length - k)).filter (stP l h) ∧
    (∀ y ∈ l.drop (l.length - k), y.ts ≤ h → (stayK l h k).1 ≤ y.key ∧ (stayK l h k).1 ≠ 0) ∧ ((stayK l h k).1 = 0 ∨ ∃ x ∈ l.drop (l.length - k), x.ts ≤ h ∧ x.key = (stayK l h k).1) := by
  intro k
  induction k with
  | zero => intro _; simp [stayK]
  | succ k ih =>
    intro hk
    obtain ⟨i1, i2, i3⟩ := ih (by omega)
    have hlt : l.length - 1 - k < l.length := by omega
    rw [stayK_step hk, show l.length - (k + 1) = l.length - 1 - k by omega, List.drop_eq_getElem_cons hlt, show l.length - 1 - k + 1 = l.length - k by omega]
    obtain ⟨v, hv⟩ : ∃ v, v = l[l.length - 1 - k] := ⟨_, rfl⟩
    have hmem : v ∈ l := by rw [hv]; exact List.getElem_mem hlt
    have hwf := hs.wf v hmem
    simp only [wfB, Bool.and_eq_true, decide_eq_true_eq] at hwf
    have hup := List.pairwise_iff_getElem.1 hs.up
    have hafter : ∀ y ∈ l.drop (l.length - k), y ∈ l ∧ ltV v y := fun y hy => by
      obtain ⟨j, hj, rfl⟩ := List.getElem_of_mem hy
      simp only [List.length_drop] at hj
      rw [List.getElem_drop, hv]
      exact ⟨List.getElem_mem _, hup _ _ hlt (by omega) (by omega)⟩
    have hbefore : ∀ y ∈ l, y.key = v.key → v.ts < y.ts → y ∈ l.drop (l.length - k) := fun y hy hyk hyt => by
      obtain ⟨j, hj, rfl⟩ := List.getElem_of_mem hy
      by_cases hjk : l.length - k ≤ j
      · exact List.mem_drop_iff_getElem.2 ⟨j - (l.length - k), by omega, by congr 1; omega⟩
      · exfalso
        rcases Nat.lt_or_ge j (l.length - 1 - k) with h1 | h1
        · have := hup j _ (by omega) hlt h1; rw [← hv] at this; unfold ltV at this; omega
        · have e : j = l.length - 1 - k := by omega
          subst e; rw [← hv] at hyt; omega
    obtain ⟨⟨c, out⟩, hst⟩ : ∃ s, s = stayK l h k := ⟨_, rfl⟩
    rw [← hst] at i1 i2 i3 ⊢
    rw [← hv]
    clear hv hst
    dsimp only at i1 i2 i3
    have hcov : c = v.key ↔ ∃ x ∈ l.drop (l.length - k), x.key = v.key ∧ x.ts ≤ h := by
      constructor
      · intro e
        rcases i3 with h0 | ⟨x, hx, ht, hxk⟩
        · omega
        · exact ⟨x, hx, by rw [hxk, e], ht⟩
      · rintro ⟨x, hx, hxk, ht⟩
        have h1 := i2 x hx ht
        rcases i3 with h0 | ⟨x', hx', ht', hxk'⟩
        · exact absurd h0 h1.2
        · have h2 := (hafter x' hx').2
          unfold ltV at h2
          omega
    by_cases hts : v.ts ≤ h
    · have hcond : (c = v.key ∨ v.gone = true) ↔ ¬stP l h v = true := by
        rw [stP_iff]
        constructor
        · rintro (e | e)
          · obtain ⟨x, hx, hxk, ht⟩ := hcov.1 e
            have h2 := hafter x hx
            rintro (h3 | ⟨_, h3⟩)
            · omega
            · have h4 := h2.2
              unfold ltV at h4
              have := h3 x h2.1 hxk (by omega)
              omega
          · rintro (h3 | ⟨h3, _⟩)
            · omega
            · rw [e] at h3; cases h3
        · intro hn
          by_cases hg : v.gone = true
          · exact .inr hg
          · refine .inl (hcov.2 ?_)
            refine Classical.byContradiction fun hne => hn (.inr ⟨by simpa using hg, fun x hx hxk ht => ?_⟩)
            refine Int.not_le.1 fun hle => hne ⟨x, hbefore x hx hxk ht, hxk, hle⟩
      have hkey : ∀ y ∈ v :: l.drop (l.length - k), y.ts ≤ h → v.key ≤ y.key ∧ v.key ≠ 0 := fun y hy _ => by
        rcases List.mem_cons.1 hy with rfl | hy
        · exact ⟨Int.le_refl _, by omega⟩
        · have := (hafter y hy).2
          unfold ltV at this
          exact ⟨by omega, by omega⟩
      unfold stayF
      rw [if_pos hts]
      refine ⟨?_, hkey, .inr ⟨v, by simp, hts, rfl⟩⟩
      dsimp only
      by_cases hc : c = v.key ∨ v.gone = true
      · rw [if_pos hc, List.filter_cons_of_neg (hcond.1 hc)]
        exact i1
      · have hp : stP l h v = true := Classical.byContradiction fun hn => hc (hcond.2 hn)
        rw [if_neg hc, List.filter_cons_of_pos hp, List.reverse_append, ← i1]
        rfl
    · unfold stayF
      rw [if_neg hts]
      have hp : stP l h v = true := stP_iff.2 (.inl (by omega))
      refine ⟨?_, fun y hy ht => ?_, ?_⟩
      · dsimp only
        rw [List.filter_cons_of_pos hp, List.reverse_append, ← i1]
        rfl
      · rcases List.mem_cons.1 hy with rfl | hy
        · exact absurd ht hts
        · exact i2 y hy ht
      · rcases i3 with h0 | ⟨x, hx, h1⟩
        · exact .inl h0
        · exact .inr ⟨x, List.mem_cons_of_mem _ hx, h1⟩
theorem stayR_eq {l : List Ver} (hs : Sto l) (h : Int) : (stayR l h).reverse = stL l h := by
  have := (stayK_inv hs h l.length (Nat.le_refl _)).1
  rw [Nat.sub_self] at this
  exact this
theorem stayB_eq {l : List Ver} (hs : Sto l) (h : Int) {i : Nat} (hi : i < l.length) : stayB l h i = stP l h l[i] := by
  have hup := List.pairwise_iff_getElem.1 hs.up
  rw [Bool.eq_iff_iff, stP_iff]
  unfold stayB
  rw [getD_at hi]
  simp only [Bool.or_eq_true, Bool.and_eq_true, Bool.not_eq_true', Bool.and_eq_false_iff, decide_eq_true_eq, decide_eq_false_iff_not, beq_eq_false_iff_ne]
  constructor
  · rintro (h1 | ⟨h1, h2⟩)
    · exact .inl h1
    · refine .inr ⟨h2, fun x hx hxk hxt => ?_⟩
      obtain ⟨j, hj, rfl⟩ := List.getElem_of_mem hx
      have hij : i < j := by
        rcases Nat.lt_trichotomy i j with h3 | h3 | h3
        · exact h3
        · subst h3; omega
        · have := hup j i hj hi h3; unfold ltV at this; omega
      have hi1 : i + 1 < l.length := by omega
      rw [getD_at hi1] at h1
      have h4 := hup i (i + 1) hi hi1 (by omega)
      have h5 : i + 1 = j ∨ ltV l[i + 1] l[j] := by
        rcases Nat.lt_or_ge (i + 1) j with h6 | h6
        · exact .inr (hup _ _ hi1 hj h6)
        · exact .inl (by omega)
      have h7 : l[i + 1].key = l[i].key ∧ l[i + 1].ts ≤ l[j].ts := by
        rcases h5 with h5 | h5
        · subst h5; exact ⟨hxk, Int.le_refl _⟩
        · unfold ltV at h4 h5; omega
      rcases h1 with (h1 | h1) | h1
      · omega
      · exact absurd h7.1 h1
      · omega
  · rintro (h1 | ⟨h1, h2⟩)
    · exact .inl h1
    · refine .inr ⟨?_, h1⟩
      by_cases hi1 : i + 1 < l.length
      · rw [getD_at hi1]
        by_cases hk : l[i + 1].key = l[i].key
        · have h4 := hup i (i + 1) hi hi1 (by omega)
          unfold ltV at h4
          have := h2 _ (List.getElem_mem hi1) hk (by omega)
          exact .inr (by omega)
        · exact .inl (.inr hk)
      · exact .inl (.inl hi1)
theorem filter_range {l : List Ver} (f : Nat → Option Ver) (p : Ver → Bool) (hf : ∀ i (hi : i < l.length), f i = if p l[i] = true then some l[i] else none) : ∀ k, k ≤ l.length → (List.range k).filterMap f = (l.take k).filter p := by
  intro k
  induction k with
  | zero => intro _; simp
  | succ k ih =>
    intro hk
    rw [range_step, ih (by omega), List.take_succ_eq_append_getElem hk, List.filter_append, hf k hk]
    by_cases h : p l[k] = true
    · simp [h]
    · simp [h]
theorem stR_eq {l : List Ver} (hs : Sto l) (h : Int) : stR l h = stL l h := by
  unfold stR stL
  rw [filter_range (stOne l h) (stP l h) (fun i hi => ?_) l.length (Nat.le_refl _), List.take_length]
  unfold stOne
  rw [stayB_eq hs h hi, getD_at hi]
theorem reclaim_eq (l : List Ver) (h : Int) : rReclaimS l h = reclaimS l h := by
  unfold rReclaimS reclaimS
  cases hv : validB l
  · rfl
  · have hs := (sto_iff l).1 hv
    rw [stR_eq hs, stayR_eq hs]
theorem readR_eq (l : List Ver) (h t : Int) : rReadRS l h t = readRS l h t := by
  unfold rReadRS readRS
  rw [readS_eq]
theorem reclaim_ok {l : List Ver} (hs : Sto l) {h : Int} (he : edgeB h = true) : reclaimS l h = (stL l h, 0) := by
  unfold reclaimS
  rw [(sto_iff l).2 hs, he, stayR_eq hs]
  rfl
/-- what is read from the horizon on is as before -/
theorem show_stL {l : List Ver} (hs : Sto l) {h t : Int} (ht : h ≤ t) (k : Int) : showV (lastV (stL l h) k t) = showV (lastV l k t) := by
  rcases lastV_mem hs k t with ⟨e, hno⟩ | ⟨x, hx, e, hxk, hxt, hxm⟩
  · rw [e, lastV_none (sto_stL hs h) fun v hv => hno v (mem_stL.1 hv).1]
  · by_cases hst : x ∈ stL l h
    · rw [e, lastV_eq (sto_stL hs h) hst hxk hxt fun y hy => hxm y (mem_stL.1 hy).1]
    · have hxh : x.ts ≤ h := Int.not_lt.1 fun h1 => hst (mem_stL.2 ⟨hx, .inl h1⟩)
      have hg : x.gone = true := by
        cases hg : x.gone
        · refine absurd (mem_stL.2 ⟨hx, .inr ⟨hg, fun y hy hyk hyt => ?_⟩⟩) hst
          refine Int.not_le.1 fun h2 => ?_
          have := hxm y hy (by rw [hyk, hxk]) (by omega)
          omega
        · rfl
      have hno : ∀ v ∈ stL l h, ¬(v.key = k ∧ v.ts ≤ t) := by
        rintro v hv ⟨hvk, hvt⟩
        obtain ⟨hvl, hvs⟩ := mem_stL.1 hv
        have h1 := hxm v hvl hvk hvt
        have h2 : v.ts ≠ x.ts := fun e2 => hst (by rw [← sto_inj hs hvl hx (by rw [hvk, hxk]) e2]; exact hv)
        rcases hvs with h3 | ⟨_, h3⟩
        · omega
        · have := h3 x hx (by rw [hvk, hxk]) (by omega)
          omega
      rw [e, lastV_none (sto_stL hs h) hno]
      unfold showV
      rw [if_pos (.inl rfl), if_pos (.inr hg)]
theorem readL_stL {l : List Ver} (hs : Sto l) {h t : Int} (ht : h ≤ t) : readL (stL l h) t = readL l t := readL_ext (sto_stL hs h) hs t t (show_stL hs ht)
theorem readS_ok {l : List Ver} (hs : Sto l) {t : Int} (ht : stampB t = true) : readS l t = (readL l t, 0) := by
  unfold readS
  rw [(sto_iff l).2 hs, ht]; rfl
theorem readRS_ok {l : List Ver} (hs : Sto l) {h t : Int} (he : edgeB h = true) (ht : stampB t = true) (hle : h ≤ t) : readRS l h t = (readL l t, 0) := by
  unfold readRS
  rw [(sto_iff l).2 hs, he, ht, if_neg (by simp), if_neg (by omega), readS_ok hs ht]
/-- once more -/
theorem stL_again {l : List Ver} (hs : Sto l) {lo hi : Int} (hle : lo ≤ hi) : stL (stL l lo) hi = stL l hi := by
  refine sorted_ext ltV_irrefl (fun _ _ _ => ltV_trans) (sto_stL (sto_stL hs lo) hi).up (sto_stL hs hi).up fun v => ?_
  rw [mem_stL, mem_stL, mem_stL]
  constructor
  · rintro ⟨⟨h1, h2⟩, h3⟩
    refine ⟨h1, ?_⟩
    rcases h3 with h3 | ⟨h3, h4⟩
    · exact .inl h3
    · by_cases h5 : hi < v.ts
      · exact .inl h5
      · refine .inr ⟨h3, fun x hx hxk hxt => ?_⟩
        by_cases h6 : lo < x.ts
        · exact h4 x (mem_stL.2 ⟨hx, .inl h6⟩) hxk hxt
        · rcases h2 with h2 | ⟨_, h2⟩
          · omega
          · have := h2 x hx hxk hxt; omega
  · rintro ⟨h1, h2⟩
    rcases h2 with h2 | ⟨h2, h3⟩
    · exact ⟨⟨h1, .inl (by omega)⟩, .inl h2⟩
    · exact ⟨⟨h1, .inr ⟨h2, fun x hx hxk hxt => by have := h3 x hx hxk hxt; omega⟩⟩, .inr ⟨h2, fun x hx => h3 x (mem_stL.1 hx).1⟩⟩
theorem stL_len (l : List Ver) (h : Int) : (stL l h).length ≤ l.length := List.length_filter_le _ _
/-- a put behind the horizon -/
theorem put_stL {l a : List Ver} {h : Int} {v : Ver} (hs : Sto l) (hp : (a, (0 : Int)) = putS l v) (hv : h < v.ts) : putS (stL l h) v = (stL a h, 0) ∧ Sto a := by
  obtain ⟨hw, hn, hl, rfl, hsa⟩ := put_ok hs hp
  have hge := (newestR_ge (l := l) (k := v.key) (b := 0)).2
  change ∀ x ∈ l, x.key = v.key → x.ts ≤ newestR l v.key at hge
  have hlen := stL_len l h
  obtain ⟨h1, h2⟩ := put_eq (sto_stL hs h) hw (by omega) (fun x hx hxk => by have := hge x (mem_stL.1 hx).1 hxk; omega)
  refine ⟨?_, hsa⟩
  rw [h1]
  refine congrArg (·, (0 : Int)) (sorted_ext ltV_irrefl (fun _ _ _ => ltV_trans) h2.up (sto_stL hsa h).up fun x => ?_)
  rw [(putL_perm _ _).mem_iff, List.mem_cons, mem_stL, mem_stL, (putL_perm _ _).mem_iff, List.mem_cons]
  constructor
  · rintro (rfl | ⟨h3, h4⟩)
    · exact ⟨.inl rfl, .inl hv⟩
    · refine ⟨.inr h3, ?_⟩
      rcases h4 with h4 | ⟨h4, h5⟩
      · exact .inl h4
      · refine .inr ⟨h4, fun y hy hyk hyt => ?_⟩
        rcases List.mem_cons.1 ((putL_perm _ _).mem_iff.1 hy) with rfl | hy
        · exact hv
        · exact h5 y hy hyk hyt
  · rintro ⟨rfl | h3, h4⟩
    · exact .inl rfl
    · refine .inr ⟨h3, ?_⟩
      rcases h4 with h4 | ⟨h4, h5⟩
      · exact .inl h4
      · exact .inr ⟨h4, fun y hy => h5 y ((putL_perm _ _).mem_iff.2 (by simp [hy]))⟩
/-- a version that stays is what is read at the later one of its timestamp and the horizon -/
theorem stL_last {l : List Ver} (hs : Sto l) {h : Int} {v : Ver} (hv : v ∈ stL l h) : lastV (stL l h) v.key (max v.ts h) = v := by
  obtain ⟨h1, h2⟩ := mem_stL.1 hv
  refine lastV_eq (sto_stL hs h) hv rfl (by omega) fun y hy hyk hyt => ?_
  refine Int.not_lt.1 fun hlt => ?_
  rcases h2 with h2 | ⟨_, h2⟩
  · omega
  · have := h2 y (mem_stL.1 hy).1 hyk hlt; omega
end Go.Proofs.Ytejpfcomgamhjaa
