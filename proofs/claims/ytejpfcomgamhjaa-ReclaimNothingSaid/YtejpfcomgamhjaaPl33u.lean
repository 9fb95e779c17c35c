/-
  Plain laws of layer 33: what a read of a store holds.
-/
import Derived.Test.YtejpfcomgamhjaaPl33t
namespace Go.Proofs.Ytejpfcomgamhjaa
/-- two lists in one strict order that have the same members are equal -/
theorem sorted_ext {α : Type} {r : α → α → Prop} (hi : ∀ a, ¬r a a) (ht : ∀ a b c, r a b → r b c → r a c) : ∀ {l l' : List α}, l.Pairwise r → l'.Pairwise r → (∀ x, x ∈ l ↔ x ∈ l') → l = l'
  | [], [], _, _, _ => rfl
  | [], y :: l', _, _, h => absurd ((h y).2 (by simp)) (by simp)
  | x :: l, [], _, _, h => absurd ((h x).1 (by simp)) (by simp)
  | x :: l, y :: l', h1, h2, h => by
    have p1 := List.pairwise_cons.1 h1
    have p2 := List.pairwise_cons.1 h2
    have e : x = y := by
      rcases List.mem_cons.1 ((h x).1 (by simp)) with e | hx
      · exact e
      · rcases List.mem_cons.1 ((h y).2 (by simp)) with e | hy
        · exact e.symm
        · exact absurd (ht _ _ _ (p1.1 y hy) (p2.1 x hx)) (hi x)
    subst e
    have hn : ∀ {m : List α}, (∀ a ∈ m, r x a) → x ∉ m := fun hm hx => hi x (hm x hx)
    refine congrArg (x :: ·) (sorted_ext hi ht p1.2 p2.2 fun z => ?_)
    constructor
    · intro hz
      rcases List.mem_cons.1 ((h z).1 (by simp [hz])) with e | hz'
      · subst e; exact absurd hz (hn p1.1)
      · exact hz'
    · intro hz
      rcases List.mem_cons.1 ((h z).2 (by simp [hz])) with e | hz'
      · subst e; exact absurd hz (hn p2.1)
      · exact hz'
theorem heads_spec : ∀ {l : List Ver} {p : Option Int}, l.Pairwise (fun a b => a.key ≤ b.key) → (∀ k0, p = some k0 → ∀ v ∈ l, k0 ≤ v.key) →
    (heads p l).Pairwise (· < ·) ∧ ∀ k, k ∈ heads p l ↔ p ≠ some k ∧ ∃ v ∈ l, v.key = k
  | [], p, _, _ => by simp [heads]
  | v :: l, p, h, hp => by
    have h1 := List.pairwise_cons.1 h
    by_cases hpv : p = some v.key
    · rw [heads, if_pos hpv]
      have ih := heads_spec (l := l) (p := p) h1.2 (fun k0 e u hu => hp k0 e u (by simp [hu]))
      refine ⟨ih.1, fun k => ?_⟩
      rw [ih.2 k]
      constructor
      · rintro ⟨h2, u, hu, hk⟩
        exact ⟨h2, u, by simp [hu], hk⟩
      · rintro ⟨h2, u, hu, hk⟩
        rcases List.mem_cons.1 hu with rfl | hu
        · exact absurd (by rw [hpv, hk]) h2
        · exact ⟨h2, u, hu, hk⟩
    · rw [heads, if_neg hpv]
      have ih := heads_spec (l := l) (p := some v.key) h1.2 (fun k0 e u hu => by injection e with e; rw [← e]; exact h1.1 u hu)
      refine ⟨List.pairwise_cons.2 ⟨fun k hk => ?_, ih.1⟩, fun k => ?_⟩
      · obtain ⟨h2, u, hu, hk⟩ := (ih.2 k).1 hk
        have h3 := h1.1 u hu
        have h4 : v.key ≠ k := fun e => h2 (by rw [e])
        omega
      · rw [List.mem_cons, ih.2 k]
        constructor
        · rintro (rfl | ⟨_, u, hu, hk⟩)
          · exact ⟨hpv, v, by simp, rfl⟩
          · refine ⟨fun e => ?_, u, by simp [hu], hk⟩
            have h3 := hp k e v (by simp)
            have h4 := h1.1 u hu
            exact hpv (by rw [e]; congr 1; omega)
        · rintro ⟨h2, u, hu, hk⟩
          by_cases hkv : k = v.key
          · exact .inl hkv
          · refine .inr ⟨fun e => hkv (by injection e with e; exact e.symm), ?_⟩
            rcases List.mem_cons.1 hu with rfl | hu
            · exact absurd hk.symm hkv
            · exact ⟨u, hu, hk⟩
theorem Sto.keys {l : List Ver} (h : Sto l) : l.Pairwise (fun a b => a.key ≤ b.key) := h.up.imp (fun h => by unfold ltV at h; omega)
theorem showV_some {y x : Ver} : showV y = some x ↔ y = x ∧ x ≠ Ver.zero ∧ x.gone = false := by
  unfold showV
  split
  · next h =>
    constructor
    · intro e; cases e
    · rintro ⟨rfl, h1, h2⟩
      rcases h with h | h
      · exact absurd h h1
      · rw [h2] at h; cases h
  · next h =>
    constructor
    · intro e
      injection e with e
      subst e
      exact ⟨rfl, fun e => h (.inl e), by cases hg : y.gone; rfl; exact absurd (.inr hg) h⟩
    · rintro ⟨rfl, _, _⟩; rfl
/-- what is read is just what the last version of a key shows -/
theorem mem_readL {l : List Ver} (h : Sto l) (t : Int) (x : Ver) : x ∈ readL l t ↔ lastV l x.key t = x ∧ x ≠ Ver.zero ∧ x.gone = false := by
  have hh := heads_spec (p := none) h.keys (fun k0 e => by cases e)
  unfold readL
  rw [List.mem_filterMap]
  constructor
  · rintro ⟨k, hk, hs⟩
    obtain ⟨h1, h2, h3⟩ := showV_some.1 hs
    have : x.key = k := by
      rcases lastV_spec h.up k t with ⟨e, _⟩ | ⟨j, hj, e, hm, _⟩
      · exact absurd (h1.symm.trans e) h2
      · rw [← h1, e]; exact hm.1
    rw [this]
    exact ⟨h1, h2, h3⟩
  · rintro ⟨h1, h2, h3⟩
    refine ⟨x.key, (hh.2 x.key).2 ⟨by simp, ?_⟩, showV_some.2 ⟨h1, h2, h3⟩⟩
    rcases lastV_spec h.up x.key t with ⟨e, _⟩ | ⟨j, hj, e, hm, _⟩
    · exact absurd (h1.symm.trans e) h2
    · exact ⟨l[j], List.getElem_mem hj, hm.1⟩
theorem readL_up {l : List Ver} (h : Sto l) (t : Int) : (readL l t).Pairwise (fun a b => a.key < b.key) := by
  have hh := heads_spec (p := none) h.keys (fun k0 e => by cases e)
  unfold readL
  refine List.pairwise_filterMap.2 (hh.1.imp fun {a b} hab x hx y hy => ?_)
  have key : ∀ {k : Int} {x : Ver}, showV (lastV l k t) = some x → x.key = k := fun {k x} hx => by
    obtain ⟨h1, h2, h3⟩ := showV_some.1 hx
    rcases lastV_spec h.up k t with ⟨e, _⟩ | ⟨j, hj, e, hm, _⟩
    · exact absurd (h1.symm.trans e) h2
    · rw [← h1, e]; exact hm.1
  rw [key hx, key hy]
  exact hab
/-- two stores whose last versions are the same at a timestamp are read alike -/
theorem readL_ext {l l' : List Ver} (h : Sto l) (h' : Sto l') (t t' : Int) (he : ∀ k, showV (lastV l k t) = showV (lastV l' k t')) : readL l t = readL l' t' := by
  refine sorted_ext (r := fun a b : Ver => a.key < b.key) (fun a => Int.lt_irrefl _) (fun a b c => Int.lt_trans) (readL_up h t) (readL_up h' t') fun x => ?_
  rw [mem_readL h, mem_readL h']
  have := he x.key
  rw [← showV_some, ← showV_some, this]
theorem atFold_filter {l : List Ver} (p : Ver → Bool) {k t : Int} (hp : ∀ v ∈ l, v.key = k → v.ts ≤ t → p v = true) : atFold (l.filter p) k t = atFold l k t := by
  unfold atFold
  generalize Ver.zero = b
  induction l generalizing b with
  | nil => rfl
  | cons x l ih =>
    have ih := ih (fun v hv => hp v (by simp [hv]))
    by_cases hx : p x = true
    · rw [List.filter_cons_of_pos hx, List.foldl_cons, List.foldl_cons]
      exact ih _
    · rw [List.filter_cons_of_neg hx, List.foldl_cons, if_neg (fun h => hx (hp x (by simp) h.1 h.2))]
      exact ih _
theorem sto_filter {l : List Ver} (p : Ver → Bool) (h : Sto l) : Sto (l.filter p) :=
  ⟨fun v hv => h.wf v (List.mem_filter.1 hv).1, h.up.sublist List.filter_sublist, Nat.le_trans (List.length_filter_le _ _) h.len⟩
theorem read_stable {l : List Ver} (h : Sto l) (t : Int) : readS (l.filter fun v => decide (v.ts ≤ t)) t = readS l t := by
  have h' := sto_filter (fun v => decide (v.ts ≤ t)) h
  unfold readS
  rw [(sto_iff l).2 h, (sto_iff _).2 h', readL_ext h' h t t fun k => ?_]
  rw [lastV_fold h'.up, lastV_fold h.up, atFold_filter]
  intro v _ _ ht
  exact decide_eq_true ht
/-- what is read when nothing is wrong, held against At -/
theorem read_at {l rl : List Ver} {key t : Int} {a : Ver} {b : Bool} (h : Sto l) (hr : (rl, (0 : Int)) = readS l t) (ha : (a, b, (0 : Int)) = atS l key t) :
    rl.Pairwise (fun a b => a.key < b.key) ∧ (∀ x ∈ rl, x.key = key → b = true ∧ x = a) ∧ rl.any (fun x => x.key == key) = b := by
  have hs : readS l t = if stampB t then (readL l t, 0) else ([], 1) := by
    unfold readS
    rw [(sto_iff l).2 h]
    cases stampB t <;> rfl
  rw [hs] at hr
  have hst : stampB t = true := by
    cases hst : stampB t
    · rw [hst] at hr; simp at hr
    · rfl
  rw [hst, if_pos rfl] at hr
  have hr := (Prod.mk.inj hr).1
  subst hr
  have hkey : keyB key = true := by
    cases hkey : keyB key
    · rw [atS_sto h, hkey] at ha; simp at ha
    · rfl
  have hsv : showV (lastV l key t) = if b = true then some a else none := by
    rw [showV_eq h]
    rw [atS_sto h, hkey, hst] at ha
    simp at ha
    rw [← ha.1, ← ha.2]
  have hmem := fun x => mem_readL h t x
  refine ⟨readL_up h t, fun x hx hk => ?_, ?_⟩
  · have h1 := showV_some.2 ((hmem x).1 hx)
    rw [hk, hsv] at h1
    cases b
    · simp at h1
    · simp at h1
      exact ⟨rfl, h1.symm⟩
  · rw [Bool.eq_iff_iff, List.any_eq_true]
    constructor
    · rintro ⟨x, hx, hk⟩
      have h1 := showV_some.2 ((hmem x).1 hx)
      rw [beq_iff_eq.1 hk, hsv] at h1
      cases b
      · simp at h1
      · rfl
    · intro hb
      rw [if_pos hb] at hsv
      have h1 := showV_some.1 hsv
      have hk : a.key = key := by
        rcases lastV_spec h.up key t with ⟨e, _⟩ | ⟨j, hj, e, hm, _⟩
        · exact absurd (h1.1.symm.trans e) h1.2.1
        · rw [← h1.1, e]; exact hm.1
      exact ⟨a, (hmem a).2 (showV_some.1 (by rw [hk]; exact hsv)), by simp [hk]⟩
/-- the errors of a read and of At -/
theorem read_at_err {l rl : List Ver} {key t re f : Int} {a : Ver} {b : Bool} (h : Sto l) (hr : (rl, re) = readS l t) (ha : (a, b, f) = atS l key t) : re = 0 ∨ f = 1 := by
  unfold readS at hr
  rw [(sto_iff l).2 h] at hr
  rw [atS_sto h] at ha
  cases hst : stampB t
  · rw [hst] at ha
    simp at ha
    exact .inr ha.2.2
  · rw [hst] at hr
    simp at hr
    exact .inl hr.2
end Go.Proofs.Ytejpfcomgamhjaa
