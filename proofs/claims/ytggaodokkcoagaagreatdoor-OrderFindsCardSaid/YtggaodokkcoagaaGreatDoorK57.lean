/-
  Texts joined: Po27, Pm27, Pq27, Pr27, Ps27, Pt27, Pk27, Pe27, Pf27, Pg27, Pu27, Pv27, Pw27, TbL.
-/
import Derived.Test.YtggaodokkcoagaaGreatDoorRows
import Derived.Lib.LaidU8
import Derived.Test.YtggaodokkcoagaaGreatDoorK50
import Derived.Test.YtggaodokkcoagaaGreatDoorK56
set_option linter.unusedSimpArgs false
set_option linter.unusedVariables false
namespace Go.Proofs.YtggaodokkcoagaaGreatDoor
def keyN (key : Int) (n : Nat) : Int := secF (IntKind.u64.wrap (key + IntKind.u64.wrap (n : Int)))
theorem keyN_isK (key : Int) (n : Nat) : isK (keyN key n) = true := sec_isK _
def whN (E : Nat → List KEntry) (n : Nat) : List Int := (E n).map (·.Stamp.Lo)
def pubsN (key : Int) : List Int := [pubF (keyN key 0), pubF (keyN key 1), pubF (keyN key 2)]
def crsS (key : Int) (E : Nat → List KEntry) (hs : List KHead) : Kregulatorlaw27_past := ⟨offsN E, ⟨whN E 0, whN E 1, whN E 2⟩, hs, pubsN key, true⟩
def stA (key : Int) : Nat → Int × (List KOffice) × (List Int) × Int × Int × Int
 | 0 => (0, [], [], 0, 0, 0)
 | 1 => (1, [⟨1, []⟩], [pubF (keyN key 0)], keyN key 0, 0, 0)
 | 2 => (2, [⟨1, []⟩, ⟨2, []⟩], [pubF (keyN key 0), pubF (keyN key 1)], keyN key 0, keyN key 1, 0)
 | _ => (3, [⟨1, []⟩, ⟨2, []⟩, ⟨3, []⟩], pubsN key, keyN key 0, keyN key 1, keyN key 2)
theorem sec_any {n : Int} (F : Nat) : G_regulatorref06_Secret F (IntKind.u64.wrap n) = some (secF (IntKind.u64.wrap n)) := sec_eq (inKd_wu (wrap_u64_rng _).1 (wrap_u64_rng _).2) F
theorem stI_at {α : Type} {l : List α} {k : Nat} {x : α} (h : k < l.length) : stI l (k : Int) x = some (l.set k x) := by
 unfold stI; rw [if_pos (by omega)]
 simp
theorem offs_at (E : Nat → List KEntry) {n : Nat} (hn : n < 3) : ixI (offsN E) (n : Int) = some (offN E n) := by
 rw [ixI_get (show n < (offsN E).length from hn)]
 match n, hn with
 | 0, _ => rfl
 | 1, _ => rfl
 | 2, _ => rfl
theorem offs_set (E : Nat → List KEntry) (e : KEntry) {n : Nat} (hn : n < 3) : stI (offsN E) (n : Int) ⟨(n : Int) + 1, E n ++ [e]⟩ = some (offsN (addE E n e)) := by
 rw [stI_at (show n < (offsN E).length from hn)]
 match n, hn with
 | 0, _ => rfl
 | 1, _ => rfl
 | 2, _ => rfl
theorem whN_at (E : Nat → List KEntry) (n : Nat) (d t : Int) : whN (addE E n ⟨d, ⟨t, t⟩⟩) n = whN E n ++ [t] := by
 unfold whN; rw [addE_at, List.map_append]; rfl
theorem whN_ne (E : Nat → List KEntry) {n m : Nat} (e : KEntry) (h : m ≠ n) : whN (addE E n e) m = whN E m := by
 unfold whN; rw [addE_ne E e h]
theorem mod3 {w : Nat} (hw : w ≤ 65535) : Int.tmod (IntKind.i64.wrap (w : Int)) 3 = ((w % 3 : Nat) : Int) := modL (L := 3) hw
theorem ciApp {K : Nat → Int} {t : Nat} {E : Nat → List KEntry} {hs : List KHead} (h : CI K t E hs) (ht : t ≤ 40) {n : Nat} (hn : n < 3) (d : Int) (hd : inKd .u64 d) (hdoc : (0 ≤ d ∧ d < 4294967296) ∨ ∃ g ∈ hs, d = digF g) {F : Nat} (hF : 64 ≤ F) :
  G_office_Append F (offN E n) ⟨d, ⟨(t : Int), (t : Int)⟩⟩ = some (⟨(n : Int) + 1, E n ++ [⟨d, ⟨t, t⟩⟩]⟩, 0) := by
 have hl := h.len n; rw [app_p (show (offN E n).Entries.length ≤ 50 from by show (E n).length ≤ 50; omega) hF]; have hv := (h.add n d hd hdoc).vO (by omega) hn; unfold offN at hv; rw [addE_at] at hv; rcases app_cases (o := offN E n) (e := ⟨d, ⟨(t : Int), (t : Int)⟩⟩) (by show (E n).length ≤ 4000; omega) with ⟨_, e⟩ | ⟨e, _⟩
 ·rw [e]; rfl
 ·rw [show vO ⟨(offN E n).ID, (offN E n).Entries ++ [⟨d, ⟨(t : Int), (t : Int)⟩⟩]⟩ = true from hv] at e; cases e
theorem ciSgn {K : Nat → Int} {t : Nat} {E : Nat → List KEntry} {hs : List KHead} (h : CI K t E hs) (ht : t ≤ 40) {n : Nat} (hn : n < 3) (hK : isK (K n) = true) {q : Int} (hq : isK q = true) (h1 : 1 ≤ (E n).length) {F : Nat} (hF : 64 ≤ F) :
  G_office_Sign F (offN E n) (((E n).length : Nat) : Int) (K n) q = some (headF (offN E n) (E n).length (K n) q, 0) := by
 have hl := h.len n; exact headF_one (h.rng (by omega) hn) (by show (E n).length ≤ 50; omega) (h.vO (by omega) hn) h1 (Nat.le_refl _) (both hK hq) hF
theorem bind_ex {α β : Type} {o : Option α} {k : α → Option β} {Q : α → Prop} {G : Option β → Prop} (h1 : ∃ r, o = some r ∧ Q r) (h2 : ∀ r, Q r → G (k r)) : G (Option.bind o k) := by
 obtain ⟨r, rfl, hq⟩ := h1; exact h2 r hq
theorem bind_as {α β γ : Type} (x : Option α) (f : α → Option β) (g : β → Option γ) : Option.bind (Option.bind x f) g = Option.bind x fun y => Option.bind (f y) g := by cases x <;> rfl
theorem course_eq {acts : List Kregulatorlaw27_Act} {key : Int} (ha : ∀ a ∈ acts, a.rng) (hl : acts.length ≤ 24) {F : Nat} (hF : 64 ≤ F) :
    ∃ E hs, G_regulatorlaw27_course F acts key = some (crsS key E hs) ∧ CI (keyN key) acts.length E hs := by
  unfold G_regulatorlaw27_course
  rw [show ((0, [], [], 0, 0, 0) : Int × (List KOffice) × (List Int) × Int × Int × Int) = stA key 0 from rfl]
  rw [iter_seq (stA key) 3 ([⟨1, []⟩, ⟨2, []⟩, ⟨3, []⟩], pubsN key, keyN key 0, keyN key 1, keyN key 2) ?a1 ?a2 (by omega)]
  case a1 =>
    intro k hk
    match k, hk with
    | 0, _ =>
      simp only [stA, un6]
      rw [show decide ((0 : Int) < 3) = true from rfl, ifB_t, sec_any, ob_some, show ((0 : Int) == 0) = true from rfl, ifB_t, ob_some]
      simp only [un3]
      rw [apG_ok (by simp only [List.length_cons, List.length_nil]; omega), ob_some, ifB_t, pubF_eq (sec_isK _) hF, ob_some, apG_ok (by simp only [List.length_cons, List.length_nil]; omega), ob_some, ob_some]
      rfl
    | 1, _ =>
      simp only [stA, un6]
      rw [show decide ((1 : Int) < 3) = true from rfl, ifB_t, sec_any, ob_some, show ((1 : Int) == 0) = false from rfl, ifB_f, show ((1 : Int) == 1) = true from rfl, ifB_t, ob_some]
      simp only [un3]
      rw [apG_ok (by simp only [List.length_cons, List.length_nil]; omega), ob_some, ifB_f, ifB_t, pubF_eq (sec_isK _) hF, ob_some, apG_ok (by simp only [List.length_cons, List.length_nil]; omega), ob_some, ob_some]
      rfl
    | 2, _ =>
      simp only [stA, un6]
      rw [show decide ((2 : Int) < 3) = true from rfl, ifB_t, sec_any, ob_some, show ((2 : Int) == 0) = false from rfl, ifB_f, show ((2 : Int) == 1) = false from rfl, ifB_f, show ((2 : Int) == 2) = true from rfl, ifB_t, ob_some]
      simp only [un3]
      rw [apG_ok (by simp only [List.length_cons, List.length_nil]; omega), ob_some, ifB_f, ifB_f, ifB_t, pubF_eq (sec_isK _) hF, ob_some, apG_ok (by simp only [List.length_cons, List.length_nil]; omega), ob_some, ob_some]
      rfl
  case a2 =>
    simp only [stA, un6]
    rfl
  simp only [ob_some, un5]
  rw [bind_as]
  refine bind_ex (G := fun o => ∃ E hs, o = some (crsS key E hs) ∧ CI (keyN key) acts.length E hs) (iter_inv acts.length (fun t s => ∃ E hs, CI (keyN key) t E hs ∧ s = ((t : Int), offsN E, whN E 0, whN E 1, whN E 2, hs, true)) (fun r => ∃ E hs, CI (keyN key) acts.length E hs ∧ r = (offsN E, whN E 0, whN E 1, whN E 2, hs, true)) ?hk ?hn (by omega) _ ⟨fun _ => [], [], CI.start _, rfl⟩) ?hr
  case hr =>
    rintro _ ⟨E, hs, hc, rfl⟩
    exact ⟨E, hs, rfl, hc⟩
  case hn =>
    rintro _ ⟨E, hs, hc, rfl⟩
    refine ⟨_, ?_, E, hs, hc, rfl⟩
    simp only [un7]
    rw [ltn, ifB_f]
  case hk =>
    rintro t _ hT ⟨E, hs, hc, rfl⟩
    have hx := ha _ (List.getElem_mem hT)
    generalize hxx : acts[t] = x at hx
    obtain ⟨w, hw, hw'⟩ := inKd_nat8 hx.r_Who
    obtain ⟨d, hd, hd'⟩ := inKd_nat8 hx.r_Do
    obtain ⟨v, hv, hv'⟩ := inKd_nat8 hx.r_Which
    have hDoc := inKd_u32 hx.r_Doc
    have hn3 := Nat.mod_lt w (show 0 < 3 by decide)
    have hdo : Int.tmod (d : Int) 4 = ((d % 4 : Nat) : Int) := rfl
    have h12 := hc.hn
    have hlen := hc.len
    simp only [un7]
    rw [ltl hT, ifB_t, ixI_get hT, ob_some, hxx, hw, hd, hv, hdo, mod3 hw', w64_1 hT (by omega)]
    generalize w % 3 = n at hn3
    have same : ∃ s', some (Sum.inl ((t : Int) + 1, offsN E, whN E 0, whN E 1, whN E 2, hs, true) : (Int × (List KOffice) × (List Int) × (List Int) × (List Int) × (List KHead) × Bool) ⊕ ((List KOffice) × (List Int) × (List Int) × (List Int) × (List KHead) × Bool)) = some (.inl s') ∧ ∃ E hs, CI (keyN key) (t + 1) E hs ∧ s' = (((t + 1 : Nat) : Int), offsN E, whN E 0, whN E 1, whN E 2, hs, true) :=
      ⟨_, rfl, E, hs, hc.mono (Nat.le_succ t), by rw [show ((t + 1 : Nat) : Int) = (t : Int) + 1 by omega]⟩
    by_cases h1 : d % 4 = 1
    · rw [h1, show (((1 : Nat) : Int) == 1) = true from rfl, ifB_t, offs_at E hn3, ob_some]
      by_cases h0 : (E n).length = 0
      · rw [show ((((offN E n).Entries.length : Nat) : Int) == 0) = true from beq_iff_eq.2 (by show (((E n).length : Nat) : Int) = 0; omega)]
        exact same
      · rw [show ((((offN E n).Entries.length : Nat) : Int) == 0) = false from beq_eq_false_iff_ne.2 (by show (((E n).length : Nat) : Int) ≠ 0; omega), ifB_f, ob_some]
        by_cases h2 : hs.length = 12
        · rw [show (((hs.length : Nat) : Int) == 12) = true from beq_iff_eq.2 (by omega)]
          exact same
        · rw [show (((hs.length : Nat) : Int) == 12) = false from beq_eq_false_iff_ne.2 (by omega), ifB_f, ob_some, ob_some]
          have hq := sec_isK (IntKind.u64.wrap (key + IntKind.u64.wrap (IntKind.i64.wrap (100 + (t : Int)))))
          have hsg := ciSgn hc (by omega) hn3 (keyN_isK key n) hq (by omega) hF
          have nxt := hc.sign hn3 hq (by omega) (by omega)
          have fin : ∃ s', some (Sum.inl ((t : Int) + 1, offsN E, whN E 0, whN E 1, whN E 2, hs ++ [headF (offN E n) (E n).length (keyN key n) (secF (IntKind.u64.wrap (key + IntKind.u64.wrap (IntKind.i64.wrap (100 + (t : Int))))))], true) : (Int × (List KOffice) × (List Int) × (List Int) × (List Int) × (List KHead) × Bool) ⊕ ((List KOffice) × (List Int) × (List Int) × (List Int) × (List KHead) × Bool)) = some (.inl s') ∧ ∃ E hs, CI (keyN key) (t + 1) E hs ∧ s' = (((t + 1 : Nat) : Int), offsN E, whN E 0, whN E 1, whN E 2, hs, true) :=
            ⟨_, rfl, E, _, nxt.mono (Nat.le_succ t), by rw [show ((t + 1 : Nat) : Int) = (t : Int) + 1 by omega]⟩
          match n, hn3, hsg, fin with
          | 0, _, hsg, fin =>
            rw [show (((0 : Nat) : Int) == 0) = true from rfl, ifB_t, sec_any, ob_some, show G_office_Sign F (offN E 0) (((offN E 0).Entries.length : Nat) : Int) (keyN key 0) _ = _ from hsg, ob_some, un2_p, ob_some]
            simp only [un6, un2]
            rw [apG_ok (by simp only [List.length_cons, List.length_nil]; omega), ob_some, ifB_t]
            exact fin
          | 1, _, hsg, fin =>
            rw [show (((1 : Nat) : Int) == 0) = false from rfl, ifB_f, show (((1 : Nat) : Int) == 1) = true from rfl, ifB_t, sec_any, ob_some, show G_office_Sign F (offN E 1) (((offN E 1).Entries.length : Nat) : Int) (keyN key 1) _ = _ from hsg, ob_some, un2_p, ob_some]
            simp only [un6, un2]
            rw [apG_ok (by simp only [List.length_cons, List.length_nil]; omega), ob_some, ifB_t]
            exact fin
          | 2, _, hsg, fin =>
            rw [show (((2 : Nat) : Int) == 0) = false from rfl, ifB_f, show (((2 : Nat) : Int) == 1) = false from rfl, ifB_f, show (((2 : Nat) : Int) == 2) = true from rfl, ifB_t, sec_any, ob_some, show G_office_Sign F (offN E 2) (((offN E 2).Entries.length : Nat) : Int) (keyN key 2) _ = _ from hsg, ob_some, un2_p, ob_some]
            simp only [un6, un2]
            rw [apG_ok (by simp only [List.length_cons, List.length_nil]; omega), ob_some, ifB_t]
            exact fin
    · rw [show (((d % 4 : Nat) : Int) == 1) = false from beq_eq_false_iff_ne.2 (by omega), ifB_f]
      have hA : ∀ A : Option (Int ⊕ (List KHead × Bool)), A = (Option.bind (ifB (((d % 4 : Nat) : Int) == 2) (some true) (some (((d % 4 : Nat) : Int) == 3)) : Option Bool) (fun (v_462 : Bool) => ifB v_462 (ifB (((hs.length : Nat) : Int) == 0) (some (.inr (hs, true))) (Option.bind (whenG (!(((hs.length : Nat) : Int) == 0)) ()) (fun _ => Option.bind (ixI hs (Int.tmod (IntKind.i64.wrap (v : Int)) ((hs.length : Nat) : Int))) (fun v_466 => Option.bind (G_cross_Digest F v_466) (fun v_468 => some (.inl v_468)))))) (some (.inl (IntKind.u64.wrap x.Doc))))) →
          (∃ q, inKd .u64 q ∧ ((0 ≤ q ∧ q < 4294967296) ∨ ∃ g ∈ hs, q = digF g) ∧ A = some (.inl q)) ∨ A = some (.inr (hs, true)) := by
        rintro _ rfl
        have hb : (ifB (((d % 4 : Nat) : Int) == 2) (some true) (some (((d % 4 : Nat) : Int) == 3)) : Option Bool) = some ((((d % 4 : Nat) : Int) == 2) || (((d % 4 : Nat) : Int) == 3)) := by
          cases (((d % 4 : Nat) : Int) == 2) <;> rfl
        rw [hb, ob_some]
        cases ((((d % 4 : Nat) : Int) == 2) || (((d % 4 : Nat) : Int) == 3)) with
        | false =>
          refine .inl ⟨_, ?_, ?_, rfl⟩
          · exact inKd_wu (wrap_u64_rng _).1 (wrap_u64_rng _).2
          · rw [w64u_id (by omega) (by omega)]
            exact .inl ⟨by omega, by omega⟩
        | true =>
          by_cases h0 : hs.length = 0
          · rw [show (((hs.length : Nat) : Int) == 0) = true from beq_iff_eq.2 (by omega)]
            exact .inr rfl
          · have hm := Nat.mod_lt v (show 0 < hs.length by omega)
            rw [show (((hs.length : Nat) : Int) == 0) = false from beq_eq_false_iff_ne.2 (by omega), ifB_t, ifB_f, show (!false) = true from rfl, whenG_t rfl, ob_some, modL hv', ixI_get hm, ob_some]
            have hg : (hs[v % hs.length]'hm) ∈ hs := List.getElem_mem hm
            obtain ⟨m, q, k, g1, g2, g3, g4, g5⟩ := hc.hd _ hg
            have hr : (hs[v % hs.length]'hm).rng := by
              rw [g5]
              exact headF_rng (hc.rng (by omega) g1) (by have := hlen m; omega) (both (keyN_isK key m) g4)
            rw [dig_p hr hF, ob_some]
            exact .inl ⟨_, digF_rng _, .inr ⟨_, hg, rfl⟩, rfl⟩
      rcases hA _ rfl with ⟨q, h3, h4, e⟩ | e
      · rw [e, ob_some]
        simp only [Sum.elim_inl]
        rw [offs_at E hn3, ob_some, ciApp hc (by omega) hn3 q h3 h4 hF, ob_some, un2_p, ob_some]
        simp only [un3]
        rw [ifB_t, ob_some, show ((0 : Int) == 0) = true from rfl, ifB_t, offs_set E _ hn3]
        have nxt := hc.add n q h3 h4
        have fin : ∃ s', some (Sum.inl ((t : Int) + 1, offsN (addE E n ⟨q, ⟨t, t⟩⟩), whN (addE E n ⟨q, ⟨t, t⟩⟩) 0, whN (addE E n ⟨q, ⟨t, t⟩⟩) 1, whN (addE E n ⟨q, ⟨t, t⟩⟩) 2, hs, true) : (Int × (List KOffice) × (List Int) × (List Int) × (List Int) × (List KHead) × Bool) ⊕ ((List KOffice) × (List Int) × (List Int) × (List Int) × (List KHead) × Bool)) = some (.inl s') ∧ ∃ E hs, CI (keyN key) (t + 1) E hs ∧ s' = (((t + 1 : Nat) : Int), offsN E, whN E 0, whN E 1, whN E 2, hs, true) :=
          ⟨_, rfl, _, hs, nxt, by rw [show ((t + 1 : Nat) : Int) = (t : Int) + 1 by omega]⟩
        have hwl : ∀ m, (whN E m).length ≤ t := fun m => by unfold whN; rw [List.length_map]; exact hlen m
        match n, hn3, fin with
        | 0, _, fin =>
          have := hwl 0
          rw [whN_at, whN_ne E _ (show 1 ≠ 0 by decide), whN_ne E _ (show 2 ≠ 0 by decide)] at fin
          rw [show (((0 : Nat) : Int) == 0) = true from rfl, ifB_t, apG_ok (by simp only [List.length_cons, List.length_nil]; omega), ob_some]
          exact fin
        | 1, _, fin =>
          have := hwl 1
          rw [whN_at, whN_ne E _ (show 0 ≠ 1 by decide), whN_ne E _ (show 2 ≠ 1 by decide)] at fin
          rw [show (((1 : Nat) : Int) == 0) = false from rfl, ifB_f, show (((1 : Nat) : Int) == 1) = true from rfl, ifB_t, apG_ok (by simp only [List.length_cons, List.length_nil]; omega), ob_some]
          exact fin
        | 2, _, fin =>
          have := hwl 2
          rw [whN_at, whN_ne E _ (show 0 ≠ 2 by decide), whN_ne E _ (show 1 ≠ 2 by decide)] at fin
          rw [show (((2 : Nat) : Int) == 0) = false from rfl, ifB_f, show (((2 : Nat) : Int) == 1) = false from rfl, ifB_f, show (((2 : Nat) : Int) == 2) = true from rfl, ifB_t, apG_ok (by simp only [List.length_cons, List.length_nil]; omega), ob_some]
          exact fin
      · rw [e]
        exact same
end Go.Proofs.YtggaodokkcoagaaGreatDoor
namespace Go.Proofs.YtggaodokkcoagaaGreatDoor
theorem pubF_no (k : Int) : (pubF k == 0) = false := by
 have := (memB_spec (pubF_mem k)).1; exact beq_eq_false_iff_ne.2 (by omega)
def ownR (o : KOffice) (h : KHead) (i : Nat) : KReceipt := ⟨h, i, eAt o.Entries i, inclF (valsF o h.Size.toNat) i⟩
structure Own (o : KOffice) (h : KHead) (i : Nat) : Prop where
 v : vO o = true
 f : fH h = true
 s : hasS o h = true
 l : o.Entries.length ≤ 4000
 i : (i : Int) < h.Size
theorem own_prov {o : KOffice} {h : KHead} {i : Nat} (q : Own o h i) : provS o h i = (ownR o h i, 0) := provS_has q.v q.f q.s q.i
theorem own_rec {o : KOffice} {h : KHead} {i : Nat} (q : Own o h i) : recB (ownR o h i) = true := by
 have hs := hasS_spec q.s; have h1 := fH_size q.f; have hi := q.i; have hl := q.l; have hp := inclV_le (o := o) (n := h.Size.toNat) (by omega) (by omega) i; unfold recB ownR; simp only; rw [q.f, vI_at q.v (i := i) (by omega), decide_eq_true ⟨⟨by omega, by omega⟩, by omega⟩]; rfl
theorem own_chk {o : KOffice} {h : KHead} {i : Nat} {pub : Int} (q : Own o h i) (hp : pubB pub = true) (hr : rightS pub h = (true, 0)) : (chkS pub (ownR o h i)).1 = true := by
 have hs := hasS_spec q.s; have h1 := fH_size q.f; have hi := q.i; have hl := q.l; have hpl := inclV_le (o := o) (n := h.Size.toNat) (by omega) (by omega) i; unfold ownR; rw [chk_ok hp q.f (vI_at q.v (i := i) (by omega)) ⟨by omega, q.i⟩ (by omega)]; rw [rightS_ok hp q.f] at hr; have hv : (verS pub h.Sig (msgF h)).1 = true := congrArg Prod.fst hr; have hin := incl_own (o := o) (n := h.Size.toNat) (i := i) (by omega) (by omega) (by omega); rw [hs.2.2, show ((h.Size.toNat : Nat) : Int) = h.Size by omega] at hin; rw [hv, hin]; rfl
structure Sgd (l : List Int) (h : KHead) : Prop where
 n : 1 ≤ h.Office ∧ h.Office ≤ (l.length : Int)
 p : pubB (kAt l (h.Office - 1).toNat) = true
 z : (kAt l (h.Office - 1).toNat == 0) = false
 r : rightS (kAt l (h.Office - 1).toNat) h = (true, 0)
theorem sgd_kn {l : List Int} {h : KHead} (q : Sgd l h) : knB l h.Office = true := by
 unfold knB; rw [decide_eq_true q.n, q.z]; rfl
theorem sgd_sgn {l : List Int} {h : KHead} (q : Sgd l h) : sgnS l h = true := by
 unfold sgnS; rw [decide_eq_true q.n, q.z, q.r]; rfl
theorem own_rcp {l : List Int} {o : KOffice} {h : KHead} {i : Nat} (q : Own o h i) (s : Sgd l h) : rcpB l (ownR o h i) = true := by
 unfold rcpB; rw [show (ownR o h i).Head = h from rfl, sgd_kn s, own_chk q s.p s.r]; rfl
end Go.Proofs.YtggaodokkcoagaaGreatDoor
namespace Go.Proofs.YtggaodokkcoagaaGreatDoor
theorem offK_N (E : Nat → List KEntry) {n : Nat} (hn : n < 3) : offK (offsN E) ((n : Int) + 1) = offN E n ∧ offH (offsN E) ((n : Int) + 1) = true := by
 match n, hn with
 | 0, _ => exact ⟨rfl, rfl⟩
 | 1, _ => exact ⟨rfl, rfl⟩
 | 2, _ => exact ⟨rfl, rfl⟩
theorem offsN_mem {E : Nat → List KEntry} {o : KOffice} (h : o ∈ offsN E) : ∃ n, n < 3 ∧ o = offN E n := by
 simp only [offsN, List.mem_cons, List.not_mem_nil, or_false] at h; rcases h with rfl | rfl | rfl
 ·exact ⟨0, by decide, rfl⟩
 ·exact ⟨1, by decide, rfl⟩
 ·exact ⟨2, by decide, rfl⟩
theorem crs_few {K : Nat → Int} {t : Nat} {E : Nat → List KEntry} {hs : List KHead} (h : CI K t E hs) (ht : t ≤ 24) : FewO (offsN E) :=
 ⟨by show 3 ≤ 6; decide, fun o ho => by obtain ⟨n, _, rfl⟩ := offsN_mem ho; have := h.len n; show (E n).length ≤ 50; omega, fun o ho => by obtain ⟨n, hn, rfl⟩ := offsN_mem ho; exact h.rng (by omega) hn⟩
theorem kAt_N (key : Int) {n : Nat} (hn : n < 3) : kAt (pubsN key) n = pubF (keyN key n) := by
 match n, hn with
 | 0, _ => rfl
 | 1, _ => rfl
 | 2, _ => rfl
structure HdC (key : Int) (E : Nat → List KEntry) (h : KHead) (n : Nat) : Prop where
 lt : n < 3
 o : h.Office = (n : Int) + 1
 k : offK (offsN E) h.Office = offN E n
 r : h.rng
 ok : HdOk (offsN E) h
 s : Sgd (pubsN key) h
theorem crs_hd {key : Int} {t : Nat} {E : Nat → List KEntry} {hs : List KHead} (hc : CI (keyN key) t E hs) (ht : t ≤ 24) {h : KHead} (hh : h ∈ hs) : ∃ n, HdC key E h n := by
 obtain ⟨n, m, q, h1, h2, h3, h4, h5⟩ := hc.hd h hh; have hl := hc.len n; have hv := hc.vO (by omega) h1; have hk := both (keyN_isK key n) h4; have ho : h.Office = (n : Int) + 1 := by rw [h5]; rfl
 obtain ⟨e1, e2⟩ := offK_N E h1; have hn : (h.Office - 1).toNat = n := by rw [ho]; omega
 refine ⟨n, h1, ho, by rw [ho]; exact e1, ?_, ⟨?_, ?_, ?_, ?_⟩, ⟨?_, ?_, ?_, ?_⟩⟩
 ·rw [h5]; exact headF_rng (hc.rng (by omega) h1) (by omega) hk
 ·rw [h5]; exact headF_fH hv h2 (by omega) hk
 ·rw [ho, e1]; exact hv
 ·rw [ho, e1, h5]; exact has_own h3
 ·rw [ho]; exact e2
 ·rw [ho]; exact ⟨by omega, by show (n : Int) + 1 ≤ ((3 : Nat) : Int); omega⟩
 ·rw [hn, kAt_N key h1]; exact pubF_pub (keyN_isK key n)
 ·rw [hn, kAt_N key h1]; exact pubF_no _
 ·rw [hn, kAt_N key h1, h5]; exact right_own hv h2 (by omega) hk
theorem whB_of {l : List KOffice} {h : KHead} (q : HdOk l h) : whB l h = true := by
 unfold whB; rw [show (0 : Int) = ((0 : Nat) : Int) from rfl, provS_has q.v q.f q.s (by have := q.size; omega)]; rfl
theorem crs_err {key : Int} {t : Nat} {E : Nat → List KEntry} {hs : List KHead} (hc : CI (keyN key) t E hs) (ht : t ≤ 24) {a b i k : Nat} (ha : a < 3) (hb : b < 3) (hi : i < (E a).length) (hk : k < (E b).length) :
  findS (offsN E) hs ((a : Int) + 1) i ((b : Int) + 1) k = match srchS (offsN E) hs ((a : Int) + 1) i ((b : Int) + 1) k with
   | some c => (prfS (offsN E) c ((a : Int) + 1) i ((b : Int) + 1) k, true, 0)
   | none => (zP, false, 0) := by
 have h12 := hc.hn; have h0 : arcS (offsN E) hs = (some (arcO (offsN E) hs), 0) := by
  unfold arcS; rw [decide_eq_true (p := hs.length ≤ 12) h12, show decide ((offsN E).length ≤ 4) = true from rfl, Bool.and_self, if_pos rfl, if_pos]; rw [Bool.and_eq_true]; constructor
  ·unfold offsN; rw [arcF, arcF, arcF, arcF, hc.vO (by omega) (by decide : 0 < 3), hc.vO (by omega) (by decide : 1 < 3), hc.vO (by omega) (by decide : 2 < 3)]; rfl
  ·exact List.all_eq_true.2 fun h hh => by obtain ⟨n, q⟩ := crs_hd hc ht hh; exact q.ok.f
 have he : ∀ (n : Nat) (q : Nat), n < 3 → q < (E n).length → entB (offsN E) ((n : Int) + 1) q = true := fun n q hn hq => by
  obtain ⟨e1, e2⟩ := offK_N E hn; unfold entB; rw [e1, e2, decide_eq_true (p := 0 ≤ (q : Int)) (by omega), decide_eq_true (p := (q : Int) < (((offN E n).Entries.length : Nat) : Int)) (by show (q : Int) < (((E n).length : Nat) : Int); omega)]; rfl
 have hw : hs.all (whB (offsN E)) = true := List.all_eq_true.2 fun h hh => by obtain ⟨n, q⟩ := crs_hd hc ht hh; exact whB_of q.ok
 unfold findS; rw [h0, he a i ha hi, he b k hb hk, hw]; rfl
end Go.Proofs.YtggaodokkcoagaaGreatDoor
namespace Go.Proofs.YtggaodokkcoagaaGreatDoor
theorem fdN_find {l : List KEntry} {d : Int} : ∀ (m k : Nat), k + m ≤ l.length → fdN (fun j => (eAt l j).Doc == d) m k = (((l.drop k).take m).findIdx? fun e => e.Doc == d).map (· + k)
 | 0, k, _ => by simp [fdN]
 | m + 1, k, h => by
  have hk : k < l.length := by omega
  rw [fdN, List.drop_eq_getElem_cons hk, List.take_succ_cons, List.findIdx?_cons, show eAt l k = l[k] from Option.some.inj ((eAt_get hk).symm.trans (List.getElem?_eq_getElem hk)), fdN_find m (k + 1) (by omega)]; cases (l[k].Doc == d) with
  | true => simp
  | false =>
   simp only [Bool.false_eq_true, if_false]; cases ((l.drop (k + 1)).take m).findIdx? (fun e => e.Doc == d) with
   | none => rfl
   | some j => simp only [Option.map_some]; congr 1; omega
theorem fndS_at {l : List KEntry} {n : Nat} {d : Int} (h : n ≤ l.length) : fndS l n d = (l.take n).findIdx? fun e => e.Doc == d := by
 unfold fndS; rw [fdN_find n 0 (by omega), List.drop_zero]
 simp
structure HopC (key : Int) (E : Nat → List KEntry) (g h : KHead) (m x : Nat) : Prop where
 e : hopW (offsN E) (g, h) = ⟨g, extF (valsF (offK (offsN E) g.Office) g.Size.toNat) g.Size.toNat true, ownR (offN E m) h x⟩
 o : Own (offN E m) h x
 f : hopF (hopW (offsN E) (g, h)) = true
 b : hopB (pubsN key) g (hopW (offsN E) (g, h)) = true
theorem hop_crs {key : Int} {t : Nat} {E : Nat → List KEntry} {hs : List KHead} (hc : CI (keyN key) t E hs) (ht : t ≤ 24) {g h : KHead} {n m x : Nat} (qg : HdC key E g n) (qh : HdC key E h m) (hne : g.Office ≠ h.Office) (hx : atS (offsN E) h (digF g) = some x) : HopC key E g h m x := by
 have hln := hc.len n; have hlm := hc.len m; have sg := qg.ok.size; have sh := qh.ok.size; have eg := qg.k; have eh := qh.k; have vg := qg.ok.v; have vh := qh.ok.v; have hg := qg.ok.s; have hh := qh.ok.s; rw [eg] at sg vg hg; rw [eh] at sh vh hh; have lg : (offN E n).Entries.length ≤ 50 := by show (E n).length ≤ 50; omega
 have lh : (offN E m).Entries.length ≤ 50 := by show (E m).length ≤ 50; omega
 have hx' : fndS (offN E m).Entries h.Size.toNat (digF g) = some x := by
  rw [fndS_at (by omega)]; unfold atS at hx
  rwa [eh] at hx
 have hxl := fndS_lt hx'; have hid : ((offN E n).ID == (offN E m).ID) = false := by
  rw [← (hasS_spec hg).1, ← (hasS_spec hh).1]; exact beq_eq_false_iff_ne.2 hne
 have hw : hopW (offsN E) (g, h) = ⟨g, extF (valsF (offN E n) g.Size.toNat) g.Size.toNat true, ownR (offN E m) h x⟩ := by
  unfold hopW witS witC; simp only; rw [eg, eh, vg, vh, qg.ok.f, qh.ok.f, hid, hg, hh, decide_eq_false (p := g.Size > g.Size) (by omega), hx']; rfl
 have own : Own (offN E m) h x := ⟨vh, qh.ok.f, hh, by omega, by omega⟩; have hL : (valsF (offN E n) g.Size.toNat).length = g.Size.toNat := valsF_len (by omega); have hex := extF_le (l := valsF (offN E n) g.Size.toNat) (m := g.Size.toNat) (mark := true) (by omega); refine ⟨by rw [eg]; exact hw, own, ?_, ?_⟩
 ·rw [hw]; unfold hopF; simp only; rw [own_rec own, qg.ok.f, decide_eq_true (p := (extF (valsF (offN E n) g.Size.toNat) g.Size.toNat true).length ≤ 20) (by omega)]; rfl
 ·rw [hw]; unfold hopB; simp only; have hgr := growS_law (l := valsF (offN E n) g.Size.toNat) (m := g.Size.toNat) (by omega) (by omega) (by omega); rw [List.take_of_length_le (by omega), hL, (hasS_spec hg).2.2, show ((g.Size.toNat : Nat) : Int) = g.Size by omega] at hgr; have hin := incl_own (o := offN E m) (n := h.Size.toNat) (i := x) (by omega) (by omega) (by omega); rw [(hasS_spec hh).2.2, show ((h.Size.toNat : Nat) : Int) = h.Size by omega] at hin; rw [sgd_sgn qg.s, show (ownR (offN E m) h x).Head = h from rfl, sgd_sgn qh.s, show (h.Office == g.Office) = false from beq_eq_false_iff_ne.2 (fun e => hne e.symm), hgr, show (ownR (offN E m) h x).Entry = eAt (offN E m).Entries x from rfl, show ((eAt (offN E m).Entries x).Doc == digF g) = true from beq_iff_eq.2 hxl.2, show (ownR (offN E m) h x).Index = (x : Int) from rfl, show (ownR (offN E m) h x).Path = inclF (valsF (offN E m) h.Size.toNat) x from rfl, hin]
  simp
theorem hops_snoc (l : List KOffice) (h : KHead) : ∀ (hs : List KHead) (hp : 0 < hs.length), hopsL l (hs ++ [h]) = hopsL l hs ++ [hopW l (hs.getD (hs.length - 1) zHd, h)]
 | [], hp => absurd hp (Nat.lt_irrefl _)
 | [a], _ => rfl
 | a :: b :: hs, _ => by
  have ih := hops_snoc l h (b :: hs) (by simp); unfold hopsL at ih ⊢; simp only [List.cons_append, List.drop_succ_cons, List.drop_zero, List.zip_cons_cons, List.map_cons, List.length_cons] at ih ⊢; rw [ih]; rfl
theorem end_snoc (x : KHop) : ∀ (hs : List KHop) (r : KReceipt), endR r (hs ++ [x]) = x.By
 | [], _ => rfl
 | y :: hs, r => by rw [List.cons_append, endR]; exact end_snoc x hs y.By
theorem hops_app (l : List Int) (x : KHop) : ∀ (hs : List KHop) (r : KReceipt), hopsB l r.Head (hs ++ [x]) = (hopsB l r.Head hs && hopB l (endR r hs).Head x)
 | [], r => by simp [hopsB, endR]
 | y :: hs, r => by rw [List.cons_append, hopsB, hopsB, endR, hops_app l x hs y.By, Bool.and_assoc]
structure ChC (key : Int) (E : Nat → List KEntry) (src i : Nat) (c : Korder_chain) : Prop where
 first : ∃ h0, c.heads.getD 0 zHd = h0 ∧ HdC key E h0 src ∧ Own (offN E src) h0 i ∧ ∃ n x, HdC key E (lastH c) n ∧ Own (offN E n) (lastH c) x ∧ c.at_ = (x : Int) ∧ endR (ownR (offN E src) h0 i) (hopsL (offsN E) c.heads) = ownR (offN E n) (lastH c) x ∧ hopsB (pubsN key) h0 (hopsL (offsN E) c.heads) = true ∧ (hopsL (offsN E) c.heads).all hopF = true
theorem chain_crs {key : Int} {t : Nat} {E : Nat → List KEntry} {hs : List KHead} (hc : CI (keyN key) t E hs) (ht : t ≤ 24) {src i : Nat} (hs3 : src < 3) {c : Korder_chain} (lk : Lk (offsN E) hs ((src : Int) + 1) i c) : ChC key E src i c := by
 induction lk with
 | one h hh h1 h2 =>
  obtain ⟨n, q⟩ := crs_hd hc ht hh; have hn : n = src := by have := q.o; omega
  subst hn; have hl := hc.len n; have own : Own (offN E n) h i := ⟨by have := q.ok.v; rwa [q.k] at this, q.ok.f, by have := q.ok.s; rwa [q.k] at this, by show (E n).length ≤ 4000; omega, by omega⟩; exact ⟨h, rfl, q, own, n, i, q, own, rfl, rfl, rfl, rfl⟩
 | more c h x lk hh ha hx ih =>
  obtain ⟨h0, e0, q0, o0, n, y, qn, on, ey, ee, eb, ef⟩ := ih.first; obtain ⟨m, q⟩ := crs_hd hc ht hh; have hpos := lk.pos; have hne : (lastH c).Office ≠ h.Office := by
   have := List.any_eq_false.1 ha _ (lastH_mem hpos); intro e; exact this (beq_iff_eq.2 e)
  have hp := hop_crs hc ht qn q hne hx; have hl : lastH ⟨c.heads ++ [h], (x : Int)⟩ = h := lastH_snoc _ _ _; have hz : (c.heads ++ [h]).getD 0 zHd = h0 := by
   rw [← e0]; rw [List.getD_eq_getElem?_getD, List.getElem?_append_left hpos, List.getD_eq_getElem?_getD]
  have hsn : hopsL (offsN E) (c.heads ++ [h]) = hopsL (offsN E) c.heads ++ [hopW (offsN E) (lastH c, h)] := hops_snoc _ h c.heads hpos; refine ⟨h0, hz, q0, o0, m, x, by rw [hl]; exact q, by rw [hl]; exact hp.o, rfl, ?_, ?_, ?_⟩
  ·show endR _ (hopsL (offsN E) (c.heads ++ [h])) = _
   rw [hsn, end_snoc, hl, hp.e]
  ·show hopsB _ h0 (hopsL (offsN E) (c.heads ++ [h])) = true
   rw [hsn]; have := hops_app (pubsN key) (hopW (offsN E) (lastH c, h)) (hopsL (offsN E) c.heads) (ownR (offN E src) h0 i); rw [show (ownR (offN E src) h0 i).Head = h0 from rfl, ee, eb, show (ownR (offN E n) (lastH c) y).Head = lastH c from rfl, hp.b] at this; exact this
  ·show (hopsL (offsN E) (c.heads ++ [h])).all hopF = true
   rw [hsn, List.all_append, ef, List.all_cons, hp.f]; rfl
end Go.Proofs.YtggaodokkcoagaaGreatDoor
namespace Go.Proofs.YtggaodokkcoagaaGreatDoor
def pickS (E : Nat → List KEntry) (one two : Nat) : Int × Int × Int × Int × Bool :=
 if (E (one % 3)).length = 0 ∨ (E (two % 3)).length = 0 then (0, 0, 0, 0, false) else (((one % 3 : Nat) : Int), ((one / 3 % (E (one % 3)).length : Nat) : Int), ((two % 3 : Nat) : Int), ((two / 3 % (E (two % 3)).length : Nat) : Int), true)
theorem pick_eq {key : Int} {E : Nat → List KEntry} {hs : List KHead} {one two : Nat} (h1 : one ≤ 65535) (h2 : two ≤ 65535) (F : Nat) : G_regulatorlaw27_past_pick F (crsS key E hs) one two = some (pickS E one two) := by
 unfold G_regulatorlaw27_past_pick pickS; have a3 := Nat.mod_lt one (show 0 < 3 by decide); have b3 := Nat.mod_lt two (show 0 < 3 by decide); have d1 : Int.tdiv (IntKind.i64.wrap (one : Int)) 3 = ((one / 3 : Nat) : Int) := by rw [w64_id (by omega) (by omega)]; rfl
 have d2 : Int.tdiv (IntKind.i64.wrap (two : Int)) 3 = ((two / 3 : Nat) : Int) := by rw [w64_id (by omega) (by omega)]; rfl
 rw [mod3 h1, mod3 h2, show (crsS key E hs).l = offsN E from rfl, offs_at E a3, offs_at E b3, ob_some, ob_some]
 by_cases e1 : (E (one % 3)).length = 0
 ·rw [if_pos (.inl e1), show ((((offN E (one % 3)).Entries.length : Nat) : Int) == 0) = true from beq_iff_eq.2 (by show (((E (one % 3)).length : Nat) : Int) = 0; omega)]; rfl
 ·rw [show ((((offN E (one % 3)).Entries.length : Nat) : Int) == 0) = false from beq_eq_false_iff_ne.2 (by show (((E (one % 3)).length : Nat) : Int) ≠ 0; omega), ifB_f]
  by_cases e2 : (E (two % 3)).length = 0
  ·rw [if_pos (.inr e2), show ((((offN E (two % 3)).Entries.length : Nat) : Int) == 0) = true from beq_iff_eq.2 (by show (((E (two % 3)).length : Nat) : Int) = 0; omega)]; rfl
  ·rw [if_neg (by rintro (h | h) <;> omega), show ((((offN E (two % 3)).Entries.length : Nat) : Int) == 0) = false from beq_eq_false_iff_ne.2 (by show (((E (two % 3)).length : Nat) : Int) ≠ 0; omega), ob_some]; simp only [un3, ifB_f]; rw [ob_some, show ((((offN E (one % 3)).Entries.length : Nat) : Int) == 0) = false from beq_eq_false_iff_ne.2 (by show (((E (one % 3)).length : Nat) : Int) ≠ 0; omega), show (!false) = true from rfl, whenG_t rfl, ob_some, offs_at E b3, ob_some]; rw [show ((((offN E (two % 3)).Entries.length : Nat) : Int) == 0) = false from beq_eq_false_iff_ne.2 (by show (((E (two % 3)).length : Nat) : Int) ≠ 0; omega), show (!false) = true from rfl, whenG_t rfl, ob_some, d1, d2, modL (by omega), modL (by omega)]; rfl
theorem pubs_rgt (key : Int) : rgtS (pubsN key) = true := by
 rw [rgt_all]; unfold pubsN; have h : ∀ n, okK (pubF (keyN key n)) = true := fun n => by unfold okK; rw [pubF_pub (keyN_isK key n)]; simp
 rw [List.all_cons, List.all_cons, List.all_cons, h, h, h]; rfl
structure Fnd (key : Int) (E : Nat → List KEntry) (hs : List KHead) (a i b k : Nat) (p : KProof) : Prop where
 x : ∃ c h0 n x, Lk (offsN E) hs ((a : Int) + 1) i c ∧ c.heads.length ≤ 4 ∧ p = ⟨ownR (offN E a) h0 i, hopsL (offsN E) c.heads, [], ownR (offN E b) (lastH c) k⟩ ∧ HdC key E h0 a ∧ Own (offN E a) h0 i ∧ HdC key E (lastH c) b ∧ n = b ∧ Own (offN E b) (lastH c) x ∧ Own (offN E b) (lastH c) k ∧ x < k ∧ c.at_ = (x : Int) ∧ endR (ownR (offN E a) h0 i) (hopsL (offsN E) c.heads) = ownR (offN E b) (lastH c) x ∧ hopsB (pubsN key) h0 (hopsL (offsN E) c.heads) = true ∧ (hopsL (offsN E) c.heads).all hopF = true ∧ c.heads.getD 0 zHd = h0
theorem fnd_of {key : Int} {t : Nat} {E : Nat → List KEntry} {hs : List KHead} (hc : CI (keyN key) t E hs) (ht : t ≤ 24) {a b i k : Nat} (ha : a < 3) (hb : b < 3) {c : Korder_chain} (h : srchS (offsN E) hs ((a : Int) + 1) i ((b : Int) + 1) k = some c) : Fnd key E hs a i b k (prfS (offsN E) c ((a : Int) + 1) i ((b : Int) + 1) k) := by
 obtain ⟨lk, hf, h4⟩ := srch_lk h; obtain ⟨h0, e0, q0, o0, n, x, qn, on, ex, ee, eb, ef⟩ := (chain_crs hc ht ha lk).first; unfold finB at hf; simp only [Bool.and_eq_true, beq_iff_eq, decide_eq_true_eq] at hf; have hn : n = b := by have := qn.o; omega
 subst hn; have hxk : x < k := by have := hf.2.2; omega
 have ok : Own (offN E n) (lastH c) k := ⟨on.v, on.f, on.s, on.l, by omega⟩; obtain ⟨ea, _⟩ := offK_N E ha; obtain ⟨en, _⟩ := offK_N E hb; refine ⟨c, h0, n, x, lk, h4, ?_, q0, o0, qn, rfl, on, ok, hxk, ex, ee, eb, ef, e0⟩; unfold prfS; rw [ea, en, e0, own_prov o0, own_prov ok]
end Go.Proofs.YtggaodokkcoagaaGreatDoor
namespace Go.Proofs.YtggaodokkcoagaaGreatDoor
theorem growS_self {o : KOffice} {h : KHead} {i : Nat} (q : Own o h i) : growS h.Root h.Root h.Size h.Size [] = true := by
 have hs := hasS_spec q.s; have h1 := fH_size q.f; have hl := q.l; have hL : (valsF o h.Size.toNat).length = h.Size.toNat := valsF_len (by omega); have hg := growS_law (l := valsF o h.Size.toNat) (m := h.Size.toNat) (by omega) (by omega) (by omega); rw [List.take_of_length_le (by omega), hL, hs.2.2, show ((h.Size.toNat : Nat) : Int) = h.Size by omega] at hg; have he : extF (valsF o h.Size.toNat) h.Size.toNat true = [] := by rw [extF_end (by rw [hL]; omega)]; rfl
 rwa [he] at hg
theorem prf_chk {key : Int} {E : Nat → List KEntry} {r s : KReceipt} {hops : List KHop} (h1 : recB r = true) (h2 : recB s = true) (h3 : hops.length ≤ 16) (h4 : hops.all hopF = true) : ordS (pubsN key) ⟨r, hops, [], s⟩ = (ordP (pubsN key) ⟨r, hops, [], s⟩, 0) := by
 unfold ordS; have hp : prfF ⟨r, hops, [], s⟩ = true := by
  unfold prfF; simp only; rw [h1, h2, decide_eq_true h3, h4]; rfl
 rw [pubs_rgt, hp, Bool.and_self, if_pos rfl]
theorem hops_le (l : List KOffice) {c : Korder_chain} (h : c.heads.length ≤ 4) : (hopsL l c.heads).length ≤ 3 := by
 unfold hopsL; rw [List.length_map, List.length_zip, List.length_drop]; omega
theorem offs_chain {key : Int} {t : Nat} {E : Nat → List KEntry} {hs : List KHead} (hc : CI (keyN key) t E hs) (ht : t ≤ 24) {src i : Int} {c : Korder_chain} (lk : Lk (offsN E) hs src i c) : (c.heads.getD 0 zHd).Office :: (hopsL (offsN E) c.heads).map (·.By.Head.Office) = c.heads.map (·.Office) := by
 induction lk with
 | one h hh h1 h2 => rfl
 | more c h x lk hh ha hx ih =>
  have hpos := lk.pos; obtain ⟨m, q⟩ := crs_hd hc ht hh; obtain ⟨n, qn⟩ := crs_hd hc ht (lk.mem _ (lastH_mem hpos)); have hne : (lastH c).Office ≠ h.Office := by
   have := List.any_eq_false.1 ha _ (lastH_mem hpos); intro e; exact this (beq_iff_eq.2 e)
  have hp := hop_crs hc ht qn q hne hx; have hsn : hopsL (offsN E) (c.heads ++ [h]) = hopsL (offsN E) c.heads ++ [hopW (offsN E) (lastH c, h)] := hops_snoc _ h c.heads hpos; have hz : (c.heads ++ [h]).getD 0 zHd = c.heads.getD 0 zHd := by
   rw [List.getD_eq_getElem?_getD, List.getElem?_append_left hpos, List.getD_eq_getElem?_getD]
  show ((c.heads ++ [h]).getD 0 zHd).Office :: (hopsL (offsN E) (c.heads ++ [h])).map (·.By.Head.Office) = (c.heads ++ [h]).map (·.Office)
  rw [hz, hsn, List.map_append, List.map_append, ← ih, hp.e]; rfl
end Go.Proofs.YtggaodokkcoagaaGreatDoor
namespace Go.Proofs.YtggaodokkcoagaaGreatDoor
end Go.Proofs.YtggaodokkcoagaaGreatDoor
namespace Go.Proofs.YtggaodokkcoagaaGreatDoor
section
variable {σ ρ α γ : Type}
end
end Go.Proofs.YtggaodokkcoagaaGreatDoor
namespace Go.Proofs.YtggaodokkcoagaaGreatDoor
end Go.Proofs.YtggaodokkcoagaaGreatDoor
namespace Go.Proofs.YtggaodokkcoagaaGreatDoor
theorem nodup_le {a b : List Int} (h : a.Nodup) (hs : ∀ x ∈ a, x ∈ b) : a.length ≤ b.length := by
 induction a generalizing b with
 | nil => exact Nat.zero_le _
 | cons x a ih =>
  rw [List.nodup_cons] at h; have hx := hs x List.mem_cons_self; have := ih h.2 (b := b.erase x) fun y hy => (List.mem_erase_of_ne (fun e : y = x => h.1 (by rw [← e]; exact hy))).2 (hs y (List.mem_cons_of_mem _ hy))
  rw [List.length_erase_of_mem hx] at this; have : 0 < b.length := List.length_pos_of_mem hx; rw [List.length_cons]; omega
theorem Lk.nodup {l : List KOffice} {heads : List KHead} {src i : Int} {c : Korder_chain} (h : Lk l heads src i c) : (c.heads.map (·.Office)).Nodup := by
 induction h with
 | one h _ _ _ => simp
 | more c h x _ _ ha _ ih =>
  rw [List.map_append, List.nodup_append]; refine ⟨ih, by simp, fun a ha' b hb => ?_⟩; rw [List.map_singleton, List.mem_singleton] at hb; subst hb; obtain ⟨g, hg, rfl⟩ := List.mem_map.1 ha'; have := List.any_eq_false.1 ha g hg; intro e; exact this (beq_iff_eq.2 e)
theorem Lk.len {l : List KOffice} {heads : List KHead} {src i : Int} {c : Korder_chain} (h : Lk l heads src i c) (hr : ∀ h ∈ heads, HdOk l h) : c.heads.length ≤ l.length := by
 have := nodup_le h.nodup (b := l.map (·.ID)) fun x hx => by
  obtain ⟨g, hg, rfl⟩ := List.mem_map.1 hx; rcases offK_cases l g.Office with ⟨_, e⟩ | ⟨e1, e2, _⟩
  ·rw [(hr g (h.mem g hg)).o] at e; cases e
  ·exact List.mem_map.2 ⟨_, e1, e2⟩
 rwa [List.length_map, List.length_map] at this
end Go.Proofs.YtggaodokkcoagaaGreatDoor
namespace Go.Proofs.YtggaodokkcoagaaGreatDoor
end Go.Proofs.YtggaodokkcoagaaGreatDoor
namespace Go.Proofs.YtggaodokkcoagaaGreatDoor
theorem mpG_cons {α : Type} (p : Int × α) (m : List (Int × α)) (k : Int) (z : α) : mpG (p :: m) k z = if (k == p.1) = true then p.2 else mpG m k z := by
 unfold mpG; rw [List.find?_cons]; cases k == p.1 <;> rfl
theorem mpG_S {α : Type} (k k' : Int) (x z : α) : ∀ m : List (Int × α), mpG (mpS m k x) k' z = if (k' == k) = true then x else mpG m k' z
 | [] => by rw [mpS, mpG_cons]
 | p :: m => by
  rw [mpS]
  by_cases h : (k == p.1) = true
  ·rw [if_pos h, mpG_cons, mpG_cons, ← eq_of_beq h]
   by_cases h2 : (k' == k) = true
   ·rw [if_pos h2, if_pos h2]
   ·rw [if_neg h2, if_neg h2, if_neg h2]
  ·rw [if_neg h, mpG_cons, mpG_cons, mpG_S k k' x z m]
   by_cases h2 : (k' == k) = true
   ·have e := eq_of_beq h2; subst e; rw [if_neg h, if_pos h2, if_pos h2]
   ·rw [if_neg h2, if_neg h2]
theorem seen_loop {l : List Int} (hl : l.length ≤ 10) (hnd : l.Nodup) (hr : ∀ n ∈ l, 1 ≤ n ∧ n ≤ 3) {F : Nat} (hF : 64 ≤ F) : iter (σ := (List (Int × Bool)) × Int) (ρ := Unit ⊕ Unit) (un2 fun (v_54 : (List (Int × Bool))) (v_55 : Int) => 
                  (ifB (decide (v_55 < ((l.length : Nat) : Int)))
                    (Option.bind (ixI l v_55) (fun v_58 =>
                    Option.bind (ifB (decide (v_58 < 1))
                        (some true)
                        (ifB (decide (v_58 > 3))
                          (some true)
                          (some (mpG v_54 v_58 false))) : Option (Bool)) (fun (v_64 : Bool) => 
                      ifB (v_64)
                        (some (.inr (.inr ())))
                        (Option.bind (some (mpS v_54 v_58 true)) (fun v_66 =>
                        some (.inl (v_66, IntKind.i64.wrap (v_55 + 1))))))))
                    (some (.inr (.inl ()))) : Option (((List (Int × Bool)) × Int) ⊕ (Unit ⊕ Unit)))) F (([] : List (Int × Bool)), 0) = some (.inl ()) := by
  have fin : ∀ {σ ρ : Type} {f : σ → Option (σ ⊕ ρ)} {s : σ} {r0 : ρ}, (∃ r, iter f F s = some r ∧ r = r0) → iter f F s = some r0 := fun h => by
    obtain ⟨r, h1, h2⟩ := h
    rw [h1, h2]
  have hlt : l.length < F := by omega
  refine fin (iter_inv (σ := (List (Int × Bool)) × Int) (ρ := Unit ⊕ Unit) l.length (fun j s => s.2 = (j : Int) ∧ ∀ n, mpG s.1 n false = true → ∃ q, q < j ∧ l[q]? = some n) (fun r => r = Sum.inl ()) (fun j s hj hs => ?_) (fun s hs => ⟨_, ?_, rfl⟩) hlt ([], 0) ⟨rfl, fun n h => by cases h⟩)
  · obtain ⟨m, q⟩ := s
    obtain ⟨rfl, hm⟩ := hs
    have hn := hr _ (List.getElem_mem hj)
    have hno : mpG m l[j] false = false := by
      cases e : mpG m l[j] false with
      | false => rfl
      | true =>
        obtain ⟨q, hq, e2⟩ := hm _ e
        rw [List.getElem?_eq_getElem (by omega)] at e2
        exact absurd (Option.some.inj e2) (List.pairwise_iff_getElem.1 hnd q j (by omega) hj hq)
    simp only [un2]
    rw [ltl hj, ifB_t, ixI_get hj, ob_some, decide_eq_false (p := l[j] < 1) (by omega), ifB_f, decide_eq_false (p := l[j] > 3) (by omega), ifB_f, hno, ob_some, ifB_f, ob_some, w64_1 hj (by omega)]
    refine ⟨_, rfl, by show (j : Int) + 1 = ((j + 1 : Nat) : Int); omega, fun n hn => ?_⟩
    rw [mpG_S] at hn
    by_cases e : (n == l[j]) = true
    · exact ⟨j, by omega, by rw [eq_of_beq e, List.getElem?_eq_getElem hj]⟩
    · rw [if_neg e] at hn
      obtain ⟨q, hq, e2⟩ := hm n hn
      exact ⟨q, by omega, e2⟩
  · obtain ⟨m, q⟩ := s
    obtain ⟨rfl, hm⟩ := hs
    simp only [un2]
    rw [ltn, ifB_f]
end Go.Proofs.YtggaodokkcoagaaGreatDoor
namespace Go.Proofs.YtggaodokkcoagaaGreatDoor
theorem law27_finds {acts : List Kregulatorlaw27_Act} {key one two : Int} (ha : ∀ a ∈ acts, a.rng) (h1 : inKd .u16 one) (h2 : inKd .u16 two) : G_regulatorlaw27_OrderFinds 30000 acts key one two = some true := by
 have hF : 64 ≤ 30000 := by decide
 unfold G_regulatorlaw27_OrderFinds; rw [head27 (by decide), ob_some]
 by_cases hl : acts.length ≤ 24
 case neg => rw [decide_eq_true (p := ((acts.length : Nat) : Int) > 24) (by omega)]; rfl
 rw [decide_eq_false (p := ((acts.length : Nat) : Int) > 24) (by omega), ifB_f]; obtain ⟨E, hs, he, hc⟩ := course_eq (key := key) ha hl hF; obtain ⟨u, rfl, hu⟩ := inKd_nat16 h1; obtain ⟨v, rfl, hv⟩ := inKd_nat16 h2; rw [he, ob_some, pick_eq hu hv, ob_some]; unfold pickS
 by_cases hz : (E (u % 3)).length = 0 ∨ (E (v % 3)).length = 0
 ·rw [if_pos hz]; rfl
 rw [if_neg hz]; have a3 := Nat.mod_lt u (show 0 < 3 by decide); have b3 := Nat.mod_lt v (show 0 < 3 by decide); have hi := Nat.mod_lt (u / 3) (show 0 < (E (u % 3)).length by omega); have hk := Nat.mod_lt (v / 3) (show 0 < (E (v % 3)).length by omega); generalize u / 3 % (E (u % 3)).length = i at *; generalize v / 3 % (E (v % 3)).length = k at *; generalize u % 3 = a at *; generalize v % 3 = b at *; simp only [un5]; rw [show (crsS key E hs).ok_ = true from rfl, ifB_t, ob_some, show (!true) = false from rfl, ifB_f, w64_id (n := (a : Int) + 1) (by omega) (by omega), w64_id (n := (b : Int) + 1) (by omega) (by omega), show (crsS key E hs).l = offsN E from rfl, show (crsS key E hs).heads = hs from rfl, show (crsS key E hs).pubs = pubsN key from rfl]; have hg : ∀ h ∈ hs, h.rng := fun h hh => by obtain ⟨n, q⟩ := crs_hd hc hl hh; exact q.r
 have hfew := crs_few hc hl; have hfs := crs_err hc hl a3 b3 hi hk; rw [find_p hfew hg (by decide), ob_some]; cases hsr : srchS (offsN E) hs ((a : Int) + 1) i ((b : Int) + 1) k with
 | none =>
  rw [hsr] at hfs; rw [show findS (offsN E) hs ((a : Int) + 1) i ((b : Int) + 1) k = (zP, false, 0) from hfs]; rfl
 | some c =>
 obtain ⟨c', h0, n, x, lk, hc4, hp, q0, o0, qn, hnb, on, ok, hxk, hat, hend, hhb, hhf, hz0⟩ := (fnd_of hc hl a3 b3 hsr).x; have hle := hops_le (offsN E) hc4; have hPO := prfS_ok (src := (a : Int) + 1) (i := (i : Int)) (dst := (b : Int) + 1) (k := (k : Int)) hfew hg (srch_lk hsr).1; rw [hsr] at hfs; have hfs : findS (offsN E) hs ((a : Int) + 1) i ((b : Int) + 1) k = (prfS (offsN E) c ((a : Int) + 1) i ((b : Int) + 1) k, true, 0) := hfs; rw [hp] at hfs hPO; rw [hfs]; simp only [un3]; rw [show ((0 : Int) == 0) = true from rfl, ifB_t, show (!true) = false from rfl, ob_some, ifB_f]; have hO := offs_chain hc hl lk; rw [hz0] at hO; have hofs : offsF ⟨ownR (offN E a) h0 i, hopsL (offsN E) c'.heads, [], ownR (offN E b) (lastH c') k⟩ = c'.heads.map (·.Office) := hO; have hpos := lk.pos; have hord : ordS (pubsN key) ⟨ownR (offN E a) h0 i, hopsL (offsN E) c'.heads, [], ownR (offN E b) (lastH c') k⟩ = (true, 0) := by
  rw [prf_chk (E := E) (own_rec o0) (own_rec ok) (by omega) hhf]; unfold ordP; simp only; rw [own_rcp o0 q0.s, own_rcp ok qn.s, show (ownR (offN E a) h0 i).Head = h0 from rfl, hhb, hend]; unfold lastB; rw [show (ownR (offN E b) (lastH c') x).Head = lastH c' from rfl, show (ownR (offN E b) (lastH c') k).Head = lastH c' from rfl, beq_self_eq_true, decide_eq_true (p := (ownR (offN E b) (lastH c') x).Index < (ownR (offN E b) (lastH c') k).Index) (by show (x : Int) < (k : Int); omega), if_pos (Int.le_refl _), growS_self ok]; rfl
 rw [ord_p (by show 3 ≤ 40; decide) hPO (by show (hopsL (offsN E) c'.heads).length ≤ 50; omega) hF, hord, ob_some]; simp only [un2]; rw [offs_p (by show (hopsL (offsN E) c'.heads).length ≤ 50; omega) hF, hofs, ob_some, seen_loop (by rw [List.length_map]; omega) lk.nodup (fun n hn => by
  obtain ⟨g, hg', rfl⟩ := List.mem_map.1 hn; obtain ⟨m, q⟩ := crs_hd hc hl (lk.mem g hg'); have := q.o; have := q.lt; omega) hF]
 simp only [ob_some, Sum.elim_inl]; have hlen : (c'.heads.map (·.Office)).length = c'.heads.length := List.length_map _; have hf0 : (c'.heads.map (·.Office))[0]? = some ((a : Int) + 1) := by
  rw [← hO, List.getElem?_cons_zero, q0.o]
 have hfl : (c'.heads.map (·.Office))[c'.heads.length - 1]? = some ((b : Int) + 1) := by
  rw [List.getElem?_map, lastH_get hpos, ← qn.o]; rfl
 rw [show ((0 : Int) == 0) = true from rfl]; simp only [ifB_t]; rw [offs_at E a3, ob_some, ixI_nat, eAt_get (show i < (offN E a).Entries.length from hi), ob_some, decide_eq_true (p := (ownR (offN E a) h0 i).Entry = eAt (offN E a).Entries i) rfl, ifB_t]; rw [offs_at E b3, ob_some, ixI_nat, eAt_get (show k < (offN E b).Entries.length from hk), ob_some, decide_eq_true (p := (ownR (offN E b) (lastH c') k).Entry = eAt (offN E b).Entries k) rfl, ifB_t]; rw [show ((ownR (offN E a) h0 i).Index == (i : Int)) = true from beq_self_eq_true _, ifB_t, show ((ownR (offN E b) (lastH c') k).Index == (k : Int)) = true from beq_self_eq_true _, ob_some, ifB_t]; rw [hlen, decide_eq_true (p := ((c'.heads.length : Nat) : Int) ≥ 1) (by omega), ifB_t, show (0 : Int) = ((0 : Nat) : Int) from rfl, ixI_nat, hf0, ob_some, beq_self_eq_true, ifB_t, w64_p hpos (by omega), ixI_nat, hfl, ob_some, beq_self_eq_true]; rfl
end Go.Proofs.YtggaodokkcoagaaGreatDoor
namespace Go.Proofs.YtggaodokkcoagaaGreatDoor
open Go.RowKit
theorem tb_of {W : World} {L : List (String × DataW Unit)} (h : laidMet Tryz.prog L W) (hm : ("internal/strconv.uint64pow10", Rows.laid_internal_strconv_uint64pow10) ∈ L) : Tb W := by
 refine Lib.tabBelow_of_tabIs ?_; obtain ⟨g, t, cs, fuel, p, hg, ht, hvar, hd⟩ := Lib.laidMet.reads h hm; have h1 : (Tryz.prog.globalNamed "internal/strconv.uint64pow10").bind (fun g => (Tryz.prog.globals[g]?).map (·.type)) = some 209 := by kernel_rfl
 rw [hg] at h1; obtain rfl : t = 209 := Option.some.inj (ht.symm.trans h1); unfold Lib.TabIs; rw [hvar, ← Lib.cells_of_tab (k := .u64) (zs := Lib.pow10Tab) Tryz.underlying209 Tryz.underlying23 (by kernel_rfl) (by kernel_rfl) hd]
end Go.Proofs.YtggaodokkcoagaaGreatDoor
