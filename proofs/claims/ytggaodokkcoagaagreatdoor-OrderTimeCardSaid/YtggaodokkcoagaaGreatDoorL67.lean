/-
  Texts joined: Pd27, Pi27, Pn27, Po27, Pm27, Pq27, Pr27, Ps27, Pt27, Pk27, Pe27, Pf27, Pg27, Pu27, Px27, Py27, Pz27, Pz27b, TbL.
-/
import Derived.Test.YtggaodokkcoagaaGreatDoorRows
import Derived.Lib.LaidU8
import Derived.Test.YtggaodokkcoagaaGreatDoorL60
import Derived.Test.YtggaodokkcoagaaGreatDoorL66
set_option linter.unusedSimpArgs false
set_option linter.unusedVariables false
set_option maxRecDepth 100000
set_option maxHeartbeats 16000000
namespace Go.Proofs.YtggaodokkcoagaaGreatDoor
inductive Lk (l : List Kf) (heads : List Kc) (src i : Int) : Kj → Prop
 | one (h : Kc) : h ∈ heads → h.Office = src → h.Size > i → Lk l heads src i ⟨[h], i⟩
 | more (c : Kj) (h : Kc) (x : Nat) : Lk l heads src i c → h ∈ heads → c.heads.any (fun g => g.Office == h.Office) = false → atS l h (digF (lastH c)) = some x → Lk l heads src i ⟨c.heads ++ [h], x⟩
theorem Lk.pos {l : List Kf} {heads : List Kc} {src i : Int} {c : Kj} (h : Lk l heads src i c) : 0 < c.heads.length := by
 cases h <;> simp
theorem Lk.mem {l : List Kf} {heads : List Kc} {src i : Int} {c : Kj} (h : Lk l heads src i c) : ∀ g ∈ c.heads, g ∈ heads := by
 induction h with
 | one h hh _ _ => intro g hg; rw [List.mem_singleton] at hg; rw [hg]; exact hh
 | more c h x _ hh _ _ ih =>
  intro g hg; rcases List.mem_append.1 hg with hg | hg
  ·exact ih g hg
  ·rw [List.mem_singleton] at hg; rw [hg]; exact hh
theorem lev0_lk {l : List Kf} {heads : List Kc} {src i : Int} {c : Kj} (hc : c ∈ lev0 heads src i) : Lk l heads src i c := by
 obtain ⟨_, h, hh, rfl, h1, h2⟩ := lev0_ok hc; exact .one h hh h1 h2
theorem long_lk {l : List Kf} {heads : List Kc} {src i : Int} {c d : Kj} (h : Lk l heads src i c) (hd : d ∈ longS l heads c) : Lk l heads src i d := by
 unfold longS at hd; rw [List.mem_filterMap] at hd; obtain ⟨g, hg, e⟩ := hd; obtain ⟨e1, x, e2, rfl⟩ := next_spec e; exact .more c g x h hg e1 e2
theorem goS_lk {l : List Kf} {heads : List Kc} {src i dst k : Int} {c : Kj} : ∀ (n m : Nat) (lv : List Kj), (∀ c ∈ lv, Lk l heads src i c ∧ c.heads.length = m) → goS l heads dst k n lv = some c → Lk l heads src i c ∧ finB dst k c = true ∧ m ≤ c.heads.length ∧ c.heads.length < m + n
 | 0, _, _, _, e => by cases e
 | n + 1, m, lv, hlv, e => by
  rw [goS] at e; cases hf : lv.find? (finB dst k) with
  | some d =>
   rw [hf] at e; cases e; have := hlv _ (List.mem_of_find?_eq_some hf); exact ⟨this.1, List.find?_some hf, by omega, by omega⟩
  | none =>
   rw [hf] at e; have := goS_lk (src := src) (i := i) n (m + 1) _ (fun d hd => ?_) e
   ·exact ⟨this.1, this.2.1, by omega, by omega⟩
   ·obtain ⟨b, hb, hd⟩ := List.mem_flatMap.1 hd; refine ⟨long_lk (hlv b hb).1 hd, ?_⟩; unfold longS at hd; rw [List.mem_filterMap] at hd; obtain ⟨g, hg, e⟩ := hd; obtain ⟨e1, x, e2, rfl⟩ := next_spec e
    simp [(hlv b hb).2]
theorem srch_lk {l : List Kf} {heads : List Kc} {src i dst k : Int} {c : Kj} (h : srchS l heads src i dst k = some c) : Lk l heads src i c ∧ finB dst k c = true ∧ c.heads.length ≤ 4 := by
 have := goS_lk 4 1 _ (fun c hc => ⟨lev0_lk hc, (lev0_ok hc).1.n⟩) h; exact ⟨this.1, this.2.1, by omega⟩
def zP : Kq := ⟨zR, [], [], zR⟩
def hopW (l : List Kf) (p : Kc × Kc) : KHop := (witS (offK l p.1.Office) p.1 p.1 (offK l p.2.Office) p.2).1
def hopsL (l : List Kf) (hs : List Kc) : List KHop := (hs.zip (hs.drop 1)).map (hopW l)
def prfS (l : List Kf) (c : Kj) (src i dst k : Int) : Kq :=
 ⟨(provS (offK l src) (c.heads.getD 0 zHd) i).1, hopsL l c.heads, [], (provS (offK l dst) (lastH c) k).1⟩
def findS (l : List Kf) (heads : List Kc) (src i dst k : Int) : Kq × Bool × Int :=
 if (arcS l heads).2 == 0 then
  (if entB l src i && entB l dst k then
   (if heads.all (whB l) then
    (match srchS l heads src i dst k with
    | some c => (prfS l c src i dst k, true, 0)
    | none => (zP, false, 0))
   else (zP, false, 33))
  else (zP, false, 1))
 else (zP, false, (arcS l heads).2)
theorem arcS_ok {l : List Kf} {heads : List Kc} (h : ((arcS l heads).2 == 0) = true) : arcS l heads = (some (arcO l heads), 0) ∧ l.length ≤ 4 ∧ heads.length ≤ 12 ∧ arcF 0 l = true ∧ heads.all fH = true := by
 unfold arcS at h ⊢
 split at h
 ·rename_i h1
  rw [if_pos h1]
  split at h
  ·rename_i h2
   rw [if_pos h2]; simp only [Bool.and_eq_true, decide_eq_true_eq] at h1 h2; exact ⟨rfl, h1.1, h1.2, h2.1, h2.2⟩
  ·cases h
 ·cases h
theorem find_p {l : List Kf} {heads : List Kc} {src i dst k : Int} (hl : FewO l) (hg : ∀ h ∈ heads, h.rng) {F : Nat} (hF : 21000 ≤ F) :
  Gc F l heads src i dst k = some (findS l heads src i dst k) := by
 unfold Gc findS; rw [arc_p hl hg (by omega), ob_some, un2_p]; cases h0 : ((arcS l heads).2 == 0) with
 | false => rfl
 | true =>
 obtain ⟨h1, h2, h3, h4, h5⟩ := arcS_ok h0; rw [h1]; simp only [ifB_t, ob_some, ent_p, if_true]; have e1 : (ifB (entB l src i) (some (!entB l dst k)) (some true) : Option Bool) = some (!(entB l src i && entB l dst k)) := by
  cases entB l src i <;> rfl
 rw [e1, ob_some]; cases (entB l src i && entB l dst k) with
 | false => rfl
 | true =>
 simp only [Bool.not_true, ifB_f, if_true]; rw [wh_p hl h3 (by omega), ob_some]; cases hw : heads.all (whB l) with
 | false => rfl
 | true =>
 have hr : ∀ h ∈ heads, HdOk l h := fun h hh => hdOk_of (List.all_eq_true.1 hw h hh)
 rw [ifB_t, srch_p hl h3 hr hg hF, ob_some]; cases hs : srchS l heads src i dst k with
 | none => rfl
 | some c =>
 obtain ⟨lk, _, hc4⟩ := srch_lk hs; have h0 := lk.pos; rw [outS, un2_p, ifB_t]; rw [show mpG (arcO l heads).offices src Kf.z = offK l src from rfl]; rw [show ixI c.heads 0 = some (c.heads.getD 0 zHd) by
  rw [show (0 : Int) = ((0 : Nat) : Int) from rfl, ixI_get h0, List.getD_eq_getElem?_getD, List.getElem?_eq_getElem h0]; rfl]
 have hz : ∀ h ∈ c.heads, h.rng := fun h hh => hg h (lk.mem h hh)
 rw [ob_some, prove_p (hl.rng _) (hl.len _) (by omega), ob_some, un2_p, show mpG (arcO l heads).offices dst Kf.z = offK l dst from rfl, last_p h0 (by omega), ob_some, prove_p (hl.rng _) (hl.len _) (by omega), ob_some, un2_p, ob_some]; rw [show slI c.heads 1 (c.heads.length : Int) = some (c.heads.drop 1) by
  rw [show (1 : Int) = ((1 : Nat) : Int) from rfl, slI_ok (by omega) (Nat.le_refl _), List.take_length], ob_some]
 have hzl : (c.heads.zip (c.heads.drop 1)).length = (c.heads.drop 1).length := by
  rw [List.length_zip, List.length_drop]; omega
 have hdl : (c.heads.drop 1).length ≤ 4 := by rw [List.length_drop]; omega
 rw [iter_fold (fun (b : List KHop) j => ((b, j) : List KHop × Int)) (c.heads.zip (c.heads.drop 1)) (fun b p => b ++ [hopW l p]) id (fun j b => b.length ≤ j) (fun b _ => ?_) (fun b j h hb => ⟨?_, ?_⟩) (by omega) [] (by simp), fold_snoc]
 ·rfl
 ·rw [hzl]; simp only [un2, ltn, ifB_f, id]
 ·have hj : j < (c.heads.drop 1).length := by omega
  have hj' : j < c.heads.length := by rw [List.length_drop] at hj; omega
  simp only [un2, ltl hj, ifB_t, ixI_get hj, ixI_get hj', ob_some, w64_1 hj (by omega)]; rw [show mpG (arcO l heads).offices c.heads[j].Office Kf.z = offK l c.heads[j].Office from rfl, show mpG (arcO l heads).offices (c.heads.drop 1)[j].Office Kf.z = offK l (c.heads.drop 1)[j].Office from rfl]; rw [wit_p (hl.rng _) (hl.rng _) (hl.len _) (hl.len _) (hz _ (List.getElem_mem hj')) (hz _ (List.getElem_mem hj')) (hz _ (List.mem_of_mem_drop (List.getElem_mem hj))) (by omega), ob_some, un2_p, ob_some]; simp only [un16]; rw [apG_ok (by simp only [List.length_cons, List.length_nil]; omega), ob_some]; rw [show (c.heads.zip (c.heads.drop 1))[j] = (c.heads[j], (c.heads.drop 1)[j]) from List.getElem_zip ..]; rfl
 ·simp only [List.length_append, List.length_cons, List.length_nil]; omega
theorem un3_p {a b c d : Type} (f : a → b → c → d) (p : a × b × c) : un3 f p = f p.1 p.2.1 p.2.2 := rfl
theorem sum_rng (l : List Int) : inKd .u64 (sumB l) := inKd_wu (sumB_rng l).1 (sumB_rng l).2
theorem digF_rng (h : Kc) : inKd .u64 (digF h) := sum_rng _
theorem zR_ok : ROk zR := ⟨⟨inKd_w (by decide) (by decide), inKd_w (by decide) (by decide), inKd_wu (by decide) (by decide), ⟨inKd_w (by decide) (by decide), inKd_w (by decide) (by decide)⟩⟩, ⟨inKd_wu (by decide) (by decide), ⟨inKd_w (by decide) (by decide), inKd_w (by decide) (by decide)⟩⟩⟩
theorem prov_rok {o : Kf} (ho : o.rng) {h : Kc} (hh : h.rng) (i : Int) : ROk (provS o h i).1 := by
 unfold provS
 split
 ·rename_i h1
  split
  ·simp only [Bool.and_eq_true, decide_eq_true_eq] at h1; exact ⟨hh, eAt_rng ho (by omega)⟩
  ·exact zR_ok
 ·exact zR_ok
theorem fndS_lt {l : List Kb} {n : Nat} {d : Int} {i : Nat} (h : fndS l n d = some i) : i < n ∧ (eAt l i).Doc = d := by
 have := fdN_some h; exact ⟨by omega, eq_of_beq this.2.1⟩
theorem wit_rok {a b : Kf} (hb : b.rng) {f o h : Kc} (ho : o.rng) (hh : h.rng) : (witS a f o b h).1.Of.rng ∧ ROk (witS a f o b h).1.By := by
 have hz : zH.Of.rng ∧ ROk zH.By := ⟨zR_ok.h, zR_ok⟩; unfold witS
 split
 ·rename_i hc
  split
  ·rename_i h1
   split
   ·exact hz
   ·rename_i i e
    have hl := fndS_lt e; simp only [Bool.and_eq_true] at h1; have := (hasS_spec h1.2.2).2.1; exact ⟨ho, hh, eAt_rng hb (by omega)⟩
  ·exact hz
 ·exact hz
theorem prfS_ok {l : List Kf} {heads : List Kc} {src i dst k : Int} {c : Kj} (hl : FewO l) (hg : ∀ h ∈ heads, h.rng) (lk : Lk l heads src i c) : POk (prfS l c src i dst k) := by
 have hpos := lk.pos; have hz : ∀ h ∈ c.heads, h.rng := fun h hh => hg h (lk.mem h hh)
 refine ⟨prov_rok (hl.rng _) (hz _ ?_) _, prov_rok (hl.rng _) (hz _ (lastH_mem hpos)) _, fun x hx => ?_⟩
 ·rw [List.getD_eq_getElem?_getD, List.getElem?_eq_getElem hpos]; exact List.getElem_mem hpos
 ·obtain ⟨q, hq, rfl⟩ := List.mem_map.1 hx; obtain ⟨q1, q2⟩ := q; have h1 := (List.of_mem_zip hq).1; have h2 := List.mem_of_mem_drop (List.of_mem_zip hq).2; exact wit_rok (hl.rng _) (hz _ h1) (hz _ h2)
theorem find_ok {l : List Kf} {heads : List Kc} {src i dst k : Int} (hl : FewO l) (hg : ∀ h ∈ heads, h.rng) : POk (findS l heads src i dst k).1 ∧ (findS l heads src i dst k).1.Hops.length ≤ 3 := by
 have hz : POk zP ∧ zP.Hops.length ≤ 3 := ⟨⟨zR_ok, zR_ok, fun x hx => absurd hx List.not_mem_nil⟩, Nat.zero_le _⟩; unfold findS
 split
 ·split
  ·split
   ·cases hs : srchS l heads src i dst k with
    | none => exact hz
    | some c =>
     obtain ⟨lk, _, h4⟩ := srch_lk hs; refine ⟨prfS_ok hl hg lk, ?_⟩
     show (hopsL l c.heads).length ≤ 3
     unfold hopsL; rw [lm_, List.length_zip, List.length_drop]; omega
   ·exact hz
  ·exact hz
 ·exact hz
theorem headF_one {o : Kf} (hr : o.rng) (hl : o.Entries.length ≤ 50) {n : Nat} {k m : Int} (hv : vO o = true) (h1 : 1 ≤ n) (h2 : n ≤ o.Entries.length) (h : (isK k && isK m) = true) {F : Nat} (hF : 64 ≤ F) : Ga F o n k m = some (headF o n k m, 0) := by
 rw [sign_p hr hl hF, sign_ok hv h1 h2 h]
def oneO : Kf := ⟨1, [⟨77, ⟨0, 0⟩⟩]⟩
def twoO (d : Int) : Kf := ⟨2, [⟨d, ⟨0, 0⟩⟩, ⟨88, ⟨0, 0⟩⟩]⟩
theorem i_rng : Ke.rng ⟨0, 0⟩ := ⟨inKd_w (by decide) (by decide), inKd_w (by decide) (by decide)⟩
theorem e_rng {d : Int} (h : inKd .u64 d) : Kb.rng ⟨d, ⟨0, 0⟩⟩ := ⟨h, i_rng⟩
theorem one_rng : oneO.rng := ⟨inKd_w (by decide) (by decide), fun y hy => by
 rw [show oneO.Entries = [⟨77, ⟨0, 0⟩⟩] from rfl, List.mem_singleton] at hy; subst hy; exact e_rng (inKd_wu (by decide) (by decide))⟩
theorem two_rng {d : Int} (h : inKd .u64 d) : (twoO d).rng := ⟨show inKd .i64 2 from inKd_w (by decide) (by decide), fun y hy => by
 rw [show (twoO d).Entries = [⟨d, ⟨0, 0⟩⟩, ⟨88, ⟨0, 0⟩⟩] from rfl, List.mem_cons, List.mem_singleton] at hy; rcases hy with rfl | rfl
 ·exact e_rng h
 ·exact e_rng (inKd_wu (by decide) (by decide))⟩
theorem two_any : ∃ (L : List Kf) (H : List Kc) (P : List Int), (∀ F, 64 ≤ F → Gar F = some (L, H, P)) ∧ FewO L ∧ (∀ h ∈ H, h.rng) ∧ P.length ≤ 40 := by
 have hA : (headF oneO 1 5 6).rng := headF_rng one_rng (by decide) (by decide); have hB : (headF (twoO (digF (headF oneO 1 5 6))) 2 7 8).rng := headF_rng (two_rng (digF_rng _)) (by decide) (by decide); refine ⟨[oneO, twoO (digF (headF oneO 1 5 6))], [headF oneO 1 5 6, headF (twoO (digF (headF oneO 1 5 6))) 2 7 8], [pubF 5, pubF 7], fun F hF => ?_, ⟨by decide, fun o ho => ?_, fun o ho => ?_⟩, fun h hh => ?_, by decide⟩
 ·unfold Gar; have h1 := headF_one (o := oneO) (n := 1) (k := 5) (m := 6) one_rng (by decide) (by decide) (by decide) (by decide) (by decide) hF; have h2 := headF_one (o := twoO (digF (headF oneO 1 5 6))) (n := 2) (k := 7) (m := 8) (two_rng (digF_rng _)) (by show 2 ≤ 50; decide) (by show vO ⟨2, [⟨_, ⟨0, 0⟩⟩, ⟨88, ⟨0, 0⟩⟩]⟩ = true; rfl) (by decide) (by show 2 ≤ 2; decide) (by decide) hF; unfold oneO at h1; rw [show Ga F (⟨1, ([(⟨77, ⟨0, 0⟩⟩ : Kb)] : List Kb)⟩ : Kf) 1 5 6 = some (headF oneO 1 5 6, 0) from h1, ob_some, un2_p, dig_p hA hF, ob_some]; rw [show Ga F (⟨2, ([(⟨digF (headF oneO 1 5 6), ⟨0, 0⟩⟩ : Kb), (⟨88, ⟨0, 0⟩⟩ : Kb)] : List Kb)⟩ : Kf) 2 7 8 = some (headF (twoO (digF (headF oneO 1 5 6))) 2 7 8, 0) from h2, ob_some, un2_p]; rw [pubF_eq (k := 5) (by decide) hF, pubF_eq (k := 7) (by decide) hF]; simp only [ob_some]; rfl
 ·rw [List.mem_cons, List.mem_singleton] at ho; rcases ho with rfl | rfl
  ·decide
  ·show 2 ≤ 50; decide
 ·rw [List.mem_cons, List.mem_singleton] at ho; rcases ho with rfl | rfl
  ·exact one_rng
  ·exact two_rng (digF_rng _)
 ·rw [List.mem_cons, List.mem_singleton] at hh; rcases hh with rfl | rfl
  ·exact hA
  ·exact hB
theorem head27_c : Gx 30000 = some true := by kernel_rfl
theorem head27 {F : Nat} (hF : 21000 ≤ F) : Gx F = some true := by
 rw [← head27_c]; obtain ⟨L, H, P, h2, hL, hH, hP⟩ := two_any; have hf : ∀ F, 21000 ≤ F → ∀ src i dst k, Gc F L H src i dst k = some (findS L H src i dst k) := fun F hF src i dst k => find_p hL hH hF
 have hc : ∀ F, 21000 ≤ F → ∀ src i dst k, Gv F P (findS L H src i dst k).1 = some (ordS P (findS L H src i dst k).1) := fun F hF src i dst k => ord_p hP (find_ok hL hH).1 (by have := (find_ok (src := src) (i := i) (dst := dst) (k := k) hL hH).2; omega) (by omega)
 have ho : ∀ F, 21000 ≤ F → ∀ src i dst k, G4 F (findS L H src i dst k).1 = some (offsF (findS L H src i dst k).1) := fun F hF src i dst k => offs_p (by have := (find_ok (src := src) (i := i) (dst := dst) (k := k) hL hH).2; omega) (by omega)
 have hs : ∀ F, 21000 ≤ F → ∀ src i dst k, G8 F (offsF (findS L H src i dst k).1) [1, 2] = some (decide (offsF (findS L H src i dst k).1 = [1, 2])) := fun F hF src i dst k => sameI_r (by have := (find_ok (src := src) (i := i) (dst := dst) (k := k) hL hH).2; unfold offsF; rw [List.length_cons, List.length_map]; omega) (by omega)
 have key : ∃ x, ∀ F, 21000 ≤ F → Gx F = x := ⟨_, fun F hF => by
  unfold Gx; rw [h2 F (by omega), ob_some, un3_p, hf F hF, ob_some, un3_p, hc F hF, ob_some, un2_p, hf F hF, ob_some, un3_p, hf F hF, ob_some, un3_p, hc F hF, ob_some, un2_p, hf F hF, ob_some, un3_p, ho F hF, ob_some, hs F hF, ob_some]⟩
 obtain ⟨x, hx⟩ := key; rw [hx F hF, hx 30000 (by decide)]
theorem iter_inv {σ ρ : Type} {f : σ → Option (σ ⊕ ρ)} (n : Nat) (I : Nat → σ → Prop) (Q : ρ → Prop) (hk : ∀ k s, k < n → I k s → ∃ s', f s = some (.inl s') ∧ I (k + 1) s') (hn : ∀ s, I n s → ∃ r, f s = some (.inr r) ∧ Q r) {F : Nat} (hF : n < F) (s : σ) (h : I 0 s) : ∃ r, iter f F s = some r ∧ Q r := by
 have key : ∀ (m k F : Nat) (s : σ), k + m = n → m < F → I k s → ∃ r, iter f F s = some r ∧ Q r := by
  intro m
  induction m with
  | zero =>
   intro k F s hm hF hs; obtain ⟨F', rfl⟩ : ∃ F', F = F' + 1 := ⟨F - 1, by omega⟩; obtain rfl : k = n := by omega
   obtain ⟨r, h1, h2⟩ := hn s hs; exact ⟨r, by unfold iter; rw [h1], h2⟩
  | succ m ih =>
   intro k F s hm hF hs; obtain ⟨F', rfl⟩ : ∃ F', F = F' + 1 := ⟨F - 1, by omega⟩; obtain ⟨s', h1, h2⟩ := hk k s (by omega) hs; obtain ⟨r, h3, h4⟩ := ih (k + 1) F' s' (by omega) (by omega) h2; exact ⟨r, by unfold iter; rw [h1]; exact h3, h4⟩
 exact key n 0 F s (by omega) hF h
def offN (E : Nat → List Kb) (n : Nat) : Kf := ⟨(n : Int) + 1, E n⟩
def offsN (E : Nat → List Kb) : List Kf := [offN E 0, offN E 1, offN E 2]
structure CI (K : Nat → Int) (t : Nat) (E : Nat → List Kb) (hs : List Kc) : Prop where
 len : ∀ n, (E n).length ≤ t
 dr : ∀ n, ∀ e ∈ E n, inKd .u64 e.Doc
 st : ∀ n j, j < (E n).length → ∃ x : Nat, x < t ∧ (eAt (E n) j).Stamp = ⟨x, x⟩
 inc : ∀ n i j, i < j → j < (E n).length → (eAt (E n) i).Stamp.Lo < (eAt (E n) j).Stamp.Lo
 hn : hs.length ≤ 12
 hd : ∀ h ∈ hs, ∃ n m q, n < 3 ∧ 1 ≤ m ∧ m ≤ (E n).length ∧ isK q = true ∧ h = headF (offN E n) m (K n) q
 doc : ∀ n j, j < (E n).length → (0 ≤ (eAt (E n) j).Doc ∧ (eAt (E n) j).Doc < 4294967296) ∨ ∃ g ∈ hs, (eAt (E n) j).Doc = digF g ∧ ∀ j' : Nat, (j' : Int) < g.Size → (eAt (E (g.Office - 1).toNat) j').Stamp.Lo < (eAt (E n) j).Stamp.Lo
theorem CI.start (K : Nat → Int) : CI K 0 (fun _ => []) [] := ⟨fun _ => Nat.zero_le _, fun _ e he => absurd he List.not_mem_nil, fun _ j h => absurd h (Nat.not_lt_zero _), fun _ _ j _ h => absurd h (Nat.not_lt_zero _), Nat.zero_le _, fun h hh => absurd hh List.not_mem_nil, fun _ j h => absurd h (Nat.not_lt_zero _)⟩
theorem CI.mono {K : Nat → Int} {t t' : Nat} {E : Nat → List Kb} {hs : List Kc} (h : CI K t E hs) (ht : t ≤ t') : CI K t' E hs :=
 ⟨fun n => Nat.le_trans (h.len n) ht, h.dr, fun n j hj => by obtain ⟨x, h1, h2⟩ := h.st n j hj; exact ⟨x, by omega, h2⟩, h.inc, h.hn, h.hd, h.doc⟩
theorem CI.vO {K : Nat → Int} {t : Nat} {E : Nat → List Kb} {hs : List Kc} (h : CI K t E hs) (ht : t ≤ 50) {n : Nat} (hn : n < 3) : vO (offN E n) = true := by
 refine vO_iff.2 ⟨fun j hj => okAt_iff.2 ⟨?_, fun hj0 => ?_⟩, ?_, ?_⟩
 ·obtain ⟨x, h1, h2⟩ := h.st n j hj
  show vI (eAt (E n) j).Stamp = true
  rw [h2]; exact decide_eq_true ⟨by show (0 : Int) ≤ (x : Int); omega, by show (x : Int) ≤ (x : Int); omega, by show (x : Int) ≤ 3000000000000000; omega⟩
 ·exact Int.le_of_lt (h.inc n (j - 1) j (by omega) hj)
 ·show 1 ≤ (n : Int) + 1 ∧ (n : Int) + 1 ≤ 16
  omega
 ·have := h.len n
  show (E n).length ≤ 4096
  omega
theorem eAt_mem {l : List Kb} {j : Nat} (h : j < l.length) : eAt l j ∈ l := List.mem_of_getElem? (eAt_get h)
theorem mem_eAt {l : List Kb} {e : Kb} (h : e ∈ l) : ∃ j, j < l.length ∧ eAt l j = e := by
 obtain ⟨j, hj, rfl⟩ := List.getElem_of_mem h; exact ⟨j, hj, Option.some.inj ((eAt_get hj).symm.trans (List.getElem?_eq_getElem hj))⟩
theorem CI.rng {K : Nat → Int} {t : Nat} {E : Nat → List Kb} {hs : List Kc} (h : CI K t E hs) (ht : t ≤ 50) {n : Nat} (hn : n < 3) : (offN E n).rng := by
 refine ⟨show inKd .i64 ((n : Int) + 1) from inKd_w (by omega) (by omega), fun e he => ?_⟩; obtain ⟨j, hj, rfl⟩ := mem_eAt he; obtain ⟨x, h1, h2⟩ := h.st n j hj; refine ⟨h.dr n _ he, ?_⟩
 show Ke.rng (eAt (E n) j).Stamp
 rw [h2]; exact ⟨show inKd .i64 (x : Int) from inKd_w (by omega) (by omega), show inKd .i64 (x : Int) from inKd_w (by omega) (by omega)⟩
def addE (E : Nat → List Kb) (n : Nat) (e : Kb) : Nat → List Kb := fun m => if m = n then E n ++ [e] else E m
theorem addE_at (E : Nat → List Kb) (n : Nat) (e : Kb) : addE E n e n = E n ++ [e] := if_pos rfl
theorem addE_ne (E : Nat → List Kb) {n m : Nat} (e : Kb) (h : m ≠ n) : addE E n e m = E m := if_neg h
theorem addE_old (E : Nat → List Kb) (n m : Nat) (e : Kb) {j : Nat} (h : j < (E m).length) : eAt (addE E n e m) j = eAt (E m) j ∧ j < (addE E n e m).length := by
 by_cases hm : m = n
 ·subst hm; rw [addE_at]; exact ⟨eAt_app h, by rw [List.length_append]; omega⟩
 ·rw [addE_ne E e hm]; exact ⟨rfl, h⟩
theorem addE_new (E : Nat → List Kb) (n m : Nat) (e : Kb) {j : Nat} (h : j < (addE E n e m).length) (h2 : ¬ j < (E m).length) : m = n ∧ j = (E n).length ∧ eAt (addE E n e m) j = e := by
 by_cases hm : m = n
 ·subst hm; rw [addE_at, List.length_append] at h; have : j = (E m).length := by simp only [List.length_cons, List.length_nil] at h; omega
  subst this; rw [addE_at]; exact ⟨rfl, rfl, eAt_last⟩
 ·rw [addE_ne E e hm] at h; exact absurd h h2
theorem headF_addE (E : Nat → List Kb) (n m : Nat) (e : Kb) {q : Nat} (h : q ≤ (E m).length) (k o : Int) : headF (offN (addE E n e) m) q k o = headF (offN E m) q k o := by
 by_cases hm : m = n
 ·subst hm; unfold offN; rw [addE_at]; exact headF_app (o := ⟨(m : Int) + 1, E m⟩) (e := e) h
 ·unfold offN; rw [addE_ne E e hm]
theorem CI.add {K : Nat → Int} {t : Nat} {E : Nat → List Kb} {hs : List Kc} (h : CI K t E hs) (n : Nat) (d : Int) (hd : inKd .u64 d) (hdoc : (0 ≤ d ∧ d < 4294967296) ∨ ∃ g ∈ hs, d = digF g) : CI K (t + 1) (addE E n ⟨d, ⟨t, t⟩⟩) hs := by
 have hst : ∀ m j, j < (E m).length → (eAt (E m) j).Stamp.Lo < (t : Int) := fun m j hj => by
  obtain ⟨x, h1, h2⟩ := h.st m j hj; rw [h2]; show (x : Int) < (t : Int); omega
 refine ⟨fun m => ?_, fun m e he => ?_, fun m j hj => ?_, fun m i j hij hj => ?_, h.hn, fun g hg => ?_, fun m j hj => ?_⟩
 ·by_cases hm : m = n
  ·subst hm; have := h.len m; rw [addE_at, List.length_append]; simp only [List.length_cons, List.length_nil]; omega
  ·have := h.len m; rw [addE_ne E _ hm]; omega
 ·obtain ⟨j, hj, rfl⟩ := mem_eAt he
  by_cases hj' : j < (E m).length
  ·rw [(addE_old E n m _ hj').1]; exact h.dr m _ (eAt_mem hj')
  ·rw [(addE_new E n m _ hj hj').2.2]; exact hd
 ·by_cases hj' : j < (E m).length
  ·rw [(addE_old E n m _ hj').1]; obtain ⟨x, h1, h2⟩ := h.st m j hj'; exact ⟨x, by omega, h2⟩
  ·rw [(addE_new E n m _ hj hj').2.2]; exact ⟨t, by omega, rfl⟩
 ·by_cases hj' : j < (E m).length
  ·rw [(addE_old E n m _ hj').1, (addE_old E n m _ (show i < (E m).length by omega)).1]; exact h.inc m i j hij hj'
  ·obtain ⟨h1, h2, h3⟩ := addE_new E n m _ hj hj'; subst h1; rw [h3, (addE_old E m m _ (show i < (E m).length by omega)).1]; exact hst m i (by omega)
 ·obtain ⟨m, q, k, h1, h2, h3, h4, h5⟩ := h.hd g hg; refine ⟨m, q, k, h1, h2, ?_, h4, ?_⟩
  ·have := (addE_old E n m ⟨d, ⟨t, t⟩⟩ (j := q - 1) (by omega)).2; omega
  ·rw [headF_addE E n m _ h3]; exact h5
 ·have hgs : ∀ g ∈ hs, ∀ j' : Nat, (j' : Int) < g.Size → j' < (E (g.Office - 1).toNat).length := fun g hg j' hj' => by
   obtain ⟨m, q, k, h1, h2, h3, h4, h5⟩ := h.hd g hg; have e1 : g.Office = (m : Int) + 1 := by rw [h5]; rfl
   have e2 : g.Size = (q : Int) := by rw [h5]; rfl
   rw [e1, show ((m : Int) + 1 - 1).toNat = m by omega]; omega
  by_cases hj' : j < (E m).length
  ·rw [(addE_old E n m _ hj').1]; rcases h.doc m j hj' with hl | ⟨g, hg, e1, e2⟩
   ·exact .inl hl
   ·refine .inr ⟨g, hg, e1, fun j' q => ?_⟩; rw [(addE_old E n _ _ (hgs g hg j' q)).1]; exact e2 j' q
  ·obtain ⟨h1, h2, h3⟩ := addE_new E n m _ hj hj'; rw [h3]; rcases hdoc with hl | ⟨g, hg, e1⟩
   ·exact .inl hl
   ·refine .inr ⟨g, hg, e1, fun j' q => ?_⟩; rw [(addE_old E n _ _ (hgs g hg j' q)).1]; exact hst _ _ (hgs g hg j' q)
theorem CI.sign {K : Nat → Int} {t : Nat} {E : Nat → List Kb} {hs : List Kc} (h : CI K t E hs) {n : Nat} (hn : n < 3) {q : Int} (hq : isK q = true) (h1 : 1 ≤ (E n).length) (h12 : hs.length < 12) : CI K t E (hs ++ [headF (offN E n) (E n).length (K n) q]) := by
 refine ⟨h.len, h.dr, h.st, h.inc, by rw [List.length_append]; simp only [List.length_cons, List.length_nil]; omega, fun g hg => ?_, fun m j hj => ?_⟩
 ·rcases List.mem_append.1 hg with hg | hg
  ·exact h.hd g hg
  ·rw [List.mem_singleton] at hg; exact ⟨n, (E n).length, q, hn, h1, Nat.le_refl _, hq, hg⟩
 ·rcases h.doc m j hj with hl | ⟨g, hg, e⟩
  ·exact .inl hl
  ·exact .inr ⟨g, List.mem_append_left _ hg, e⟩
def keyN (key : Int) (n : Nat) : Int := secF (IntKind.u64.wrap (key + IntKind.u64.wrap (n : Int)))
theorem keyN_isK (key : Int) (n : Nat) : isK (keyN key n) = true := sec_isK _
def whN (E : Nat → List Kb) (n : Nat) : List Int := (E n).map (·.Stamp.Lo)
def pubsN (key : Int) : List Int := [pubF (keyN key 0), pubF (keyN key 1), pubF (keyN key 2)]
def crsS (key : Int) (E : Nat → List Kb) (hs : List Kc) : Kt := ⟨offsN E, ⟨whN E 0, whN E 1, whN E 2⟩, hs, pubsN key, true⟩
def stA (key : Int) : Nat → Int × (List Kf) × (List Int) × Int × Int × Int
 | 0 => (0, [], [], 0, 0, 0)
 | 1 => (1, [⟨1, []⟩], [pubF (keyN key 0)], keyN key 0, 0, 0)
 | 2 => (2, [⟨1, []⟩, ⟨2, []⟩], [pubF (keyN key 0), pubF (keyN key 1)], keyN key 0, keyN key 1, 0)
 | _ => (3, [⟨1, []⟩, ⟨2, []⟩, ⟨3, []⟩], pubsN key, keyN key 0, keyN key 1, keyN key 2)
theorem sec_any {n : Int} (F : Nat) : Gn F (IntKind.u64.wrap n) = some (secF (IntKind.u64.wrap n)) := sec_eq (inKd_wu (wrap_u64_rng _).1 (wrap_u64_rng _).2) F
theorem stI_at {α : Type} {l : List α} {k : Nat} {x : α} (h : k < l.length) : stI l (k : Int) x = some (l.set k x) := by
 unfold stI; rw [if_pos (by omega)]
 simp
theorem offs_at (E : Nat → List Kb) {n : Nat} (hn : n < 3) : ixI (offsN E) (n : Int) = some (offN E n) := by
 rw [ixI_get (show n < (offsN E).length from hn)]
 match n, hn with
 | 0, _ => rfl
 | 1, _ => rfl
 | 2, _ => rfl
theorem offs_set (E : Nat → List Kb) (e : Kb) {n : Nat} (hn : n < 3) : stI (offsN E) (n : Int) ⟨(n : Int) + 1, E n ++ [e]⟩ = some (offsN (addE E n e)) := by
 rw [stI_at (show n < (offsN E).length from hn)]
 match n, hn with
 | 0, _ => rfl
 | 1, _ => rfl
 | 2, _ => rfl
theorem whN_at (E : Nat → List Kb) (n : Nat) (d t : Int) : whN (addE E n ⟨d, ⟨t, t⟩⟩) n = whN E n ++ [t] := by
 unfold whN; rw [addE_at, List.map_append]; rfl
theorem whN_ne (E : Nat → List Kb) {n m : Nat} (e : Kb) (h : m ≠ n) : whN (addE E n e) m = whN E m := by
 unfold whN; rw [addE_ne E e h]
theorem mod3 {w : Nat} (hw : w ≤ 65535) : Int.tmod (IntKind.i64.wrap (w : Int)) 3 = ((w % 3 : Nat) : Int) := modL (L := 3) hw
theorem ciApp {K : Nat → Int} {t : Nat} {E : Nat → List Kb} {hs : List Kc} (h : CI K t E hs) (ht : t ≤ 40) {n : Nat} (hn : n < 3) (d : Int) (hd : inKd .u64 d) (hdoc : (0 ≤ d ∧ d < 4294967296) ∨ ∃ g ∈ hs, d = digF g) {F : Nat} (hF : 64 ≤ F) :
  G1 F (offN E n) ⟨d, ⟨(t : Int), (t : Int)⟩⟩ = some (⟨(n : Int) + 1, E n ++ [⟨d, ⟨t, t⟩⟩]⟩, 0) := by
 have hl := h.len n; rw [app_p (show (offN E n).Entries.length ≤ 50 from by show (E n).length ≤ 50; omega) hF]; have hv := (h.add n d hd hdoc).vO (by omega) hn; unfold offN at hv; rw [addE_at] at hv; rcases app_cases (o := offN E n) (e := ⟨d, ⟨(t : Int), (t : Int)⟩⟩) (by show (E n).length ≤ 4000; omega) with ⟨_, e⟩ | ⟨e, _⟩
 ·rw [e]; rfl
 ·rw [show vO ⟨(offN E n).ID, (offN E n).Entries ++ [⟨d, ⟨(t : Int), (t : Int)⟩⟩]⟩ = true from hv] at e; cases e
theorem ciSgn {K : Nat → Int} {t : Nat} {E : Nat → List Kb} {hs : List Kc} (h : CI K t E hs) (ht : t ≤ 40) {n : Nat} (hn : n < 3) (hK : isK (K n) = true) {q : Int} (hq : isK q = true) (h1 : 1 ≤ (E n).length) {F : Nat} (hF : 64 ≤ F) :
  Ga F (offN E n) (((E n).length : Nat) : Int) (K n) q = some (headF (offN E n) (E n).length (K n) q, 0) := by
 have hl := h.len n; exact headF_one (h.rng (by omega) hn) (by show (E n).length ≤ 50; omega) (h.vO (by omega) hn) h1 (Nat.le_refl _) (both hK hq) hF
theorem bind_ex {α β : Type} {o : Option α} {k : α → Option β} {Q : α → Prop} {G : Option β → Prop} (h1 : ∃ r, o = some r ∧ Q r) (h2 : ∀ r, Q r → G (k r)) : G (Option.bind o k) := by
 obtain ⟨r, rfl, hq⟩ := h1; exact h2 r hq
theorem bind_as {α β γ : Type} (x : Option α) (f : α → Option β) (g : β → Option γ) : Option.bind (Option.bind x f) g = Option.bind x fun y => Option.bind (f y) g := by cases x <;> rfl
theorem course_eq {acts : List Kp} {key : Int} (ha : ∀ a ∈ acts, a.rng) (hl : acts.length ≤ 24) {F : Nat} (hF : 64 ≤ F) :
    ∃ E hs, Gap F acts key = some (crsS key E hs) ∧ CI (keyN key) acts.length E hs := by
  unfold Gap
  rw [show ((0, [], [], 0, 0, 0) : Int × (List Kf) × (List Int) × Int × Int × Int) = stA key 0 from rfl]
  rw [iter_seq (stA key) 3 ([⟨1, []⟩, ⟨2, []⟩, ⟨3, []⟩], pubsN key, keyN key 0, keyN key 1, keyN key 2) ?a1 ?a2 (by omega)]
  case a1 =>
    intro k hk
    match k, hk with
    | 0, _ =>
      simp only [stA, un6]
      rw [show decide ((0 : Int) < 3) = true from rfl, ifB_t, sec_any, ob_some, show ((0 : Int) == 0) = true from rfl, ifB_t, ob_some]
      simp only [un3]
      rw [apG_ok (by simp only [List.length_cons, List.length_nil]; omega), ob_some, ifB_t, pubF_eq (sec_isK _) hF, ob_some, apG_ok (by simp only [List.length_cons, List.length_nil]; omega), ob_some, ob_some]
      rfl
    | 1, _ =>
      simp only [stA, un6]
      rw [show decide ((1 : Int) < 3) = true from rfl, ifB_t, sec_any, ob_some, show ((1 : Int) == 0) = false from rfl, ifB_f, show ((1 : Int) == 1) = true from rfl, ifB_t, ob_some]
      simp only [un3]
      rw [apG_ok (by simp only [List.length_cons, List.length_nil]; omega), ob_some, ifB_f, ifB_t, pubF_eq (sec_isK _) hF, ob_some, apG_ok (by simp only [List.length_cons, List.length_nil]; omega), ob_some, ob_some]
      rfl
    | 2, _ =>
      simp only [stA, un6]
      rw [show decide ((2 : Int) < 3) = true from rfl, ifB_t, sec_any, ob_some, show ((2 : Int) == 0) = false from rfl, ifB_f, show ((2 : Int) == 1) = false from rfl, ifB_f, show ((2 : Int) == 2) = true from rfl, ifB_t, ob_some]
      simp only [un3]
      rw [apG_ok (by simp only [List.length_cons, List.length_nil]; omega), ob_some, ifB_f, ifB_f, ifB_t, pubF_eq (sec_isK _) hF, ob_some, apG_ok (by simp only [List.length_cons, List.length_nil]; omega), ob_some, ob_some]
      rfl
  case a2 =>
    simp only [stA, un6]
    rfl
  simp only [ob_some, un5]
  rw [bind_as]
  refine bind_ex (G := fun o => ∃ E hs, o = some (crsS key E hs) ∧ CI (keyN key) acts.length E hs) (iter_inv acts.length (fun t s => ∃ E hs, CI (keyN key) t E hs ∧ s = ((t : Int), offsN E, whN E 0, whN E 1, whN E 2, hs, true)) (fun r => ∃ E hs, CI (keyN key) acts.length E hs ∧ r = (offsN E, whN E 0, whN E 1, whN E 2, hs, true)) ?hk ?hn (by omega) _ ⟨fun _ => [], [], CI.start _, rfl⟩) ?hr
  case hr =>
    rintro _ ⟨E, hs, hc, rfl⟩
    exact ⟨E, hs, rfl, hc⟩
  case hn =>
    rintro _ ⟨E, hs, hc, rfl⟩
    refine ⟨_, ?_, E, hs, hc, rfl⟩
    simp only [un7]
    rw [ltn, ifB_f]
  case hk =>
    rintro t _ hT ⟨E, hs, hc, rfl⟩
    have hx := ha _ (List.getElem_mem hT)
    generalize hxx : acts[t] = x at hx
    obtain ⟨w, hw, hw'⟩ := inKd_nat8 hx.r_Who
    obtain ⟨d, hd, hd'⟩ := inKd_nat8 hx.r_Do
    obtain ⟨v, hv, hv'⟩ := inKd_nat8 hx.r_Which
    have hDoc := inKd_u32 hx.r_Doc
    have hn3 := Nat.mod_lt w (show 0 < 3 by decide)
    have hdo : Int.tmod (d : Int) 4 = ((d % 4 : Nat) : Int) := rfl
    have h12 := hc.hn
    have hlen := hc.len
    simp only [un7]
    rw [ltl hT, ifB_t, ixI_get hT, ob_some, hxx, hw, hd, hv, hdo, mod3 hw', w64_1 hT (by omega)]
    generalize w % 3 = n at hn3
    have same : ∃ s', some (Sum.inl ((t : Int) + 1, offsN E, whN E 0, whN E 1, whN E 2, hs, true) : (Int × (List Kf) × (List Int) × (List Int) × (List Int) × (List Kc) × Bool) ⊕ ((List Kf) × (List Int) × (List Int) × (List Int) × (List Kc) × Bool)) = some (.inl s') ∧ ∃ E hs, CI (keyN key) (t + 1) E hs ∧ s' = (((t + 1 : Nat) : Int), offsN E, whN E 0, whN E 1, whN E 2, hs, true) :=
      ⟨_, rfl, E, hs, hc.mono (Nat.le_succ t), by rw [show ((t + 1 : Nat) : Int) = (t : Int) + 1 by omega]⟩
    by_cases h1 : d % 4 = 1
    · rw [h1, show (((1 : Nat) : Int) == 1) = true from rfl, ifB_t, offs_at E hn3, ob_some]
      by_cases h0 : (E n).length = 0
      · rw [show ((((offN E n).Entries.length : Nat) : Int) == 0) = true from beq_iff_eq.2 (by show (((E n).length : Nat) : Int) = 0; omega)]
        exact same
      · rw [show ((((offN E n).Entries.length : Nat) : Int) == 0) = false from beq_eq_false_iff_ne.2 (by show (((E n).length : Nat) : Int) ≠ 0; omega), ifB_f, ob_some]
        by_cases h2 : hs.length = 12
        · rw [show ((hs.length : Int) == 12) = true from beq_iff_eq.2 (by omega)]
          exact same
        · rw [show ((hs.length : Int) == 12) = false from beq_eq_false_iff_ne.2 (by omega), ifB_f, ob_some, ob_some]
          have hq := sec_isK (IntKind.u64.wrap (key + IntKind.u64.wrap (IntKind.i64.wrap (100 + (t : Int)))))
          have hsg := ciSgn hc (by omega) hn3 (keyN_isK key n) hq (by omega) hF
          have nxt := hc.sign hn3 hq (by omega) (by omega)
          have fin : ∃ s', some (Sum.inl ((t : Int) + 1, offsN E, whN E 0, whN E 1, whN E 2, hs ++ [headF (offN E n) (E n).length (keyN key n) (secF (IntKind.u64.wrap (key + IntKind.u64.wrap (IntKind.i64.wrap (100 + (t : Int))))))], true) : (Int × (List Kf) × (List Int) × (List Int) × (List Int) × (List Kc) × Bool) ⊕ ((List Kf) × (List Int) × (List Int) × (List Int) × (List Kc) × Bool)) = some (.inl s') ∧ ∃ E hs, CI (keyN key) (t + 1) E hs ∧ s' = (((t + 1 : Nat) : Int), offsN E, whN E 0, whN E 1, whN E 2, hs, true) :=
            ⟨_, rfl, E, _, nxt.mono (Nat.le_succ t), by rw [show ((t + 1 : Nat) : Int) = (t : Int) + 1 by omega]⟩
          match n, hn3, hsg, fin with
          | 0, _, hsg, fin =>
            rw [show (((0 : Nat) : Int) == 0) = true from rfl, ifB_t, sec_any, ob_some, show Ga F (offN E 0) (((offN E 0).Entries.length : Nat) : Int) (keyN key 0) _ = _ from hsg, ob_some, un2_p, ob_some]
            simp only [un6, un2]
            rw [apG_ok (by simp only [List.length_cons, List.length_nil]; omega), ob_some, ifB_t]
            exact fin
          | 1, _, hsg, fin =>
            rw [show (((1 : Nat) : Int) == 0) = false from rfl, ifB_f, show (((1 : Nat) : Int) == 1) = true from rfl, ifB_t, sec_any, ob_some, show Ga F (offN E 1) (((offN E 1).Entries.length : Nat) : Int) (keyN key 1) _ = _ from hsg, ob_some, un2_p, ob_some]
            simp only [un6, un2]
            rw [apG_ok (by simp only [List.length_cons, List.length_nil]; omega), ob_some, ifB_t]
            exact fin
          | 2, _, hsg, fin =>
            rw [show (((2 : Nat) : Int) == 0) = false from rfl, ifB_f, show (((2 : Nat) : Int) == 1) = false from rfl, ifB_f, show (((2 : Nat) : Int) == 2) = true from rfl, ifB_t, sec_any, ob_some, show Ga F (offN E 2) (((offN E 2).Entries.length : Nat) : Int) (keyN key 2) _ = _ from hsg, ob_some, un2_p, ob_some]
            simp only [un6, un2]
            rw [apG_ok (by simp only [List.length_cons, List.length_nil]; omega), ob_some, ifB_t]
            exact fin
    · rw [show (((d % 4 : Nat) : Int) == 1) = false from beq_eq_false_iff_ne.2 (by omega), ifB_f]
      have hA : ∀ A : Option (Int ⊕ (List Kc × Bool)), A = (Option.bind (ifB (((d % 4 : Nat) : Int) == 2) (some true) (some (((d % 4 : Nat) : Int) == 3)) : Option Bool) (fun (v_462 : Bool) => ifB v_462 (ifB ((hs.length : Int) == 0) (some (.inr (hs, true))) (Option.bind (whenG (!((hs.length : Int) == 0)) ()) (fun _ => Option.bind (ixI hs (Int.tmod (IntKind.i64.wrap (v : Int)) (hs.length : Int))) (fun v_466 => Option.bind (Gd F v_466) (fun v_468 => some (.inl v_468)))))) (some (.inl (IntKind.u64.wrap x.Doc))))) →
          (∃ q, inKd .u64 q ∧ ((0 ≤ q ∧ q < 4294967296) ∨ ∃ g ∈ hs, q = digF g) ∧ A = some (.inl q)) ∨ A = some (.inr (hs, true)) := by
        rintro _ rfl
        have hb : (ifB (((d % 4 : Nat) : Int) == 2) (some true) (some (((d % 4 : Nat) : Int) == 3)) : Option Bool) = some ((((d % 4 : Nat) : Int) == 2) || (((d % 4 : Nat) : Int) == 3)) := by
          cases (((d % 4 : Nat) : Int) == 2) <;> rfl
        rw [hb, ob_some]
        cases ((((d % 4 : Nat) : Int) == 2) || (((d % 4 : Nat) : Int) == 3)) with
        | false =>
          refine .inl ⟨_, ?_, ?_, rfl⟩
          · exact inKd_wu (wrap_u64_rng _).1 (wrap_u64_rng _).2
          · rw [w64u_id (by omega) (by omega)]
            exact .inl ⟨by omega, by omega⟩
        | true =>
          by_cases h0 : hs.length = 0
          · rw [show ((hs.length : Int) == 0) = true from beq_iff_eq.2 (by omega)]
            exact .inr rfl
          · have hm := Nat.mod_lt v (show 0 < hs.length by omega)
            rw [show ((hs.length : Int) == 0) = false from beq_eq_false_iff_ne.2 (by omega), ifB_t, ifB_f, show (!false) = true from rfl, whenG_t rfl, ob_some, modL hv', ixI_get hm, ob_some]
            have hg : (hs[v % hs.length]'hm) ∈ hs := List.getElem_mem hm
            obtain ⟨m, q, k, g1, g2, g3, g4, g5⟩ := hc.hd _ hg
            have hr : (hs[v % hs.length]'hm).rng := by
              rw [g5]
              exact headF_rng (hc.rng (by omega) g1) (by have := hlen m; omega) (both (keyN_isK key m) g4)
            rw [dig_p hr hF, ob_some]
            exact .inl ⟨_, digF_rng _, .inr ⟨_, hg, rfl⟩, rfl⟩
      rcases hA _ rfl with ⟨q, h3, h4, e⟩ | e
      · rw [e, ob_some]
        simp only [Sum.elim_inl]
        rw [offs_at E hn3, ob_some, ciApp hc (by omega) hn3 q h3 h4 hF, ob_some, un2_p, ob_some]
        simp only [un3]
        rw [ifB_t, ob_some, show ((0 : Int) == 0) = true from rfl, ifB_t, offs_set E _ hn3]
        have nxt := hc.add n q h3 h4
        have fin : ∃ s', some (Sum.inl ((t : Int) + 1, offsN (addE E n ⟨q, ⟨t, t⟩⟩), whN (addE E n ⟨q, ⟨t, t⟩⟩) 0, whN (addE E n ⟨q, ⟨t, t⟩⟩) 1, whN (addE E n ⟨q, ⟨t, t⟩⟩) 2, hs, true) : (Int × (List Kf) × (List Int) × (List Int) × (List Int) × (List Kc) × Bool) ⊕ ((List Kf) × (List Int) × (List Int) × (List Int) × (List Kc) × Bool)) = some (.inl s') ∧ ∃ E hs, CI (keyN key) (t + 1) E hs ∧ s' = (((t + 1 : Nat) : Int), offsN E, whN E 0, whN E 1, whN E 2, hs, true) :=
          ⟨_, rfl, _, hs, nxt, by rw [show ((t + 1 : Nat) : Int) = (t : Int) + 1 by omega]⟩
        have hwl : ∀ m, (whN E m).length ≤ t := fun m => by unfold whN; rw [List.length_map]; exact hlen m
        match n, hn3, fin with
        | 0, _, fin =>
          have := hwl 0
          rw [whN_at, whN_ne E _ (show 1 ≠ 0 by decide), whN_ne E _ (show 2 ≠ 0 by decide)] at fin
          rw [show (((0 : Nat) : Int) == 0) = true from rfl, ifB_t, apG_ok (by simp only [List.length_cons, List.length_nil]; omega), ob_some]
          exact fin
        | 1, _, fin =>
          have := hwl 1
          rw [whN_at, whN_ne E _ (show 0 ≠ 1 by decide), whN_ne E _ (show 2 ≠ 1 by decide)] at fin
          rw [show (((1 : Nat) : Int) == 0) = false from rfl, ifB_f, show (((1 : Nat) : Int) == 1) = true from rfl, ifB_t, apG_ok (by simp only [List.length_cons, List.length_nil]; omega), ob_some]
          exact fin
        | 2, _, fin =>
          have := hwl 2
          rw [whN_at, whN_ne E _ (show 0 ≠ 2 by decide), whN_ne E _ (show 1 ≠ 2 by decide)] at fin
          rw [show (((2 : Nat) : Int) == 0) = false from rfl, ifB_f, show (((2 : Nat) : Int) == 1) = false from rfl, ifB_f, show (((2 : Nat) : Int) == 2) = true from rfl, ifB_t, apG_ok (by simp only [List.length_cons, List.length_nil]; omega), ob_some]
          exact fin
      · rw [e]
        exact same
theorem pubF_no (k : Int) : (pubF k == 0) = false := by
 have := (memB_spec (pubF_mem k)).1; exact beq_eq_false_iff_ne.2 (by omega)
def ownR (o : Kf) (h : Kc) (i : Nat) : Km := ⟨h, i, eAt o.Entries i, inclF (valsF o h.Size.toNat) i⟩
structure Own (o : Kf) (h : Kc) (i : Nat) : Prop where
 v : vO o = true
 f : fH h = true
 s : hasS o h = true
 l : o.Entries.length ≤ 4000
 i : (i : Int) < h.Size
structure Sgd (l : List Int) (h : Kc) : Prop where
 n : 1 ≤ h.Office ∧ h.Office ≤ (l.length : Int)
 p : pubB (kAt l (h.Office - 1).toNat) = true
 z : (kAt l (h.Office - 1).toNat == 0) = false
 r : rightS (kAt l (h.Office - 1).toNat) h = (true, 0)
theorem offK_N (E : Nat → List Kb) {n : Nat} (hn : n < 3) : offK (offsN E) ((n : Int) + 1) = offN E n ∧ offH (offsN E) ((n : Int) + 1) = true := by
 match n, hn with
 | 0, _ => exact ⟨rfl, rfl⟩
 | 1, _ => exact ⟨rfl, rfl⟩
 | 2, _ => exact ⟨rfl, rfl⟩
theorem offsN_mem {E : Nat → List Kb} {o : Kf} (h : o ∈ offsN E) : ∃ n, n < 3 ∧ o = offN E n := by
 simp only [offsN, List.mem_cons, List.not_mem_nil, or_false] at h; rcases h with rfl | rfl | rfl
 ·exact ⟨0, by decide, rfl⟩
 ·exact ⟨1, by decide, rfl⟩
 ·exact ⟨2, by decide, rfl⟩
theorem crs_few {K : Nat → Int} {t : Nat} {E : Nat → List Kb} {hs : List Kc} (h : CI K t E hs) (ht : t ≤ 24) : FewO (offsN E) :=
 ⟨by show 3 ≤ 6; decide, fun o ho => by obtain ⟨n, _, rfl⟩ := offsN_mem ho; have := h.len n; show (E n).length ≤ 50; omega, fun o ho => by obtain ⟨n, hn, rfl⟩ := offsN_mem ho; exact h.rng (by omega) hn⟩
theorem kAt_N (key : Int) {n : Nat} (hn : n < 3) : kAt (pubsN key) n = pubF (keyN key n) := by
 match n, hn with
 | 0, _ => rfl
 | 1, _ => rfl
 | 2, _ => rfl
structure HdC (key : Int) (E : Nat → List Kb) (h : Kc) (n : Nat) : Prop where
 lt : n < 3
 o : h.Office = (n : Int) + 1
 k : offK (offsN E) h.Office = offN E n
 r : h.rng
 ok : HdOk (offsN E) h
 s : Sgd (pubsN key) h
theorem crs_hd {key : Int} {t : Nat} {E : Nat → List Kb} {hs : List Kc} (hc : CI (keyN key) t E hs) (ht : t ≤ 24) {h : Kc} (hh : h ∈ hs) : ∃ n, HdC key E h n := by
 obtain ⟨n, m, q, h1, h2, h3, h4, h5⟩ := hc.hd h hh; have hl := hc.len n; have hv := hc.vO (by omega) h1; have hk := both (keyN_isK key n) h4; have ho : h.Office = (n : Int) + 1 := by rw [h5]; rfl
 obtain ⟨e1, e2⟩ := offK_N E h1; have hn : (h.Office - 1).toNat = n := by rw [ho]; omega
 refine ⟨n, h1, ho, by rw [ho]; exact e1, ?_, ⟨?_, ?_, ?_, ?_⟩, ⟨?_, ?_, ?_, ?_⟩⟩
 ·rw [h5]; exact headF_rng (hc.rng (by omega) h1) (by omega) hk
 ·rw [h5]; exact headF_fH hv h2 (by omega) hk
 ·rw [ho, e1]; exact hv
 ·rw [ho, e1, h5]; exact has_own h3
 ·rw [ho]; exact e2
 ·rw [ho]; exact ⟨by omega, by show (n : Int) + 1 ≤ ((3 : Nat) : Int); omega⟩
 ·rw [hn, kAt_N key h1]; exact pubF_pub (keyN_isK key n)
 ·rw [hn, kAt_N key h1]; exact pubF_no _
 ·rw [hn, kAt_N key h1, h5]; exact right_own hv h2 (by omega) hk
theorem whB_of {l : List Kf} {h : Kc} (q : HdOk l h) : whB l h = true := by
 unfold whB; rw [show (0 : Int) = ((0 : Nat) : Int) from rfl, provS_has q.v q.f q.s (by have := q.size; omega)]; rfl
theorem crs_err {key : Int} {t : Nat} {E : Nat → List Kb} {hs : List Kc} (hc : CI (keyN key) t E hs) (ht : t ≤ 24) {a b i k : Nat} (ha : a < 3) (hb : b < 3) (hi : i < (E a).length) (hk : k < (E b).length) :
  findS (offsN E) hs ((a : Int) + 1) i ((b : Int) + 1) k = match srchS (offsN E) hs ((a : Int) + 1) i ((b : Int) + 1) k with
   | some c => (prfS (offsN E) c ((a : Int) + 1) i ((b : Int) + 1) k, true, 0)
   | none => (zP, false, 0) := by
 have h12 := hc.hn; have h0 : arcS (offsN E) hs = (some (arcO (offsN E) hs), 0) := by
  unfold arcS; rw [decide_eq_true (p := hs.length ≤ 12) h12, show decide ((offsN E).length ≤ 4) = true from rfl, Bool.and_self, if_pos rfl, if_pos]; rw [Bool.and_eq_true]; constructor
  ·unfold offsN; rw [arcF, arcF, arcF, arcF, hc.vO (by omega) (by decide : 0 < 3), hc.vO (by omega) (by decide : 1 < 3), hc.vO (by omega) (by decide : 2 < 3)]; rfl
  ·exact List.all_eq_true.2 fun h hh => by obtain ⟨n, q⟩ := crs_hd hc ht hh; exact q.ok.f
 have he : ∀ (n : Nat) (q : Nat), n < 3 → q < (E n).length → entB (offsN E) ((n : Int) + 1) q = true := fun n q hn hq => by
  obtain ⟨e1, e2⟩ := offK_N E hn; unfold entB; rw [e1, e2, decide_eq_true (p := 0 ≤ (q : Int)) (by omega), decide_eq_true (p := (q : Int) < (((offN E n).Entries.length : Nat) : Int)) (by show (q : Int) < (((E n).length : Nat) : Int); omega)]; rfl
 have hw : hs.all (whB (offsN E)) = true := List.all_eq_true.2 fun h hh => by obtain ⟨n, q⟩ := crs_hd hc ht hh; exact whB_of q.ok
 unfold findS; rw [h0, he a i ha hi, he b k hb hk, hw]; rfl
theorem fdN_find {l : List Kb} {d : Int} : ∀ (m k : Nat), k + m ≤ l.length → fdN (fun j => (eAt l j).Doc == d) m k = (((l.drop k).take m).findIdx? fun e => e.Doc == d).map (· + k)
 | 0, k, _ => by simp [fdN]
 | m + 1, k, h => by
  have hk : k < l.length := by omega
  rw [fdN, List.drop_eq_getElem_cons hk, List.take_succ_cons, List.findIdx?_cons, show eAt l k = l[k] from Option.some.inj ((eAt_get hk).symm.trans (List.getElem?_eq_getElem hk)), fdN_find m (k + 1) (by omega)]; cases (l[k].Doc == d) with
  | true => simp
  | false =>
   simp only [Bool.false_eq_true, if_false]; cases ((l.drop (k + 1)).take m).findIdx? (fun e => e.Doc == d) with
   | none => rfl
   | some j => simp only [Option.map_some]; congr 1; omega
theorem fndS_at {l : List Kb} {n : Nat} {d : Int} (h : n ≤ l.length) : fndS l n d = (l.take n).findIdx? fun e => e.Doc == d := by
 unfold fndS; rw [fdN_find n 0 (by omega), List.drop_zero]
 simp
structure HopC (key : Int) (E : Nat → List Kb) (g h : Kc) (m x : Nat) : Prop where
 e : hopW (offsN E) (g, h) = ⟨g, extF (valsF (offK (offsN E) g.Office) g.Size.toNat) g.Size.toNat true, ownR (offN E m) h x⟩
 o : Own (offN E m) h x
 f : hopF (hopW (offsN E) (g, h)) = true
 b : hopB (pubsN key) g (hopW (offsN E) (g, h)) = true
structure ChC (key : Int) (E : Nat → List Kb) (src i : Nat) (c : Kj) : Prop where
 first : ∃ h0, c.heads.getD 0 zHd = h0 ∧ HdC key E h0 src ∧ Own (offN E src) h0 i ∧ ∃ n x, HdC key E (lastH c) n ∧ Own (offN E n) (lastH c) x ∧ c.at_ = (x : Int) ∧ endR (ownR (offN E src) h0 i) (hopsL (offsN E) c.heads) = ownR (offN E n) (lastH c) x ∧ hopsB (pubsN key) h0 (hopsL (offsN E) c.heads) = true ∧ (hopsL (offsN E) c.heads).all hopF = true
def pickS (E : Nat → List Kb) (one two : Nat) : Int × Int × Int × Int × Bool :=
 if (E (one % 3)).length = 0 ∨ (E (two % 3)).length = 0 then (0, 0, 0, 0, false) else (((one % 3 : Nat) : Int), ((one / 3 % (E (one % 3)).length : Nat) : Int), ((two % 3 : Nat) : Int), ((two / 3 % (E (two % 3)).length : Nat) : Int), true)
theorem pick_eq {key : Int} {E : Nat → List Kb} {hs : List Kc} {one two : Nat} (h1 : one ≤ 65535) (h2 : two ≤ 65535) (F : Nat) : Gaq F (crsS key E hs) one two = some (pickS E one two) := by
 unfold Gaq pickS; have a3 := Nat.mod_lt one (show 0 < 3 by decide); have b3 := Nat.mod_lt two (show 0 < 3 by decide); have d1 : Int.tdiv (IntKind.i64.wrap (one : Int)) 3 = ((one / 3 : Nat) : Int) := by rw [w64_id (by omega) (by omega)]; rfl
 have d2 : Int.tdiv (IntKind.i64.wrap (two : Int)) 3 = ((two / 3 : Nat) : Int) := by rw [w64_id (by omega) (by omega)]; rfl
 rw [mod3 h1, mod3 h2, show (crsS key E hs).l = offsN E from rfl, offs_at E a3, offs_at E b3, ob_some, ob_some]
 by_cases e1 : (E (one % 3)).length = 0
 ·rw [if_pos (.inl e1), show ((((offN E (one % 3)).Entries.length : Nat) : Int) == 0) = true from beq_iff_eq.2 (by show (((E (one % 3)).length : Nat) : Int) = 0; omega)]; rfl
 ·rw [show ((((offN E (one % 3)).Entries.length : Nat) : Int) == 0) = false from beq_eq_false_iff_ne.2 (by show (((E (one % 3)).length : Nat) : Int) ≠ 0; omega), ifB_f]
  by_cases e2 : (E (two % 3)).length = 0
  ·rw [if_pos (.inr e2), show ((((offN E (two % 3)).Entries.length : Nat) : Int) == 0) = true from beq_iff_eq.2 (by show (((E (two % 3)).length : Nat) : Int) = 0; omega)]; rfl
  ·rw [if_neg (by rintro (h | h) <;> omega), show ((((offN E (two % 3)).Entries.length : Nat) : Int) == 0) = false from beq_eq_false_iff_ne.2 (by show (((E (two % 3)).length : Nat) : Int) ≠ 0; omega), ob_some]; simp only [un3, ifB_f]; rw [ob_some, show ((((offN E (one % 3)).Entries.length : Nat) : Int) == 0) = false from beq_eq_false_iff_ne.2 (by show (((E (one % 3)).length : Nat) : Int) ≠ 0; omega), show (!false) = true from rfl, whenG_t rfl, ob_some, offs_at E b3, ob_some]; rw [show ((((offN E (two % 3)).Entries.length : Nat) : Int) == 0) = false from beq_eq_false_iff_ne.2 (by show (((E (two % 3)).length : Nat) : Int) ≠ 0; omega), show (!false) = true from rfl, whenG_t rfl, ob_some, d1, d2, modL (by omega), modL (by omega)]; rfl
structure Fnd (key : Int) (E : Nat → List Kb) (hs : List Kc) (a i b k : Nat) (p : Kq) : Prop where
 x : ∃ c h0 n x, Lk (offsN E) hs ((a : Int) + 1) i c ∧ c.heads.length ≤ 4 ∧ p = ⟨ownR (offN E a) h0 i, hopsL (offsN E) c.heads, [], ownR (offN E b) (lastH c) k⟩ ∧ HdC key E h0 a ∧ Own (offN E a) h0 i ∧ HdC key E (lastH c) b ∧ n = b ∧ Own (offN E b) (lastH c) x ∧ Own (offN E b) (lastH c) k ∧ x < k ∧ c.at_ = (x : Int) ∧ endR (ownR (offN E a) h0 i) (hopsL (offsN E) c.heads) = ownR (offN E b) (lastH c) x ∧ hopsB (pubsN key) h0 (hopsL (offsN E) c.heads) = true ∧ (hopsL (offsN E) c.heads).all hopF = true ∧ c.heads.getD 0 zHd = h0
section
variable {σ ρ α γ : Type}
end
theorem chain_time {key : Int} {t : Nat} {E : Nat → List Kb} {hs : List Kc} (hc : CI (keyN key) t E hs) (ht : t ≤ 24) (hD : ∀ g ∈ hs, ∀ h ∈ hs, digF g = digF h → g = h) (hB : ∀ h ∈ hs, 4294967296 ≤ digF h) {src i : Nat} {c : Kj} (lk : Lk (offsN E) hs ((src : Int) + 1) i c) :
  ∃ n x : Nat, (lastH c).Office = (n : Int) + 1 ∧ c.at_ = (x : Int) ∧ (x : Int) < (lastH c).Size ∧ (eAt (E src) i).Stamp.Lo ≤ (eAt (E n) x).Stamp.Lo := by
 induction lk with
 | one h hh h1 h2 => exact ⟨src, i, h1, rfl, h2, Int.le_refl _⟩
 | more c h x lk hh ha hx ih =>
  obtain ⟨n, y, e1, e2, e3, e4⟩ := ih; obtain ⟨m, q⟩ := crs_hd hc ht hh; have hpos := lk.pos; have hmem := lk.mem _ (lastH_mem hpos); have hl : lastH ⟨c.heads ++ [h], (x : Int)⟩ = h := lastH_snoc _ _ _; have sh := q.ok.size; rw [q.k] at sh; have hx' : fndS (offN E m).Entries h.Size.toNat (digF (lastH c)) = some x := by
   rw [fndS_at (by omega)]; unfold atS at hx
   rwa [q.k] at hx
  have hxl := fndS_lt hx'; have hxE : x < (E m).length := by have : (offN E m).Entries.length = (E m).length := rfl; omega
  refine ⟨m, x, by rw [hl]; exact q.o, rfl, by rw [hl]; omega, ?_⟩; rcases hc.doc m x hxE with hlow | ⟨g, hg, g1, g2⟩
  ·have := hB _ hmem; have h3 : (eAt (E m) x).Doc = digF (lastH c) := hxl.2; omega
  ·have h3 : (eAt (E m) x).Doc = digF (lastH c) := hxl.2; have hgl := hD g hg _ hmem (by rw [← g1, h3]); subst hgl; have := g2 y e3; rw [e1, show ((n : Int) + 1 - 1).toNat = n by omega] at this; omega
def digOk (hs : List Kc) : Prop := ∀ p (hp : p < hs.length), 4294967296 ≤ digF hs[p] ∧ ∀ q (hq : q < p), hs[q] = hs[p] ∨ digF hs[q] ≠ digF hs[p]
theorem digOk_inj {hs : List Kc} (h : digOk hs) : (∀ g ∈ hs, ∀ k ∈ hs, digF g = digF k → g = k) ∧ ∀ g ∈ hs, 4294967296 ≤ digF g := by
 refine ⟨fun g hg k hk e => ?_, fun g hg => ?_⟩
 ·obtain ⟨a, ha, rfl⟩ := List.getElem_of_mem hg; obtain ⟨b, hb, rfl⟩ := List.getElem_of_mem hk; rcases Nat.lt_trichotomy a b with h1 | h1 | h1
  ·rcases (h b hb).2 a h1 with h2 | h2
   ·exact h2
   ·exact absurd e h2
  ·subst h1; rfl
  ·rcases (h a ha).2 b h1 with h2 | h2
   ·exact h2.symm
   ·exact absurd e.symm h2
 ·obtain ⟨a, ha, rfl⟩ := List.getElem_of_mem hg; exact (h a ha).1
def digP (hs : List Kc) (k : Nat) (h : Kc) : Bool := ((hs.take k).findIdx? fun x => !decide (x = h) && (digF x == digF h)).isNone && decide (4294967296 ≤ digF h)
theorem digP_ok {hs : List Kc} (h : frL (digP hs) hs 0 = true) : digOk hs := fun p hp => by
 have h1 := frL_iff.1 h p hp; rw [Nat.zero_add] at h1; unfold digP at h1; rw [Bool.and_eq_true, decide_eq_true_eq, Option.isNone_iff_eq_none, List.findIdx?_eq_none_iff] at h1; refine ⟨h1.2, fun q hq => ?_⟩; have h2 := h1.1 (hs[q]'(by omega)) (List.mem_take_iff_getElem.2 ⟨q, by omega, rfl⟩)
 by_cases e : hs[q]'(by omega) = hs[p]
 ·exact .inl e
 ·rw [decide_eq_false e] at h2; exact .inr (by simpa using h2)
theorem dig_loop {hs : List Kc} (hl : hs.length ≤ 12) (hr : ∀ h ∈ hs, h.rng) {F : Nat} (hF : 64 ≤ F) : iter (σ := Int) (ρ := Unit ⊕ Unit) (fun (v_102 : Int) => 
              (ifB (decide (v_102 < (hs.length : Int)))
                (Option.bind (ixI hs v_102) (fun v_105 =>
                Option.bind (Gq F v_105) (fun v_109 =>
                Option.bind (Option.bind (slI hs 0 v_102) (fun v_110 =>
                  Option.bind (iter (σ := Int) (ρ := Unit ⊕ Unit) (fun (v_132 : Int) => 
                      (ifB (decide (v_132 < (v_110.length : Int)))
                        (Option.bind (ixI v_110 v_132) (fun v_135 =>
                        Option.bind (ifB (decide (v_135 = v_105))
                            (some false)
                            (Option.bind (Gq F v_135) (fun v_140 =>
                            some (v_140 == v_109))) : Option (Bool)) (fun (v_142 : Bool) => 
                          ifB (v_142)
                            (some (.inr (.inr ())))
                            (some (.inl (IntKind.i64.wrap (v_132 + 1)))))))
                        (some (.inr (.inl ()))) : Option (Int ⊕ (Unit ⊕ Unit)))) F 0) (Sum.elim (fun (_ : Unit) => 
                    some (.inl ())) (fun (_ : Unit) => 
                    some (.inr ())))) : Option (Unit ⊕ Unit)) (Sum.elim (fun (_ : Unit) => 
                  ifB (decide (v_109 < 4294967296))
                    (some (.inr (.inr ())))
                    (some (.inl (IntKind.i64.wrap (v_102 + 1))))) (fun (_ : Unit) => 
                  some (.inr (.inr ())))))))
                (some (.inr (.inl ()))) : Option (Int ⊕ (Unit ⊕ Unit)))) F 0 = some (if frL (digP hs) hs 0 = true then .inl () else .inr ()) := by
  have hlt : hs.length < F := by omega
  refine iter_chkU (ρ := Unit ⊕ Unit) hs (digP hs) (Sum.inl ()) (Sum.inr ()) ?_ (fun k h => ?_) hlt
  · simp only [ltn, ifB_f]
  · have hk := hr _ (List.getElem_mem h)
    simp only [ltl h, ifB_t, ixI_get h, ob_some, w64_1 h (by omega)]
    rw [dig_r hk hF, ob_some, show (0 : Int) = ((0 : Nat) : Int) from rfl, slI_ok (Nat.zero_le _) (Nat.le_of_lt h), List.drop_zero, ob_some]
    have htl : (hs.take k).length ≤ 12 := by rw [List.length_take]; omega
    rw [show ((0 : Nat) : Int) = 0 from rfl, iter_fdL (ρ := Unit ⊕ Unit) (hs.take k) (fun x => !decide (x = hs[k]) && (digF x == digF hs[k])) (Sum.inl ()) (fun _ => Sum.inr ()) ?in1 ?in2 (by omega)]
    case in1 => simp only [ltn, ifB_f]
    case in2 =>
      intro j hj
      have hj' := hr _ (List.mem_of_mem_take (List.getElem_mem hj))
      simp only [ltl hj, ifB_t, ixI_get hj, ob_some, w64_1 hj (by omega)]
      rw [dig_r hj' hF, ob_some]
      cases decide ((hs.take k)[j] = hs[k]) <;> cases (digF (hs.take k)[j] == digF hs[k]) <;> rfl
    unfold digP
    rw [dnot (p := digF hs[k] < 4294967296) (q := 4294967296 ≤ digF hs[k]) (by omega)]
    cases (hs.take k).findIdx? (fun x => !decide (x = hs[k]) && (digF x == digF hs[k])) with
    | some j => rfl
    | none => cases decide (4294967296 ≤ digF hs[k]) <;> rfl
theorem wh_at {E : Nat → List Kb} {n i : Nat} (h : i < (E n).length) : ixI (whN E n) (i : Int) = some (eAt (E n) i).Stamp.Lo := by
 unfold whN; rw [ixI_nat, List.getElem?_map, eAt_get h]; rfl
theorem found_time {key : Int} {t : Nat} {E : Nat → List Kb} {hs : List Kc} (hc : CI (keyN key) t E hs) (ht : t ≤ 24) (hD : digOk hs) {a b i k : Nat} (hb : b < 3) (hk : k < (E b).length) {c : Kj} (h : srchS (offsN E) hs ((a : Int) + 1) i ((b : Int) + 1) k = some c) : (eAt (E a) i).Stamp.Lo < (eAt (E b) k).Stamp.Lo := by
 obtain ⟨lk, hf, _⟩ := srch_lk h; obtain ⟨h1, h2⟩ := digOk_inj hD; obtain ⟨n, x, e1, e2, e3, e4⟩ := chain_time hc ht h1 h2 lk; unfold finB at hf; simp only [Bool.and_eq_true, beq_iff_eq, decide_eq_true_eq] at hf; have hn : n = b := by omega
 subst hn; have := hc.inc n x k (by have := hf.2.2; omega) hk; omega
theorem law27_time {acts : List Kp} {key one two : Int} (ha : ∀ a ∈ acts, a.rng) (h1 : inKd .u16 one) (h2 : inKd .u16 two) : Gaw 30000 acts key one two = some true := by
 have hF : 64 ≤ 30000 := by decide
 unfold Gaw; rw [head27 (by decide), ob_some]
 by_cases hl : acts.length ≤ 24
 case neg => rw [decide_eq_true (p := (acts.length : Int) > 24) (by omega)]; rfl
 rw [decide_eq_false (p := (acts.length : Int) > 24) (by omega), ifB_f]; obtain ⟨E, hs, he, hc⟩ := course_eq (key := key) ha hl hF; obtain ⟨u, rfl, hu⟩ := inKd_nat16 h1; obtain ⟨v, rfl, hv⟩ := inKd_nat16 h2; rw [he, ob_some, pick_eq hu hv, ob_some]; unfold pickS
 by_cases hz : (E (u % 3)).length = 0 ∨ (E (v % 3)).length = 0
 ·rw [if_pos hz]; rfl
 rw [if_neg hz]; have a3 := Nat.mod_lt u (show 0 < 3 by decide); have b3 := Nat.mod_lt v (show 0 < 3 by decide); have hi := Nat.mod_lt (u / 3) (show 0 < (E (u % 3)).length by omega); have hk := Nat.mod_lt (v / 3) (show 0 < (E (v % 3)).length by omega); generalize u / 3 % (E (u % 3)).length = i at *; generalize v / 3 % (E (v % 3)).length = k at *; generalize u % 3 = a at *; generalize v % 3 = b at *; simp only [un5]; rw [show (crsS key E hs).ok_ = true from rfl, ifB_t, ob_some, show (!true) = false from rfl, ifB_f, w64_id (n := (a : Int) + 1) (by omega) (by omega), w64_id (n := (b : Int) + 1) (by omega) (by omega), show (crsS key E hs).l = offsN E from rfl, show (crsS key E hs).heads = hs from rfl]; have hg : ∀ h ∈ hs, h.rng := fun h hh => by obtain ⟨n, q⟩ := crs_hd hc hl hh; exact q.r
 have hfew := crs_few hc hl; rw [dig_loop hc.hn hg hF, ob_some]; cases hd : frL (digP hs) hs 0 with
 | false => rfl
 | true =>
 have hD := digP_ok hd; simp only [if_true, Sum.elim_inl, ob_some]; rw [find_p hfew hg (by decide), ob_some, un3_p, find_p hfew hg (by decide), ob_some, un3_p]; have f1 := crs_err hc hl a3 b3 hi hk; have f2 := crs_err hc hl b3 a3 hk hi; have w0 : (crsS key E hs).when.f0 = whN E 0 := rfl; have w1 : (crsS key E hs).when.f1 = whN E 1 := rfl; have w2 : (crsS key E hs).when.f2 = whN E 2 := rfl; rw [w0, w1, w2]; cases g1 : srchS (offsN E) hs ((a : Int) + 1) i ((b : Int) + 1) k with
 | none =>
  rw [g1] at f1; rw [show findS (offsN E) hs ((a : Int) + 1) i ((b : Int) + 1) k = (zP, false, 0) from f1]; cases g2 : srchS (offsN E) hs ((b : Int) + 1) k ((a : Int) + 1) i with
  | none =>
   rw [g2] at f2; rw [show findS (offsN E) hs ((b : Int) + 1) k ((a : Int) + 1) i = (zP, false, 0) from f2]; rfl
  | some c2 =>
   have t2 := found_time hc hl hD a3 hi g2; rw [g2] at f2; rw [show findS (offsN E) hs ((b : Int) + 1) k ((a : Int) + 1) i = (prfS (offsN E) c2 ((b : Int) + 1) k ((a : Int) + 1) i, true, 0) from f2]
   match a, b, a3, b3, hi, hk, t2 with
   | 0, 0, _, _, hi, hk, t2 => simp [ifB, ob_some, wh_at hi, wh_at hk, t2]
   | 0, 1, _, _, hi, hk, t2 => simp [ifB, ob_some, wh_at hi, wh_at hk, t2]
   | 0, 2, _, _, hi, hk, t2 => simp [ifB, ob_some, wh_at hi, wh_at hk, t2]
   | 1, 0, _, _, hi, hk, t2 => simp [ifB, ob_some, wh_at hi, wh_at hk, t2]
   | 1, 1, _, _, hi, hk, t2 => simp [ifB, ob_some, wh_at hi, wh_at hk, t2]
   | 1, 2, _, _, hi, hk, t2 => simp [ifB, ob_some, wh_at hi, wh_at hk, t2]
   | 2, 0, _, _, hi, hk, t2 => simp [ifB, ob_some, wh_at hi, wh_at hk, t2]
   | 2, 1, _, _, hi, hk, t2 => simp [ifB, ob_some, wh_at hi, wh_at hk, t2]
   | 2, 2, _, _, hi, hk, t2 => simp [ifB, ob_some, wh_at hi, wh_at hk, t2]
 | some c1 =>
  have t1 := found_time hc hl hD b3 hk g1; rw [g1] at f1; rw [show findS (offsN E) hs ((a : Int) + 1) i ((b : Int) + 1) k = (prfS (offsN E) c1 ((a : Int) + 1) i ((b : Int) + 1) k, true, 0) from f1]; cases g2 : srchS (offsN E) hs ((b : Int) + 1) k ((a : Int) + 1) i with
  | some c2 =>
   have t2 := found_time hc hl hD a3 hi g2; omega
  | none =>
   rw [g2] at f2; rw [show findS (offsN E) hs ((b : Int) + 1) k ((a : Int) + 1) i = (zP, false, 0) from f2]
   match a, b, a3, b3, hi, hk, t1 with
   | 0, 0, _, _, hi, hk, t1 => simp [ifB, ob_some, wh_at hi, wh_at hk, t1]
   | 0, 1, _, _, hi, hk, t1 => simp [ifB, ob_some, wh_at hi, wh_at hk, t1]
   | 0, 2, _, _, hi, hk, t1 => simp [ifB, ob_some, wh_at hi, wh_at hk, t1]
   | 1, 0, _, _, hi, hk, t1 => simp [ifB, ob_some, wh_at hi, wh_at hk, t1]
   | 1, 1, _, _, hi, hk, t1 => simp [ifB, ob_some, wh_at hi, wh_at hk, t1]
   | 1, 2, _, _, hi, hk, t1 => simp [ifB, ob_some, wh_at hi, wh_at hk, t1]
   | 2, 0, _, _, hi, hk, t1 => simp [ifB, ob_some, wh_at hi, wh_at hk, t1]
   | 2, 1, _, _, hi, hk, t1 => simp [ifB, ob_some, wh_at hi, wh_at hk, t1]
   | 2, 2, _, _, hi, hk, t1 => simp [ifB, ob_some, wh_at hi, wh_at hk, t1]
end Go.Proofs.YtggaodokkcoagaaGreatDoor
namespace Go.Proofs.YtggaodokkcoagaaGreatDoor
open Go.RowKit
theorem tb_of {W : World} {L : List (String × DataW Unit)} (h : laidMet Tryz.prog L W) (hm : ("internal/strconv.uint64pow10", Rows.laid_internal_strconv_uint64pow10) ∈ L) : Tb W := by
 refine Lib.tabBelow_of_tabIs ?_; obtain ⟨g, t, cs, fuel, p, hg, ht, hvar, hd⟩ := Lib.laidMet.reads h hm; have h1 : (Tryz.prog.globalNamed "internal/strconv.uint64pow10").bind (fun g => (Tryz.prog.globals[g]?).map (·.type)) = some 209 := by kernel_rfl
 rw [hg] at h1; obtain rfl : t = 209 := Option.some.inj (ht.symm.trans h1); unfold Lib.TabIs; rw [hvar, ← Lib.cells_of_tab (k := .u64) (zs := Lib.pow10Tab) Tryz.underlying209 Tryz.underlying23 (by kernel_rfl) (by kernel_rfl) hd]
end Go.Proofs.YtggaodokkcoagaaGreatDoor
