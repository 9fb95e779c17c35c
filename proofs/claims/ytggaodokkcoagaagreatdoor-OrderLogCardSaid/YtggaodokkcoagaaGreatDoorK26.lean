/-
  Texts joined: Pd27, Pi27, Pl27, TbL.
-/
import Derived.Test.YtggaodokkcoagaaGreatDoorRows
import Derived.Lib.LaidU8
import Derived.Test.YtggaodokkcoagaaGreatDoorK20
import Derived.Test.YtggaodokkcoagaaGreatDoorK25
set_option linter.unusedSimpArgs false
set_option linter.unusedVariables false
namespace Go.Proofs.YtggaodokkcoagaaGreatDoor
inductive Lk (l : List KOffice) (heads : List KHead) (src i : Int) : Korder_chain → Prop
 | one (h : KHead) : h ∈ heads → h.Office = src → h.Size > i → Lk l heads src i ⟨[h], i⟩
 | more (c : Korder_chain) (h : KHead) (x : Nat) : Lk l heads src i c → h ∈ heads → c.heads.any (fun g => g.Office == h.Office) = false → atS l h (digF (lastH c)) = some x → Lk l heads src i ⟨c.heads ++ [h], x⟩
theorem Lk.pos {l : List KOffice} {heads : List KHead} {src i : Int} {c : Korder_chain} (h : Lk l heads src i c) : 0 < c.heads.length := by
 cases h <;> simp
theorem Lk.mem {l : List KOffice} {heads : List KHead} {src i : Int} {c : Korder_chain} (h : Lk l heads src i c) : ∀ g ∈ c.heads, g ∈ heads := by
 induction h with
 | one h hh _ _ => intro g hg; rw [List.mem_singleton] at hg; rw [hg]; exact hh
 | more c h x _ hh _ _ ih =>
  intro g hg; rcases List.mem_append.1 hg with hg | hg
  ·exact ih g hg
  ·rw [List.mem_singleton] at hg; rw [hg]; exact hh
theorem lev0_lk {l : List KOffice} {heads : List KHead} {src i : Int} {c : Korder_chain} (hc : c ∈ lev0 heads src i) : Lk l heads src i c := by
 obtain ⟨_, h, hh, rfl, h1, h2⟩ := lev0_ok hc; exact .one h hh h1 h2
theorem long_lk {l : List KOffice} {heads : List KHead} {src i : Int} {c d : Korder_chain} (h : Lk l heads src i c) (hd : d ∈ longS l heads c) : Lk l heads src i d := by
 unfold longS at hd; rw [List.mem_filterMap] at hd; obtain ⟨g, hg, e⟩ := hd; obtain ⟨e1, x, e2, rfl⟩ := next_spec e; exact .more c g x h hg e1 e2
theorem goS_lk {l : List KOffice} {heads : List KHead} {src i dst k : Int} {c : Korder_chain} : ∀ (n m : Nat) (lv : List Korder_chain), (∀ c ∈ lv, Lk l heads src i c ∧ c.heads.length = m) → goS l heads dst k n lv = some c → Lk l heads src i c ∧ finB dst k c = true ∧ m ≤ c.heads.length ∧ c.heads.length < m + n
 | 0, _, _, _, e => by cases e
 | n + 1, m, lv, hlv, e => by
  rw [goS] at e; cases hf : lv.find? (finB dst k) with
  | some d =>
   rw [hf] at e; cases e; have := hlv _ (List.mem_of_find?_eq_some hf); exact ⟨this.1, List.find?_some hf, by omega, by omega⟩
  | none =>
   rw [hf] at e; have := goS_lk (src := src) (i := i) n (m + 1) _ (fun d hd => ?_) e
   ·exact ⟨this.1, this.2.1, by omega, by omega⟩
   ·obtain ⟨b, hb, hd⟩ := List.mem_flatMap.1 hd; refine ⟨long_lk (hlv b hb).1 hd, ?_⟩; unfold longS at hd; rw [List.mem_filterMap] at hd; obtain ⟨g, hg, e⟩ := hd; obtain ⟨e1, x, e2, rfl⟩ := next_spec e
    simp [(hlv b hb).2]
theorem srch_lk {l : List KOffice} {heads : List KHead} {src i dst k : Int} {c : Korder_chain} (h : srchS l heads src i dst k = some c) : Lk l heads src i c ∧ finB dst k c = true ∧ c.heads.length ≤ 4 := by
 have := goS_lk 4 1 _ (fun c hc => ⟨lev0_lk hc, (lev0_ok hc).1.n⟩) h; exact ⟨this.1, this.2.1, by omega⟩
def zP : KProof := ⟨zR, [], [], zR⟩
def hopW (l : List KOffice) (p : KHead × KHead) : KHop := (witS (offK l p.1.Office) p.1 p.1 (offK l p.2.Office) p.2).1
def hopsL (l : List KOffice) (hs : List KHead) : List KHop := (hs.zip (hs.drop 1)).map (hopW l)
def prfS (l : List KOffice) (c : Korder_chain) (src i dst k : Int) : KProof :=
 ⟨(provS (offK l src) (c.heads.getD 0 zHd) i).1, hopsL l c.heads, [], (provS (offK l dst) (lastH c) k).1⟩
def findS (l : List KOffice) (heads : List KHead) (src i dst k : Int) : KProof × Bool × Int :=
 if (arcS l heads).2 == 0 then
  (if entB l src i && entB l dst k then
   (if heads.all (whB l) then
    (match srchS l heads src i dst k with
    | some c => (prfS l c src i dst k, true, 0)
    | none => (zP, false, 0))
   else (zP, false, 33))
  else (zP, false, 1))
 else (zP, false, (arcS l heads).2)
theorem arcS_ok {l : List KOffice} {heads : List KHead} (h : ((arcS l heads).2 == 0) = true) : arcS l heads = (some (arcO l heads), 0) ∧ l.length ≤ 4 ∧ heads.length ≤ 12 ∧ arcF 0 l = true ∧ heads.all fH = true := by
 unfold arcS at h ⊢
 split at h
 ·rename_i h1
  rw [if_pos h1]
  split at h
  ·rename_i h2
   rw [if_pos h2]; simp only [Bool.and_eq_true, decide_eq_true_eq] at h1 h2; exact ⟨rfl, h1.1, h1.2, h2.1, h2.2⟩
  ·cases h
 ·cases h
theorem find_p {l : List KOffice} {heads : List KHead} {src i dst k : Int} (hl : FewO l) (hg : ∀ h ∈ heads, h.rng) {F : Nat} (hF : 21000 ≤ F) :
  G_order_Find F l heads src i dst k = some (findS l heads src i dst k) := by
 unfold G_order_Find findS; rw [arc_p hl hg (by omega), ob_some, un2_p]; cases h0 : ((arcS l heads).2 == 0) with
 | false => rfl
 | true =>
 obtain ⟨h1, h2, h3, h4, h5⟩ := arcS_ok h0; rw [h1]; simp only [ifB_t, ob_some, ent_p, if_true]; have e1 : (ifB (entB l src i) (some (!entB l dst k)) (some true) : Option Bool) = some (!(entB l src i && entB l dst k)) := by
  cases entB l src i <;> rfl
 rw [e1, ob_some]; cases (entB l src i && entB l dst k) with
 | false => rfl
 | true =>
 simp only [Bool.not_true, ifB_f, if_true]; rw [wh_p hl h3 (by omega), ob_some]; cases hw : heads.all (whB l) with
 | false => rfl
 | true =>
 have hr : ∀ h ∈ heads, HdOk l h := fun h hh => hdOk_of (List.all_eq_true.1 hw h hh)
 rw [ifB_t, srch_p hl h3 hr hg hF, ob_some]; cases hs : srchS l heads src i dst k with
 | none => rfl
 | some c =>
 obtain ⟨lk, _, hc4⟩ := srch_lk hs; have h0 := lk.pos; rw [outS, un2_p, ifB_t]; rw [show mpG (arcO l heads).offices src KOffice.z = offK l src from rfl]; rw [show ixI c.heads 0 = some (c.heads.getD 0 zHd) by
  rw [show (0 : Int) = ((0 : Nat) : Int) from rfl, ixI_get h0, List.getD_eq_getElem?_getD, List.getElem?_eq_getElem h0]; rfl]
 have hz : ∀ h ∈ c.heads, h.rng := fun h hh => hg h (lk.mem h hh)
 rw [ob_some, prove_p (hl.rng _) (hl.len _) (by omega), ob_some, un2_p, show mpG (arcO l heads).offices dst KOffice.z = offK l dst from rfl, last_p h0 (by omega), ob_some, prove_p (hl.rng _) (hl.len _) (by omega), ob_some, un2_p, ob_some]; rw [show slI c.heads 1 ((c.heads.length : Nat) : Int) = some (c.heads.drop 1) by
  rw [show (1 : Int) = ((1 : Nat) : Int) from rfl, slI_ok (by omega) (Nat.le_refl _), List.take_length], ob_some]
 have hzl : (c.heads.zip (c.heads.drop 1)).length = (c.heads.drop 1).length := by
  rw [List.length_zip, List.length_drop]; omega
 have hdl : (c.heads.drop 1).length ≤ 4 := by rw [List.length_drop]; omega
 rw [iter_fold (fun (b : List KHop) j => ((b, j) : List KHop × Int)) (c.heads.zip (c.heads.drop 1)) (fun b p => b ++ [hopW l p]) id (fun j b => b.length ≤ j) (fun b _ => ?_) (fun b j h hb => ⟨?_, ?_⟩) (by omega) [] (by simp), fold_snoc]
 ·rfl
 ·rw [hzl]; simp only [un2, ltn, ifB_f, id]
 ·have hj : j < (c.heads.drop 1).length := by omega
  have hj' : j < c.heads.length := by rw [List.length_drop] at hj; omega
  simp only [un2, ltl hj, ifB_t, ixI_get hj, ixI_get hj', ob_some, w64_1 hj (by omega)]; rw [show mpG (arcO l heads).offices c.heads[j].Office KOffice.z = offK l c.heads[j].Office from rfl, show mpG (arcO l heads).offices (c.heads.drop 1)[j].Office KOffice.z = offK l (c.heads.drop 1)[j].Office from rfl]; rw [wit_p (hl.rng _) (hl.rng _) (hl.len _) (hl.len _) (hz _ (List.getElem_mem hj')) (hz _ (List.getElem_mem hj')) (hz _ (List.mem_of_mem_drop (List.getElem_mem hj))) (by omega), ob_some, un2_p, ob_some]; simp only [un16]; rw [apG_ok (by simp only [List.length_cons, List.length_nil]; omega), ob_some]; rw [show (c.heads.zip (c.heads.drop 1))[j] = (c.heads[j], (c.heads.drop 1)[j]) from List.getElem_zip ..]; rfl
 ·simp only [List.length_append, List.length_cons, List.length_nil]; omega
end Go.Proofs.YtggaodokkcoagaaGreatDoor
namespace Go.Proofs.YtggaodokkcoagaaGreatDoor
theorem un3_p {a b c d : Type} (f : a → b → c → d) (p : a × b × c) : un3 f p = f p.1 p.2.1 p.2.2 := rfl
theorem sum_rng (l : List Int) : inKd .u64 (sumB l) := inKd_wu (sumB_rng l).1 (sumB_rng l).2
theorem digF_rng (h : KHead) : inKd .u64 (digF h) := sum_rng _
theorem zR_ok : ROk zR := ⟨⟨inKd_w (by decide) (by decide), inKd_w (by decide) (by decide), inKd_wu (by decide) (by decide), ⟨inKd_w (by decide) (by decide), inKd_w (by decide) (by decide)⟩⟩, ⟨inKd_wu (by decide) (by decide), ⟨inKd_w (by decide) (by decide), inKd_w (by decide) (by decide)⟩⟩⟩
theorem prov_rok {o : KOffice} (ho : o.rng) {h : KHead} (hh : h.rng) (i : Int) : ROk (provS o h i).1 := by
 unfold provS
 split
 ·rename_i h1
  split
  ·simp only [Bool.and_eq_true, decide_eq_true_eq] at h1; exact ⟨hh, eAt_rng ho (by omega)⟩
  ·exact zR_ok
 ·exact zR_ok
theorem fndS_lt {l : List KEntry} {n : Nat} {d : Int} {i : Nat} (h : fndS l n d = some i) : i < n ∧ (eAt l i).Doc = d := by
 have := fdN_some h; exact ⟨by omega, eq_of_beq this.2.1⟩
theorem wit_rok {a b : KOffice} (hb : b.rng) {f o h : KHead} (ho : o.rng) (hh : h.rng) : (witS a f o b h).1.Of.rng ∧ ROk (witS a f o b h).1.By := by
 have hz : zH.Of.rng ∧ ROk zH.By := ⟨zR_ok.h, zR_ok⟩; unfold witS
 split
 ·rename_i hc
  split
  ·rename_i h1
   split
   ·exact hz
   ·rename_i i e
    have hl := fndS_lt e; simp only [Bool.and_eq_true] at h1; have := (hasS_spec h1.2.2).2.1; exact ⟨ho, hh, eAt_rng hb (by omega)⟩
  ·exact hz
 ·exact hz
theorem prfS_ok {l : List KOffice} {heads : List KHead} {src i dst k : Int} {c : Korder_chain} (hl : FewO l) (hg : ∀ h ∈ heads, h.rng) (lk : Lk l heads src i c) : POk (prfS l c src i dst k) := by
 have hpos := lk.pos; have hz : ∀ h ∈ c.heads, h.rng := fun h hh => hg h (lk.mem h hh)
 refine ⟨prov_rok (hl.rng _) (hz _ ?_) _, prov_rok (hl.rng _) (hz _ (lastH_mem hpos)) _, fun x hx => ?_⟩
 ·rw [List.getD_eq_getElem?_getD, List.getElem?_eq_getElem hpos]; exact List.getElem_mem hpos
 ·obtain ⟨q, hq, rfl⟩ := List.mem_map.1 hx; obtain ⟨q1, q2⟩ := q; have h1 := (List.of_mem_zip hq).1; have h2 := List.mem_of_mem_drop (List.of_mem_zip hq).2; exact wit_rok (hl.rng _) (hz _ h1) (hz _ h2)
theorem find_ok {l : List KOffice} {heads : List KHead} {src i dst k : Int} (hl : FewO l) (hg : ∀ h ∈ heads, h.rng) : POk (findS l heads src i dst k).1 ∧ (findS l heads src i dst k).1.Hops.length ≤ 3 := by
 have hz : POk zP ∧ zP.Hops.length ≤ 3 := ⟨⟨zR_ok, zR_ok, fun x hx => absurd hx List.not_mem_nil⟩, Nat.zero_le _⟩; unfold findS
 split
 ·split
  ·split
   ·cases hs : srchS l heads src i dst k with
    | none => exact hz
    | some c =>
     obtain ⟨lk, _, h4⟩ := srch_lk hs; refine ⟨prfS_ok hl hg lk, ?_⟩
     show (hopsL l c.heads).length ≤ 3
     unfold hopsL; rw [List.length_map, List.length_zip, List.length_drop]; omega
   ·exact hz
  ·exact hz
 ·exact hz
theorem headF_one {o : KOffice} (hr : o.rng) (hl : o.Entries.length ≤ 50) {n : Nat} {k m : Int} (hv : vO o = true) (h1 : 1 ≤ n) (h2 : n ≤ o.Entries.length) (h : (isK k && isK m) = true) {F : Nat} (hF : 64 ≤ F) : G_office_Sign F o n k m = some (headF o n k m, 0) := by
 rw [sign_p hr hl hF, sign_ok hv h1 h2 h]
def oneO : KOffice := ⟨1, [⟨77, ⟨0, 0⟩⟩]⟩
def twoO (d : Int) : KOffice := ⟨2, [⟨d, ⟨0, 0⟩⟩, ⟨88, ⟨0, 0⟩⟩]⟩
theorem i_rng : KInterval.rng ⟨0, 0⟩ := ⟨inKd_w (by decide) (by decide), inKd_w (by decide) (by decide)⟩
theorem e_rng {d : Int} (h : inKd .u64 d) : KEntry.rng ⟨d, ⟨0, 0⟩⟩ := ⟨h, i_rng⟩
theorem one_rng : oneO.rng := ⟨inKd_w (by decide) (by decide), fun y hy => by
 rw [show oneO.Entries = [⟨77, ⟨0, 0⟩⟩] from rfl, List.mem_singleton] at hy; subst hy; exact e_rng (inKd_wu (by decide) (by decide))⟩
theorem two_rng {d : Int} (h : inKd .u64 d) : (twoO d).rng := ⟨show inKd .i64 2 from inKd_w (by decide) (by decide), fun y hy => by
 rw [show (twoO d).Entries = [⟨d, ⟨0, 0⟩⟩, ⟨88, ⟨0, 0⟩⟩] from rfl, List.mem_cons, List.mem_singleton] at hy; rcases hy with rfl | rfl
 ·exact e_rng h
 ·exact e_rng (inKd_wu (by decide) (by decide))⟩
theorem two_any : ∃ (L : List KOffice) (H : List KHead) (P : List Int), (∀ F, 64 ≤ F → G_regulatorlaw27_two F = some (L, H, P)) ∧ FewO L ∧ (∀ h ∈ H, h.rng) ∧ P.length ≤ 40 := by
 have hA : (headF oneO 1 5 6).rng := headF_rng one_rng (by decide) (by decide); have hB : (headF (twoO (digF (headF oneO 1 5 6))) 2 7 8).rng := headF_rng (two_rng (digF_rng _)) (by decide) (by decide); refine ⟨[oneO, twoO (digF (headF oneO 1 5 6))], [headF oneO 1 5 6, headF (twoO (digF (headF oneO 1 5 6))) 2 7 8], [pubF 5, pubF 7], fun F hF => ?_, ⟨by decide, fun o ho => ?_, fun o ho => ?_⟩, fun h hh => ?_, by decide⟩
 ·unfold G_regulatorlaw27_two; have h1 := headF_one (o := oneO) (n := 1) (k := 5) (m := 6) one_rng (by decide) (by decide) (by decide) (by decide) (by decide) hF; have h2 := headF_one (o := twoO (digF (headF oneO 1 5 6))) (n := 2) (k := 7) (m := 8) (two_rng (digF_rng _)) (by show 2 ≤ 50; decide) (by show vO ⟨2, [⟨_, ⟨0, 0⟩⟩, ⟨88, ⟨0, 0⟩⟩]⟩ = true; rfl) (by decide) (by show 2 ≤ 2; decide) (by decide) hF; unfold oneO at h1; rw [show G_office_Sign F (⟨1, ([(⟨77, (⟨0, 0⟩ : KInterval)⟩ : KEntry)] : List KEntry)⟩ : KOffice) 1 5 6 = some (headF oneO 1 5 6, 0) from h1, ob_some, un2_p, dig_p hA hF, ob_some]; rw [show G_office_Sign F (⟨2, ([(⟨digF (headF oneO 1 5 6), (⟨0, 0⟩ : KInterval)⟩ : KEntry), (⟨88, (⟨0, 0⟩ : KInterval)⟩ : KEntry)] : List KEntry)⟩ : KOffice) 2 7 8 = some (headF (twoO (digF (headF oneO 1 5 6))) 2 7 8, 0) from h2, ob_some, un2_p]; rw [pubF_eq (k := 5) (by decide) hF, pubF_eq (k := 7) (by decide) hF]; simp only [ob_some]; rfl
 ·rw [List.mem_cons, List.mem_singleton] at ho; rcases ho with rfl | rfl
  ·decide
  ·show 2 ≤ 50; decide
 ·rw [List.mem_cons, List.mem_singleton] at ho; rcases ho with rfl | rfl
  ·exact one_rng
  ·exact two_rng (digF_rng _)
 ·rw [List.mem_cons, List.mem_singleton] at hh; rcases hh with rfl | rfl
  ·exact hA
  ·exact hB
theorem head27_c : G_regulatorlaw27_head 30000 = some true := by kernel_rfl
theorem head27 {F : Nat} (hF : 21000 ≤ F) : G_regulatorlaw27_head F = some true := by
 rw [← head27_c]; obtain ⟨L, H, P, h2, hL, hH, hP⟩ := two_any; have hf : ∀ F, 21000 ≤ F → ∀ src i dst k, G_order_Find F L H src i dst k = some (findS L H src i dst k) := fun F hF src i dst k => find_p hL hH hF
 have hc : ∀ F, 21000 ≤ F → ∀ src i dst k, G_order_Check F P (findS L H src i dst k).1 = some (ordS P (findS L H src i dst k).1) := fun F hF src i dst k => ord_p hP (find_ok hL hH).1 (by have := (find_ok (src := src) (i := i) (dst := dst) (k := k) hL hH).2; omega) (by omega)
 have ho : ∀ F, 21000 ≤ F → ∀ src i dst k, G_order_Offices F (findS L H src i dst k).1 = some (offsF (findS L H src i dst k).1) := fun F hF src i dst k => offs_p (by have := (find_ok (src := src) (i := i) (dst := dst) (k := k) hL hH).2; omega) (by omega)
 have hs : ∀ F, 21000 ≤ F → ∀ src i dst k, G_regulatorref27_SameInts F (offsF (findS L H src i dst k).1) [1, 2] = some (decide (offsF (findS L H src i dst k).1 = [1, 2])) := fun F hF src i dst k => sameI_r (by have := (find_ok (src := src) (i := i) (dst := dst) (k := k) hL hH).2; unfold offsF; rw [List.length_cons, List.length_map]; omega) (by omega)
 have key : ∃ x, ∀ F, 21000 ≤ F → G_regulatorlaw27_head F = x := ⟨_, fun F hF => by
  unfold G_regulatorlaw27_head; rw [h2 F (by omega), ob_some, un3_p, hf F hF, ob_some, un3_p, hc F hF, ob_some, un2_p, hf F hF, ob_some, un3_p, hf F hF, ob_some, un3_p, hc F hF, ob_some, un2_p, hf F hF, ob_some, un3_p, ho F hF, ob_some, hs F hF, ob_some]⟩
 obtain ⟨x, hx⟩ := key; rw [hx F hF, hx 30000 (by decide)]
end Go.Proofs.YtggaodokkcoagaaGreatDoor
namespace Go.Proofs.YtggaodokkcoagaaGreatDoor
theorem offK_one (o : KOffice) : offK [o] o.ID = o ∧ offH [o] o.ID = true := by
 rw [offK_cons, offH_cons]
 simp
theorem log_find {o : KOffice} {h : KHead} {i k : Nat} (hv : vO o = true) (hf : fH h = true) (hh : hasS o h = true) (hi : (i : Int) < h.Size) (hk : (k : Int) < h.Size) :
  findS [o] [h] o.ID i o.ID k = if i < k then (⟨⟨h, i, eAt o.Entries i, inclF (valsF o h.Size.toNat) i⟩, [], [], ⟨h, k, eAt o.Entries k, inclF (valsF o h.Size.toNat) k⟩⟩, true, 0) else (zP, false, 0) := by
 have hs := hasS_spec hh; obtain ⟨e1, e2⟩ := offK_one o; have h0 : arcS [o] [h] = (some (arcO [o] [h]), 0) := by
  unfold arcS; rw [show (decide ([o].length ≤ 4) && decide ([h].length ≤ 12)) = true from rfl, if_pos rfl, if_pos]; rw [arcF, arcF, hv, decide_eq_true (by have := (vO_iff.1 hv).2.1; omega), List.all_cons, hf]; rfl
 have he : ∀ q : Nat, (q : Int) < h.Size → entB [o] o.ID q = true := fun q hq => by
  unfold entB; rw [e1, e2, decide_eq_true (p := 0 ≤ (q : Int)) (by omega), decide_eq_true (p := (q : Int) < ((o.Entries.length : Nat) : Int)) (by omega)]; rfl
 have hw : [h].all (whB [o]) = true := by
  rw [List.all_cons, List.all_nil, Bool.and_true]; unfold whB; rw [hs.1, e1, show (0 : Int) = ((0 : Nat) : Int) from rfl, provS_has hv hf hh (by omega)]; rfl
 unfold findS; rw [h0, he i hi, he k hk, hw]; simp only [beq_self_eq_true, if_true, Bool.and_self]; have hlv : lev0 [h] o.ID i = [⟨[h], i⟩] := by
  unfold lev0; rw [List.filterMap_cons, show (h.Office == o.ID) = true from beq_iff_eq.2 hs.1, decide_eq_true (p := h.Size > (i : Int)) (by omega)]; rfl
 have hfin : finB o.ID k ⟨[h], i⟩ = decide (i < k) := by
  unfold finB; rw [show lastH ⟨[h], (i : Int)⟩ = h from rfl, show (h.Office == o.ID) = true from beq_iff_eq.2 hs.1, decide_eq_true (p := h.Size > (k : Int)) (by omega), Bool.true_and, Bool.true_and]; exact decide_eq_decide.2 (by show ((k : Int) > (i : Int)) ↔ i < k; omega)
 have hlong : longS [o] [h] ⟨[h], i⟩ = [] := by
  unfold longS; rw [List.filterMap_cons]; unfold nextS; rw [List.any_cons, show (h.Office == h.Office) = true from beq_self_eq_true _, Bool.true_or, if_pos rfl]; rfl
 have hs2 : srchS [o] [h] o.ID i o.ID k = if i < k then some ⟨[h], i⟩ else none := by
  unfold srchS; rw [hlv, goS, List.find?_cons, hfin]
  by_cases hik : i < k
  ·rw [decide_eq_true hik, if_pos hik]
  ·rw [decide_eq_false hik, if_neg hik]
   show goS [o] [h] o.ID k 3 ([⟨[h], i⟩].flatMap (longS [o] [h])) = none
   rw [List.flatMap_cons, hlong]; rfl
 rw [hs2]
 by_cases hik : i < k
 ·rw [if_pos hik, if_pos hik]
  show (prfS [o] ⟨[h], i⟩ o.ID i o.ID k, true, (0 : Int)) = _
  unfold prfS hopsL; rw [e1, show lastH ⟨[h], (i : Int)⟩ = h from rfl, show ([h] : List KHead).getD 0 zHd = h from rfl, provS_has hv hf hh hi, provS_has hv hf hh hk]; rfl
 ·rw [if_neg hik, if_neg hik]
theorem law27_log {o : KOffice} {size one two key : Int} (hr : o.rng) (hs : inKd .u8 size) (h1 : inKd .u8 one) (h2 : inKd .u8 two) (hk : inKd .u64 key) : G_regulatorlaw27_OrderLog 30000 o size one two key = some true := by
 unfold G_regulatorlaw27_OrderLog; rw [head27 (by decide), ob_some, few_eq, ob_some]
 by_cases hl : o.Entries.length ≤ 40
 case neg => rw [decide_eq_false (p := ((o.Entries.length : Nat) : Int) ≤ 40) (by omega)]; rfl
 rw [decide_eq_true (p := ((o.Entries.length : Nat) : Int) ≤ 40) (by omega), ifB_t, valid_r (by omega) (by decide), ob_some]; cases hv : vO o with
 | false => rfl
 | true =>
 rw [ifB_t, ob_some, un3_p]
 by_cases h0 : o.Entries.length = 0
 ·rw [show (((o.Entries.length : Nat) : Int) == 0) = true from beq_iff_eq.2 (by omega)]; rfl
 have hne : (((o.Entries.length : Nat) : Int) == 0) = false := beq_eq_false_iff_ne.2 (by omega); obtain ⟨s, rfl, hs'⟩ := inKd_nat8 hs; obtain ⟨a, rfl, ha⟩ := inKd_nat8 h1; obtain ⟨b, rfl, hb⟩ := inKd_nat8 h2; have hn1 : 1 + s % o.Entries.length ≤ o.Entries.length := by have := Nat.mod_lt s (show 0 < o.Entries.length by omega); omega
 simp only [hne, ifB_f, Bool.not_false]; rw [pickL hs' (by omega) (by omega), whenG_t rfl, ob_some, whenG_t (nz (by omega)), ob_some, ob_some]; have hkk := inKd_u64 hk; rw [sec_eq hk, ob_some, sec_eq (inKd_wu (wrap_u64_rng _).1 (wrap_u64_rng _).2), ob_some]; have hkey : (isK (secF key) && isK (secF (IntKind.u64.wrap (key + 1)))) = true := both (sec_isK _) (sec_isK _); rw [headF_one hr (by omega) hv (by omega) hn1 hkey (by decide), ob_some, un2_p, ob_some, modL ha, modL hb]; generalize hN : 1 + s % o.Entries.length = N at *; have hN0 : 0 < N := by omega
 generalize hH : headF o N (secF key) (secF (IntKind.u64.wrap (key + 1))) = h; have hfh : fH h = true := by rw [← hH]; exact headF_fH hv (by omega) (by omega) hkey
 have hhs : hasS o h = true := by rw [← hH]; exact has_own hn1
 have hsz : h.Size = N := by rw [← hH]; rfl
 have hhr : h.rng := by rw [← hH]; exact headF_rng hr (by omega) hkey
 have hi := Nat.mod_lt a hN0; have hj := Nat.mod_lt b hN0; simp only [un6]; rw [find_p ⟨by show 1 ≤ 6; decide, fun x hx => by rw [List.mem_singleton] at hx; rw [hx]; omega, fun x hx => by rw [List.mem_singleton] at hx; rw [hx]; exact hr⟩ (fun x hx => by rw [List.mem_singleton] at hx; rw [hx]; exact hhr) (by decide), ob_some, un3_p]; rw [show (⟨h.Office, h.Size, h.Root, ⟨h.Sig.C, h.Sig.S⟩⟩ : KHead) = h from rfl, log_find hv hfh hhs (by omega) (by omega)]
 by_cases hab : a % N < b % N
 ·rw [if_pos hab, decide_eq_true (p := ((a % N : Nat) : Int) < ((b % N : Nat) : Int)) (by omega)]
  simp
  rfl
 ·rw [if_neg hab, decide_eq_false (p := ((a % N : Nat) : Int) < ((b % N : Nat) : Int)) (by omega)]; rfl
end Go.Proofs.YtggaodokkcoagaaGreatDoor
namespace Go.Proofs.YtggaodokkcoagaaGreatDoor
open Go.RowKit
theorem tb_of {W : World} {L : List (String × DataW Unit)} (h : laidMet Tryz.prog L W) (hm : ("internal/strconv.uint64pow10", Rows.laid_internal_strconv_uint64pow10) ∈ L) : Tb W := by
 refine Lib.tabBelow_of_tabIs ?_; obtain ⟨g, t, cs, fuel, p, hg, ht, hvar, hd⟩ := Lib.laidMet.reads h hm; have h1 : (Tryz.prog.globalNamed "internal/strconv.uint64pow10").bind (fun g => (Tryz.prog.globals[g]?).map (·.type)) = some 209 := by kernel_rfl
 rw [hg] at h1; obtain rfl : t = 209 := Option.some.inj (ht.symm.trans h1); unfold Lib.TabIs; rw [hvar, ← Lib.cells_of_tab (k := .u64) (zs := Lib.pow10Tab) Tryz.underlying209 Tryz.underlying23 (by kernel_rfl) (by kernel_rfl) hd]
end Go.Proofs.YtggaodokkcoagaaGreatDoor
