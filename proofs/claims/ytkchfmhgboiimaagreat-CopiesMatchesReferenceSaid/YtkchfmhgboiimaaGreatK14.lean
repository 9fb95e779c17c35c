/-
  Texts joined: Rd38, Rx38, Z9, Z10, Z11, Z12, Z13, Z14, Za, Sd38, Se38.
-/
import Derived.Test.YtkchfmhgboiimaaGreatProg
import Derived.Test.YtkchfmhgboiimaaGreatK10
import Derived.Test.YtkchfmhgboiimaaGreatK11
import Derived.Test.YtkchfmhgboiimaaGreatK12
import Derived.Test.YtkchfmhgboiimaaGreatK13
set_option linter.unusedSimpArgs false
set_option linter.unusedVariables false
namespace Go.Proofs.YtkchfmhgboiimaaGreat
open Go.RowKit Go.Shelf
theorem post_M {F : Fence} {n : Nat} {P : Program} {fn : Func} {R : Ending → World → Prop} {a : Act} {w : World} (h : bodyPost P fn R .ret a w) : bodyPostM F n P fn R .ret a w := by
 obtain ⟨hd, v, hr, hR⟩ := h
 show LeavesInM F n P fn a.tmps R a.defers .returning w
 rw [hd]
 show LeavesIn F n P fn a.tmps R [] .returning w
 unfold LeavesIn
 first | exact .inl ⟨_, _, rfl, hr, hR⟩ | exact ⟨_, hr, hR⟩ | exact .inl ⟨v, hr, hR⟩ | trace_state
theorem fiM {P : Program} {f : FuncId} {fn : Func} {c : Code} {args : List Value} {n' : Nat} {R : Ending → World → Prop} {w : World} (hf : P.funcs[f]? = some fn) (hb : fn.body = some c) (hn : fn.ntmps = n') (hs : Nat.ble args.length n' = true)
  (h : ∀ a, Kn n' (argK args 0) a → c.wp P (bodyPostM Fence.wide 40 P fn R) a w) : Calls P f args.toArray w R := by
 refine (callsIn_wide (n := 40)).1 ?_; refine callsIn_of_wp_marks hf hb trivial ?_ rfl; refine wpIn_wide.2 ?_; refine h _ ⟨rfl, ?_, fun i v hv => ?_⟩
 ·have : args.length ≤ n' := Nat.le_of_ble_eq_true hs
  simp [hn]; omega
 ·obtain ⟨_, h2⟩ := argK_look args 0 i v hv; have hi : i < args.length := by
   have := (List.getElem?_eq_some_iff.1 h2).1; omega
  have : (args.toArray ++ Array.replicate (fn.ntmps - args.toArray.size) undef)[i]? = args[i]? := by
   rw [Array.getElem?_append_left (by simpa using hi)]; simp
  rw [this]
  simpa using h2
def rdG (l : List KTx) (t : Int) : Option (List KVersion × Int) :=
 if decide (l.length ≤ 9223372036854775806) && l.all (fun x => decide (x.Writes.length ≤ 9223372036854775806)) && decide ((vsOf l).length ≤ 4000) && decide ((putsS [] (vsOf l)).2 = 0) then some (kRes (readS (putsS [] (vsOf l)).1 t)) else none
section
variable {S0 S : Nat → Prop} {w0 w w' : World} {n : Nat} {K : List (Nat × Value)} {E : List Iz} {P : Program}
theorem goM {F : Fence} {k : Nat} {fn : Func} {R : Ending → World → Prop} (h : Ge S0 w0 n K E (bodyPost P fn R .ret)) : Ge S0 w0 n K E (bodyPostM F k P fn R .ret) := fun a w S hK hE => post_M (h a w S hK hE)
theorem finM {f : FuncId} {fn : Func} {c : Code} {args : List Value} {Hs : List Pr} {β : Type} {q : β → Prop} {vf : β → Value} {ok : β → List Pr} (hf : P.funcs[f]? = some fn) (hb : fn.body = some c) (hn : fn.ntmps = n) (m : Mvs Hs)
  (h : ∀ S0 w0, Tb w0 → Ge S0 w0 n (argK args 0) (Hs.map .dat) (c.wp P (bodyPostM Fence.wide 40 P fn fun e w' => ∃ x, q x ∧ e = .returned (vf x) ∧ Below w0.heap.size w0 w' ∧ AllH (ext S0 w0 w') w' (ok x)))) (hs : Nat.ble args.length n = true := by kernel_rfl) : Cn P f args Hs q vf ok :=
 fun S0 w0 hS hT hH => fiM hf hb hn hs fun a hK => h S0 w0 hT a w0 S0 hK (hH.ez hS m)
end
theorem logAt_of {S : Nat → Prop} {w : World} {X : Nat} {A : Option Addr} {c : Nat} {l : List KTxL} (hr : RowC A c KTxL.cells KTxL.ok l S w) (hX : ¬ S X) : LogAt X w A l := fun i hi => by
 have hx : l[i]? = some l[i] := List.getElem?_eq_getElem hi; obtain ⟨b, o, hA, hrec⟩ := hr.r.elem (m := 4) (fun _ => rfl) (by omega) hx; refine ⟨⟨b, o, hA, fun e => hX (e ▸ hrec.s), hrec.r 0 _ rfl, hrec.r 1 _ rfl, hrec.r 2 _ rfl, hrec.r 3 _ rfl⟩, fun j hj => ?_⟩; have hy : l[i].Writes[j]? = some l[i].Writes[j] := List.getElem?_eq_getElem hj; obtain ⟨b2, o2, hA2, hr2⟩ := (hr.e _ (List.getElem_mem hi)).f_Writes.r.elem (m := 3) (fun _ => rfl) (by omega) hy; exact ⟨b2, o2, hA2, fun e => hX (e ▸ hr2.s), hr2.r 0 _ rfl, hr2.r 1 _ rfl, hr2.r 2 _ rfl⟩
theorem rdG_some {l : List KTx} {t : Int} {r : List KVersion × Int} (h : rdG l t = some r) : (l.length ≤ 9223372036854775806 ∧ (∀ x ∈ l, x.Writes.length ≤ 9223372036854775806) ∧ (vsOf l).length ≤ 4000) ∧ ∃ m, putsS [] (vsOf l) = (m, 0) ∧ r = kRes (readS m t) := by
 unfold rdG at h
 split at h
 ·next hc =>
  simp only [Bool.and_eq_true, decide_eq_true_eq, List.all_eq_true] at hc; obtain ⟨⟨⟨h1, h2⟩, h3⟩, h4⟩ := hc; refine ⟨⟨h1, h2, h3⟩, _, Prod.ext rfl h4, (Option.some.inj h).symm⟩
 ·cases h
theorem puts_snoc : ∀ {pre l m : List Ver} (x : Ver), putsS l pre = (m, 0) → putsS l (pre ++ [x]) = if (putS m x).2 = 0 then ((putS m x).1, 0) else ([], (putS m x).2)
 | [], l, m, x, h => by
  have h : (l, (0 : Int)) = (m, 0) := h
  injection h with h _
  subst h; rfl
 | v :: pre, l, m, x, h => by
  have h' : (if (putS l v).2 = 0 then putsS (putS l v).1 pre else ([], (putS l v).2)) = (m, 0) := h
  show (if (putS l v).2 = 0 then putsS (putS l v).1 (pre ++ [x]) else ([], (putS l v).2)) = _
  by_cases hc : (putS l v).2 = 0
  ·rw [if_pos hc] at h' ⊢; exact puts_snoc x h'
  ·rw [if_neg hc] at h'
   injection h' with _ h2
   exact absurd h2 hc
theorem KpB.own {X : Nat} {A B : World} {row : Option Nat} (h : A.grownBy B row) (hr : ∀ r, row = some r → ∃ o : Obj, A.heap[r]? = some o ∧ o.isCells = false) {k : Nat} {o : Obj} (hk : A.heap[k]? = some o) (hc : o.isCells = true) : B.heap[k]? = some o := by
 refine (h.block k (Array.getElem?_eq_some_iff.1 hk).1 fun e => ?_).trans hk; obtain ⟨o', h1, h2⟩ := hr k e.symm; rw [hk] at h1; cases h1; rw [hc] at h2; cases h2
theorem KpB.setX (X : Nat) (A : World) (o : Nat) (v : Value) : KpB X A (A.setCell ⟨X, o, none⟩ v) := ⟨by simp, fun k p hk _ hx => (Below.heap_setCell A ⟨X, o, none⟩ v k hx).trans hk⟩
theorem VS.kp {X : Nat} {V W : World} {A : Option Addr} {l : List Ver} (h : VS V A l) (k : KpB X V W) (ha : ∀ a, A = some a → a.block ≠ X) : VS W A l := fun hn => by
 obtain ⟨b, o, rfl, hb, hc⟩ := h hn; exact ⟨b, o, rfl, Nat.lt_of_lt_of_le hb k.size, fun j u hu => k.cell (hc j u hu) (ha _ rfl)⟩
theorem Blk.kp {X : Nat} {V W : World} {g : Nat} {t : TypeId} {cs : Array Value} (h : Blk V g t cs) (k : KpB X V W) (hg : g ≠ X) : Blk W g t cs := k.keep g _ h rfl hg
structure Sto38 (z X : Nat) (W1 : World) (pre : List Ver) (W : World) : Prop where
 k : KpB X W1 W
 z : Below z W1 W
 b : ∃ m A c, putsS [] pre = (m, 0) ∧ m.length ≤ c ∧ c ≤ maxLen ∧ Blk W X 33 #[.slice A m.length c] ∧ VS W A m ∧ (∀ a, A = some a → a.block ≠ X)
theorem Sto38.own {z : Nat} {W1 : World} (X : Nat) (hz : z ≤ W1.heap.size) : OwnFrom W1.heap.size (Sto38 z X W1) := fun pre V W row hs hg hr => by
 have hr' : ∀ r, row = some r → ∃ o : Obj, V.heap[r]? = some o ∧ o.isCells = false := fun r e => (hr r e).2
 obtain ⟨m, A, c, h1, h2, h3, h4, h5, h6⟩ := hs.b; have hk : KpB X V W := ⟨hg.size, fun k o hk hc _ => KpB.own (X := X) hg hr' hk hc⟩; exact ⟨hs.k.trans hk, ownFrom_below (β := Unit) hz hz () V W row hs.z hg hr, m, A, c, h1, h2, h3, KpB.own (X := X) hg hr' h4 rfl, h5.kp hk h6, h6⟩
theorem Sto38.below {z X : Nat} {W1 V W : World} {pre : List Ver} (hs : Sto38 z X W1 pre V) (hb : Below V.heap.size V W) (hz : z ≤ W1.heap.size) : Sto38 z X W1 pre W := by
 obtain ⟨m, A, c, h1, h2, h3, h4, h5, h6⟩ := hs.b; exact ⟨hs.k.trans (KpB.below hb), hs.z.trans (hb.mono (Nat.le_trans hz hs.k.size)), m, A, c, h1, h2, h3, h4.below hb h4.lt, h5.kp (KpB.below hb) h6, h6⟩
theorem Sto38.put {z X : Nat} {W1 V W : World} {pre : List Ver} {m m' : List Ver} {x : Ver} {A' : Option Addr} {c' : Nat} {cs : Array Value} (hk : KpB X W1 V) (hz : Below z W1 V) (hz1 : z ≤ W1.heap.size) (hzX : z ≤ X) (hX : X < V.heap.size) (hp : putsS [] pre = (m, 0)) (he : putS m x = (m', 0)) (hb : Below V.heap.size V W) (hc : m'.length ≤ c') (hm : c' ≤ maxLen) (hB : Blk W X 33 cs) (hs : cs.size = 1) (hv : VS W A' m') (hf : ∀ a, A' = some a → V.heap.size ≤ a.block) :
  Sto38 z X W1 (pre ++ [x]) (W.setCell ⟨X, 0, none⟩ (.slice A' m'.length c')) := by
 have hA : ∀ a, A' = some a → a.block ≠ X := fun a e => by have := hf a e; omega
 refine ⟨(hk.trans (KpB.below hb)).trans (KpB.setX X W _ _), (hz.trans (hb.mono (Nat.le_trans hz1 hk.size))).setCell hzX _, m', A', c', ?_, hc, hm, ?_, hv.kp (KpB.setX X W _ _) hA, hA⟩
 ·rw [puts_snoc x hp, he]; rfl
 ·have := hB.set_ 0 (.slice A' m'.length c'); have e : cs.setIfInBounds 0 (.slice A' m'.length c') = #[.slice A' m'.length c'] := by
   apply Array.ext
   ·simp [hs]
   ·intro i h1 h2
    simp at h2
    subst h2; simp
  rw [e] at this; exact this
theorem keeps_put {B X : Nat} {V W : World} {t : TypeId} {cs : Array Value} (hB : Blk V X t cs) (hb : Below V.heap.size V W) (o : Nat) (v : Value) : KeepsFrom B V (W.setCell ⟨X, o, none⟩ v) :=
 ⟨by simpa using hb.size, fun k p _ hk hp => by
  have hlt := (Array.getElem?_eq_some_iff.1 hk).1; have hne : k ≠ X := fun e => by subst e; rw [hB] at hk; cases hk; cases hp
  exact (Below.heap_setCell W ⟨X, o, none⟩ v k hne).trans ((hb.block k hlt).trans hk)⟩
theorem keeps_two {B g1 g2 : Nat} {V W : World} {t1 t2 : TypeId} {c1 c2 : Array Value} (h1 : Blk V g1 t1 c1) (h2 : Blk V g2 t2 c2) (hb : Below V.heap.size V W) (o1 o2 : Nat) (v1 v2 : Value) : KeepsFrom B V ((W.setCell ⟨g1, o1, none⟩ v1).setCell ⟨g2, o2, none⟩ v2) :=
 ⟨by simpa using hb.size, fun k p _ hk hp => by
  have hlt := (Array.getElem?_eq_some_iff.1 hk).1; have hn1 : k ≠ g1 := fun e => by subst e; rw [h1] at hk; cases hk; cases hp
  have hn2 : k ≠ g2 := fun e => by subst e; rw [h2] at hk; cases hk; cases hp
  exact (Below.heap_setCell _ ⟨g2, o2, none⟩ v2 k hn2).trans ((Below.heap_setCell W ⟨g1, o1, none⟩ v1 k hn1).trans ((hb.block k hlt).trans hk))⟩
theorem keeps_below {B : Nat} {V W : World} (hb : Below V.heap.size V W) : KeepsFrom B V W :=
 ⟨hb.size, fun k _ _ hk _ => (hb.block k (Array.getElem?_eq_some_iff.1 hk).1).trans hk⟩
theorem l68 {l : List Value} (h : l.length = 68) : ∃ t0 t1 t2 t3 t4 t5 t6 t7 t8 t9 t10 t11 t12 t13 t14 t15 t16 t17 t18 t19 t20 t21 t22 t23 t24 t25 t26 t27 t28 t29 t30 t31 t32 t33 t34 t35 t36 t37 t38 t39 t40 t41 t42 t43 t44 t45 t46 t47 t48 t49 t50 t51 t52 t53 t54 t55 t56 t57 t58 t59 t60 t61 t62 t63 t64 t65 t66 t67, l = t0 :: t1 :: t2 :: t3 :: t4 :: t5 :: t6 :: t7 :: t8 :: t9 :: t10 :: t11 :: t12 :: t13 :: t14 :: t15 :: t16 :: t17 :: t18 :: t19 :: t20 :: t21 :: t22 :: t23 :: t24 :: t25 :: t26 :: t27 :: t28 :: t29 :: t30 :: t31 :: t32 :: t33 :: t34 :: t35 :: t36 :: t37 :: t38 :: t39 :: t40 :: t41 :: t42 :: t43 :: t44 :: t45 :: t46 :: t47 :: t48 :: t49 :: t50 :: t51 :: t52 :: t53 :: t54 :: t55 :: t56 :: t57 :: t58 :: t59 :: t60 :: t61 :: t62 :: t63 :: t64 :: t65 :: t66 :: t67 :: [] :=
 match l, h with
 | t0 :: t1 :: t2 :: t3 :: t4 :: t5 :: t6 :: t7 :: t8 :: t9 :: t10 :: t11 :: t12 :: t13 :: t14 :: t15 :: t16 :: t17 :: t18 :: t19 :: t20 :: t21 :: t22 :: t23 :: t24 :: t25 :: t26 :: t27 :: t28 :: t29 :: t30 :: t31 :: t32 :: t33 :: t34 :: t35 :: t36 :: t37 :: t38 :: t39 :: t40 :: t41 :: t42 :: t43 :: t44 :: t45 :: t46 :: t47 :: t48 :: t49 :: t50 :: t51 :: t52 :: t53 :: t54 :: t55 :: t56 :: t57 :: t58 :: t59 :: t60 :: t61 :: t62 :: t63 :: t64 :: t65 :: t66 :: t67 :: [], _ => ⟨t0, t1, t2, t3, t4, t5, t6, t7, t8, t9, t10, t11, t12, t13, t14, t15, t16, t17, t18, t19, t20, t21, t22, t23, t24, t25, t26, t27, t28, t29, t30, t31, t32, t33, t34, t35, t36, t37, t38, t39, t40, t41, t42, t43, t44, t45, t46, t47, t48, t49, t50, t51, t52, t53, t54, t55, t56, t57, t58, t59, t60, t61, t62, t63, t64, t65, t66, t67, rfl⟩
theorem rdEz {S0 S : Nat → Prop} {w0 w : World} {gX g2 g1 : Nat} {tX t2 t1 : TypeId} {vX v2 v1 : Value} {A : Option Addr} {c : Nat} {l : List KTxL} {E : List Iz} (hE : Ez S0 w0 w S (.blk gX tX [vX] :: .dat (RowC A c KTxL.cells KTxL.ok l) :: .blk g2 t2 [v2] :: .blk g1 t1 [v1] :: E)) :
  (w0.heap.size ≤ gX ∧ w0.heap.size ≤ g2 ∧ w0.heap.size ≤ g1) ∧ (gX ≠ g2 ∧ gX ≠ g1 ∧ g2 ≠ g1) ∧ Blk w gX tX #[vX] ∧ Blk w g2 t2 #[v2] ∧ Blk w g1 t1 #[v1] ∧ LogAt gX w A l ∧ Below w0.heap.size w0 w := by
 have kX := Es.k hE _ (List.mem_of_getElem? (show _ = some (Ik.blk gX tX #[vX]) from Ez.at hE (i := 0) rfl)); have k2 := Es.k hE _ (List.mem_of_getElem? (show _ = some (Ik.blk g2 t2 #[v2]) from Ez.at hE (i := 2) rfl)); have k1 := Es.k hE _ (List.mem_of_getElem? (show _ = some (Ik.blk g1 t1 #[v1]) from Ez.at hE (i := 3) rfl)); have hp := Es.p hE; simp only [List.map_cons, List.pairwise_cons] at hp; have hr : RowC A c KTxL.cells KTxL.ok l S w := Ez.get hE (i := 1) rfl; refine ⟨⟨kX.1, k2.1, k1.1⟩, ⟨fun e => ?_, fun e => ?_, fun e => ?_⟩, kX.2.2, k2.2.2, k1.2.2, logAt_of hr kX.2.1, hE.b⟩
 ·subst e; exact hp.1 (Ik.blk gX t2 #[v2]) (by simp [Iz.ik]) gX rfl rfl
 ·subst e; exact hp.1 (Ik.blk gX t1 #[v1]) (by simp [Iz.ik]) gX rfl rfl
 ·subst e; exact hp.2.2.1 (Ik.blk g2 t1 #[v1]) (by simp [Iz.ik]) g2 rfl rfl
theorem rdOut {S0 : Nat → Prop} {w0 : World} {g1 g2 D : Nat} {V W : World} {m2 : List Ver} {e2 : Int} {A2 : Option Addr} {c2 : Nat} {q : List Ver × Int} {v1 v2 : Value} (hq : q = (m2, e2)) (hz : Below w0.heap.size w0 V) (hb : Below V.heap.size V W) (h1 : w0.heap.size ≤ g1) (h2 : w0.heap.size ≤ g2) (h1V : g1 < V.heap.size) (h2V : g2 < V.heap.size) (hD : w0.heap.size ≤ D) (hDV : D < V.heap.size) (hc : m2.length ≤ c2) (hv : VS W A2 m2) (hf : ∀ a, A2 = some a → V.heap.size ≤ a.block) (o : Obj) :
  ∃ x : KSapi_VersionL, (kRes q).1 = x.l ∧ Ending.returned (.tuple #[.slice A2 m2.length c2, .int .i64 e2]) = .returned (.tuple #[.slice x.A x.l.length x.c, I (kRes q).2]) ∧ Below w0.heap.size w0 (((W.setCell ⟨g1, 0, none⟩ v1).setCell ⟨g2, 0, none⟩ v2).putObj D o) ∧ AllH (ext S0 w0 (((W.setCell ⟨g1, 0, none⟩ v1).setCell ⟨g2, 0, none⟩ v2).putObj D o)) (((W.setCell ⟨g1, 0, none⟩ v1).setCell ⟨g2, 0, none⟩ v2).putObj D o) [RowC x.A x.c KVersion.cells tr x.l] := by
 subst hq; have hs : (((W.setCell ⟨g1, 0, none⟩ v1).setCell ⟨g2, 0, none⟩ v2).putObj D o).heap.size = W.heap.size := by simp
 have hVW := hb.size; have h0V := hz.size; have hkeep : ∀ k, V.heap.size ≤ k → (((W.setCell ⟨g1, 0, none⟩ v1).setCell ⟨g2, 0, none⟩ v2).putObj D o).heap[k]? = W.heap[k]? := fun k hk => by
  rw [World.putObj_heap_other (by omega), Below.heap_setCell _ ⟨g2, 0, none⟩ v2 k (by show k ≠ g2; omega), Below.heap_setCell _ ⟨g1, 0, none⟩ v1 k (by show k ≠ g1; omega)]
 have hrd : Rd (((W.setCell ⟨g1, 0, none⟩ v1).setCell ⟨g2, 0, none⟩ v2).putObj D o) A2 (m2.flatMap Ver.cells) := fun hn => by
  obtain ⟨b, oo, rfl, hb', hcs⟩ := (show Rd W A2 (m2.flatMap Ver.cells) from hv) hn; refine ⟨b, oo, rfl, by omega, fun j u hu => ?_⟩; have := hcs j u hu; have hbV : V.heap.size ≤ b := hf _ rfl; rw [← this]; exact World.cell?_of_block (hkeep b hbV)
 refine ⟨⟨A2, c2, m2.map Ver.k⟩, rfl, ?_, ?_, ⟨⟨?_, fun hn => ?_⟩, ?_, fun _ _ => trivial⟩, trivial⟩
 ·show Ending.returned (.tuple #[.slice A2 m2.length c2, .int .i64 e2]) = .returned (.tuple #[.slice A2 (m2.map Ver.k).length c2, I e2])
  rw [List.length_map]
 ·exact ((((hz.trans (hb.mono h0V)).setCell h1 _).setCell h2 _).trans ((Below.refl _ _).grown (grownBy_putObj' _ D o) (by simp; omega) (fun k e => by cases e; exact hD)))
 ·show Rd _ A2 ((m2.map Ver.k).flatMap KVersion.cells)
  rw [vk_cells]; exact hrd
 ·have hn' : m2.flatMap Ver.cells ≠ [] := by rw [← vk_cells]; exact hn
  obtain ⟨b, oo, e, hlt, _⟩ := hrd hn'; exact ⟨b, oo, e, .inr ⟨by have h9 : V.heap.size ≤ b := hf _ e; omega, hlt⟩⟩
 ·show (m2.map Ver.k).length ≤ c2
  rw [List.length_map]; exact hc
end Go.Proofs.YtkchfmhgboiimaaGreat
namespace Go.Proofs.YtkchfmhgboiimaaGreat
open Go.RowKit Go.Maps
theorem inf81 : Inf Tryz.prog 81 47 4 64 (.agg #[I 0, I 0, .slice none 0 0, .slice none 0 0]) := ⟨Tryz.underlying81, by kernel_rfl⟩
attribute [local go_sem] Oper.semAt_some
def G_copies_Read (F : Nat) (p_0 : List KCopy) (p_1 : Int) (p_2 : Int) : Option ((List KVersion) × Int) :=
  Option.bind (Option.bind (G_copies_Valid F p_0) (fun v_3 =>
    ifB (v_3)
      (ifB (decide (p_2 < 1))
        (some true)
        (Option.bind (G_copies_isTime F p_2) (fun v_6 =>
        some (!v_6))))
      (some true)) : Option (Bool)) (fun (v_8 : Bool) => 
    ifB (v_8)
      (some (([] : List KVersion), 1))
      (Option.bind (G_copies_find F p_0 p_1) (fun v_10 =>
      ifB (decide (v_10 < 0))
        (some (([] : List KVersion), 4))
        (Option.bind (ixI p_0 v_10) (fun v_12 =>
        Option.bind (ifB ((((v_12.Log.length : Nat) : Int) == 0))
            (some true)
            (Option.bind (ixI v_12.Log (IntKind.i64.wrap (((v_12.Log.length : Nat) : Int) - 1))) (fun v_16 =>
            some (decide (v_16.Ts < p_2)))) : Option (Bool)) (fun (v_20 : Bool) => 
          ifB (v_20)
            (some (([] : List KVersion), 63))
            (rdG v_12.Log p_2)))))))
set_option maxRecDepth 100000 in
set_option maxHeartbeats 16000000 in
theorem z_copies_Read (F : Nat) (p_0_A : Option Addr) (p_0_c : Nat) (p_0 : List KCopyL) (p_1 : Int) (p_2 : Int) (r : (List KVersion) × Int) (hG : G_copies_Read F (p_0.map KCopyL.p) p_1 p_2 = some r) :
  Cn Tryz.prog 21 [.slice p_0_A p_0.length p_0_c, I p_1, I p_2] [RowC p_0_A p_0_c KCopyL.cells KCopyL.ok p_0] (fun q : KSapi_VersionL => r.1 = q.l) (fun q => .tuple #[.slice q.A q.l.length q.c, I r.2]) (fun q => [RowC q.A q.c KVersion.cells tr q.l]) := by
 unfold G_copies_Read at hG
 try (simp only [un2, un3, un4, un5, un6, un7, un8, Sum.elim_inl, Sum.elim_inr, List.length_map, KCopyL.n_Log] at hG; replace hG : _ = _ := hG)
 refine finM Tryz.func21 rfl rfl (mr KCopyL.mv m0) fun S0 w0 hT => ?_
 refine sq ?_; refine rg ?_; refine l1 ?_; refine nw 6 vp [.slice none 0 0] 33 fun g_1 => ?_
 refine l1 ?_; refine nw 7 vp [I 0] 26 fun g_2 => ?_
 refine nl ?_; refine tN ?_; refine sq ?_; obtain ⟨o_7, hG, hG_7⟩ := bind_some hG; refine jn (fun K E a w => ∃ (v_8 : Bool), Js S0 w0 68 ([(25, B v_8)] ++ K) (se E [0, 1, 2]) (v_8 = o_7) a w) ?_ ?_
 ·replace hG := bind_some hG; obtain ⟨v_3, hy_3, hG⟩ := hG; replace hG := ifB_cases hG; rcases hG with ⟨h_4, hG⟩ | ⟨h_4, hG⟩
  ·replace hG := ifB_cases hG; rcases hG with ⟨h_5, hG⟩ | ⟨h_5, hG⟩
   ·refine rg ?_; refine rn 1 [] f0 [(14, .slice p_0_A p_0.length p_0_c)] ?_; refine l1 ?_; refine cl 15 (z_copies_Valid F p_0_A p_0_c p_0 _ hy_3) hT ⟨ga 2, trivial⟩ ?_; refine rn 2 [] f0 [(17, B (!v_3))] ?_; refine sb 17 (nt h_4) ?_; refine rn 4 [] f0 [(21, B (decide (p_2 < 1)))] ?_; refine sb 21 (bt h_5) ?_; refine ra [] f0 [(25, B true)] ?_; refine tN ?_; exact fun a w S hK hE => ⟨true, S, hK.wk, hE.sel [0, 1, 2], Option.some.inj hG⟩
   ·replace hG := bind_some hG; obtain ⟨v_6, hy_6, hG⟩ := hG; refine rg ?_; refine rn 1 [] f0 [(14, .slice p_0_A p_0.length p_0_c)] ?_; refine l1 ?_; refine cl 15 (z_copies_Valid F p_0_A p_0_c p_0 _ hy_3) hT ⟨ga 2, trivial⟩ ?_; refine rn 2 [] f0 [(17, B (!v_3))] ?_; refine sb 17 (nt h_4) ?_; refine rn 4 [] f0 [(21, B (decide (p_2 < 1)))] ?_; refine sb 21 (bf h_5) ?_; refine rn 1 [] f0 [(22, I p_2)] ?_; refine l1 ?_; refine cl 23 (z_copies_isTime F p_2 _ hy_6) hT trivial ?_; refine ra [] f0 [(25, B (!v_6))] ?_; refine tN ?_; exact fun a w S hK hE => ⟨!v_6, S, hK.wk, hE.sel [0, 1, 2], Option.some.inj hG⟩
  ·refine rg ?_; refine rn 1 [] f0 [(14, .slice p_0_A p_0.length p_0_c)] ?_; refine l1 ?_; refine cl 15 (z_copies_Valid F p_0_A p_0_c p_0 _ hy_3) hT ⟨ga 2, trivial⟩ ?_; refine rn 2 [] f0 [(17, B (!v_3))] ?_; refine sb 17 (nf h_4) ?_; refine ra [] f0 [(25, B true)] ?_; refine tN ?_; exact fun a w S hK hE => ⟨true, S, hK.wk, hE.sel [0, 1, 2], Option.some.inj hG⟩
 ·rintro a w ⟨v_8, hJ⟩; refine hJ.go fun ho_ => ?_
  clear hJ; subst ho_; replace hG := hG_7
  try (simp only [un2, un3, un4, un5, un6, un7, un8, Sum.elim_inl, Sum.elim_inr, List.length_map, KCopyL.n_Log] at hG; replace hG : _ = _ := hG)
  rcases ifB_cases hG with ⟨h_9, hG⟩ | ⟨h_9, hG⟩
  ·refine sb 25 (bt h_9) ?_; refine ct ?_; refine sq ?_; refine rg ?_; refine l1 ?_; refine sr 1 g_1 [(0, .slice none 0 0)] ?_; refine l1 ?_; refine sr 0 g_2 [(0, I 1)] ?_; refine nl ?_; refine tN ?_; refine kR ?_; refine tR ?_; refine goM ?_; obtain rfl := Option.some.inj hG; exact rtn [(1, 0, 1), (0, 0, 1)] ⟨none, 0, ([] : List KVersion)⟩ rfl ⟨gn, trivial⟩
  ·refine sb 25 (bf h_9) ?_; refine cf ?_; refine kS ?_; refine tN ?_; refine sq ?_; replace hG := bind_some hG; obtain ⟨v_10, hy_10, hG⟩ := hG; refine rg ?_; refine rn 2 [] f0 [(26, .slice p_0_A p_0.length p_0_c), (27, I p_1)] ?_; refine l1 ?_; refine cl 28 (z_copies_find F p_0_A p_0_c p_0 p_1 _ hy_10) hT ⟨ga 2, trivial⟩ ?_; refine ra [] f0 [(8, I v_10)] ?_; refine tN ?_; refine sq ?_; refine sq ?_; refine rg ?_; refine ra [] f0 [(30, B (decide (v_10 < 0)))] ?_; refine tN ?_; rcases ifB_cases hG with ⟨h_11, hG⟩ | ⟨h_11, hG⟩
   ·refine sb 30 (bt h_11) ?_; refine ct ?_; refine sq ?_; refine rg ?_; refine l1 ?_; refine sr 1 g_1 [(0, .slice none 0 0)] ?_; refine l1 ?_; refine sr 0 g_2 [(0, I 4)] ?_; refine nl ?_; refine tN ?_; refine kR ?_; refine tR ?_; refine goM ?_; obtain rfl := Option.some.inj hG; exact rtn [(1, 0, 1), (0, 0, 1)] ⟨none, 0, ([] : List KVersion)⟩ rfl ⟨gn, trivial⟩
   ·refine sb 30 (bf h_11) ?_; refine cf ?_; refine kS ?_; refine tN ?_; refine sq ?_; replace hG := bind_some hG; obtain ⟨v_12o, hy_12, hG⟩ := hG; refine rg ?_; refine fxn (p := KCopyL.p) inf22 (gd' (RowC p_0_A p_0_c KCopyL.cells KCopyL.ok p_0) 2) hy_12 fun v_12 b_13 o_14 he_12 hi_12 => ?_
    subst he_12
    try (simp only [un2, un3, un4, un5, un6, un7, un8, Sum.elim_inl, Sum.elim_inr, List.length_map, KCopyL.n_Log] at hG; replace hG : _ = _ := hG)
    refine ra [(2, 0, 0, 0), (1, 1, 0, 1)] (fc (hi_12 .i64) f0) [(9, .slice v_12.Log_A v_12.Log.length v_12.Log_c)] ?_; refine tN ?_; refine sq ?_; obtain ⟨o_19, hG, hG_19⟩ := bind_some hG; refine jn (fun K E a w => ∃ (v_20 : Bool), Js S0 w0 68 ([(49, B v_20)] ++ K) ([.dat (RowC v_12.Log_A v_12.Log_c KTxL.cells KTxL.ok v_12.Log)] ++ se E [2, 3]) (v_20 = o_19) a w) ?_ ?_
    ·replace hG := ifB_cases hG; rcases hG with ⟨h_15, hG⟩ | ⟨h_15, hG⟩
     ·refine rg ?_; refine rn 4 [] f0 [(39, B (((v_12.Log.length : Nat) : Int) == 0))] ?_
      try simp only [List.length_map, KCopyL.n_Log] at h_15
      refine sb 39 (bt h_15) ?_; refine ra [] f0 [(49, B true)] ?_; refine tN ?_; refine fm (RowC v_12.Log_A v_12.Log_c KTxL.cells KTxL.ok v_12.Log) (gm (KCopyL.ok v_12) 1 fun _ _ h => h.f_Log) ?_; exact fun a w S hK hE => ⟨true, S, hK.wk, hE.sel [0, 3, 4], Option.some.inj hG⟩
     ·replace hG := bind_some hG; obtain ⟨v_16o, hy_16, hG⟩ := hG; refine rg ?_; refine rn 4 [] f0 [(39, B (((v_12.Log.length : Nat) : Int) == 0))] ?_
      try simp only [List.length_map, KCopyL.n_Log] at h_15
      refine sb 39 (bf h_15) ?_; refine fxn (p := KTxL.p) inf81 (gm (KCopyL.ok v_12) 1 fun _ _ h => h.f_Log) hy_16 fun v_16 b_17 o_18 he_16 hi_16 => ?_
      subst he_16
      try (simp only [un2, un3, un4, un5, un6, un7, un8, Sum.elim_inl, Sum.elim_inr, List.length_map, KCopyL.n_Log] at hG; replace hG : _ = _ := hG)
      refine ra [(4, 0, 0, 0), (1, 1, 0, 1)] (fc (hi_16 .i64) f0) [(49, B (decide (v_16.Ts < p_2)))] ?_; refine tN ?_; refine fm (RowC v_12.Log_A v_12.Log_c KTxL.cells KTxL.ok v_12.Log) (gm (KCopyL.ok v_12) 3 fun _ _ h => h.f_Log) ?_; exact fun a w S hK hE => ⟨decide (v_16.Ts < p_2), S, hK.wk, hE.sel [0, 5, 6], Option.some.inj hG⟩
    ·rintro a w ⟨v_20, hJ⟩; refine hJ.go fun ho_ => ?_
     clear hJ; subst ho_; replace hG := hG_19
     try (simp only [un2, un3, un4, un5, un6, un7, un8, Sum.elim_inl, Sum.elim_inr, List.length_map, KCopyL.n_Log] at hG; replace hG : _ = _ := hG)
     rcases ifB_cases hG with ⟨h_21, hG⟩ | ⟨h_21, hG⟩
     ·refine sb 49 (bt h_21) ?_; refine ct ?_; refine sq ?_; refine rg ?_; refine l1 ?_; refine sr 2 g_1 [(0, .slice none 0 0)] ?_; refine l1 ?_; refine sr 1 g_2 [(0, I 63)] ?_; refine nl ?_; refine tN ?_; refine kR ?_; refine tR ?_; refine goM ?_; obtain rfl := Option.some.inj hG; exact rtn [(2, 0, 1), (1, 0, 1)] ⟨none, 0, ([] : List KVersion)⟩ rfl ⟨gn, trivial⟩
     ·refine sb 49 (bf h_21) ?_; refine cf ?_; refine kS ?_; refine tN ?_; refine sq ?_; refine rg ?_; refine l1 ?_; refine nw 10 vp [.slice none 0 0] 33 fun g_22 => ?_
      refine nl ?_; refine tN ?_; refine sq ?_; refine sq ?_; intro a w S hK hE; replace hG : rdG (v_12.Log.map KTxL.p) p_2 = some r := hG; obtain ⟨⟨hG1, hG2, hG3⟩, m, hm, rfl⟩ := rdG_some hG; obtain ⟨⟨hgX, hg2, hg1⟩, ⟨hX2, hX1, h21⟩, bX, b2, b1, hL, hB⟩ := rdEz hE; obtain ⟨⟨ts⟩, ds⟩ := a; obtain rfl : ds = [] := hK.d
      try (simp only [un2, un3, un4, un5, un6, un7, un8, Sum.elim_inl, Sum.elim_inr, List.length_map, KCopyL.n_Log] at hG; replace hG : _ = _ := hG)
      obtain ⟨t0, t1, t2, t3, t4, t5, t6, t7, t8, t9, t10, t11, t12, t13, t14, t15, t16, t17, t18, t19, t20, t21, t22, t23, t24, t25, t26, t27, t28, t29, t30, t31, t32, t33, t34, t35, t36, t37, t38, t39, t40, t41, t42, t43, t44, t45, t46, t47, t48, t49, t50, t51, t52, t53, t54, t55, t56, t57, t58, t59, t60, t61, t62, t63, t64, t65, t66, t67, rfl⟩ := l68 (l := ts) (by simpa using hK.s); obtain rfl : t2 = .int .i64 p_2 := by simpa using hK.k 2 _ rfl
      obtain rfl : t6 = .pointer (some ⟨g_1, 0, none⟩) := Option.some.inj (show some t6 = some (.pointer (some ⟨g_1, 0, none⟩)) from hK.k 6 _ rfl); obtain rfl : t7 = .pointer (some ⟨g_2, 0, none⟩) := Option.some.inj (show some t7 = some (.pointer (some ⟨g_2, 0, none⟩)) from hK.k 7 _ rfl); obtain rfl : t9 = .slice v_12.Log_A v_12.Log.length v_12.Log_c := by simpa using hK.k 9 _ rfl
      obtain rfl : t10 = .pointer (some ⟨g_22, 0, none⟩) := Option.some.inj (show some t10 = some (.pointer (some ⟨g_22, 0, none⟩)) from hK.k 10 _ rfl)
      try (simp only [un2, un3, un4, un5, un6, un7, un8, Sum.elim_inl, Sum.elim_inr, List.length_map, KCopyL.n_Log] at hG; replace hG : _ = _ := hG)
      clear hK hE; simp only [List.length_map] at hG1; refine (wpIn_wide (n := 40)).1 ?_
      gi_wp2_with (refine ⟨trivial, ?_⟩; gi_at_call 56; refine (versions_in Fence.wide _ trivial rfl _ _ _ w).mono ?_; rintro e w1 ⟨rfl, rfl⟩)
      refine wp_block ?_; refine (wpIn_wide (n := 40)).1 ?_; have hXw := bX.lt; have h1w := b1.lt; have h2w := b2.lt; have hBb := (Blk.new w 81 #[.slice v_12.Log_A v_12.Log.length v_12.Log_c]).cell 0; obtain ⟨W1, hW1⟩ : ∃ W1, W1 = w.alloc (.cells #[.slice v_12.Log_A v_12.Log.length v_12.Log_c] 81) := ⟨_, rfl⟩; have hbl : Below w.heap.size w W1 := by rw [hW1]; exact (Below.refl _ _).alloc (Nat.le_refl _) _
      have hsz1 : W1.heap.size = w.heap.size + 1 := by rw [hW1]; simp
      simp only [← hW1] at hBb ⊢; clear hW1; have bX1 := bX.below hbl hXw; have b11 := b1.below hbl h1w; have b21 := b2.below hbl h2w; have hL1 := hL.kp (KpB.below hbl); have hW1n : w.heap.size ≠ g_22 := by omega
      have hzW : w0.heap.size ≤ W1.heap.size := by have := hB.size; omega
      have hzB : Below w0.heap.size w0 W1 := hB.trans (hbl.mono hB.size); have hsq := versions_stops Fence.wide (40 - 1) trivial rfl (by omega) w.heap.size g_22 v_12.Log_A v_12.Log_c v_12.Log hG1 (fun t ht => hG2 _ (List.mem_map_of_mem ht)) hW1n W1 bX1.lt hBb hL1; rw [vk_vs] at hsq; refine wpIn_rangeFunc_ownH (w := W1) rfl (by omega) (gf := 82) (lb := #[.pointer (some ⟨w.heap.size, 0, none⟩)]) rfl trivial (enters_of Tryz.func82 (by kernel_rfl) rfl) hsq (fun h k => h.trans k) (fun W l o o' _ h hc _ => KpB.put W l o o' h hc) (Below.refl _ _) (fun _ => rfl)
       (Sto38 w0.heap.size g_22 W1) (fun _ pre _ => (putsS [] pre).2 ≠ 0) (Sto38.own _ hzW) (fun _ _ _ _ _ hs _ _ => hs)
       ⟨KpB.refl _ _, Below.refl _ _, [], none, 0, rfl, Nat.zero_le _, by unfold maxLen; omega, bX1, Rd.nil _ _, fun _ h => by cases h⟩
       (fun x a' W => ∃ g, W1.heap.size ≤ g ∧ Blk W g 50 #[.int .i64 x.key, .int .i64 x.ts, .int .i64 x.value, .bool x.gone] ∧ a' = { tmps := #[t0, t1, .int .i64 p_2, t3, t4, t5, .pointer (some ⟨g_1, 0, none⟩), .pointer (some ⟨g_2, 0, none⟩), t8, .slice v_12.Log_A v_12.Log.length v_12.Log_c, .pointer (some ⟨g_22, 0, none⟩), .pointer (some ⟨g, 0, none⟩), t12, t13, t14, t15, t16, t17, t18, t19, t20, t21, t22, t23, t24, t25, t26, t27, t28, t29, t30, t31, t32, t33, t34, t35, t36, t37, t38, t39, t40, t41, t42, t43, t44, t45, t46, t47, t48, t49, .slice v_12.Log_A v_12.Log.length v_12.Log_c, .func (.func 82) #[] #[.pointer (some ⟨w.heap.size, 0, none⟩)], .agg #[.int .i64 x.key, .int .i64 x.ts, .int .i64 x.value, .bool x.gone], t53, t54, t55, t56, t57, t58, t59, t60, t61, t62, t63, t64, t65, t66, t67], defers := [] }) (fun x a' _ V W row hs hg hr => ?keep) ?assign ?body ?done ?stop
      case keep =>
       obtain ⟨g, h1, h2, h3⟩ := hs; exact ⟨g, h1, KpB.own (X := 0) hg (fun r e => (hr r e).2) h2 rfl, h3⟩
      case assign =>
       intro l pre x W K hS hK
       dsimp only [Ver.val]
       gi_wp2
       have hb := (Below.refl W.heap.size W).alloc (Nat.le_refl _) (.cells #[.int .i64 x.key, .int .i64 x.ts, .int .i64 x.value, .bool x.gone] 50); exact hK _ _ (keeps_below hb) (KpB.below hb) (hS.below hb hzW) ⟨W.heap.size, hS.k.size, Blk.new W _ _, rfl⟩
      case body =>
       rintro l pre x a' W hl hlr ⟨hk, hz0, m0, A0, c0, hm0, hmc, hcm, bX0, hv0, hA0⟩ ⟨g, hgl, hbg, rfl⟩ hlt; have hXl := bX0.lt; have b10 := b11.kp hk (Ne.symm hX1); have b20 := b21.kp hk (Ne.symm hX2); have cX : W.cell? ⟨g_22, 0, none⟩ = some (.slice A0 m0.length c0) := bX0.cell 0; have cg0 : W.cell? ⟨g, 0, none⟩ = some (.int .i64 x.key) := hbg.cell 0; have cg1 : W.cell? ⟨g, 1, none⟩ = some (.int .i64 x.ts) := hbg.cell 1; have cg2 : W.cell? ⟨g, 2, none⟩ = some (.int .i64 x.value) := hbg.cell 2; have cg3 : W.cell? ⟨g, 3, none⟩ = some (.bool x.gone) := hbg.cell 3; obtain ⟨⟨m2, e2⟩, hq⟩ : ∃ q, putS m0 x = q := ⟨_, rfl⟩; have hcall := put_fr A0 c0 m0 x W (by unfold maxLen at hcm; omega) hv0; rw [hq] at hcall; refine wpIn_block ?_
       gi_wp2_with (refine ⟨trivial, ?_⟩; gi_at_call 57; refine (CallsIn.inRound l (callsIn_wide.2 hcall)).mono ?_; rintro e w2 ⟨A2, c2, rfl, hl2, hm2, hv2, hf2, hb2⟩; have bX2 := bX0.below hb2 hXl; have b12 := b10.below hb2 b10.lt; have b22 := b20.below hb2 b20.lt; have cX2 := bX2.cell 0; have fX2 := bX2.frozen 0; have c12 := b12.cell 0; have f12 := b12.frozen 0; have c22 := b22.cell 0; have f22 := b22.frozen 0; dsimp only at hl2 hv2)
       ·rename_i hne
        have hne : e2 ≠ 0 := by simpa using hne
        refine ⟨keeps_two b10 b20 hb2 0 0 _ _, ?_⟩
        show (putsS [] (pre ++ [x])).2 ≠ 0; rw [puts_snoc x hm0, hq]
        simp [hne]
       ·rename_i hne
        have hne : e2 = 0 := by simpa using hne
        exact ⟨keeps_put bX0 hb2 0 _, (KpB.below hb2).trans (KpB.setX _ _ _ _), Sto38.put hk hz0 hzW hgX hXl hm0 (by rw [hq, hne]) hb2 hl2 hm2 bX2 rfl hv2 hf2⟩
      case done =>
       rintro D ys W hD rfl ⟨hk, hz0, m0, A0, c0, hm0, hmc, hcm, bX0, hv0, hA0⟩ hK; rw [hm] at hm0
       injection hm0 with e0 _
       subst e0; have hXl := bX0.lt; have b10 := b11.kp hk (Ne.symm hX1); have b20 := b21.kp hk (Ne.symm hX2); have cX : W.cell? ⟨g_22, 0, none⟩ = some (.slice A0 m.length c0) := bX0.cell 0; have hcall := read_fr A0 c0 m p_2 W (by unfold maxLen at hcm; omega) hv0; obtain ⟨⟨m2, e2⟩, hq⟩ : ∃ q, readS m p_2 = q := ⟨_, rfl⟩; rw [hq] at hcall
       change Code.wp _ _ _ _ _
       refine (wpIn_wide (n := 40)).1 ?_
       gi_wp2_with (refine ⟨trivial, ?_⟩; gi_at_call 58; refine (callsIn_wide.2 hcall).mono ?_; rintro e w2 ⟨A2, c2, rfl, hl2, hm2, hv2, hf2, hb2⟩; have b12 := b10.below hb2 b10.lt; have b22 := b20.below hb2 b20.lt; have c12 := b12.cell 0; have f12 := b12.frozen 0; have c22 := b22.cell 0; have f22 := b22.frozen 0; dsimp only at hl2 hv2)
       have hDl := (Array.getElem?_eq_some_iff.1 hK).1; have hDn : ∀ g t cs, Blk W g t cs → D ≠ g := fun g t cs hb e => by subst e; rw [hb] at hK; cases hK
       have hK3 : ((w2.setCell ⟨g_1, 0, none⟩ (.slice A2 m2.length c2)).setCell ⟨g_2, 0, none⟩ (.int .i64 e2)).heap[D]? = some (.deferred (some [])) := by
        rw [Below.heap_setCell _ ⟨g_2, 0, none⟩ _ D (hDn _ _ _ b20), Below.heap_setCell _ ⟨g_1, 0, none⟩ _ D (hDn _ _ _ b10)]; exact (hb2.block D hDl).trans hK
       refine ⟨by simp, .inl ⟨_, _, rfl, run_takeDeferred hK3, ?_⟩⟩; have d1 := ((b12.set_ 0 (.slice A2 m2.length c2)).far (p := ⟨g_2, 0, none⟩) (Ne.symm h21) (.int .i64 e2)); have d2 := ((b22.far (p := ⟨g_1, 0, none⟩) h21 (.slice A2 m2.length c2)).set_ 0 (.int .i64 e2)); have e1 := (World.cell?_of_block (World.putObj_heap_other (o := .deferred none) (hDn _ _ _ b10).symm)).trans (d1.cell 0); have e2' := (World.cell?_of_block (World.putObj_heap_other (o := .deferred none) (hDn _ _ _ b20).symm)).trans (d2.cell 0); exact ⟨_, sx_run (vs := [.slice A2 m2.length c2, .int .i64 e2]) (r := .tuple #[.slice A2 m2.length c2, .int .i64 e2]) (obs := [(⟨g_1, 0, none⟩, .slice A2 m2.length c2), (⟨g_2, 0, none⟩, .int .i64 e2)]) _ (by kernel_rfl) ⟨e1, e2', trivial⟩, rdOut hq (hzB.trans hz0) hb2 hg1 hg2 b10.lt b20.lt (by omega) hDl hl2 hv2 hf2 _⟩
      case stop =>
       rintro D c pre W _ hp hx _; obtain ⟨us, hu⟩ := hp; rw [← hu] at hm; obtain ⟨m', h1, _⟩ := puts_app hm; rw [h1] at hx; exact absurd rfl hx
end Go.Proofs.YtkchfmhgboiimaaGreat
namespace Go.Proofs.YtkchfmhgboiimaaGreat
open Go.RowKit Go.Maps
def G_regulatorlaw38_head (F : Nat)  : Option (Bool) :=
  Option.bind (G_regulatorlaw38_tx F 1 10 5 7) (fun v_1 =>
  Option.bind (G_regulatorlaw38_tx F 2 20 6 8) (fun v_2 =>
  Option.bind (G_regulatorlaw38_tx F 3 30 5 9) (fun v_3 =>
  Option.bind (slI ([v_1, v_2, v_3] : List KTx) 0 1) (fun v_5 =>
  Option.bind (slI ([v_1, v_2, v_3] : List KTx) 0 2) (fun v_6 =>
  Option.bind (G_copies_Safe F ([(⟨1, ([v_1, v_2, v_3] : List KTx)⟩ : KCopy), (⟨2, v_5⟩ : KCopy), (⟨3, v_6⟩ : KCopy)] : List KCopy)) (un2 fun v_8 v_9 =>
  Option.bind (G_copies_Elect F ([(⟨1, ([v_1, v_2, v_3] : List KTx)⟩ : KCopy), (⟨2, v_5⟩ : KCopy), (⟨3, v_6⟩ : KCopy)] : List KCopy) ([2, 3] : List Int)) (un2 fun v_11 v_12 =>
  Option.bind (G_copies_Elect F ([(⟨1, ([v_1, v_2, v_3] : List KTx)⟩ : KCopy), (⟨2, v_5⟩ : KCopy), (⟨3, v_6⟩ : KCopy)] : List KCopy) ([3, 1] : List Int)) (un2 fun v_14 v_15 =>
  Option.bind (G_copies_Ship F ([(⟨1, ([v_1, v_2, v_3] : List KTx)⟩ : KCopy), (⟨2, v_5⟩ : KCopy), (⟨3, v_6⟩ : KCopy)] : List KCopy) 1 3 1) (un2 fun v_16 v_17 =>
  Option.bind (G_copies_Safe F v_16) (un2 fun v_18 v_19 =>
  Option.bind (G_copies_Read F ([(⟨1, ([v_1, v_2, v_3] : List KTx)⟩ : KCopy), (⟨2, v_5⟩ : KCopy), (⟨3, v_6⟩ : KCopy)] : List KCopy) 3 20) (un2 fun v_20 v_21 =>
  Option.bind (G_copies_Read F ([(⟨1, ([v_1, v_2, v_3] : List KTx)⟩ : KCopy), (⟨2, v_5⟩ : KCopy), (⟨3, v_6⟩ : KCopy)] : List KCopy) 3 21) (un2 fun v_22 v_23 =>
  Option.bind (G_copies_Elect F ([(⟨1, ([v_1, v_2, v_3] : List KTx)⟩ : KCopy), (⟨2, v_5⟩ : KCopy), (⟨3, v_6⟩ : KCopy)] : List KCopy) ([2] : List Int)) (un2 fun v_25 v_26 =>
  Option.bind (ifB ((v_9 == 0))
      (ifB ((v_12 == 0))
        (ifB ((v_15 == 0))
          (ifB ((v_17 == 0))
            (ifB ((v_19 == 0))
              (ifB ((v_21 == 0))
                (ifB ((v_23 == 63))
                  (some (v_26 == 20))
                  (some false))
                (some false))
              (some false))
            (some false))
          (some false))
        (some false))
      (some false) : Option (Bool)) (fun (v_35 : Bool) => 
    Option.bind (ifB (v_35)
        (ifB ((v_8 == 2))
          (ifB ((v_11 == 3))
            (ifB ((v_14 == 1))
              (ifB ((v_18 == 3))
                (Option.bind (G_copies_Valid F ([(⟨1, ([v_1, v_2, v_3] : List KTx)⟩ : KCopy), (⟨2, v_5⟩ : KCopy), (⟨3, v_6⟩ : KCopy)] : List KCopy)) (fun v_41 =>
                some v_41))
                (some false))
              (some false))
            (some false))
          (some false))
        (some false) : Option (Bool)) (fun (v_43 : Bool) => 
      Option.bind (ifB (v_43)
          (Option.bind (G_regulatorref33_Same F v_20 ([(⟨5, 10, 7, false⟩ : KVersion), (⟨6, 20, 8, false⟩ : KVersion)] : List KVersion)) (fun v_46 =>
          some v_46))
          (some false) : Option (Bool)) (fun (v_48 : Bool) => 
        some v_48))))))))))))))))
set_option maxRecDepth 100000 in
set_option maxHeartbeats 16000000 in
theorem z_regulatorlaw38_head (F : Nat)  (r : Bool) (hG : G_regulatorlaw38_head F  = some r) :
  Cf Tryz.prog 10 [] [] (B r) := by
 unfold G_regulatorlaw38_head at hG
 try (simp only [un2, un3, un4, un5, un6, un7, un8, Sum.elim_inl, Sum.elim_inr, List.length_map, KCopyL.n_Log] at hG; replace hG : _ = _ := hG)
 refine fi Tryz.func10 rfl rfl m0 fun S0 w0 hT => ?_
 refine sq ?_; refine rg ?_; refine ra [] f0 [] ?_; refine tN ?_; refine sq ?_; replace hG := bind_some hG; obtain ⟨v_1o, hy_1, hG⟩ := hG; replace hG := bind_some hG; obtain ⟨v_2o, hy_2, hG⟩ := hG; replace hG := bind_some hG; obtain ⟨v_3o, hy_3, hG⟩ := hG; refine rg ?_; refine l1 ?_; refine cn 20 (z_regulatorlaw38_tx F 1 10 5 7 _ hy_1) hT (fun _ => (mc KTxL.mv m0)) trivial ?_; rintro v_1 hq_1; obtain rfl : v_1.p = v_1o := hq_1.symm
 try (simp only [un2, un3, un4, un5, un6, un7, un8, Sum.elim_inl, Sum.elim_inr, List.length_map, KCopyL.n_Log] at hG; replace hG : _ = _ := hG)
 refine l1 ?_; refine cn 21 (z_regulatorlaw38_tx F 2 20 6 8 _ hy_2) hT (fun _ => (mc KTxL.mv m0)) trivial ?_; rintro v_2 hq_2; obtain rfl : v_2.p = v_2o := hq_2.symm
 try (simp only [un2, un3, un4, un5, un6, un7, un8, Sum.elim_inl, Sum.elim_inr, List.length_map, KCopyL.n_Log] at hG; replace hG : _ = _ := hG)
 refine l1 ?_; refine cn 22 (z_regulatorlaw38_tx F 3 30 5 9 _ hy_3) hT (fun _ => (mc KTxL.mv m0)) trivial ?_; rintro v_3 hq_3; obtain rfl : v_3.p = v_3o := hq_3.symm
 try (simp only [un2, un3, un4, un5, un6, un7, un8, Sum.elim_inl, Sum.elim_inr, List.length_map, KCopyL.n_Log] at hG; replace hG : _ = _ := hG)
 refine l1 ?_; refine nw 23 (vs 3) [I v_1.ID, I v_1.Ts, .slice v_1.Reads_A v_1.Reads.length v_1.Reads_c, .slice v_1.Writes_A v_1.Writes.length v_1.Writes_c, I v_2.ID, I v_2.Ts, .slice v_2.Reads_A v_2.Reads.length v_2.Reads_c, .slice v_2.Writes_A v_2.Writes.length v_2.Writes_c, I v_3.ID, I v_3.Ts, .slice v_3.Reads_A v_3.Reads.length v_3.Reads_c, .slice v_3.Writes_A v_3.Writes.length v_3.Writes_c] 47 fun g_4 => ?_
 refine ra [] f0 [(1, Sb g_4 3 3)] ?_; refine tN ?_; refine sq ?_; replace hG := bind_some hG; obtain ⟨v_5o, hy_5, hG⟩ := hG; replace hG := bind_some hG; obtain ⟨v_6o, hy_6, hG⟩ := hG; refine sB 0 g_4 KTxL.cells KTxL.ok ([v_1, v_2, v_3] : List KTxL) KTxL.mv (ec (gi 3) (ec (gi 2) (ec (gi 1) e0))) ?_; refine fpn (p := KTxL.p) false true inf38 (gd' (RowC (some ⟨g_4, 0, none⟩) 3 KTxL.cells KTxL.ok ([v_1, v_2, v_3] : List KTxL)) 0) hy_5 fun v_5 v_5_A v_5_c he_5 hp_5 => ?_
 subst he_5
 try (simp only [un2, un3, un4, un5, un6, un7, un8, Sum.elim_inl, Sum.elim_inr, List.length_map, KCopyL.n_Log] at hG; replace hG : _ = _ := hG)
 refine fpn (p := KTxL.p) false true inf38 (gd' (RowC (some ⟨g_4, 0, none⟩) 3 KTxL.cells KTxL.ok ([v_1, v_2, v_3] : List KTxL)) 1) hy_6 fun v_6 v_6_A v_6_c he_6 hp_6 => ?_
 subst he_6
 try (simp only [un2, un3, un4, un5, un6, un7, un8, Sum.elim_inl, Sum.elim_inr, List.length_map, KCopyL.n_Log] at hG; replace hG : _ = _ := hG)
 refine hb [0, 1, 2, 3, 4, 5] ?_; refine ht [0, 1, 2, 3, 4, 5] [0, 1, 2, 3, 4, 5, 6, 7] [(3, 0, 0, 0), (2, 0, 0, 0)] (fc (hp_5 .i64 .i64) (fc (hp_6 .i64 .i64) f0)) [(25, .agg #[I 1, Sb g_4 3 3]), (28, .agg #[I 2, .slice v_5_A v_5.length v_5_c]), (31, .agg #[I 3, .slice v_6_A v_6.length v_6_c])] ?_; refine ho [8] ⟨?_, trivial⟩; refine h1 ?_; refine nw 32 (vs 3) [I 1, Sb g_4 3 3, I 2, .slice v_5_A v_5.length v_5_c, I 3, .slice v_6_A v_6.length v_6_c] 40 fun g_7 => ?_
 refine hk [1, 2, 3, 4, 5, 6] ?_; refine ht [1, 2, 3, 4, 5, 6] [9] [] f0 [(2, Sb g_7 3 3)] ?_; refine he ?_; refine tN ?_; refine sq ?_; replace hG := bind_some hG; obtain ⟨⟨v_8, v_9⟩, hy_8, hG⟩ := hG; refine rg ?_; refine rn 1 [] f0 [(34, Sb g_7 3 3)] ?_; refine l1 ?_; refine cl 35 (z_copies_Safe F (some ⟨g_7, 0, none⟩) 3 ([(⟨1, (some ⟨g_4, 0, none⟩), 3, ([v_1, v_2, v_3] : List KTxL)⟩ : KCopyL), (⟨2, v_5_A, v_5_c, v_5⟩ : KCopyL), (⟨3, v_6_A, v_6_c, v_6⟩ : KCopyL)] : List KCopyL) _ hy_8) hT ⟨ba 0 (ec (((gd' (RowC (some ⟨g_4, 0, none⟩) 3 KTxL.cells KTxL.ok ([v_1, v_2, v_3] : List KTxL)) 3)).m fun _ _ h => ⟨h⟩) (ec (((gd' (RowC v_5_A v_5_c KTxL.cells KTxL.ok v_5) 2)).m fun _ _ h => ⟨h⟩) (ec (((gd' (RowC v_6_A v_6_c KTxL.cells KTxL.ok v_6) 1)).m fun _ _ h => ⟨h⟩) e0))).a, trivial⟩ ?_; refine ra [] f0 [(3, I v_8), (4, I v_9)] ?_; refine tN ?_; refine sq ?_; replace hG := bind_some hG; obtain ⟨⟨v_11, v_12⟩, hy_11, hG⟩ := hG; refine rg ?_; refine rn 1 [] f0 [(39, Sb g_7 3 3)] ?_; refine l1 ?_; refine nw 40 (vs 2) [I 2, I 3] 3 fun g_10 => ?_
 refine l1 ?_; refine cl 41 (z_copies_Elect F (some ⟨g_7, 0, none⟩) 3 ([(⟨1, (some ⟨g_4, 0, none⟩), 3, ([v_1, v_2, v_3] : List KTxL)⟩ : KCopyL), (⟨2, v_5_A, v_5_c, v_5⟩ : KCopyL), (⟨3, v_6_A, v_6_c, v_6⟩ : KCopyL)] : List KCopyL) (some ⟨g_10, 0, none⟩) 2 ([2, 3] : List Int) _ hy_11) hT ⟨ba 1 (ec (((gd' (RowC (some ⟨g_4, 0, none⟩) 3 KTxL.cells KTxL.ok ([v_1, v_2, v_3] : List KTxL)) 4)).m fun _ _ h => ⟨h⟩) (ec (((gd' (RowC v_5_A v_5_c KTxL.cells KTxL.ok v_5) 3)).m fun _ _ h => ⟨h⟩) (ec (((gd' (RowC v_6_A v_6_c KTxL.cells KTxL.ok v_6) 2)).m fun _ _ h => ⟨h⟩) e0))).a, ba 0 et.a, trivial⟩ ?_; refine ra [] f0 [(5, I v_11), (6, I v_12)] ?_; refine tN ?_; refine sq ?_; replace hG := bind_some hG; obtain ⟨⟨v_14, v_15⟩, hy_14, hG⟩ := hG; refine rg ?_; refine rn 1 [] f0 [(45, Sb g_7 3 3)] ?_; refine l1 ?_; refine nw 46 (vs 2) [I 3, I 1] 3 fun g_13 => ?_
 refine l1 ?_; refine cl 47 (z_copies_Elect F (some ⟨g_7, 0, none⟩) 3 ([(⟨1, (some ⟨g_4, 0, none⟩), 3, ([v_1, v_2, v_3] : List KTxL)⟩ : KCopyL), (⟨2, v_5_A, v_5_c, v_5⟩ : KCopyL), (⟨3, v_6_A, v_6_c, v_6⟩ : KCopyL)] : List KCopyL) (some ⟨g_13, 0, none⟩) 2 ([3, 1] : List Int) _ hy_14) hT ⟨ba 2 (ec (((gd' (RowC (some ⟨g_4, 0, none⟩) 3 KTxL.cells KTxL.ok ([v_1, v_2, v_3] : List KTxL)) 5)).m fun _ _ h => ⟨h⟩) (ec (((gd' (RowC v_5_A v_5_c KTxL.cells KTxL.ok v_5) 4)).m fun _ _ h => ⟨h⟩) (ec (((gd' (RowC v_6_A v_6_c KTxL.cells KTxL.ok v_6) 3)).m fun _ _ h => ⟨h⟩) e0))).a, ba 0 et.a, trivial⟩ ?_; refine ra [] f0 [(7, I v_14), (8, I v_15)] ?_; refine tN ?_; refine sq ?_; replace hG := bind_some hG; obtain ⟨⟨v_16o, v_17⟩, hy_16, hG⟩ := hG; refine rg ?_; refine rn 1 [] f0 [(51, Sb g_7 3 3)] ?_; refine sB 2 g_7 KCopyL.cells KCopyL.ok ([(⟨1, (some ⟨g_4, 0, none⟩), 3, ([v_1, v_2, v_3] : List KTxL)⟩ : KCopyL), (⟨2, v_5_A, v_5_c, v_5⟩ : KCopyL), (⟨3, v_6_A, v_6_c, v_6⟩ : KCopyL)] : List KCopyL) KCopyL.mv (ec (((gd' (RowC (some ⟨g_4, 0, none⟩) 3 KTxL.cells KTxL.ok ([v_1, v_2, v_3] : List KTxL)) 5)).m fun _ _ h => ⟨h⟩) (ec (((gd' (RowC v_5_A v_5_c KTxL.cells KTxL.ok v_5) 4)).m fun _ _ h => ⟨h⟩) (ec (((gd' (RowC v_6_A v_6_c KTxL.cells KTxL.ok v_6) 3)).m fun _ _ h => ⟨h⟩) e0))) ?_; refine l1 ?_; refine cn 52 (z_copies_Ship F (some ⟨g_7, 0, none⟩) 3 ([(⟨1, (some ⟨g_4, 0, none⟩), 3, ([v_1, v_2, v_3] : List KTxL)⟩ : KCopyL), (⟨2, v_5_A, v_5_c, v_5⟩ : KCopyL), (⟨3, v_6_A, v_6_c, v_6⟩ : KCopyL)] : List KCopyL) 1 3 1 _ hy_16) hT (fun _ => (mr KCopyL.mv m0)) ⟨gi 2, trivial⟩ ?_; rintro ⟨v_16_A, v_16_c, v_16⟩ hq_16; obtain rfl : (v_16.map KCopyL.p) = v_16o := hq_16.symm
 try (simp only [un2, un3, un4, un5, un6, un7, un8, Sum.elim_inl, Sum.elim_inr, List.length_map, KCopyL.n_Log] at hG; replace hG : _ = _ := hG)
 refine ra [] f0 [(9, .slice v_16_A v_16.length v_16_c), (10, I v_17)] ?_; refine tN ?_; refine sq ?_; replace hG := bind_some hG; obtain ⟨⟨v_18, v_19⟩, hy_18, hG⟩ := hG; refine rg ?_; refine rn 1 [] f0 [(56, .slice v_16_A v_16.length v_16_c)] ?_; refine l1 ?_; refine cl 57 (z_copies_Safe F v_16_A v_16_c v_16 _ hy_18) hT ⟨ga 0, trivial⟩ ?_; refine ra [] f0 [(11, I v_18), (12, I v_19)] ?_; refine tN ?_; refine sq ?_; replace hG := bind_some hG; obtain ⟨⟨v_20o, v_21⟩, hy_20, hG⟩ := hG; refine rg ?_; refine rn 1 [] f0 [(61, Sb g_7 3 3)] ?_; refine l1 ?_; refine cn 62 (z_copies_Read F (some ⟨g_7, 0, none⟩) 3 ([(⟨1, (some ⟨g_4, 0, none⟩), 3, ([v_1, v_2, v_3] : List KTxL)⟩ : KCopyL), (⟨2, v_5_A, v_5_c, v_5⟩ : KCopyL), (⟨3, v_6_A, v_6_c, v_6⟩ : KCopyL)] : List KCopyL) 3 20 _ hy_20) hT (fun _ => (mr tr_mv m0)) ⟨gi 3, trivial⟩ ?_; rintro ⟨v_20_A, v_20_c, v_20⟩ hq_20; obtain rfl : v_20 = v_20o := hq_20.symm
 try (simp only [un2, un3, un4, un5, un6, un7, un8, Sum.elim_inl, Sum.elim_inr, List.length_map, KCopyL.n_Log] at hG; replace hG : _ = _ := hG)
 refine ra [] f0 [(13, .slice v_20_A v_20.length v_20_c), (14, I v_21)] ?_; refine tN ?_; refine sq ?_; replace hG := bind_some hG; obtain ⟨⟨v_22o, v_23⟩, hy_22, hG⟩ := hG; refine rg ?_; refine rn 1 [] f0 [(66, Sb g_7 3 3)] ?_; refine l1 ?_; refine cn 67 (z_copies_Read F (some ⟨g_7, 0, none⟩) 3 ([(⟨1, (some ⟨g_4, 0, none⟩), 3, ([v_1, v_2, v_3] : List KTxL)⟩ : KCopyL), (⟨2, v_5_A, v_5_c, v_5⟩ : KCopyL), (⟨3, v_6_A, v_6_c, v_6⟩ : KCopyL)] : List KCopyL) 3 21 _ hy_22) hT (fun _ => (mr tr_mv m0)) ⟨gi 4, trivial⟩ ?_; rintro ⟨v_22_A, v_22_c, v_22⟩ hq_22; obtain rfl : v_22 = v_22o := hq_22.symm
 try (simp only [un2, un3, un4, un5, un6, un7, un8, Sum.elim_inl, Sum.elim_inr, List.length_map, KCopyL.n_Log] at hG; replace hG : _ = _ := hG)
 refine ra [] f0 [(16, I v_23)] ?_; refine tN ?_; refine sq ?_; replace hG := bind_some hG; obtain ⟨⟨v_25, v_26⟩, hy_25, hG⟩ := hG; refine rg ?_; refine rn 1 [] f0 [(71, Sb g_7 3 3)] ?_; refine l1 ?_; refine nw 72 (vs 1) [I 2] 3 fun g_24 => ?_
 refine l1 ?_; refine cl 73 (z_copies_Elect F (some ⟨g_7, 0, none⟩) 3 ([(⟨1, (some ⟨g_4, 0, none⟩), 3, ([v_1, v_2, v_3] : List KTxL)⟩ : KCopyL), (⟨2, v_5_A, v_5_c, v_5⟩ : KCopyL), (⟨3, v_6_A, v_6_c, v_6⟩ : KCopyL)] : List KCopyL) (some ⟨g_24, 0, none⟩) 1 ([2] : List Int) _ hy_25) hT ⟨ga 6, ba 0 et.a, trivial⟩ ?_; refine ra [] f0 [(18, I v_26)] ?_; refine tN ?_; obtain ⟨o_34, hG, hG_34⟩ := bind_some hG; refine jn (fun K E a w => ∃ (v_35 : Bool), Js S0 w0 135 ([(19, B v_35)] ++ K) (se E [2, 6]) (v_35 = o_34) a w) ?_ ?_
 ·replace hG := ifB_cases hG; rcases hG with ⟨h_27, hG⟩ | ⟨h_27, hG⟩
  ·replace hG := ifB_cases hG; rcases hG with ⟨h_28, hG⟩ | ⟨h_28, hG⟩
   ·replace hG := ifB_cases hG; rcases hG with ⟨h_29, hG⟩ | ⟨h_29, hG⟩
    ·replace hG := ifB_cases hG; rcases hG with ⟨h_30, hG⟩ | ⟨h_30, hG⟩
     ·replace hG := ifB_cases hG; rcases hG with ⟨h_31, hG⟩ | ⟨h_31, hG⟩
      ·replace hG := ifB_cases hG; rcases hG with ⟨h_32, hG⟩ | ⟨h_32, hG⟩
       ·replace hG := ifB_cases hG; rcases hG with ⟨h_33, hG⟩ | ⟨h_33, hG⟩
        ·refine rg ?_; refine rn 3 [] f0 [(78, B (v_9 == 0))] ?_; refine sb 78 (bt h_27) ?_; refine rn 4 [] f0 [(82, B (v_12 == 0))] ?_; refine sb 82 (bt h_28) ?_; refine rn 4 [] f0 [(86, B (v_15 == 0))] ?_; refine sb 86 (bt h_29) ?_; refine rn 4 [] f0 [(90, B (v_17 == 0))] ?_; refine sb 90 (bt h_30) ?_; refine rn 4 [] f0 [(94, B (v_19 == 0))] ?_; refine sb 94 (bt h_31) ?_; refine rn 4 [] f0 [(98, B (v_21 == 0))] ?_; refine sb 98 (bt h_32) ?_; refine rn 4 [] f0 [(102, B (v_23 == 63))] ?_; refine sb 102 (bt h_33) ?_; refine ra [] f0 [(19, B (v_26 == 20))] ?_; refine tN ?_; exact fun a w S hK hE => ⟨(v_26 == 20), S, hK.wk, hE.sel [2, 6], Option.some.inj hG⟩
        ·refine rg ?_; refine rn 3 [] f0 [(78, B (v_9 == 0))] ?_; refine sb 78 (bt h_27) ?_; refine rn 4 [] f0 [(82, B (v_12 == 0))] ?_; refine sb 82 (bt h_28) ?_; refine rn 4 [] f0 [(86, B (v_15 == 0))] ?_; refine sb 86 (bt h_29) ?_; refine rn 4 [] f0 [(90, B (v_17 == 0))] ?_; refine sb 90 (bt h_30) ?_; refine rn 4 [] f0 [(94, B (v_19 == 0))] ?_; refine sb 94 (bt h_31) ?_; refine rn 4 [] f0 [(98, B (v_21 == 0))] ?_; refine sb 98 (bt h_32) ?_; refine rn 4 [] f0 [(102, B (v_23 == 63))] ?_; refine sb 102 (bf h_33) ?_; refine ra [] f0 [(19, B false)] ?_; refine tN ?_; exact fun a w S hK hE => ⟨false, S, hK.wk, hE.sel [2, 6], Option.some.inj hG⟩
       ·refine rg ?_; refine rn 3 [] f0 [(78, B (v_9 == 0))] ?_; refine sb 78 (bt h_27) ?_; refine rn 4 [] f0 [(82, B (v_12 == 0))] ?_; refine sb 82 (bt h_28) ?_; refine rn 4 [] f0 [(86, B (v_15 == 0))] ?_; refine sb 86 (bt h_29) ?_; refine rn 4 [] f0 [(90, B (v_17 == 0))] ?_; refine sb 90 (bt h_30) ?_; refine rn 4 [] f0 [(94, B (v_19 == 0))] ?_; refine sb 94 (bt h_31) ?_; refine rn 4 [] f0 [(98, B (v_21 == 0))] ?_; refine sb 98 (bf h_32) ?_; refine ra [] f0 [(19, B false)] ?_; refine tN ?_; exact fun a w S hK hE => ⟨false, S, hK.wk, hE.sel [2, 6], Option.some.inj hG⟩
      ·refine rg ?_; refine rn 3 [] f0 [(78, B (v_9 == 0))] ?_; refine sb 78 (bt h_27) ?_; refine rn 4 [] f0 [(82, B (v_12 == 0))] ?_; refine sb 82 (bt h_28) ?_; refine rn 4 [] f0 [(86, B (v_15 == 0))] ?_; refine sb 86 (bt h_29) ?_; refine rn 4 [] f0 [(90, B (v_17 == 0))] ?_; refine sb 90 (bt h_30) ?_; refine rn 4 [] f0 [(94, B (v_19 == 0))] ?_; refine sb 94 (bf h_31) ?_; refine ra [] f0 [(19, B false)] ?_; refine tN ?_; exact fun a w S hK hE => ⟨false, S, hK.wk, hE.sel [2, 6], Option.some.inj hG⟩
     ·refine rg ?_; refine rn 3 [] f0 [(78, B (v_9 == 0))] ?_; refine sb 78 (bt h_27) ?_; refine rn 4 [] f0 [(82, B (v_12 == 0))] ?_; refine sb 82 (bt h_28) ?_; refine rn 4 [] f0 [(86, B (v_15 == 0))] ?_; refine sb 86 (bt h_29) ?_; refine rn 4 [] f0 [(90, B (v_17 == 0))] ?_; refine sb 90 (bf h_30) ?_; refine ra [] f0 [(19, B false)] ?_; refine tN ?_; exact fun a w S hK hE => ⟨false, S, hK.wk, hE.sel [2, 6], Option.some.inj hG⟩
    ·refine rg ?_; refine rn 3 [] f0 [(78, B (v_9 == 0))] ?_; refine sb 78 (bt h_27) ?_; refine rn 4 [] f0 [(82, B (v_12 == 0))] ?_; refine sb 82 (bt h_28) ?_; refine rn 4 [] f0 [(86, B (v_15 == 0))] ?_; refine sb 86 (bf h_29) ?_; refine ra [] f0 [(19, B false)] ?_; refine tN ?_; exact fun a w S hK hE => ⟨false, S, hK.wk, hE.sel [2, 6], Option.some.inj hG⟩
   ·refine rg ?_; refine rn 3 [] f0 [(78, B (v_9 == 0))] ?_; refine sb 78 (bt h_27) ?_; refine rn 4 [] f0 [(82, B (v_12 == 0))] ?_; refine sb 82 (bf h_28) ?_; refine ra [] f0 [(19, B false)] ?_; refine tN ?_; exact fun a w S hK hE => ⟨false, S, hK.wk, hE.sel [2, 6], Option.some.inj hG⟩
  ·refine rg ?_; refine rn 3 [] f0 [(78, B (v_9 == 0))] ?_; refine sb 78 (bf h_27) ?_; refine ra [] f0 [(19, B false)] ?_; refine tN ?_; exact fun a w S hK hE => ⟨false, S, hK.wk, hE.sel [2, 6], Option.some.inj hG⟩
 ·rintro a w ⟨v_35, hJ⟩; refine hJ.go fun ho_ => ?_
  clear hJ; subst ho_; replace hG := hG_34
  try (simp only [un2, un3, un4, un5, un6, un7, un8, Sum.elim_inl, Sum.elim_inr, List.length_map, KCopyL.n_Log] at hG; replace hG : _ = _ := hG)
  obtain ⟨o_42, hG, hG_42⟩ := bind_some hG; refine jn (fun K E a w => ∃ (v_43 : Bool), Js S0 w0 135 ([(19, B v_43)] ++ K) (se E [0]) (v_43 = o_42) a w) ?_ ?_
  ·replace hG := ifB_cases hG; rcases hG with ⟨h_36, hG⟩ | ⟨h_36, hG⟩
   ·replace hG := ifB_cases hG; rcases hG with ⟨h_37, hG⟩ | ⟨h_37, hG⟩
    ·replace hG := ifB_cases hG; rcases hG with ⟨h_38, hG⟩ | ⟨h_38, hG⟩
     ·replace hG := ifB_cases hG; rcases hG with ⟨h_39, hG⟩ | ⟨h_39, hG⟩
      ·replace hG := ifB_cases hG; rcases hG with ⟨h_40, hG⟩ | ⟨h_40, hG⟩
       ·replace hG := bind_some hG; obtain ⟨v_41, hy_41, hG⟩ := hG; refine rg ?_; refine rn 2 [] f0 [(107, B v_35)] ?_; refine sb 107 (bt h_36) ?_; refine rn 4 [] f0 [(111, B (v_8 == 2))] ?_; refine sb 111 (bt h_37) ?_; refine rn 4 [] f0 [(115, B (v_11 == 3))] ?_; refine sb 115 (bt h_38) ?_; refine rn 4 [] f0 [(119, B (v_14 == 1))] ?_; refine sb 119 (bt h_39) ?_; refine rn 4 [] f0 [(123, B (v_18 == 3))] ?_; refine sb 123 (bt h_40) ?_; refine rn 1 [] f0 [(124, Sb g_7 3 3)] ?_; refine l1 ?_; refine cl 125 (z_copies_Valid F (some ⟨g_7, 0, none⟩) 3 ([(⟨1, (some ⟨g_4, 0, none⟩), 3, ([v_1, v_2, v_3] : List KTxL)⟩ : KCopyL), (⟨2, v_5_A, v_5_c, v_5⟩ : KCopyL), (⟨3, v_6_A, v_6_c, v_6⟩ : KCopyL)] : List KCopyL) _ hy_41) hT ⟨ga 1, trivial⟩ ?_; refine ra [] f0 [(19, B v_41)] ?_; refine tN ?_; exact fun a w S hK hE => ⟨v_41, S, hK.wk, hE.sel [0], Option.some.inj hG⟩
       ·refine rg ?_; refine rn 2 [] f0 [(107, B v_35)] ?_; refine sb 107 (bt h_36) ?_; refine rn 4 [] f0 [(111, B (v_8 == 2))] ?_; refine sb 111 (bt h_37) ?_; refine rn 4 [] f0 [(115, B (v_11 == 3))] ?_; refine sb 115 (bt h_38) ?_; refine rn 4 [] f0 [(119, B (v_14 == 1))] ?_; refine sb 119 (bt h_39) ?_; refine rn 4 [] f0 [(123, B (v_18 == 3))] ?_; refine sb 123 (bf h_40) ?_; refine ra [] f0 [(19, B false)] ?_; refine tN ?_; exact fun a w S hK hE => ⟨false, S, hK.wk, hE.sel [0], Option.some.inj hG⟩
      ·refine rg ?_; refine rn 2 [] f0 [(107, B v_35)] ?_; refine sb 107 (bt h_36) ?_; refine rn 4 [] f0 [(111, B (v_8 == 2))] ?_; refine sb 111 (bt h_37) ?_; refine rn 4 [] f0 [(115, B (v_11 == 3))] ?_; refine sb 115 (bt h_38) ?_; refine rn 4 [] f0 [(119, B (v_14 == 1))] ?_; refine sb 119 (bf h_39) ?_; refine ra [] f0 [(19, B false)] ?_; refine tN ?_; exact fun a w S hK hE => ⟨false, S, hK.wk, hE.sel [0], Option.some.inj hG⟩
     ·refine rg ?_; refine rn 2 [] f0 [(107, B v_35)] ?_; refine sb 107 (bt h_36) ?_; refine rn 4 [] f0 [(111, B (v_8 == 2))] ?_; refine sb 111 (bt h_37) ?_; refine rn 4 [] f0 [(115, B (v_11 == 3))] ?_; refine sb 115 (bf h_38) ?_; refine ra [] f0 [(19, B false)] ?_; refine tN ?_; exact fun a w S hK hE => ⟨false, S, hK.wk, hE.sel [0], Option.some.inj hG⟩
    ·refine rg ?_; refine rn 2 [] f0 [(107, B v_35)] ?_; refine sb 107 (bt h_36) ?_; refine rn 4 [] f0 [(111, B (v_8 == 2))] ?_; refine sb 111 (bf h_37) ?_; refine ra [] f0 [(19, B false)] ?_; refine tN ?_; exact fun a w S hK hE => ⟨false, S, hK.wk, hE.sel [0], Option.some.inj hG⟩
   ·refine rg ?_; refine rn 2 [] f0 [(107, B v_35)] ?_; refine sb 107 (bf h_36) ?_; refine ra [] f0 [(19, B false)] ?_; refine tN ?_; exact fun a w S hK hE => ⟨false, S, hK.wk, hE.sel [0], Option.some.inj hG⟩
  ·rintro a w ⟨v_43, hJ⟩; refine hJ.go fun ho_ => ?_
   clear hJ; subst ho_; replace hG := hG_42
   try (simp only [un2, un3, un4, un5, un6, un7, un8, Sum.elim_inl, Sum.elim_inr, List.length_map, KCopyL.n_Log] at hG; replace hG : _ = _ := hG)
   obtain ⟨o_47, hG, hG_47⟩ := bind_some hG; refine jn (fun K E a w => ∃ (v_48 : Bool), Js S0 w0 135 ([(0, B v_48)] ++ K) (se E []) (v_48 = o_47) a w) ?_ ?_
   ·replace hG := ifB_cases hG; rcases hG with ⟨h_44, hG⟩ | ⟨h_44, hG⟩
    ·replace hG := bind_some hG; obtain ⟨v_46, hy_46, hG⟩ := hG; refine rg ?_; refine rn 2 [] f0 [(128, B v_43)] ?_; refine sb 128 (bt h_44) ?_; refine rn 3 [] f0 [(129, .slice v_20_A v_20.length v_20_c), (130, .agg #[I 5, I 10, I 7, B false]), (131, .agg #[I 6, I 20, I 8, B false])] ?_; refine l1 ?_; refine nw 132 (vs 2) [I 5, I 10, I 7, B false, I 6, I 20, I 8, B false] 50 fun g_45 => ?_
     refine l1 ?_; refine cl 133 (z_regulatorref33_Same F v_20_A v_20_c v_20 (some ⟨g_45, 0, none⟩) 2 ([(⟨5, 10, 7, false⟩ : KVersion), (⟨6, 20, 8, false⟩ : KVersion)] : List KVersion) _ hy_46) hT ⟨ga 1, ba 0 et.a, trivial⟩ ?_; refine ra [] f0 [(0, B v_46)] ?_; refine tN ?_; exact fun a w S hK hE => ⟨v_46, S, hK.wk, hE.sel [], Option.some.inj hG⟩
    ·refine rg ?_; refine rn 2 [] f0 [(128, B v_43)] ?_; refine sb 128 (bf h_44) ?_; refine ra [] f0 [(0, B false)] ?_; refine tN ?_; exact fun a w S hK hE => ⟨false, S, hK.wk, hE.sel [], Option.some.inj hG⟩
   ·rintro a w ⟨v_48, hJ⟩; refine hJ.go fun ho_ => ?_
    clear hJ; subst ho_; replace hG := hG_47
    try (simp only [un2, un3, un4, un5, un6, un7, un8, Sum.elim_inl, Sum.elim_inr, List.length_map, KCopyL.n_Log] at hG; replace hG : _ = _ := hG)
    refine kR ?_; obtain rfl := Option.some.inj hG; exact rt []
def G_regulatorref38_Elect (F : Nat) (p_0 : List KCopy) (p_1 : List Int) : Option (Int × Int) :=
  Option.bind (G_regulatorref38_Valid F p_0) (fun v_1 =>
  ifB (v_1)
    (Option.bind (Option.bind (iter (σ := Int) (ρ := Unit ⊕ Unit) (fun (v_46 : Int) => 
          (ifB (decide (v_46 < ((p_1.length : Nat) : Int)))
            (Option.bind (Option.bind (ixI p_1 v_46) (fun v_49 =>
              Option.bind (G_regulatorref38_find F p_0 v_49) (fun v_52 =>
              ifB (decide (v_52 < 0))
                (some (.inr ()))
                (Option.bind (iter (σ := Int) (ρ := Unit ⊕ Unit) (fun (v_71 : Int) => 
                    (ifB (decide (v_71 < v_46))
                      (Option.bind (ixI p_1 v_71) (fun v_74 =>
                      Option.bind (ixI p_1 v_46) (fun v_77 =>
                      ifB ((v_74 == v_77))
                        (some (.inr (.inr ())))
                        (some (.inl (IntKind.i64.wrap (v_71 + 1)))))))
                      (some (.inr (.inl ()))) : Option (Int ⊕ (Unit ⊕ Unit)))) F 0) (Sum.elim (fun (_ : Unit) => 
                  some (.inl ())) (fun (_ : Unit) => 
                  some (.inr ())))))) : Option (Unit ⊕ Unit)) (Sum.elim (fun (_ : Unit) => 
              some (.inl (IntKind.i64.wrap (v_46 + 1)))) (fun (_ : Unit) => 
              some (.inr (.inr ())))))
            (some (.inr (.inl ()))) : Option (Int ⊕ (Unit ⊕ Unit)))) F 0) (Sum.elim (fun (_ : Unit) => 
        some (.inl ())) (fun (_ : Unit) => 
        some (.inr ()))) : Option (Unit ⊕ Unit)) (Sum.elim (fun (_ : Unit) => 
      ifB (decide (((p_1.length : Nat) : Int) < (IntKind.i64.wrap ((IntKind.i64.wrap (Int.tdiv ((p_0.length : Nat) : Int) 2)) + 1))))
        (some (0, 20))
        (Option.bind (Option.bind (iter (σ := Int × Int) (ρ := Int) (un2 fun (v_217 : Int) (v_218 : Int) => 
              (ifB (decide (v_217 < ((p_0.length : Nat) : Int)))
                (Option.bind (Option.bind (iter (σ := Int × Int) (ρ := Int) (un2 fun (v_263 : Int) (v_264 : Int) => 
                      (ifB (decide (v_263 < ((p_1.length : Nat) : Int)))
                        (Option.bind (Option.bind (Option.bind (ixI p_1 v_263) (fun v_267 =>
                            Option.bind (ixI p_0 v_217) (fun v_270 =>
                            ifB ((v_267 == v_270.ID))
                              (ifB (decide (v_264 < 0))
                                (some true)
                                (Option.bind (ixI p_0 v_217) (fun v_275 =>
                                Option.bind (ixI p_0 v_264) (fun v_278 =>
                                some (decide (((v_275.Log.length : Nat) : Int) > ((v_278.Log.length : Nat) : Int)))))))
                              (some false))) : Option (Bool)) (fun (v_282 : Bool) => 
                            ifB (v_282)
                              (some v_217)
                              (some v_264)) : Option (Int)) (fun (v_285 : Int) => 
                          some (.inl (IntKind.i64.wrap (v_263 + 1), v_285))))
                        (some (.inr v_264)) : Option ((Int × Int) ⊕ Int))) F (0, v_218)) (fun (v_286 : Int) => 
                    some v_286) : Option (Int)) (fun (v_288 : Int) => 
                  some (.inl (IntKind.i64.wrap (v_217 + 1), v_288))))
                (some (.inr v_218)) : Option ((Int × Int) ⊕ Int))) F (0, (-1))) (fun (v_289 : Int) => 
            some v_289) : Option (Int)) (fun (v_291 : Int) => 
          Option.bind (ixI p_0 v_291) (fun v_292 =>
          some (v_292.ID, 0))))) (fun (_ : Unit) => 
      some (0, 1))))
    (some (0, 1)))
set_option maxRecDepth 100000 in
set_option maxHeartbeats 16000000 in
theorem z_regulatorref38_Elect (F : Nat) (p_0_A : Option Addr) (p_0_c : Nat) (p_0 : List KCopyL) (p_1_A : Option Addr) (p_1_c : Nat) (p_1 : List Int) (r : Int × Int) (hG : G_regulatorref38_Elect F (p_0.map KCopyL.p) p_1 = some r) :
  Cf Tryz.prog 20 [.slice p_0_A p_0.length p_0_c, .slice p_1_A p_1.length p_1_c] [RowC p_0_A p_0_c KCopyL.cells KCopyL.ok p_0, RowC p_1_A p_1_c c_i64 tr p_1] (.tuple #[I r.1, I r.2]) := by
 unfold G_regulatorref38_Elect at hG
 try (simp only [un2, un3, un4, un5, un6, un7, un8, Sum.elim_inl, Sum.elim_inr, List.length_map, KCopyL.n_Log] at hG; replace hG : _ = _ := hG)
 refine fi Tryz.func20 rfl rfl (mr KCopyL.mv (mr tr_mv m0)) fun S0 w0 hT => ?_
 refine sq ?_; refine rg ?_; refine ra [] f0 [] ?_; refine tN ?_; refine sq ?_; replace hG := bind_some hG; obtain ⟨v_1, hy_1, hG⟩ := hG; refine rg ?_; refine rn 1 [] f0 [(12, .slice p_0_A p_0.length p_0_c)] ?_; refine l1 ?_; refine cl 13 (z_regulatorref38_Valid F p_0_A p_0_c p_0 _ hy_1) hT ⟨ga 0, trivial⟩ ?_; refine ra [] f0 [(6, B v_1)] ?_; refine tN ?_; refine sq ?_; refine sq ?_; refine rg ?_; refine ra [] f0 [(15, B (!v_1))] ?_; refine tN ?_; rcases ifB_cases hG with ⟨h_2, hG⟩ | ⟨h_2, hG⟩
 ·refine sb 15 (nt h_2) ?_; refine cf ?_; refine kS ?_; refine tN ?_; obtain ⟨o_82, hG, hG_82⟩ := bind_some hG; refine jn (fun K E a w => Js S0 w0 97 (K) (se E [0, 1]) (.inl () = o_82) a w) ?_ ?_
  ·refine sq ?_; refine rg ?_; refine ra [] f0 [(7, I 0)] ?_; refine tN ?_; refine bk ?_; obtain ⟨e_47, hL, hG_47⟩ := bind_some hG; clear hG; obtain ⟨stp_47, hs_47, hL⟩ := iter_gen hL; refine lp (fun K E n_ a w => ∃ (v_46 : Int), Js S0 w0 97 ([(7, I v_46)] ++ K) (se E [0, 1]) (iter stp_47 n_ v_46 = some e_47) a w) F ?_ ?_
   ·exact fun a w S hK hE => ⟨0, S, hK.wk, hE.sel [0, 1], hL⟩
   ·clear hL; rintro n_47 a w ⟨v_46, hJ⟩; refine hJ.go fun hL => ?_
    clear hJ; obtain ⟨m_47, o_47, rfl, hG, hO1_47, hO2_47⟩ := iter_step hL; clear hL; rw [hs_47] at hG
    try (simp only [un2, un3, un4, un5, un6, un7, un8, Sum.elim_inl, Sum.elim_inr, List.length_map, KCopyL.n_Log] at hG; replace hG : _ = _ := hG)
    refine sq ?_; refine sq ?_; refine rg ?_; refine ra [] f0 [(19, B (decide (v_46 < ((p_1.length : Nat) : Int))))] ?_; refine tN ?_; rcases ifB_cases hG with ⟨h_48, hG⟩ | ⟨h_48, hG⟩
    ·try simp only [List.length_map, KCopyL.n_Log] at h_48
     refine sb 19 (bt h_48) ?_; refine ct ?_; refine kS ?_; refine tN ?_; obtain ⟨o_81, hG, hG_81⟩ := bind_some hG; refine jn (fun K E a w => Js S0 w0 97 (K) (se E [0, 1]) (.inl () = o_81) a w) ?_ ?_
     ·refine bk ?_; refine sq ?_; refine sq ?_; replace hG := bind_some hG; obtain ⟨v_49, hy_49, hG⟩ := hG; replace hG := bind_some hG; obtain ⟨v_52, hy_52, hG⟩ := hG; refine rg ?_; refine fx inf23 (gd' (RowC p_1_A p_1_c c_i64 tr p_1) 1) hy_49 fun b_50 o_51 hi_49 => ?_
      refine rn 5 [(3, 0, 0, 0), (0, 1, 0, 0)] (fc (hi_49 .i64) f0) [(22, .slice p_0_A p_0.length p_0_c), (26, I v_49)] ?_; refine l1 ?_; refine cl 27 (z_regulatorref38_find F p_0_A p_0_c p_0 v_49 _ hy_52) hT ⟨ga 1, trivial⟩ ?_; refine ra [] f0 [(28, B (decide (v_52 < 0)))] ?_; refine tN ?_; rcases ifB_cases hG with ⟨h_53, hG⟩ | ⟨h_53, hG⟩
      ·refine sb 28 (bt h_53) ?_; refine ct ?_; refine sq ?_; refine rg ?_; refine ra [] f0 [(4, I 0), (5, I 1)] ?_; refine tN ?_; refine kR ?_; refine tR ?_; refine hR ?_; refine tR ?_; obtain rfl := Option.some.inj hG; replace hG := hG_81
       try (simp only [un2, un3, un4, un5, un6, un7, un8, Sum.elim_inl, Sum.elim_inr, List.length_map, KCopyL.n_Log] at hG; replace hG : _ = _ := hG)
       refine tR ?_; have he_ := hO2_47 _ (Option.some.inj hG).symm; subst he_; replace hG := hG_47
       try (simp only [un2, un3, un4, un5, un6, un7, un8, Sum.elim_inl, Sum.elim_inr, List.length_map, KCopyL.n_Log] at hG; replace hG : _ = _ := hG)
       refine hR ?_; refine tR ?_; obtain rfl := Option.some.inj hG; replace hG := hG_82
       try (simp only [un2, un3, un4, un5, un6, un7, un8, Sum.elim_inl, Sum.elim_inr, List.length_map, KCopyL.n_Log] at hG; replace hG : _ = _ := hG)
       obtain rfl := Option.some.inj hG; exact rt []
      ·refine sb 28 (bf h_53) ?_; refine cf ?_; refine kS ?_; refine tN ?_; refine sq ?_; refine rg ?_; refine ra [] f0 [(8, I 0)] ?_; refine tN ?_; refine bk ?_; obtain ⟨e_72, hL, hG_72⟩ := bind_some hG; clear hG; obtain ⟨stp_72, hs_72, hL⟩ := iter_gen hL; refine lp (fun K E n_ a w => ∃ (v_71 : Int), Js S0 w0 97 ([(8, I v_71)] ++ K) (se E [1, 2]) (iter stp_72 n_ v_71 = some e_72) a w) F ?_ ?_
       ·exact fun a w S hK hE => ⟨0, S, hK.wk, hE.sel [1, 2], hL⟩
       ·clear hL; rintro n_72 a w ⟨v_71, hJ⟩; refine hJ.go fun hL => ?_
        clear hJ; obtain ⟨m_72, o_72, rfl, hG, hO1_72, hO2_72⟩ := iter_step hL; clear hL; rw [hs_72] at hG
        try (simp only [un2, un3, un4, un5, un6, un7, un8, Sum.elim_inl, Sum.elim_inr, List.length_map, KCopyL.n_Log] at hG; replace hG : _ = _ := hG)
        refine sq ?_; refine sq ?_; refine rg ?_; refine ra [] f0 [(31, B (decide (v_71 < v_46)))] ?_; refine tN ?_; rcases ifB_cases hG with ⟨h_73, hG⟩ | ⟨h_73, hG⟩
        ·refine sb 31 (bt h_73) ?_; refine ct ?_; refine kS ?_; refine tN ?_; refine sq ?_; refine bk ?_; refine sq ?_; replace hG := bind_some hG; obtain ⟨v_74, hy_74, hG⟩ := hG; replace hG := bind_some hG; obtain ⟨v_77, hy_77, hG⟩ := hG; refine qb ?_; refine fx inf23 (gd' (RowC p_1_A p_1_c c_i64 tr p_1) 1) hy_74 fun b_75 o_76 hi_74 => ?_
         refine fx inf23 (gd' (RowC p_1_A p_1_c c_i64 tr p_1) 2) hy_77 fun b_78 o_79 hi_77 => ?_
         refine qa [(2, 0, 0, 0), (0, 1, 1, 0), (2, 0, 0, 0), (0, 1, 0, 0)] (fc (hi_74 .i64) (fc (hi_77 .i64) f0)) [(42, B (v_74 == v_77))] ?_; refine tN ?_; rcases ifB_cases hG with ⟨h_80, hG⟩ | ⟨h_80, hG⟩
         ·refine sb 42 (bt h_80) ?_; refine ct ?_; refine sq ?_; refine rg ?_; refine ra [] f0 [(4, I 0), (5, I 1)] ?_; refine tN ?_; refine kR ?_; refine hR ?_; refine tR ?_; refine tR ?_; have he_ := hO2_72 _ (Option.some.inj hG).symm; subst he_; replace hG := hG_72
          try (simp only [un2, un3, un4, un5, un6, un7, un8, Sum.elim_inl, Sum.elim_inr, List.length_map, KCopyL.n_Log] at hG; replace hG : _ = _ := hG)
          refine hR ?_; refine hR ?_; refine tR ?_; obtain rfl := Option.some.inj hG; replace hG := hG_81
          try (simp only [un2, un3, un4, un5, un6, un7, un8, Sum.elim_inl, Sum.elim_inr, List.length_map, KCopyL.n_Log] at hG; replace hG : _ = _ := hG)
          refine tR ?_; have he_ := hO2_47 _ (Option.some.inj hG).symm; subst he_; replace hG := hG_47
          try (simp only [un2, un3, un4, un5, un6, un7, un8, Sum.elim_inl, Sum.elim_inr, List.length_map, KCopyL.n_Log] at hG; replace hG : _ = _ := hG)
          refine hR ?_; refine tR ?_; obtain rfl := Option.some.inj hG; replace hG := hG_82
          try (simp only [un2, un3, un4, un5, un6, un7, un8, Sum.elim_inl, Sum.elim_inr, List.length_map, KCopyL.n_Log] at hG; replace hG : _ = _ := hG)
          obtain rfl := Option.some.inj hG; exact rt []
         ·refine sb 42 (bf h_80) ?_; refine cf ?_; refine kS ?_; refine hN ?_; refine tN ?_; refine rg ?_; refine ra [] f0 [(8, I (IntKind.i64.wrap (v_71 + 1)))] ?_; refine tN ?_; exact fun a w S hK hE => ⟨m_72, ⟨IntKind.i64.wrap (v_71 + 1), S, hK.wk, hE.sel [2, 3], hO1_72 _ (Option.some.inj hG).symm⟩, Nat.lt_succ_self _⟩
        ·refine sb 31 (bf h_73) ?_; refine cf ?_; refine kX ?_; refine tX ?_; refine tX ?_; have he_ := hO2_72 _ (Option.some.inj hG).symm; subst he_; replace hG := hG_72
         try (simp only [un2, un3, un4, un5, un6, un7, un8, Sum.elim_inl, Sum.elim_inr, List.length_map, KCopyL.n_Log] at hG; replace hG : _ = _ := hG)
         refine hH ?_; refine hN ?_; refine tN ?_; exact fun a w S hK hE => ⟨S, hK.wk, hE.sel [0, 1], Option.some.inj hG⟩
     ·rintro a w hJ; refine hJ.go fun ho_ => ?_
      clear hJ; subst ho_; replace hG := hG_81
      try (simp only [un2, un3, un4, un5, un6, un7, un8, Sum.elim_inl, Sum.elim_inr, List.length_map, KCopyL.n_Log] at hG; replace hG : _ = _ := hG)
      refine rg ?_; refine ra [] f0 [(7, I (IntKind.i64.wrap (v_46 + 1)))] ?_; refine tN ?_; exact fun a w S hK hE => ⟨m_47, ⟨IntKind.i64.wrap (v_46 + 1), S, hK.wk, hE.sel [0, 1], hO1_47 _ (Option.some.inj hG).symm⟩, Nat.lt_succ_self _⟩
    ·try simp only [List.length_map, KCopyL.n_Log] at h_48
     refine sb 19 (bf h_48) ?_; refine cf ?_; refine kX ?_; refine tX ?_; refine tX ?_; have he_ := hO2_47 _ (Option.some.inj hG).symm; subst he_; replace hG := hG_47
     try (simp only [un2, un3, un4, un5, un6, un7, un8, Sum.elim_inl, Sum.elim_inr, List.length_map, KCopyL.n_Log] at hG; replace hG : _ = _ := hG)
     refine hH ?_; refine tN ?_; exact fun a w S hK hE => ⟨S, hK.wk, hE.sel [0, 1], Option.some.inj hG⟩
  ·rintro a w hJ; refine hJ.go fun ho_ => ?_
   clear hJ; subst ho_; replace hG := hG_82
   try (simp only [un2, un3, un4, un5, un6, un7, un8, Sum.elim_inl, Sum.elim_inr, List.length_map, KCopyL.n_Log] at hG; replace hG : _ = _ := hG)
   refine sq ?_; refine sq ?_; refine rg ?_; refine ra [(4, 0, 0, 0)] (fc (fun W => run_quo (T := 3) (k := .i64) (p := ((p_0.length : Nat) : Int)) (q := 2) (by decide) W) f0) [(49, B (decide (((p_1.length : Nat) : Int) < (IntKind.i64.wrap ((IntKind.i64.wrap (Int.tdiv ((p_0.length : Nat) : Int) 2)) + 1)))))] ?_; refine tN ?_; rcases ifB_cases hG with ⟨h_83, hG⟩ | ⟨h_83, hG⟩
   ·try simp only [List.length_map, KCopyL.n_Log] at h_83
    refine sb 49 (bt h_83) ?_; refine ct ?_; refine sq ?_; refine rg ?_; refine ra [] f0 [(4, I 0), (5, I 20)] ?_; refine tN ?_; refine kR ?_; refine tR ?_; obtain rfl := Option.some.inj hG; exact rt []
   ·try simp only [List.length_map, KCopyL.n_Log] at h_83
    refine sb 49 (bf h_83) ?_; refine cf ?_; refine kS ?_; refine tN ?_; refine sq ?_; refine rg ?_; refine ra [] f0 [(9, I (-1))] ?_; refine tN ?_; obtain ⟨o_290, hG, hG_290⟩ := bind_some hG; refine jn (fun K E a w => ∃ (v_291 : Int), Js S0 w0 97 ([(9, I v_291)] ++ K) (se E [0]) (v_291 = o_290) a w) ?_ ?_
    ·refine sq ?_; refine rg ?_; refine ra [] f0 [(10, I 0)] ?_; refine tN ?_; refine bk ?_; obtain ⟨e_219, hL, hG_219⟩ := bind_some hG; clear hG; obtain ⟨stp_219, hs_219, hL⟩ := iter_gen hL; refine lp (fun K E n_ a w => ∃ (v_217 : Int), ∃ (v_218 : Int), Js S0 w0 97 ([(9, I v_218), (10, I v_217)] ++ K) (se E [0, 1]) (iter stp_219 n_ (v_217, v_218) = some e_219) a w) F ?_ ?_
     ·exact fun a w S hK hE => ⟨0, (-1), S, hK.wk, hE.sel [0, 1], hL⟩
     ·clear hL; rintro n_219 a w ⟨v_217, v_218, hJ⟩; refine hJ.go fun hL => ?_
      clear hJ; obtain ⟨m_219, o_219, rfl, hG, hO1_219, hO2_219⟩ := iter_step hL; clear hL; rw [hs_219] at hG
      try (simp only [un2, un3, un4, un5, un6, un7, un8, Sum.elim_inl, Sum.elim_inr, List.length_map, KCopyL.n_Log] at hG; replace hG : _ = _ := hG)
      refine sq ?_; refine sq ?_; refine rg ?_; refine ra [] f0 [(53, B (decide (v_217 < ((p_0.length : Nat) : Int))))] ?_; refine tN ?_; rcases ifB_cases hG with ⟨h_220, hG⟩ | ⟨h_220, hG⟩
      ·try simp only [List.length_map, KCopyL.n_Log] at h_220
       refine sb 53 (bt h_220) ?_; refine ct ?_; refine kS ?_; refine tN ?_; obtain ⟨o_287, hG, hG_287⟩ := bind_some hG; refine jn (fun K E a w => ∃ (v_288 : Int), Js S0 w0 97 ([(9, I v_288)] ++ K) (se E [0, 1]) (v_288 = o_287) a w) ?_ ?_
       ·refine bk ?_; refine sq ?_; refine rg ?_; refine ra [] f0 [(11, I 0)] ?_; refine tN ?_; refine bk ?_; obtain ⟨e_265, hL, hG_265⟩ := bind_some hG; clear hG; obtain ⟨stp_265, hs_265, hL⟩ := iter_gen hL; refine lp (fun K E n_ a w => ∃ (v_263 : Int), ∃ (v_264 : Int), Js S0 w0 97 ([(9, I v_264), (11, I v_263)] ++ K) (se E [0, 1]) (iter stp_265 n_ (v_263, v_264) = some e_265) a w) F ?_ ?_
        ·exact fun a w S hK hE => ⟨0, v_218, S, hK.wk, hE.sel [0, 1], hL⟩
        ·clear hL; rintro n_265 a w ⟨v_263, v_264, hJ⟩; refine hJ.go fun hL => ?_
         clear hJ; obtain ⟨m_265, o_265, rfl, hG, hO1_265, hO2_265⟩ := iter_step hL; clear hL; rw [hs_265] at hG
         try (simp only [un2, un3, un4, un5, un6, un7, un8, Sum.elim_inl, Sum.elim_inr, List.length_map, KCopyL.n_Log] at hG; replace hG : _ = _ := hG)
         refine sq ?_; refine sq ?_; refine rg ?_; refine ra [] f0 [(59, B (decide (v_263 < ((p_1.length : Nat) : Int))))] ?_; refine tN ?_; rcases ifB_cases hG with ⟨h_266, hG⟩ | ⟨h_266, hG⟩
         ·try simp only [List.length_map, KCopyL.n_Log] at h_266
          refine sb 59 (bt h_266) ?_; refine ct ?_; refine kS ?_; refine tN ?_; obtain ⟨o_284, hG, hG_284⟩ := bind_some hG; refine jn (fun K E a w => ∃ (v_285 : Int), Js S0 w0 97 ([(9, I v_285)] ++ K) (se E [0, 1]) (v_285 = o_284) a w) ?_ ?_
          ·refine bk ?_; obtain ⟨o_281, hG, hG_281⟩ := bind_some hG; refine jn (fun K E a w => ∃ (v_282 : Bool), Js S0 w0 97 ([(90, B v_282)] ++ K) (se E [0, 1]) (v_282 = o_281) a w) ?_ ?_
           ·replace hG := bind_some hG; obtain ⟨v_267, hy_267, hG⟩ := hG; replace hG := bind_some hG; obtain ⟨v_270o, hy_270, hG⟩ := hG; replace hG := ifB_cases hG; rcases hG with ⟨h_273, hG⟩ | ⟨h_273, hG⟩
            ·replace hG := ifB_cases hG; rcases hG with ⟨h_274, hG⟩ | ⟨h_274, hG⟩
             ·refine qb ?_; refine fx inf23 (gd' (RowC p_1_A p_1_c c_i64 tr p_1) 1) hy_267 fun b_268 o_269 hi_267 => ?_
              refine fxn (p := KCopyL.p) inf22 (gd' (RowC p_0_A p_0_c KCopyL.cells KCopyL.ok p_0) 1) hy_270 fun v_270 b_271 o_272 he_270 hi_270 => ?_
              subst he_270
              try (simp only [un2, un3, un4, un5, un6, un7, un8, Sum.elim_inl, Sum.elim_inr, List.length_map, KCopyL.n_Log] at hG; replace hG : _ = _ := hG)
              refine qn 11 [(2, 0, 0, 0), (0, 1, 2, 0), (2, 0, 0, 0), (1, 1, 0, 0)] (fc (hi_267 .i64) (fc (hi_270 .i64) f0)) [(72, B (v_267 == v_270.ID))] ?_; refine sb 72 (bt h_273) ?_; refine qn 3 [] f0 [(75, B (decide (v_264 < 0)))] ?_; refine sb 75 (bt h_274) ?_; refine qa [] f0 [(90, B true)] ?_; refine tN ?_; exact fun a w S hK hE => ⟨true, S, hK.wk, hE.sel [3, 4], Option.some.inj hG⟩
             ·replace hG := bind_some hG; obtain ⟨v_275o, hy_275, hG⟩ := hG; replace hG := bind_some hG; obtain ⟨v_278o, hy_278, hG⟩ := hG; refine qb ?_; refine fx inf23 (gd' (RowC p_1_A p_1_c c_i64 tr p_1) 1) hy_267 fun b_268 o_269 hi_267 => ?_
              refine fxn (p := KCopyL.p) inf22 (gd' (RowC p_0_A p_0_c KCopyL.cells KCopyL.ok p_0) 1) hy_270 fun v_270 b_271 o_272 he_270 hi_270 => ?_
              subst he_270
              try (simp only [un2, un3, un4, un5, un6, un7, un8, Sum.elim_inl, Sum.elim_inr, List.length_map, KCopyL.n_Log] at hG; replace hG : _ = _ := hG)
              refine qn 11 [(2, 0, 0, 0), (0, 1, 2, 0), (2, 0, 0, 0), (1, 1, 0, 0)] (fc (hi_267 .i64) (fc (hi_270 .i64) f0)) [(72, B (v_267 == v_270.ID))] ?_; refine sb 72 (bt h_273) ?_; refine qn 3 [] f0 [(75, B (decide (v_264 < 0)))] ?_; refine sb 75 (bf h_274) ?_; refine fxn (p := KCopyL.p) inf22 (gd' (RowC p_0_A p_0_c KCopyL.cells KCopyL.ok p_0) 3) hy_275 fun v_275 b_276 o_277 he_275 hi_275 => ?_
              subst he_275
              try (simp only [un2, un3, un4, un5, un6, un7, un8, Sum.elim_inl, Sum.elim_inr, List.length_map, KCopyL.n_Log] at hG; replace hG : _ = _ := hG)
              refine fxn (p := KCopyL.p) inf22 (gd' (RowC p_0_A p_0_c KCopyL.cells KCopyL.ok p_0) 5) hy_278 fun v_278 b_279 o_280 he_278 hi_278 => ?_
              subst he_278
              try (simp only [un2, un3, un4, un5, un6, un7, un8, Sum.elim_inl, Sum.elim_inr, List.length_map, KCopyL.n_Log] at hG; replace hG : _ = _ := hG)
              refine qa [(2, 0, 0, 0), (1, 1, 2, 1), (3, 0, 0, 0), (1, 1, 0, 1)] (fc (hi_275 .i64) (fc (hi_278 .i64) f0)) [(90, B (decide (((v_275.Log.length : Nat) : Int) > ((v_278.Log.length : Nat) : Int))))] ?_; refine tN ?_; exact fun a w S hK hE => ⟨decide (((v_275.Log.length : Nat) : Int) > ((v_278.Log.length : Nat) : Int)), S, hK.wk, hE.sel [7, 8], Option.some.inj hG⟩
            ·refine qb ?_; refine fx inf23 (gd' (RowC p_1_A p_1_c c_i64 tr p_1) 1) hy_267 fun b_268 o_269 hi_267 => ?_
             refine fxn (p := KCopyL.p) inf22 (gd' (RowC p_0_A p_0_c KCopyL.cells KCopyL.ok p_0) 1) hy_270 fun v_270 b_271 o_272 he_270 hi_270 => ?_
             subst he_270
             try (simp only [un2, un3, un4, un5, un6, un7, un8, Sum.elim_inl, Sum.elim_inr, List.length_map, KCopyL.n_Log] at hG; replace hG : _ = _ := hG)
             refine qn 11 [(2, 0, 0, 0), (0, 1, 2, 0), (2, 0, 0, 0), (1, 1, 0, 0)] (fc (hi_267 .i64) (fc (hi_270 .i64) f0)) [(72, B (v_267 == v_270.ID))] ?_; refine sb 72 (bf h_273) ?_; refine qa [] f0 [(90, B false)] ?_; refine tN ?_; exact fun a w S hK hE => ⟨false, S, hK.wk, hE.sel [3, 4], Option.some.inj hG⟩
           ·rintro a w ⟨v_282, hJ⟩; refine hJ.go fun ho_ => ?_
            clear hJ; subst ho_; replace hG := hG_281
            try (simp only [un2, un3, un4, un5, un6, un7, un8, Sum.elim_inl, Sum.elim_inr, List.length_map, KCopyL.n_Log] at hG; replace hG : _ = _ := hG)
            rcases ifB_cases hG with ⟨h_283, hG⟩ | ⟨h_283, hG⟩
            ·refine sb 90 (bt h_283) ?_; refine ct ?_; refine rg ?_; refine ra [] f0 [(9, I v_217)] ?_; refine hN ?_; refine tN ?_; exact fun a w S hK hE => ⟨v_217, S, hK.wk, hE.sel [0, 1], Option.some.inj hG⟩
            ·refine sb 90 (bf h_283) ?_; refine cf ?_; refine kS ?_; refine hN ?_; refine tN ?_; exact fun a w S hK hE => ⟨v_264, S, hK.wk, hE.sel [0, 1], Option.some.inj hG⟩
          ·rintro a w ⟨v_285, hJ⟩; refine hJ.go fun ho_ => ?_
           clear hJ; subst ho_; replace hG := hG_284
           try (simp only [un2, un3, un4, un5, un6, un7, un8, Sum.elim_inl, Sum.elim_inr, List.length_map, KCopyL.n_Log] at hG; replace hG : _ = _ := hG)
           refine rg ?_; refine ra [] f0 [(11, I (IntKind.i64.wrap (v_263 + 1)))] ?_; refine tN ?_; exact fun a w S hK hE => ⟨m_265, ⟨IntKind.i64.wrap (v_263 + 1), v_285, S, hK.wk, hE.sel [0, 1], hO1_265 _ (Option.some.inj hG).symm⟩, Nat.lt_succ_self _⟩
         ·try simp only [List.length_map, KCopyL.n_Log] at h_266
          refine sb 59 (bf h_266) ?_; refine cf ?_; refine kX ?_; refine tX ?_; refine tX ?_; have he_ := hO2_265 _ (Option.some.inj hG).symm; subst he_; replace hG := hG_265
          try (simp only [un2, un3, un4, un5, un6, un7, un8, Sum.elim_inl, Sum.elim_inr, List.length_map, KCopyL.n_Log] at hG; replace hG : _ = _ := hG)
          refine hH ?_; refine hN ?_; refine tN ?_; exact fun a w S hK hE => ⟨v_264, S, hK.wk, hE.sel [0, 1], Option.some.inj hG⟩
       ·rintro a w ⟨v_288, hJ⟩; refine hJ.go fun ho_ => ?_
        clear hJ; subst ho_; replace hG := hG_287
        try (simp only [un2, un3, un4, un5, un6, un7, un8, Sum.elim_inl, Sum.elim_inr, List.length_map, KCopyL.n_Log] at hG; replace hG : _ = _ := hG)
        refine rg ?_; refine ra [] f0 [(10, I (IntKind.i64.wrap (v_217 + 1)))] ?_; refine tN ?_; exact fun a w S hK hE => ⟨m_219, ⟨IntKind.i64.wrap (v_217 + 1), v_288, S, hK.wk, hE.sel [0, 1], hO1_219 _ (Option.some.inj hG).symm⟩, Nat.lt_succ_self _⟩
      ·try simp only [List.length_map, KCopyL.n_Log] at h_220
       refine sb 53 (bf h_220) ?_; refine cf ?_; refine kX ?_; refine tX ?_; refine tX ?_; have he_ := hO2_219 _ (Option.some.inj hG).symm; subst he_; replace hG := hG_219
       try (simp only [un2, un3, un4, un5, un6, un7, un8, Sum.elim_inl, Sum.elim_inr, List.length_map, KCopyL.n_Log] at hG; replace hG : _ = _ := hG)
       refine hH ?_; refine tN ?_; exact fun a w S hK hE => ⟨v_218, S, hK.wk, hE.sel [0], Option.some.inj hG⟩
    ·rintro a w ⟨v_291, hJ⟩; refine hJ.go fun ho_ => ?_
     clear hJ; subst ho_; replace hG := hG_290
     try (simp only [un2, un3, un4, un5, un6, un7, un8, Sum.elim_inl, Sum.elim_inr, List.length_map, KCopyL.n_Log] at hG; replace hG : _ = _ := hG)
     refine sq ?_; replace hG := bind_some hG; obtain ⟨v_292o, hy_292, hG⟩ := hG; refine rg ?_; refine fxn (p := KCopyL.p) inf22 (gd' (RowC p_0_A p_0_c KCopyL.cells KCopyL.ok p_0) 0) hy_292 fun v_292 b_293 o_294 he_292 hi_292 => ?_
     subst he_292
     try (simp only [un2, un3, un4, un5, un6, un7, un8, Sum.elim_inl, Sum.elim_inr, List.length_map, KCopyL.n_Log] at hG; replace hG : _ = _ := hG)
     refine ra [(2, 0, 0, 0), (1, 1, 0, 0)] (fc (hi_292 .i64) f0) [(4, I v_292.ID), (5, I 0)] ?_; refine tN ?_; refine kR ?_; obtain rfl := Option.some.inj hG; exact rt []
 ·refine sb 15 (nf h_2) ?_; refine ct ?_; refine sq ?_; refine rg ?_; refine ra [] f0 [(4, I 0), (5, I 1)] ?_; refine tN ?_; refine kR ?_; refine tR ?_; obtain rfl := Option.some.inj hG; exact rt []
def G_regulatorref38_Read (F : Nat) (p_0 : List KCopy) (p_1 : Int) (p_2 : Int) : Option ((List KVersion) × Int) :=
  Option.bind (G_regulatorref38_Valid F p_0) (fun v_1 =>
  Option.bind (G_regulatorref33_Stamp F p_2) (fun v_2 =>
  Option.bind (ifB (v_1)
      (some (!v_2))
      (some true) : Option (Bool)) (fun (v_5 : Bool) => 
    ifB (v_5)
      (some (([] : List KVersion), 1))
      (Option.bind (G_regulatorref38_find F p_0 p_1) (fun v_7 =>
      ifB (decide (v_7 < 0))
        (some (([] : List KVersion), 4))
        (Option.bind (ixI p_0 v_7) (fun v_9 =>
        Option.bind (ifB ((((v_9.Log.length : Nat) : Int) == 0))
            (some true)
            (Option.bind (ixI v_9.Log (IntKind.i64.wrap (((v_9.Log.length : Nat) : Int) - 1))) (fun v_13 =>
            some (decide (v_13.Ts < p_2)))) : Option (Bool)) (fun (v_17 : Bool) => 
          ifB (v_17)
            (some (([] : List KVersion), 63))
            (Option.bind (Option.bind (iter (σ := (List KVersion) × Int) (ρ := (List KVersion) ⊕ Int) (un2 fun (v_163 : (List KVersion)) (v_166 : Int) => 
                  (ifB (decide (v_166 < ((v_9.Log.length : Nat) : Int)))
                    (Option.bind (Option.bind (iter (σ := (List KVersion) × Int) (ρ := (List KVersion) ⊕ Int) (un2 fun (v_207 : (List KVersion)) (v_210 : Int) => 
                          (Option.bind (ixI v_9.Log v_166) (fun v_212 =>
                          ifB (decide (v_210 < ((v_212.Writes.length : Nat) : Int)))
                            (Option.bind (ixI v_9.Log v_166) (fun v_216 =>
                            Option.bind (ixI v_216.Writes v_210) (fun v_219 =>
                            Option.bind (ixI v_9.Log v_166) (fun v_223 =>
                            Option.bind (G_regulatorref33_Put F v_207 (⟨v_219.Key, v_223.Ts, v_219.Value, v_219.Gone⟩ : KVersion)) (un2 fun v_226 v_227 =>
                            ifB ((v_227 == 0))
                              (some (.inl (v_226, IntKind.i64.wrap (v_210 + 1))))
                              (some (.inr (.inr v_227))))))))
                            (some (.inr (.inl v_207)))) : Option (((List KVersion) × Int) ⊕ ((List KVersion) ⊕ Int)))) F (v_163, 0)) (Sum.elim (fun (v_229 : (List KVersion)) => 
                        some (.inl v_229)) (fun (v_232 : Int) => 
                        some (.inr v_232))) : Option ((List KVersion) ⊕ Int)) (Sum.elim (fun (v_234 : (List KVersion)) => 
                      some (.inl (v_234, IntKind.i64.wrap (v_166 + 1)))) (fun (v_237 : Int) => 
                      some (.inr (.inr v_237)))))
                    (some (.inr (.inl v_163))) : Option (((List KVersion) × Int) ⊕ ((List KVersion) ⊕ Int)))) F (([] : List KVersion), 0)) (Sum.elim (fun (v_238 : (List KVersion)) => 
                some (.inl v_238)) (fun (v_241 : Int) => 
                some (.inr v_241))) : Option ((List KVersion) ⊕ Int)) (Sum.elim (fun (v_243 : (List KVersion)) => 
              Option.bind (G_regulatorref33_Read F v_243 p_2) (un2 fun v_247 v_248 =>
              some (v_247, v_248))) (fun (v_246 : Int) => 
              some (([] : List KVersion), v_246))))))))))))
set_option maxRecDepth 100000 in
set_option maxHeartbeats 16000000 in
theorem z_regulatorref38_Read (F : Nat) (p_0_A : Option Addr) (p_0_c : Nat) (p_0 : List KCopyL) (p_1 : Int) (p_2 : Int) (r : (List KVersion) × Int) (hG : G_regulatorref38_Read F (p_0.map KCopyL.p) p_1 p_2 = some r) :
  Cn Tryz.prog 22 [.slice p_0_A p_0.length p_0_c, I p_1, I p_2] [RowC p_0_A p_0_c KCopyL.cells KCopyL.ok p_0] (fun q : KSapi_VersionL => r.1 = q.l) (fun q => .tuple #[.slice q.A q.l.length q.c, I r.2]) (fun q => [RowC q.A q.c KVersion.cells tr q.l]) := by
 unfold G_regulatorref38_Read at hG
 try (simp only [un2, un3, un4, un5, un6, un7, un8, Sum.elim_inl, Sum.elim_inr, List.length_map, KCopyL.n_Log] at hG; replace hG : _ = _ := hG)
 refine fin Tryz.func22 rfl rfl (mr KCopyL.mv m0) fun S0 w0 hT => ?_
 refine sq ?_; refine rg ?_; refine ra [] f0 [] ?_; refine tN ?_; refine sq ?_; replace hG := bind_some hG; obtain ⟨v_1, hy_1, hG⟩ := hG; refine rg ?_; refine rn 1 [] f0 [(18, .slice p_0_A p_0.length p_0_c)] ?_; refine l1 ?_; refine cl 19 (z_regulatorref38_Valid F p_0_A p_0_c p_0 _ hy_1) hT ⟨ga 0, trivial⟩ ?_; refine ra [] f0 [(8, B v_1)] ?_; refine tN ?_; refine sq ?_; replace hG := bind_some hG; obtain ⟨v_2, hy_2, hG⟩ := hG; refine rg ?_; refine rn 1 [] f0 [(20, I p_2)] ?_; refine l1 ?_; refine cl 21 (z_regulatorref33_Stamp F p_2 _ hy_2) hT trivial ?_; refine ra [] f0 [(9, B v_2)] ?_; refine tN ?_; refine sq ?_; obtain ⟨o_4, hG, hG_4⟩ := bind_some hG; refine jn (fun K E a w => ∃ (v_5 : Bool), Js S0 w0 102 ([(27, B v_5)] ++ K) (se E [0]) (v_5 = o_4) a w) ?_ ?_
 ·replace hG := ifB_cases hG; rcases hG with ⟨h_3, hG⟩ | ⟨h_3, hG⟩
  ·refine rg ?_; refine rn 3 [] f0 [(24, B (!v_1))] ?_; refine sb 24 (nt h_3) ?_; refine ra [] f0 [(27, B (!v_2))] ?_; refine tN ?_; exact fun a w S hK hE => ⟨!v_2, S, hK.wk, hE.sel [0], Option.some.inj hG⟩
  ·refine rg ?_; refine rn 3 [] f0 [(24, B (!v_1))] ?_; refine sb 24 (nf h_3) ?_; refine ra [] f0 [(27, B true)] ?_; refine tN ?_; exact fun a w S hK hE => ⟨true, S, hK.wk, hE.sel [0], Option.some.inj hG⟩
 ·rintro a w ⟨v_5, hJ⟩; refine hJ.go fun ho_ => ?_
  clear hJ; subst ho_; replace hG := hG_4
  try (simp only [un2, un3, un4, un5, un6, un7, un8, Sum.elim_inl, Sum.elim_inr, List.length_map, KCopyL.n_Log] at hG; replace hG : _ = _ := hG)
  rcases ifB_cases hG with ⟨h_6, hG⟩ | ⟨h_6, hG⟩
  ·refine sb 27 (bt h_6) ?_; refine ct ?_; refine sq ?_; refine rg ?_; refine ra [] f0 [(6, .slice none 0 0), (7, I 1)] ?_; refine tN ?_; refine kR ?_; refine tR ?_; obtain rfl := Option.some.inj hG; exact rtn [] ⟨none, 0, ([] : List KVersion)⟩ rfl ⟨gn, trivial⟩
  ·refine sb 27 (bf h_6) ?_; refine cf ?_; refine kS ?_; refine tN ?_; refine sq ?_; replace hG := bind_some hG; obtain ⟨v_7, hy_7, hG⟩ := hG; refine rg ?_; refine rn 2 [] f0 [(28, .slice p_0_A p_0.length p_0_c), (29, I p_1)] ?_; refine l1 ?_; refine cl 30 (z_regulatorref38_find F p_0_A p_0_c p_0 p_1 _ hy_7) hT ⟨ga 0, trivial⟩ ?_; refine ra [] f0 [(10, I v_7)] ?_; refine tN ?_; refine sq ?_; refine sq ?_; refine rg ?_; refine ra [] f0 [(32, B (decide (v_7 < 0)))] ?_; refine tN ?_; rcases ifB_cases hG with ⟨h_8, hG⟩ | ⟨h_8, hG⟩
   ·refine sb 32 (bt h_8) ?_; refine ct ?_; refine sq ?_; refine rg ?_; refine ra [] f0 [(6, .slice none 0 0), (7, I 4)] ?_; refine tN ?_; refine kR ?_; refine tR ?_; obtain rfl := Option.some.inj hG; exact rtn [] ⟨none, 0, ([] : List KVersion)⟩ rfl ⟨gn, trivial⟩
   ·refine sb 32 (bf h_8) ?_; refine cf ?_; refine kS ?_; refine tN ?_; refine sq ?_; replace hG := bind_some hG; obtain ⟨v_9o, hy_9, hG⟩ := hG; refine rg ?_; refine fxn (p := KCopyL.p) inf22 (gd' (RowC p_0_A p_0_c KCopyL.cells KCopyL.ok p_0) 0) hy_9 fun v_9 b_10 o_11 he_9 hi_9 => ?_
    subst he_9
    try (simp only [un2, un3, un4, un5, un6, un7, un8, Sum.elim_inl, Sum.elim_inr, List.length_map, KCopyL.n_Log] at hG; replace hG : _ = _ := hG)
    refine ra [(2, 0, 0, 0), (1, 1, 0, 1)] (fc (hi_9 .i64) f0) [(11, .slice v_9.Log_A v_9.Log.length v_9.Log_c)] ?_; refine tN ?_; refine sq ?_; obtain ⟨o_16, hG, hG_16⟩ := bind_some hG; refine jn (fun K E a w => ∃ (v_17 : Bool), Js S0 w0 102 ([(51, B v_17)] ++ K) ([.dat (RowC v_9.Log_A v_9.Log_c KTxL.cells KTxL.ok v_9.Log)]) (v_17 = o_16) a w) ?_ ?_
    ·replace hG := ifB_cases hG; rcases hG with ⟨h_12, hG⟩ | ⟨h_12, hG⟩
     ·refine rg ?_; refine rn 4 [] f0 [(41, B (((v_9.Log.length : Nat) : Int) == 0))] ?_
      try simp only [List.length_map, KCopyL.n_Log] at h_12
      refine sb 41 (bt h_12) ?_; refine ra [] f0 [(51, B true)] ?_; refine tN ?_; refine fm (RowC v_9.Log_A v_9.Log_c KTxL.cells KTxL.ok v_9.Log) (gm (KCopyL.ok v_9) 1 fun _ _ h => h.f_Log) ?_; exact fun a w S hK hE => ⟨true, S, hK.wk, hE.sel [0], Option.some.inj hG⟩
     ·replace hG := bind_some hG; obtain ⟨v_13o, hy_13, hG⟩ := hG; refine rg ?_; refine rn 4 [] f0 [(41, B (((v_9.Log.length : Nat) : Int) == 0))] ?_
      try simp only [List.length_map, KCopyL.n_Log] at h_12
      refine sb 41 (bf h_12) ?_; refine fxn (p := KTxL.p) inf38 (gm (KCopyL.ok v_9) 1 fun _ _ h => h.f_Log) hy_13 fun v_13 b_14 o_15 he_13 hi_13 => ?_
      subst he_13
      try (simp only [un2, un3, un4, un5, un6, un7, un8, Sum.elim_inl, Sum.elim_inr, List.length_map, KCopyL.n_Log] at hG; replace hG : _ = _ := hG)
      refine ra [(4, 0, 0, 0), (1, 1, 0, 1)] (fc (hi_13 .i64) f0) [(51, B (decide (v_13.Ts < p_2)))] ?_; refine tN ?_; refine fm (RowC v_9.Log_A v_9.Log_c KTxL.cells KTxL.ok v_9.Log) (gm (KCopyL.ok v_9) 3 fun _ _ h => h.f_Log) ?_; exact fun a w S hK hE => ⟨decide (v_13.Ts < p_2), S, hK.wk, hE.sel [0], Option.some.inj hG⟩
    ·rintro a w ⟨v_17, hJ⟩; refine hJ.go fun ho_ => ?_
     clear hJ; subst ho_; replace hG := hG_16
     try (simp only [un2, un3, un4, un5, un6, un7, un8, Sum.elim_inl, Sum.elim_inr, List.length_map, KCopyL.n_Log] at hG; replace hG : _ = _ := hG)
     rcases ifB_cases hG with ⟨h_18, hG⟩ | ⟨h_18, hG⟩
     ·refine sb 51 (bt h_18) ?_; refine ct ?_; refine sq ?_; refine rg ?_; refine ra [] f0 [(6, .slice none 0 0), (7, I 63)] ?_; refine tN ?_; refine kR ?_; refine tR ?_; obtain rfl := Option.some.inj hG; exact rtn [] ⟨none, 0, ([] : List KVersion)⟩ rfl ⟨gn, trivial⟩
     ·refine sb 51 (bf h_18) ?_; refine cf ?_; refine kS ?_; refine tN ?_; refine sq ?_; refine rg ?_; refine ra [] f0 [(12, .slice none 0 0)] ?_; refine tN ?_; obtain ⟨o_242, hG, hG_242⟩ := bind_some hG; refine jn (fun K E a w => ∃ (v_243 : List KVersion), ∃ (v_244_A : Option Addr), ∃ (v_245_c : Nat), Js S0 w0 102 ([(12, .slice v_244_A v_243.length v_245_c)] ++ K) ([.dat (RowC v_244_A v_245_c KVersion.cells tr v_243)]) (.inl v_243 = o_242) a w) ?_ ?_
      ·refine sq ?_; refine rg ?_; refine ra [] f0 [(13, I 0)] ?_; refine tN ?_; refine bk ?_; obtain ⟨e_167, hL, hG_167⟩ := bind_some hG; clear hG; obtain ⟨stp_167, hs_167, hL⟩ := iter_gen hL; refine lp (fun K E n_ a w => ∃ (v_163 : List KVersion), ∃ (v_164_A : Option Addr), ∃ (v_165_c : Nat), ∃ (v_166 : Int), Js S0 w0 102 ([(12, .slice v_164_A v_163.length v_165_c), (13, I v_166)] ++ K) ([.dat (RowC v_164_A v_165_c KVersion.cells tr v_163)] ++ se E [0]) (iter stp_167 n_ (v_163, v_166) = some e_167) a w) F ?_ ?_
       ·refine fm (RowC none 0 KVersion.cells tr ([] : List KVersion)) gn ?_; exact fun a w S hK hE => ⟨([] : List KVersion), none, 0, 0, S, hK.wk, hE.sel [0, 1], hL⟩
       ·clear hL; rintro n_167 a w ⟨v_163, v_164_A, v_165_c, v_166, hJ⟩; refine hJ.go fun hL => ?_
        clear hJ; obtain ⟨m_167, o_167, rfl, hG, hO1_167, hO2_167⟩ := iter_step hL; clear hL; rw [hs_167] at hG
        try (simp only [un2, un3, un4, un5, un6, un7, un8, Sum.elim_inl, Sum.elim_inr, List.length_map, KCopyL.n_Log] at hG; replace hG : _ = _ := hG)
        refine sq ?_; refine sq ?_; refine rg ?_; refine ra [] f0 [(55, B (decide (v_166 < ((v_9.Log.length : Nat) : Int))))] ?_; refine tN ?_; rcases ifB_cases hG with ⟨h_168, hG⟩ | ⟨h_168, hG⟩
        ·try simp only [List.length_map, KCopyL.n_Log] at h_168
         refine sb 55 (bt h_168) ?_; refine ct ?_; refine kS ?_; refine tN ?_; obtain ⟨o_233, hG, hG_233⟩ := bind_some hG; refine jn (fun K E a w => ∃ (v_234 : List KVersion), ∃ (v_235_A : Option Addr), ∃ (v_236_c : Nat), Js S0 w0 102 ([(12, .slice v_235_A v_234.length v_236_c)] ++ K) ([.dat (RowC v_235_A v_236_c KVersion.cells tr v_234)] ++ se E [1]) (.inl v_234 = o_233) a w) ?_ ?_
         ·refine bk ?_; refine sq ?_; refine rg ?_; refine ra [] f0 [(14, I 0)] ?_; refine tN ?_; refine bk ?_; obtain ⟨e_211, hL, hG_211⟩ := bind_some hG; clear hG; obtain ⟨stp_211, hs_211, hL⟩ := iter_gen hL; refine lp (fun K E n_ a w => ∃ (v_207 : List KVersion), ∃ (v_208_A : Option Addr), ∃ (v_209_c : Nat), ∃ (v_210 : Int), Js S0 w0 102 ([(12, .slice v_208_A v_207.length v_209_c), (14, I v_210)] ++ K) ([.dat (RowC v_208_A v_209_c KVersion.cells tr v_207)] ++ se E [1]) (iter stp_211 n_ (v_207, v_210) = some e_211) a w) F ?_ ?_
          ·exact fun a w S hK hE => ⟨v_163, v_164_A, v_165_c, 0, S, hK.wk, hE.sel [0, 1], hL⟩
          ·clear hL; rintro n_211 a w ⟨v_207, v_208_A, v_209_c, v_210, hJ⟩; refine hJ.go fun hL => ?_
           clear hJ; obtain ⟨m_211, o_211, rfl, hG, hO1_211, hO2_211⟩ := iter_step hL; clear hL; rw [hs_211] at hG
           try (simp only [un2, un3, un4, un5, un6, un7, un8, Sum.elim_inl, Sum.elim_inr, List.length_map, KCopyL.n_Log] at hG; replace hG : _ = _ := hG)
           refine sq ?_; refine sq ?_; replace hG := bind_some hG; obtain ⟨v_212o, hy_212, hG⟩ := hG; refine rg ?_; refine fxn (p := KTxL.p) inf38 (gd' (RowC v_9.Log_A v_9.Log_c KTxL.cells KTxL.ok v_9.Log) 1) hy_212 fun v_212 b_213 o_214 he_212 hi_212 => ?_
           subst he_212
           try (simp only [un2, un3, un4, un5, un6, un7, un8, Sum.elim_inl, Sum.elim_inr, List.length_map, KCopyL.n_Log] at hG; replace hG : _ = _ := hG)
           refine ra [(3, 0, 0, 0), (1, 1, 0, 3)] (fc (hi_212 .i64) f0) [(65, B (decide (v_210 < ((v_212.Writes.length : Nat) : Int))))] ?_; refine tN ?_; rcases ifB_cases hG with ⟨h_215, hG⟩ | ⟨h_215, hG⟩
           ·try simp only [List.length_map, KCopyL.n_Log] at h_215
            refine sb 65 (bt h_215) ?_; refine ct ?_; refine kS ?_; refine tN ?_; refine sq ?_; refine bk ?_; refine sq ?_; replace hG := bind_some hG; obtain ⟨v_216o, hy_216, hG⟩ := hG; replace hG := bind_some hG; obtain ⟨v_219, hy_219, hG⟩ := hG; refine rg ?_; refine fxn (p := KTxL.p) inf38 (gd' (RowC v_9.Log_A v_9.Log_c KTxL.cells KTxL.ok v_9.Log) 3) hy_216 fun v_216 b_217 o_218 he_216 hi_216 => ?_
            subst he_216
            try (simp only [un2, un3, un4, un5, un6, un7, un8, Sum.elim_inl, Sum.elim_inr, List.length_map, KCopyL.n_Log] at hG; replace hG : _ = _ := hG)
            refine fx inf45 (gm (KTxL.ok v_216) 1 fun _ _ h => h.f_Writes) hy_219 fun b_220 o_221 hi_219 => ?_
            refine rn 8 [(2, 0, 0, 0), (1, 1, 1, 3), (1, 0, 0, 0), (0, 3, 0, 0)] (fc (hi_216 .i64) (fc (hi_219 .i64) f0)) [(75, .agg #[I v_219.Key, I v_219.Value, B v_219.Gone])] ?_; refine l1 ?_; refine nw 15 vp [I 0, I 0, B false] 52 fun g_222 => ?_
            refine l1 ?_; refine sr 0 g_222 [(0, I v_219.Key), (1, I v_219.Value), (2, B v_219.Gone)] ?_; refine nl ?_; refine tN ?_; refine sq ?_; replace hG := bind_some hG; obtain ⟨v_223o, hy_223, hG⟩ := hG; replace hG := bind_some hG; obtain ⟨⟨v_226o, v_227⟩, hy_226, hG⟩ := hG; refine fxn (p := KTxL.p) inf38 (gd' (RowC v_9.Log_A v_9.Log_c KTxL.cells KTxL.ok v_9.Log) 7) hy_223 fun v_223 b_224 o_225 he_223 hi_223 => ?_
            subst he_223
            try (simp only [un2, un3, un4, un5, un6, un7, un8, Sum.elim_inl, Sum.elim_inr, List.length_map, KCopyL.n_Log] at hG; replace hG : _ = _ := hG)
            refine hb [0, 1, 2, 3, 4, 5, 6, 7, 8, 9] ?_; refine ht [0, 1, 2, 3, 4, 5, 6, 7, 8, 9] [0, 1, 2, 3, 4, 5, 6, 7, 8, 9, 10, 11, 12] [(2, 1, 2, 0), (2, 0, 0, 0), (1, 1, 0, 1), (1, 1, 2, 1), (1, 1, 2, 2)] (fc (hi_223 .i64) f0) [(77, .slice v_208_A v_207.length v_209_c), (89, .agg #[I v_219.Key, I v_223.Ts, I v_219.Value, B v_219.Gone])] ?_; refine ho [13] ⟨?_, trivial⟩; refine h1 ?_; refine cn 90 (z_regulatorref33_Put F v_208_A v_209_c v_207 (⟨v_219.Key, v_223.Ts, v_219.Value, v_219.Gone⟩ : KVersion) _ hy_226) hT (fun _ => (mr tr_mv m0)) ⟨gi 8, trivial⟩ ?_; rintro ⟨v_226_A, v_226_c, v_226⟩ hq_226; obtain rfl : v_226 = v_226o := hq_226.symm
            try (simp only [un2, un3, un4, un5, un6, un7, un8, Sum.elim_inl, Sum.elim_inr, List.length_map, KCopyL.n_Log] at hG; replace hG : _ = _ := hG)
            refine hk [1, 2, 3, 4, 5, 6, 7, 8, 9, 10] ?_; refine ht [1, 2, 3, 4, 5, 6, 7, 8, 9, 10] [14, 15, 16, 17, 18] [] f0 [(16, .slice v_226_A v_226.length v_226_c), (17, I v_227)] ?_; refine he ?_; refine tN ?_; refine sq ?_; refine sq ?_; refine rg ?_; refine ra [] f0 [(94, B (!(v_227 == 0)))] ?_; refine tN ?_; rcases ifB_cases hG with ⟨h_228, hG⟩ | ⟨h_228, hG⟩
            ·refine sb 94 (nt h_228) ?_; refine cf ?_; refine kS ?_; refine tN ?_; refine rg ?_; refine ra [] f0 [(12, .slice v_226_A v_226.length v_226_c)] ?_; refine hN ?_; refine tN ?_; refine rg ?_; refine ra [] f0 [(14, I (IntKind.i64.wrap (v_210 + 1)))] ?_; refine tN ?_; exact fun a w S hK hE => ⟨m_211, ⟨v_226, v_226_A, v_226_c, IntKind.i64.wrap (v_210 + 1), S, hK.wk, hE.sel [0, 10], hO1_211 _ (Option.some.inj hG).symm⟩, Nat.lt_succ_self _⟩
            ·refine sb 94 (nf h_228) ?_; refine ct ?_; refine sq ?_; refine rg ?_; refine ra [] f0 [(6, .slice none 0 0), (7, I v_227)] ?_; refine tN ?_; refine kR ?_; refine tR ?_; refine hR ?_; refine tR ?_; refine tR ?_; have he_ := hO2_211 _ (Option.some.inj hG).symm; subst he_; replace hG := hG_211
             try (simp only [un2, un3, un4, un5, un6, un7, un8, Sum.elim_inl, Sum.elim_inr, List.length_map, KCopyL.n_Log] at hG; replace hG : _ = _ := hG)
             refine hR ?_; refine hR ?_; refine tR ?_; obtain rfl := Option.some.inj hG; replace hG := hG_233
             try (simp only [un2, un3, un4, un5, un6, un7, un8, Sum.elim_inl, Sum.elim_inr, List.length_map, KCopyL.n_Log] at hG; replace hG : _ = _ := hG)
             refine tR ?_; have he_ := hO2_167 _ (Option.some.inj hG).symm; subst he_; replace hG := hG_167
             try (simp only [un2, un3, un4, un5, un6, un7, un8, Sum.elim_inl, Sum.elim_inr, List.length_map, KCopyL.n_Log] at hG; replace hG : _ = _ := hG)
             refine hR ?_; refine tR ?_; obtain rfl := Option.some.inj hG; replace hG := hG_242
             try (simp only [un2, un3, un4, un5, un6, un7, un8, Sum.elim_inl, Sum.elim_inr, List.length_map, KCopyL.n_Log] at hG; replace hG : _ = _ := hG)
             obtain rfl := Option.some.inj hG; exact rtn [] ⟨none, 0, ([] : List KVersion)⟩ rfl ⟨gn, trivial⟩
           ·try simp only [List.length_map, KCopyL.n_Log] at h_215
            refine sb 65 (bf h_215) ?_; refine cf ?_; refine kX ?_; refine tX ?_; refine tX ?_; have he_ := hO2_211 _ (Option.some.inj hG).symm; subst he_; replace hG := hG_211
            try (simp only [un2, un3, un4, un5, un6, un7, un8, Sum.elim_inl, Sum.elim_inr, List.length_map, KCopyL.n_Log] at hG; replace hG : _ = _ := hG)
            refine hH ?_; refine hN ?_; refine tN ?_; exact fun a w S hK hE => ⟨v_207, v_208_A, v_209_c, S, hK.wk, hE.sel [2, 3], Option.some.inj hG⟩
         ·rintro a w ⟨v_234, v_235_A, v_236_c, hJ⟩; refine hJ.go fun ho_ => ?_
          clear hJ; subst ho_; replace hG := hG_233
          try (simp only [un2, un3, un4, un5, un6, un7, un8, Sum.elim_inl, Sum.elim_inr, List.length_map, KCopyL.n_Log] at hG; replace hG : _ = _ := hG)
          refine rg ?_; refine ra [] f0 [(13, I (IntKind.i64.wrap (v_166 + 1)))] ?_; refine tN ?_; exact fun a w S hK hE => ⟨m_167, ⟨v_234, v_235_A, v_236_c, IntKind.i64.wrap (v_166 + 1), S, hK.wk, hE.sel [0, 1], hO1_167 _ (Option.some.inj hG).symm⟩, Nat.lt_succ_self _⟩
        ·try simp only [List.length_map, KCopyL.n_Log] at h_168
         refine sb 55 (bf h_168) ?_; refine cf ?_; refine kX ?_; refine tX ?_; refine tX ?_; have he_ := hO2_167 _ (Option.some.inj hG).symm; subst he_; replace hG := hG_167
         try (simp only [un2, un3, un4, un5, un6, un7, un8, Sum.elim_inl, Sum.elim_inr, List.length_map, KCopyL.n_Log] at hG; replace hG : _ = _ := hG)
         refine hH ?_; refine tN ?_; exact fun a w S hK hE => ⟨v_163, v_164_A, v_165_c, S, hK.wk, hE.sel [0], Option.some.inj hG⟩
      ·rintro a w ⟨v_243, v_244_A, v_245_c, hJ⟩; refine hJ.go fun ho_ => ?_
       clear hJ; subst ho_; replace hG := hG_242
       try (simp only [un2, un3, un4, un5, un6, un7, un8, Sum.elim_inl, Sum.elim_inr, List.length_map, KCopyL.n_Log] at hG; replace hG : _ = _ := hG)
       refine sq ?_; replace hG := bind_some hG; obtain ⟨⟨v_247o, v_248⟩, hy_247, hG⟩ := hG; refine rg ?_; refine rn 2 [] f0 [(97, .slice v_244_A v_243.length v_245_c), (98, I p_2)] ?_; refine l1 ?_; refine cn 99 (z_regulatorref33_Read F v_244_A v_245_c v_243 p_2 _ hy_247) hT (fun _ => (mr tr_mv m0)) ⟨gi 0, trivial⟩ ?_; rintro ⟨v_247_A, v_247_c, v_247⟩ hq_247; obtain rfl : v_247 = v_247o := hq_247.symm
       try (simp only [un2, un3, un4, un5, un6, un7, un8, Sum.elim_inl, Sum.elim_inr, List.length_map, KCopyL.n_Log] at hG; replace hG : _ = _ := hG)
       refine ra [] f0 [(6, .slice v_247_A v_247.length v_247_c), (7, I v_248)] ?_; refine tN ?_; refine kR ?_; obtain rfl := Option.some.inj hG; exact rtn [] ⟨v_247_A, v_247_c, v_247⟩ rfl ⟨gi 0, trivial⟩
end Go.Proofs.YtkchfmhgboiimaaGreat
namespace Go.Proofs.YtkchfmhgboiimaaGreat
open Go.RowKit Go.Maps
def G_regulatorref38_Safe (F : Nat) (p_0 : List KCopy) : Option (Int × Int) :=
  Option.bind (G_regulatorref38_Valid F p_0) (fun v_1 =>
  ifB (v_1)
    (Option.bind (Option.bind (iter (σ := Int) (ρ := Int) (fun (v_8 : Int) => 
          (Option.bind (G_regulatorref38_having F p_0 (IntKind.i64.wrap (v_8 + 1))) (fun v_10 =>
          ifB (decide (v_10 ≥ (IntKind.i64.wrap ((IntKind.i64.wrap (Int.tdiv ((p_0.length : Nat) : Int) 2)) + 1))))
            (some (.inl (IntKind.i64.wrap (v_8 + 1))))
            (some (.inr v_8))) : Option (Int ⊕ Int))) F 0) (fun (v_12 : Int) => 
        some v_12) : Option (Int)) (fun (v_14 : Int) => 
      some (v_14, 0)))
    (some (0, 1)))
set_option maxRecDepth 100000 in
set_option maxHeartbeats 16000000 in
theorem z_regulatorref38_Safe (F : Nat) (p_0_A : Option Addr) (p_0_c : Nat) (p_0 : List KCopyL) (r : Int × Int) (hG : G_regulatorref38_Safe F (p_0.map KCopyL.p) = some r) :
  Cf Tryz.prog 18 [.slice p_0_A p_0.length p_0_c] [RowC p_0_A p_0_c KCopyL.cells KCopyL.ok p_0] (.tuple #[I r.1, I r.2]) := by
 unfold G_regulatorref38_Safe at hG
 try (simp only [un2, un3, un4, un5, un6, un7, un8, Sum.elim_inl, Sum.elim_inr, List.length_map, KCopyL.n_Log] at hG; replace hG : _ = _ := hG)
 refine fi Tryz.func18 rfl rfl (mr KCopyL.mv m0) fun S0 w0 hT => ?_
 refine sq ?_; refine rg ?_; refine ra [] f0 [] ?_; refine tN ?_; refine sq ?_; replace hG := bind_some hG; obtain ⟨v_1, hy_1, hG⟩ := hG; refine rg ?_; refine rn 1 [] f0 [(6, .slice p_0_A p_0.length p_0_c)] ?_; refine l1 ?_; refine cl 7 (z_regulatorref38_Valid F p_0_A p_0_c p_0 _ hy_1) hT ⟨ga 0, trivial⟩ ?_; refine ra [] f0 [(4, B v_1)] ?_; refine tN ?_; refine sq ?_; refine sq ?_; refine rg ?_; refine ra [] f0 [(9, B (!v_1))] ?_; refine tN ?_; rcases ifB_cases hG with ⟨h_2, hG⟩ | ⟨h_2, hG⟩
 ·refine sb 9 (nt h_2) ?_; refine cf ?_; refine kS ?_; refine tN ?_; refine sq ?_; refine rg ?_; refine ra [] f0 [(5, I 0)] ?_; refine tN ?_; obtain ⟨o_13, hG, hG_13⟩ := bind_some hG; refine jn (fun K E a w => ∃ (v_14 : Int), Js S0 w0 22 ([(5, I v_14)] ++ K) (se E []) (v_14 = o_13) a w) ?_ ?_
  ·refine bk ?_; obtain ⟨e_9, hL, hG_9⟩ := bind_some hG; clear hG; obtain ⟨stp_9, hs_9, hL⟩ := iter_gen hL; refine lp (fun K E n_ a w => ∃ (v_8 : Int), Js S0 w0 22 ([(5, I v_8)] ++ K) (se E [0]) (iter stp_9 n_ v_8 = some e_9) a w) F ?_ ?_
   ·exact fun a w S hK hE => ⟨0, S, hK.wk, hE.sel [0], hL⟩
   ·clear hL; rintro n_9 a w ⟨v_8, hJ⟩; refine hJ.go fun hL => ?_
    clear hJ; obtain ⟨m_9, o_9, rfl, hG, hO1_9, hO2_9⟩ := iter_step hL; clear hL; rw [hs_9] at hG
    try (simp only [un2, un3, un4, un5, un6, un7, un8, Sum.elim_inl, Sum.elim_inr, List.length_map, KCopyL.n_Log] at hG; replace hG : _ = _ := hG)
    refine sq ?_; refine sq ?_; replace hG := bind_some hG; obtain ⟨v_10, hy_10, hG⟩ := hG; refine rg ?_; refine rn 3 [] f0 [(10, .slice p_0_A p_0.length p_0_c), (12, I (IntKind.i64.wrap (v_8 + 1)))] ?_; refine l1 ?_; refine cl 13 (z_regulatorref38_having F p_0_A p_0_c p_0 (IntKind.i64.wrap (v_8 + 1)) _ hy_10) hT ⟨ga 0, trivial⟩ ?_; refine ra [(2, 0, 0, 0)] (fc (fun W => run_quo (T := 3) (k := .i64) (p := ((p_0.length : Nat) : Int)) (q := 2) (by decide) W) f0) [(18, B (decide (v_10 ≥ (IntKind.i64.wrap ((IntKind.i64.wrap (Int.tdiv ((p_0.length : Nat) : Int) 2)) + 1)))))] ?_; refine tN ?_; rcases ifB_cases hG with ⟨h_11, hG⟩ | ⟨h_11, hG⟩
    ·try simp only [List.length_map, KCopyL.n_Log] at h_11
     refine sb 18 (bt h_11) ?_; refine ct ?_; refine kS ?_; refine tN ?_; refine bk ?_; refine rg ?_; refine ra [] f0 [(5, I (IntKind.i64.wrap (v_8 + 1)))] ?_; refine hN ?_; refine tN ?_; exact fun a w S hK hE => ⟨m_9, ⟨IntKind.i64.wrap (v_8 + 1), S, hK.wk, hE.sel [0], hO1_9 _ (Option.some.inj hG).symm⟩, Nat.lt_succ_self _⟩
    ·try simp only [List.length_map, KCopyL.n_Log] at h_11
     refine sb 18 (bf h_11) ?_; refine cf ?_; refine kX ?_; refine tX ?_; refine tX ?_; have he_ := hO2_9 _ (Option.some.inj hG).symm; subst he_; replace hG := hG_9
     try (simp only [un2, un3, un4, un5, un6, un7, un8, Sum.elim_inl, Sum.elim_inr, List.length_map, KCopyL.n_Log] at hG; replace hG : _ = _ := hG)
     refine hH ?_; refine tN ?_; exact fun a w S hK hE => ⟨v_8, S, hK.wk, hE.sel [], Option.some.inj hG⟩
  ·rintro a w ⟨v_14, hJ⟩; refine hJ.go fun ho_ => ?_
   clear hJ; subst ho_; replace hG := hG_13
   try (simp only [un2, un3, un4, un5, un6, un7, un8, Sum.elim_inl, Sum.elim_inr, List.length_map, KCopyL.n_Log] at hG; replace hG : _ = _ := hG)
   refine sq ?_; refine rg ?_; refine ra [] f0 [(2, I v_14), (3, I 0)] ?_; refine tN ?_; refine kR ?_; obtain rfl := Option.some.inj hG; exact rt []
 ·refine sb 9 (nf h_2) ?_; refine ct ?_; refine sq ?_; refine rg ?_; refine ra [] f0 [(2, I 0), (3, I 1)] ?_; refine tN ?_; refine kR ?_; refine tR ?_; obtain rfl := Option.some.inj hG; exact rt []
def G_regulatorref38_Ship (F : Nat) (p_0 : List KCopy) (p_1 : Int) (p_2 : Int) (p_3 : Int) : Option ((List KCopy) × Int) :=
  Option.bind (G_regulatorref38_Valid F p_0) (fun v_1 =>
  Option.bind (ifB (v_1)
      (some (p_2, decide (p_3 < 0), p_3))
      (some (p_2, true, p_3)) : Option ((Int × Bool × Int))) (un3 fun (v_4 : Int) (v_5 : Bool) (v_6 : Int) => 
    ifB (v_5)
      (some (([] : List KCopy), 1))
      (Option.bind (G_regulatorref38_find F p_0 p_1) (fun v_8 =>
      Option.bind (G_regulatorref38_find F p_0 v_4) (fun v_9 =>
      Option.bind (ifB (decide (v_8 < 0))
          (some true)
          (some (decide (v_9 < 0))) : Option (Bool)) (fun (v_12 : Bool) => 
        ifB (v_12)
          (some (([] : List KCopy), 4))
          (Option.bind (Option.bind (iter (σ := (List KCopy) × Int) (ρ := (List KCopy)) (un2 fun (v_30 : (List KCopy)) (v_33 : Int) => 
                (ifB (decide (v_33 < ((p_0.length : Nat) : Int)))
                  (Option.bind (ixI p_0 v_33) (fun v_36 =>
                  Option.bind (apG 32 v_30 ([v_36] : List KCopy)) (fun v_40 =>
                  some (.inl (v_40, IntKind.i64.wrap (v_33 + 1))))))
                  (some (.inr v_30)) : Option (((List KCopy) × Int) ⊕ (List KCopy)))) F (([] : List KCopy), 0)) (fun (v_41 : (List KCopy)) => 
              some v_41) : Option ((List KCopy))) (fun (v_45 : (List KCopy)) => 
            Option.bind (ixI p_0 v_9) (fun v_48 =>
            Option.bind (Option.bind (ixI p_0 v_8) (fun v_51 =>
              ifB (decide (((v_51.Log.length : Nat) : Int) > ((v_48.Log.length : Nat) : Int)))
                (Option.bind (ixI p_0 v_8) (fun v_55 =>
                Option.bind (ixI p_0 v_8) (fun v_59 =>
                Option.bind (slI v_59.Log 0 (IntKind.i64.wrap (((v_48.Log.length : Nat) : Int) + (min (IntKind.i64.wrap (((v_55.Log.length : Nat) : Int) - ((v_48.Log.length : Nat) : Int))) v_6)))) (fun v_62 =>
                Option.bind (apG 64 ([] : List KTx) v_62) (fun v_63 =>
                Option.bind (ixI v_45 v_9) (fun v_64 =>
                Option.bind (stI v_45 v_9 (⟨v_64.ID, v_63⟩ : KCopy)) (fun v_66 =>
                some v_66)))))))
                (some v_45)) : Option ((List KCopy))) (fun (v_68 : (List KCopy)) => 
              some (v_68, 0)))))))))))
set_option maxRecDepth 100000 in
set_option maxHeartbeats 16000000 in
theorem z_regulatorref38_Ship (F : Nat) (p_0_A : Option Addr) (p_0_c : Nat) (p_0 : List KCopyL) (p_1 : Int) (p_2 : Int) (p_3 : Int) (r : (List KCopy) × Int) (hG : G_regulatorref38_Ship F (p_0.map KCopyL.p) p_1 p_2 p_3 = some r) :
  Cn Tryz.prog 13 [.slice p_0_A p_0.length p_0_c, I p_1, I p_2, I p_3] [RowC p_0_A p_0_c KCopyL.cells KCopyL.ok p_0] (fun q : KSapi_CopyL => r.1 = (q.l.map KCopyL.p)) (fun q => .tuple #[.slice q.A q.l.length q.c, I r.2]) (fun q => [RowC q.A q.c KCopyL.cells KCopyL.ok q.l]) := by
 unfold G_regulatorref38_Ship at hG
 try (simp only [un2, un3, un4, un5, un6, un7, un8, Sum.elim_inl, Sum.elim_inr, List.length_map, KCopyL.n_Log] at hG; replace hG : _ = _ := hG)
 refine fin Tryz.func13 rfl rfl (mr KCopyL.mv m0) fun S0 w0 hT => ?_
 refine sq ?_; refine rg ?_; refine ra [] f0 [] ?_; refine tN ?_; refine sq ?_; replace hG := bind_some hG; obtain ⟨v_1, hy_1, hG⟩ := hG; refine rg ?_; refine rn 1 [] f0 [(17, .slice p_0_A p_0.length p_0_c)] ?_; refine l1 ?_; refine cl 18 (z_regulatorref38_Valid F p_0_A p_0_c p_0 _ hy_1) hT ⟨ga 0, trivial⟩ ?_; refine ra [] f0 [(10, B v_1)] ?_; refine tN ?_; refine sq ?_; obtain ⟨o_3, hG, hG_3⟩ := bind_some hG; refine jn (fun K E a w => ∃ (v_4 : Int), ∃ (v_5 : Bool), ∃ (v_6 : Int), Js S0 w0 90 ([(2, I v_4), (3, I v_6), (24, B v_5)] ++ K) (se E [0]) ((v_4, v_5, v_6) = o_3) a w) ?_ ?_
 ·replace hG := ifB_cases hG; rcases hG with ⟨h_2, hG⟩ | ⟨h_2, hG⟩
  ·refine rg ?_; refine rn 3 [] f0 [(21, B (!v_1))] ?_; refine sb 21 (nt h_2) ?_; refine ra [] f0 [(24, B (decide (p_3 < 0)))] ?_; refine tN ?_; exact fun a w S hK hE => ⟨p_2, decide (p_3 < 0), p_3, S, hK.wk, hE.sel [0], Option.some.inj hG⟩
  ·refine rg ?_; refine rn 3 [] f0 [(21, B (!v_1))] ?_; refine sb 21 (nf h_2) ?_; refine ra [] f0 [(24, B true)] ?_; refine tN ?_; exact fun a w S hK hE => ⟨p_2, true, p_3, S, hK.wk, hE.sel [0], Option.some.inj hG⟩
 ·rintro a w ⟨v_4, v_5, v_6, hJ⟩; refine hJ.go fun ho_ => ?_
  clear hJ; subst ho_; replace hG := hG_3
  try (simp only [un2, un3, un4, un5, un6, un7, un8, Sum.elim_inl, Sum.elim_inr, List.length_map, KCopyL.n_Log] at hG; replace hG : _ = _ := hG)
  rcases ifB_cases hG with ⟨h_7, hG⟩ | ⟨h_7, hG⟩
  ·refine sb 24 (bt h_7) ?_; refine ct ?_; refine sq ?_; refine rg ?_; refine ra [] f0 [(8, .slice none 0 0), (9, I 1)] ?_; refine tN ?_; refine kR ?_; refine tR ?_; obtain rfl := Option.some.inj hG; exact rtn [] ⟨none, 0, ([] : List KCopyL)⟩ rfl ⟨gn, trivial⟩
  ·refine sb 24 (bf h_7) ?_; refine cf ?_; refine kS ?_; refine tN ?_; refine sq ?_; replace hG := bind_some hG; obtain ⟨v_8, hy_8, hG⟩ := hG; refine rg ?_; refine rn 2 [] f0 [(25, .slice p_0_A p_0.length p_0_c), (26, I p_1)] ?_; refine l1 ?_; refine cl 27 (z_regulatorref38_find F p_0_A p_0_c p_0 p_1 _ hy_8) hT ⟨ga 0, trivial⟩ ?_; refine ra [] f0 [(11, I v_8)] ?_; refine tN ?_; refine sq ?_; replace hG := bind_some hG; obtain ⟨v_9, hy_9, hG⟩ := hG; refine rg ?_; refine rn 2 [] f0 [(28, .slice p_0_A p_0.length p_0_c), (29, I v_4)] ?_; refine l1 ?_; refine cl 30 (z_regulatorref38_find F p_0_A p_0_c p_0 v_4 _ hy_9) hT ⟨ga 0, trivial⟩ ?_; refine ra [] f0 [(12, I v_9)] ?_; refine tN ?_; refine sq ?_; obtain ⟨o_11, hG, hG_11⟩ := bind_some hG; refine jn (fun K E a w => ∃ (v_12 : Bool), Js S0 w0 90 ([(36, B v_12)] ++ K) (se E [0]) (v_12 = o_11) a w) ?_ ?_
   ·replace hG := ifB_cases hG; rcases hG with ⟨h_10, hG⟩ | ⟨h_10, hG⟩
    ·refine rg ?_; refine rn 3 [] f0 [(33, B (decide (v_8 < 0)))] ?_; refine sb 33 (bt h_10) ?_; refine ra [] f0 [(36, B true)] ?_; refine tN ?_; exact fun a w S hK hE => ⟨true, S, hK.wk, hE.sel [0], Option.some.inj hG⟩
    ·refine rg ?_; refine rn 3 [] f0 [(33, B (decide (v_8 < 0)))] ?_; refine sb 33 (bf h_10) ?_; refine ra [] f0 [(36, B (decide (v_9 < 0)))] ?_; refine tN ?_; exact fun a w S hK hE => ⟨decide (v_9 < 0), S, hK.wk, hE.sel [0], Option.some.inj hG⟩
   ·rintro a w ⟨v_12, hJ⟩; refine hJ.go fun ho_ => ?_
    clear hJ; subst ho_; replace hG := hG_11
    try (simp only [un2, un3, un4, un5, un6, un7, un8, Sum.elim_inl, Sum.elim_inr, List.length_map, KCopyL.n_Log] at hG; replace hG : _ = _ := hG)
    rcases ifB_cases hG with ⟨h_13, hG⟩ | ⟨h_13, hG⟩
    ·refine sb 36 (bt h_13) ?_; refine ct ?_; refine sq ?_; refine rg ?_; refine ra [] f0 [(8, .slice none 0 0), (9, I 4)] ?_; refine tN ?_; refine kR ?_; refine tR ?_; obtain rfl := Option.some.inj hG; exact rtn [] ⟨none, 0, ([] : List KCopyL)⟩ rfl ⟨gn, trivial⟩
    ·refine sb 36 (bf h_13) ?_; refine cf ?_; refine kS ?_; refine tN ?_; refine sq ?_; refine rg ?_; refine ra [] f0 [(13, .slice none 0 0)] ?_; refine tN ?_; obtain ⟨o_44, hG, hG_44⟩ := bind_some hG; refine jn (fun K E a w => ∃ (v_45 : List KCopyL), ∃ (v_46_A : Option Addr), ∃ (v_47_c : Nat), Js S0 w0 90 ([(13, .slice v_46_A v_45.length v_47_c)] ++ K) ([.own 40 2 (.slice v_46_A v_45.length v_47_c) v_45.length (v_45.flatMap KCopyL.cells), .dat (Each KCopyL.ok v_45)] ++ se E [0]) ((v_45.map KCopyL.p) = o_44) a w) ?_ ?_
     ·refine sq ?_; refine rg ?_; refine ra [] f0 [(14, I 0)] ?_; refine tN ?_; refine bk ?_; obtain ⟨e_34, hL, hG_34⟩ := bind_some hG; clear hG; obtain ⟨stp_34, hs_34, hL⟩ := iter_gen hL; refine lp (fun K E n_ a w => ∃ (v_30 : List KCopyL), ∃ (v_31_A : Option Addr), ∃ (v_32_c : Nat), ∃ (v_33 : Int), Js S0 w0 90 ([(13, .slice v_31_A v_30.length v_32_c), (14, I v_33)] ++ K) ([.own 40 2 (.slice v_31_A v_30.length v_32_c) v_30.length (v_30.flatMap KCopyL.cells), .dat (Each KCopyL.ok v_30)] ++ se E [0]) (iter stp_34 n_ ((v_30.map KCopyL.p), v_33) = some e_34) a w) F ?_ ?_
      ·refine on 40 2 ?_; refine fm (Each KCopyL.ok ([] : List KCopyL)) e0 ?_; exact fun a w S hK hE => ⟨([] : List KCopyL), none, 0, 0, S, hK.wk, hE.sel [1, 0, 2], hL⟩
      ·clear hL; rintro n_34 a w ⟨v_30, v_31_A, v_32_c, v_33, hJ⟩; refine hJ.go fun hL => ?_
       clear hJ; obtain ⟨m_34, o_34, rfl, hG, hO1_34, hO2_34⟩ := iter_step hL; clear hL; rw [hs_34] at hG
       try (simp only [un2, un3, un4, un5, un6, un7, un8, Sum.elim_inl, Sum.elim_inr, List.length_map, KCopyL.n_Log] at hG; replace hG : _ = _ := hG)
       refine sq ?_; refine sq ?_; refine rg ?_; refine ra [] f0 [(40, B (decide (v_33 < ((p_0.length : Nat) : Int))))] ?_; refine tN ?_; rcases ifB_cases hG with ⟨h_35, hG⟩ | ⟨h_35, hG⟩
       ·try simp only [List.length_map, KCopyL.n_Log] at h_35
        refine sb 40 (bt h_35) ?_; refine ct ?_; refine kS ?_; refine tN ?_; refine sq ?_; refine bk ?_; replace hG := bind_some hG; obtain ⟨v_36o, hy_36, hG⟩ := hG; replace hG := bind_some hG; obtain ⟨v_40o, hy_40, hG⟩ := hG; refine rg ?_; refine fxn (p := KCopyL.p) inf22 (gd' (RowC p_0_A p_0_c KCopyL.cells KCopyL.ok p_0) 2) hy_36 fun v_36 b_37 o_38 he_36 hi_36 => ?_
        subst he_36
        try (simp only [un2, un3, un4, un5, un6, un7, un8, Sum.elim_inl, Sum.elim_inr, List.length_map, KCopyL.n_Log] at hG; replace hG : _ = _ := hG)
        refine rn 5 [(3, 0, 0, 0), (0, 2, 0, 0)] (fc (hi_36 .i64) f0) [(43, .slice v_31_A v_30.length v_32_c), (47, .agg #[I v_36.ID, .slice v_36.Log_A v_36.Log.length v_36.Log_c])] ?_; refine l1 ?_; refine nw 48 (vs 1) [I v_36.ID, .slice v_36.Log_A v_36.Log.length v_36.Log_c] 40 fun g_39 => ?_
        refine l1 ?_; refine apn (p := KCopyL.p) (ok := KCopyL.ok) 3 49 v_31_A v_32_c v_30 ([v_36] : List KCopyL) inf22 (bA (f := KCopyL.cells) (ok := tr) (l := ([v_36] : List KCopyL)) g_39 0 et.a) (gd' (Each KCopyL.ok v_30) 4) (ec (gi 2) e0) hy_40 KCopyL.one fun v_40 v_40_A v_40_c he_40 _ => ?_
        subst he_40
        try (simp only [un2, un3, un4, un5, un6, un7, un8, Sum.elim_inl, Sum.elim_inr, List.length_map, KCopyL.n_Log] at hG; replace hG : _ = _ := hG)
        refine ra [] f0 [(13, .slice v_40_A v_40.length v_40_c)] ?_; refine hN ?_; refine tN ?_; refine rg ?_; refine ra [] f0 [(14, I (IntKind.i64.wrap (v_33 + 1)))] ?_; refine tN ?_; exact fun a w S hK hE => ⟨m_34, ⟨v_40, v_40_A, v_40_c, IntKind.i64.wrap (v_33 + 1), S, hK.wk, hE.sel [4, 0, 6], hO1_34 _ (Option.some.inj hG).symm⟩, Nat.lt_succ_self _⟩
       ·try simp only [List.length_map, KCopyL.n_Log] at h_35
        refine sb 40 (bf h_35) ?_; refine cf ?_; refine kX ?_; refine tX ?_; refine tX ?_; have he_ := hO2_34 _ (Option.some.inj hG).symm; subst he_; replace hG := hG_34
        try (simp only [un2, un3, un4, un5, un6, un7, un8, Sum.elim_inl, Sum.elim_inr, List.length_map, KCopyL.n_Log] at hG; replace hG : _ = _ := hG)
        refine hH ?_; refine tN ?_; exact fun a w S hK hE => ⟨v_30, v_31_A, v_32_c, S, hK.wk, hE.sel [0, 1, 2], Option.some.inj hG⟩
     ·rintro a w ⟨v_45, v_46_A, v_47_c, hJ⟩; refine hJ.go fun ho_ => ?_
      clear hJ; subst ho_; replace hG := hG_44
      try (simp only [un2, un3, un4, un5, un6, un7, un8, Sum.elim_inl, Sum.elim_inr, List.length_map, KCopyL.n_Log] at hG; replace hG : _ = _ := hG)
      refine sq ?_; replace hG := bind_some hG; obtain ⟨v_48o, hy_48, hG⟩ := hG; refine rg ?_; refine fxn (p := KCopyL.p) inf22 (gd' (RowC p_0_A p_0_c KCopyL.cells KCopyL.ok p_0) 2) hy_48 fun v_48 b_49 o_50 he_48 hi_48 => ?_
      subst he_48
      try (simp only [un2, un3, un4, un5, un6, un7, un8, Sum.elim_inl, Sum.elim_inr, List.length_map, KCopyL.n_Log] at hG; replace hG : _ = _ := hG)
      refine ra [(2, 0, 0, 0), (1, 1, 0, 1)] (fc (hi_48 .i64) f0) [(15, I ((v_48.Log.length : Nat) : Int))] ?_; refine tN ?_; obtain ⟨o_67, hG, hG_67⟩ := bind_some hG; refine jn (fun K E a w => ∃ (v_68 : List KCopyL), ∃ (v_69_A : Option Addr), ∃ (v_70_c : Nat), Js S0 w0 90 ([(13, .slice v_69_A v_68.length v_70_c)] ++ K) ([.own 40 2 (.slice v_69_A v_68.length v_70_c) v_68.length (v_68.flatMap KCopyL.cells), .dat (Each KCopyL.ok v_68)]) ((v_68.map KCopyL.p) = o_67) a w) ?_ ?_
      ·refine sq ?_; replace hG := bind_some hG; obtain ⟨v_51o, hy_51, hG⟩ := hG; refine rg ?_; refine fxn (p := KCopyL.p) inf22 (gd' (RowC p_0_A p_0_c KCopyL.cells KCopyL.ok p_0) 4) hy_51 fun v_51 b_52 o_53 he_51 hi_51 => ?_
       subst he_51
       try (simp only [un2, un3, un4, un5, un6, un7, un8, Sum.elim_inl, Sum.elim_inr, List.length_map, KCopyL.n_Log] at hG; replace hG : _ = _ := hG)
       refine ra [(2, 0, 0, 0), (1, 1, 0, 1)] (fc (hi_51 .i64) f0) [(63, B (decide (((v_51.Log.length : Nat) : Int) > ((v_48.Log.length : Nat) : Int))))] ?_; refine tN ?_; rcases ifB_cases hG with ⟨h_54, hG⟩ | ⟨h_54, hG⟩
       ·try simp only [List.length_map, KCopyL.n_Log] at h_54
        refine sb 63 (bt h_54) ?_; refine ct ?_; refine sq ?_; replace hG := bind_some hG; obtain ⟨v_55o, hy_55, hG⟩ := hG; refine rg ?_; refine fxn (p := KCopyL.p) inf22 (gd' (RowC p_0_A p_0_c KCopyL.cells KCopyL.ok p_0) 6) hy_55 fun v_55 b_56 o_57 he_55 hi_55 => ?_
        subst he_55
        try (simp only [un2, un3, un4, un5, un6, un7, un8, Sum.elim_inl, Sum.elim_inr, List.length_map, KCopyL.n_Log] at hG; replace hG : _ = _ := hG)
        refine rn 10 [(2, 0, 0, 0), (1, 1, 0, 1)] (fc (hi_55 .i64) f0) [(73, I (if v_6 < (IntKind.i64.wrap (((v_55.Log.length : Nat) : Int) - ((v_48.Log.length : Nat) : Int))) then v_6 else (IntKind.i64.wrap (((v_55.Log.length : Nat) : Int) - ((v_48.Log.length : Nat) : Int)))))] ?_; refine sb 73 (v := I (if v_6 < (IntKind.i64.wrap (((v_55.Log.length : Nat) : Int) - ((v_48.Log.length : Nat) : Int))) then v_6 else (IntKind.i64.wrap (((v_55.Log.length : Nat) : Int) - ((v_48.Log.length : Nat) : Int))))) (v' := I (min (IntKind.i64.wrap (((v_55.Log.length : Nat) : Int) - ((v_48.Log.length : Nat) : Int))) v_6)) (congrArg (Value.int .i64) (by omega)) ?_; refine ra [] f0 [(16, I (min (IntKind.i64.wrap (((v_55.Log.length : Nat) : Int) - ((v_48.Log.length : Nat) : Int))) v_6))] ?_; refine tN ?_; replace hG := bind_some hG; obtain ⟨v_59o, hy_59, hG⟩ := hG; replace hG := bind_some hG; obtain ⟨v_62o, hy_62, hG⟩ := hG; replace hG := bind_some hG; obtain ⟨v_63o, hy_63, hG⟩ := hG; replace hG := bind_some hG; obtain ⟨v_64o, hy_64, hG⟩ := hG; replace hG := bind_some hG; obtain ⟨v_66o, hy_66, hG⟩ := hG; refine rg ?_; refine rn 2 [] f0 [(74, .slice v_46_A v_45.length v_47_c), (75, I v_9)] ?_; refine l1 ?_; refine nw 76 (vs 0) [] 47 fun g_58 => ?_
        refine fxn (p := KCopyL.p) inf22 (gd' (RowC p_0_A p_0_c KCopyL.cells KCopyL.ok p_0) 9) hy_59 fun v_59 b_60 o_61 he_59 hi_59 => ?_
        subst he_59
        try (simp only [un2, un3, un4, un5, un6, un7, un8, Sum.elim_inl, Sum.elim_inr, List.length_map, KCopyL.n_Log] at hG; replace hG : _ = _ := hG)
        refine fpn (p := KTxL.p) false true inf38 (gm (KCopyL.ok v_59) 1 fun _ _ h => h.f_Log) hy_62 fun v_62 v_62_A v_62_c he_62 hp_62 => ?_
        subst he_62
        try (simp only [un2, un3, un4, un5, un6, un7, un8, Sum.elim_inl, Sum.elim_inr, List.length_map, KCopyL.n_Log] at hG; replace hG : _ = _ := hG)
        refine rn 9 [(2, 0, 0, 0), (1, 1, 1, 1), (3, 0, 0, 0)] (fc (hi_59 .i64) (fc (hp_62 .i64 .i64) f0)) [(85, .slice v_62_A v_62.length v_62_c)] ?_; refine bo 3 4 0 g_58 47 [] ?_; refine l1 ?_; refine apn (p := KTxL.p) (ok := KTxL.ok) 3 86 (some ⟨g_58, 0, none⟩) 0 ([] : List KTxL) v_62 inf38 (Fa.tr ((gd' (RowC v_62_A v_62_c KTxL.cells KTxL.ok v_62) 0).a)) e0 (gm (RowC v_62_A v_62_c KTxL.cells KTxL.ok v_62) 0 fun _ _ h => h.e) hy_63 KTxL.one fun v_63 v_63_A v_63_c he_63 _ => ?_
        subst he_63
        try (simp only [un2, un3, un4, un5, un6, un7, un8, Sum.elim_inl, Sum.elim_inr, List.length_map, KCopyL.n_Log] at hG; replace hG : _ = _ := hG)
        refine fy (p := KCopyL.p) (ok := KCopyL.ok) (l := v_45) (gd' (Each KCopyL.ok v_45) 12) hy_64 fun v_64 he_64 hz_64 hu_64 => ?_
        subst he_64
        try (simp only [un2, un3, un4, un5, un6, un7, un8, Sum.elim_inl, Sum.elim_inr, List.length_map, KCopyL.n_Log] at hG; replace hG : _ = _ := hG)
        refine fo 12 v_46_A v_45.length v_47_c KCopyL.cells v_45 rfl inf22 hz_64 fun g_65 hA_64 hi_64 => ?_
        refine rn 2 [(0, 0, 0, 0)] (fc (hi_64 .i64) f0) [(88, Pt g_65 (v_9.toNat * 2 + 1))] ?_; refine so (A := v_63_A) (c := v_63_c) 5 KTxL.cells KTxL.ok v_63 KTxL.mv (gd' (Each KTxL.ok v_63) 1) ?_; refine l1 ?_; refine swp (p := KCopyL.p) (ok := KCopyL.ok) 12 40 2 g_65 v_45.length v_47_c KCopyL.cells v_45 v_64 (⟨v_64.ID, v_63_A, v_63_c, v_63⟩ : KCopyL) 1 [.slice v_63_A v_63.length v_63_c] rfl hA_64 hu_64 rfl hy_66 (gd' (Each KCopyL.ok v_45) 13) (((gd' (RowC v_63_A v_63_c KTxL.cells KTxL.ok v_63) 5)).m fun _ _ h => ⟨h⟩) fun v_66 he_66 hl_66 => ?_
        subst he_66
        try (simp only [un2, un3, un4, un5, un6, un7, un8, Sum.elim_inl, Sum.elim_inr, List.length_map, KCopyL.n_Log] at hG; replace hG : _ = _ := hG)
        have hk_66 : v_45.length = v_66.length := hl_66; refine nl ?_; refine ek 13 40 2 v_46_A v_45.length v_47_c (v_66.flatMap KCopyL.cells) v_66.length hk_66 ?_; refine sb 13 (v := .slice v_46_A v_45.length v_47_c) (v' := .slice v_46_A v_66.length v_47_c) (by rw [hk_66]) ?_; refine sb 74 (v := .slice v_46_A v_45.length v_47_c) (v' := .slice v_46_A v_66.length v_47_c) (by rw [hk_66]) ?_; refine tN ?_; exact fun a w S hK hE => ⟨v_66, v_46_A, v_47_c, S, hK.wk, hE.sel [13, 0], Option.some.inj hG⟩
       ·try simp only [List.length_map, KCopyL.n_Log] at h_54
        refine sb 63 (bf h_54) ?_; refine cf ?_; refine kS ?_; refine tN ?_; exact fun a w S hK hE => ⟨v_45, v_46_A, v_47_c, S, hK.wk, hE.sel [4, 5], Option.some.inj hG⟩
      ·rintro a w ⟨v_68, v_69_A, v_70_c, hJ⟩; refine hJ.go fun ho_ => ?_
       clear hJ; subst ho_; replace hG := hG_67
       try (simp only [un2, un3, un4, un5, un6, un7, un8, Sum.elim_inl, Sum.elim_inr, List.length_map, KCopyL.n_Log] at hG; replace hG : _ = _ := hG)
       refine sq ?_; refine rg ?_; refine ra [] f0 [(8, .slice v_69_A v_68.length v_70_c), (9, I 0)] ?_; refine tN ?_; refine kR ?_; obtain rfl := Option.some.inj hG; refine so (A := v_69_A) (c := v_70_c) 0 KCopyL.cells KCopyL.ok v_68 KCopyL.mv (gd' (Each KCopyL.ok v_68) 1) ?_; exact rtn [] ⟨v_69_A, v_70_c, v_68⟩ rfl ⟨gi 0, trivial⟩
end Go.Proofs.YtkchfmhgboiimaaGreat
namespace Go.Proofs.YtkchfmhgboiimaaGreat
open Go.RowKit Go.Maps
end Go.Proofs.YtkchfmhgboiimaaGreat
namespace Go.Proofs.YtkchfmhgboiimaaGreat
open Go.RowKit Go.Maps
end Go.Proofs.YtkchfmhgboiimaaGreat
namespace Go.Proofs.YtkchfmhgboiimaaGreat
open Go.RowKit Go.Maps
def G_regulatorlaw38_CopiesMatchesReference (F : Nat) (p_0 : List KCopy) (p_1 : Int) (p_2 : Int) (p_3 : Int) (p_4 : List Int) (p_5 : Int) : Option (Bool) :=
  Option.bind (G_regulatorlaw38_head F ) (fun v_1 =>
  Option.bind (Option.bind (G_regulatorref38_Few F p_0) (fun v_2 =>
    ifB (v_2)
      (some (p_2, p_3, decide (((p_4.length : Nat) : Int) > 20), p_4, p_5))
      (some (p_2, p_3, true, p_4, p_5))) : Option ((Int × Int × Bool × (List Int) × Int))) (un5 fun (v_5 : Int) (v_6 : Int) (v_7 : Bool) (v_8 : (List Int)) (v_11 : Int) => 
    ifB (v_7)
      (some v_1)
      (Option.bind (G_copies_Ship F p_0 p_1 v_5 v_6) (un2 fun v_13 v_14 =>
      Option.bind (G_regulatorref38_Ship F p_0 p_1 v_5 v_6) (un2 fun v_15 v_16 =>
      Option.bind (ifB (v_1)
          (Option.bind (G_copies_Valid F p_0) (fun v_18 =>
          Option.bind (G_regulatorref38_Valid F p_0) (fun v_19 =>
          ifB ((v_18 == v_19))
            (Option.bind (G_regulatorref38_Same F v_13 v_15) (fun v_21 =>
            ifB (v_21)
              (some (v_14 == v_16))
              (some false)))
            (some false))))
          (some false) : Option (Bool)) (fun (v_24 : Bool) => 
        Option.bind (G_copies_Safe F p_0) (un2 fun v_25 v_26 =>
        Option.bind (G_regulatorref38_Safe F p_0) (un2 fun v_27 v_28 =>
        Option.bind (ifB (v_24)
            (ifB ((v_25 == v_27))
              (some (v_26 == v_28))
              (some false))
            (some false) : Option (Bool)) (fun (v_32 : Bool) => 
          Option.bind (G_copies_Elect F p_0 v_8) (un2 fun v_33 v_34 =>
          Option.bind (G_regulatorref38_Elect F p_0 v_8) (un2 fun v_35 v_36 =>
          Option.bind (ifB (v_32)
              (ifB ((v_33 == v_35))
                (some (v_34 == v_36))
                (some false))
              (some false) : Option (Bool)) (fun (v_40 : Bool) => 
            Option.bind (G_copies_Read F p_0 p_1 v_11) (un2 fun v_41 v_42 =>
            Option.bind (G_regulatorref38_Read F p_0 p_1 v_11) (un2 fun v_43 v_44 =>
            Option.bind (ifB (v_40)
                (Option.bind (G_regulatorref33_Same F v_41 v_43) (fun v_46 =>
                ifB (v_46)
                  (some (v_42 == v_44))
                  (some false)))
                (some false) : Option (Bool)) (fun (v_49 : Bool) => 
              some v_49)))))))))))))))
set_option maxRecDepth 100000 in
set_option maxHeartbeats 16000000 in
theorem z_regulatorlaw38_CopiesMatchesReference (F : Nat) (p_0_A : Option Addr) (p_0_c : Nat) (p_0 : List KCopyL) (p_1 : Int) (p_2 : Int) (p_3 : Int) (p_4_A : Option Addr) (p_4_c : Nat) (p_4 : List Int) (p_5 : Int) (r : Bool) (hG : G_regulatorlaw38_CopiesMatchesReference F (p_0.map KCopyL.p) p_1 p_2 p_3 p_4 p_5 = some r) :
  Cf Tryz.prog 3 [.slice p_0_A p_0.length p_0_c, I p_1, I p_2, I p_3, .slice p_4_A p_4.length p_4_c, I p_5] [RowC p_0_A p_0_c KCopyL.cells KCopyL.ok p_0, RowC p_4_A p_4_c c_i64 tr p_4] (B r) := by
 unfold G_regulatorlaw38_CopiesMatchesReference at hG
 try (simp only [un2, un3, un4, un5, un6, un7, un8, Sum.elim_inl, Sum.elim_inr, List.length_map, KCopyL.n_Log] at hG; replace hG : _ = _ := hG)
 refine fi Tryz.func3 rfl rfl (mr KCopyL.mv (mr tr_mv m0)) fun S0 w0 hT => ?_
 refine sq ?_; refine rg ?_; refine ra [] f0 [] ?_; refine tN ?_; refine sq ?_; replace hG := bind_some hG; obtain ⟨v_1, hy_1, hG⟩ := hG; refine rg ?_; refine l1 ?_; refine cl 22 (z_regulatorlaw38_head F  _ hy_1) hT trivial ?_; refine ra [] f0 [(13, B v_1)] ?_; refine tN ?_; refine sq ?_; obtain ⟨o_4, hG, hG_4⟩ := bind_some hG; refine jn (fun K E a w => ∃ (v_5 : Int), ∃ (v_6 : Int), ∃ (v_7 : Bool), ∃ (v_8 : List Int), ∃ (v_9_A : Option Addr), ∃ (v_10_c : Nat), ∃ (v_11 : Int), Js S0 w0 135 ([(2, I v_5), (3, I v_6), (4, .slice v_9_A v_8.length v_10_c), (5, I v_11), (30, B v_7)] ++ K) ([.dat (RowC v_9_A v_10_c c_i64 tr v_8)] ++ se E [0]) ((v_5, v_6, v_7, v_8, v_11) = o_4) a w) ?_ ?_
 ·replace hG := bind_some hG; obtain ⟨v_2, hy_2, hG⟩ := hG; replace hG := ifB_cases hG; rcases hG with ⟨h_3, hG⟩ | ⟨h_3, hG⟩
  ·refine rg ?_; refine rn 1 [] f0 [(23, .slice p_0_A p_0.length p_0_c)] ?_; refine l1 ?_; refine cl 24 (z_regulatorref38_Few F p_0_A p_0_c p_0 _ hy_2) hT ⟨ga 0, trivial⟩ ?_; refine rn 2 [] f0 [(26, B (!v_2))] ?_; refine sb 26 (nt h_3) ?_; refine ra [] f0 [(30, B (decide (((p_4.length : Nat) : Int) > 20)))] ?_; refine tN ?_; exact fun a w S hK hE => ⟨p_2, p_3, decide (((p_4.length : Nat) : Int) > 20), p_4, p_4_A, p_4_c, p_5, S, hK.wk, hE.sel [1, 0], Option.some.inj hG⟩
  ·refine rg ?_; refine rn 1 [] f0 [(23, .slice p_0_A p_0.length p_0_c)] ?_; refine l1 ?_; refine cl 24 (z_regulatorref38_Few F p_0_A p_0_c p_0 _ hy_2) hT ⟨ga 0, trivial⟩ ?_; refine rn 2 [] f0 [(26, B (!v_2))] ?_; refine sb 26 (nf h_3) ?_; refine ra [] f0 [(30, B true)] ?_; refine tN ?_; exact fun a w S hK hE => ⟨p_2, p_3, true, p_4, p_4_A, p_4_c, p_5, S, hK.wk, hE.sel [1, 0], Option.some.inj hG⟩
 ·rintro a w ⟨v_5, v_6, v_7, v_8, v_9_A, v_10_c, v_11, hJ⟩; refine hJ.go fun ho_ => ?_
  clear hJ; subst ho_; replace hG := hG_4
  try (simp only [un2, un3, un4, un5, un6, un7, un8, Sum.elim_inl, Sum.elim_inr, List.length_map, KCopyL.n_Log] at hG; replace hG : _ = _ := hG)
  rcases ifB_cases hG with ⟨h_12, hG⟩ | ⟨h_12, hG⟩
  ·refine sb 30 (bt h_12) ?_; refine ct ?_; refine sq ?_; refine rg ?_; refine ra [] f0 [(12, B v_1)] ?_; refine tN ?_; refine kR ?_; refine tR ?_; obtain rfl := Option.some.inj hG; exact rt []
  ·refine sb 30 (bf h_12) ?_; refine cf ?_; refine kS ?_; refine tN ?_; refine sq ?_; replace hG := bind_some hG; obtain ⟨⟨v_13o, v_14⟩, hy_13, hG⟩ := hG; refine rg ?_; refine rn 4 [] f0 [(33, .slice p_0_A p_0.length p_0_c), (34, I p_1), (35, I v_5), (36, I v_6)] ?_; refine l1 ?_; refine cn 37 (z_copies_Ship F p_0_A p_0_c p_0 p_1 v_5 v_6 _ hy_13) hT (fun _ => (mr KCopyL.mv m0)) ⟨gi 1, trivial⟩ ?_; rintro ⟨v_13_A, v_13_c, v_13⟩ hq_13; obtain rfl : (v_13.map KCopyL.p) = v_13o := hq_13.symm
   try (simp only [un2, un3, un4, un5, un6, un7, un8, Sum.elim_inl, Sum.elim_inr, List.length_map, KCopyL.n_Log] at hG; replace hG : _ = _ := hG)
   refine ra [] f0 [(14, .slice v_13_A v_13.length v_13_c), (15, I v_14)] ?_; refine tN ?_; refine sq ?_; replace hG := bind_some hG; obtain ⟨⟨v_15o, v_16⟩, hy_15, hG⟩ := hG; refine rg ?_; refine rn 4 [] f0 [(41, .slice p_0_A p_0.length p_0_c), (42, I p_1), (43, I v_5), (44, I v_6)] ?_; refine l1 ?_; refine cn 45 (z_regulatorref38_Ship F p_0_A p_0_c p_0 p_1 v_5 v_6 _ hy_15) hT (fun _ => (mr KCopyL.mv m0)) ⟨gi 2, trivial⟩ ?_; rintro ⟨v_15_A, v_15_c, v_15⟩ hq_15; obtain rfl : (v_15.map KCopyL.p) = v_15o := hq_15.symm
   try (simp only [un2, un3, un4, un5, un6, un7, un8, Sum.elim_inl, Sum.elim_inr, List.length_map, KCopyL.n_Log] at hG; replace hG : _ = _ := hG)
   refine ra [] f0 [(16, .slice v_15_A v_15.length v_15_c), (17, I v_16)] ?_; refine tN ?_; obtain ⟨o_23, hG, hG_23⟩ := bind_some hG; refine jn (fun K E a w => ∃ (v_24 : Bool), Js S0 w0 135 ([(13, B v_24)] ++ K) (se E [2, 3]) (v_24 = o_23) a w) ?_ ?_
   ·replace hG := ifB_cases hG; rcases hG with ⟨h_17, hG⟩ | ⟨h_17, hG⟩
    ·replace hG := bind_some hG; obtain ⟨v_18, hy_18, hG⟩ := hG; replace hG := bind_some hG; obtain ⟨v_19, hy_19, hG⟩ := hG; replace hG := ifB_cases hG; rcases hG with ⟨h_20, hG⟩ | ⟨h_20, hG⟩
     ·replace hG := bind_some hG; obtain ⟨v_21, hy_21, hG⟩ := hG; replace hG := ifB_cases hG; rcases hG with ⟨h_22, hG⟩ | ⟨h_22, hG⟩
      ·refine rg ?_; refine rn 2 [] f0 [(49, B v_1)] ?_; refine sb 49 (bt h_17) ?_; refine rn 1 [] f0 [(50, .slice p_0_A p_0.length p_0_c)] ?_; refine l1 ?_; refine cl 51 (z_copies_Valid F p_0_A p_0_c p_0 _ hy_18) hT ⟨ga 3, trivial⟩ ?_; refine rn 1 [] f0 [(52, .slice p_0_A p_0.length p_0_c)] ?_; refine l1 ?_; refine cl 53 (z_regulatorref38_Valid F p_0_A p_0_c p_0 _ hy_19) hT ⟨ga 3, trivial⟩ ?_; refine rn 3 [] f0 [(56, B (v_18 == v_19))] ?_; refine sb 56 (bt h_20) ?_; refine rn 2 [] f0 [(57, .slice v_13_A v_13.length v_13_c), (58, .slice v_15_A v_15.length v_15_c)] ?_; refine l1 ?_; refine cl 59 (z_regulatorref38_Same F v_13_A v_13_c v_13 v_15_A v_15_c v_15 _ hy_21) hT ⟨ga 1, ga 0, trivial⟩ ?_; refine rn 2 [] f0 [(61, B v_21)] ?_; refine sb 61 (bt h_22) ?_; refine ra [] f0 [(13, B (v_14 == v_16))] ?_; refine tN ?_; exact fun a w S hK hE => ⟨(v_14 == v_16), S, hK.wk, hE.sel [2, 3], Option.some.inj hG⟩
      ·refine rg ?_; refine rn 2 [] f0 [(49, B v_1)] ?_; refine sb 49 (bt h_17) ?_; refine rn 1 [] f0 [(50, .slice p_0_A p_0.length p_0_c)] ?_; refine l1 ?_; refine cl 51 (z_copies_Valid F p_0_A p_0_c p_0 _ hy_18) hT ⟨ga 3, trivial⟩ ?_; refine rn 1 [] f0 [(52, .slice p_0_A p_0.length p_0_c)] ?_; refine l1 ?_; refine cl 53 (z_regulatorref38_Valid F p_0_A p_0_c p_0 _ hy_19) hT ⟨ga 3, trivial⟩ ?_; refine rn 3 [] f0 [(56, B (v_18 == v_19))] ?_; refine sb 56 (bt h_20) ?_; refine rn 2 [] f0 [(57, .slice v_13_A v_13.length v_13_c), (58, .slice v_15_A v_15.length v_15_c)] ?_; refine l1 ?_; refine cl 59 (z_regulatorref38_Same F v_13_A v_13_c v_13 v_15_A v_15_c v_15 _ hy_21) hT ⟨ga 1, ga 0, trivial⟩ ?_; refine rn 2 [] f0 [(61, B v_21)] ?_; refine sb 61 (bf h_22) ?_; refine ra [] f0 [(13, B false)] ?_; refine tN ?_; exact fun a w S hK hE => ⟨false, S, hK.wk, hE.sel [2, 3], Option.some.inj hG⟩
     ·refine rg ?_; refine rn 2 [] f0 [(49, B v_1)] ?_; refine sb 49 (bt h_17) ?_; refine rn 1 [] f0 [(50, .slice p_0_A p_0.length p_0_c)] ?_; refine l1 ?_; refine cl 51 (z_copies_Valid F p_0_A p_0_c p_0 _ hy_18) hT ⟨ga 3, trivial⟩ ?_; refine rn 1 [] f0 [(52, .slice p_0_A p_0.length p_0_c)] ?_; refine l1 ?_; refine cl 53 (z_regulatorref38_Valid F p_0_A p_0_c p_0 _ hy_19) hT ⟨ga 3, trivial⟩ ?_; refine rn 3 [] f0 [(56, B (v_18 == v_19))] ?_; refine sb 56 (bf h_20) ?_; refine ra [] f0 [(13, B false)] ?_; refine tN ?_; exact fun a w S hK hE => ⟨false, S, hK.wk, hE.sel [2, 3], Option.some.inj hG⟩
    ·refine rg ?_; refine rn 2 [] f0 [(49, B v_1)] ?_; refine sb 49 (bf h_17) ?_; refine ra [] f0 [(13, B false)] ?_; refine tN ?_; exact fun a w S hK hE => ⟨false, S, hK.wk, hE.sel [2, 3], Option.some.inj hG⟩
   ·rintro a w ⟨v_24, hJ⟩; refine hJ.go fun ho_ => ?_
    clear hJ; subst ho_; replace hG := hG_23
    try (simp only [un2, un3, un4, un5, un6, un7, un8, Sum.elim_inl, Sum.elim_inr, List.length_map, KCopyL.n_Log] at hG; replace hG : _ = _ := hG)
    refine sq ?_; replace hG := bind_some hG; obtain ⟨⟨v_25, v_26⟩, hy_25, hG⟩ := hG; refine rg ?_; refine rn 1 [] f0 [(67, .slice p_0_A p_0.length p_0_c)] ?_; refine l1 ?_; refine cl 68 (z_copies_Safe F p_0_A p_0_c p_0 _ hy_25) hT ⟨ga 1, trivial⟩ ?_; refine ra [] f0 [(18, I v_25), (15, I v_26)] ?_; refine tN ?_; refine sq ?_; replace hG := bind_some hG; obtain ⟨⟨v_27, v_28⟩, hy_27, hG⟩ := hG; refine rg ?_; refine rn 1 [] f0 [(72, .slice p_0_A p_0.length p_0_c)] ?_; refine l1 ?_; refine cl 73 (z_regulatorref38_Safe F p_0_A p_0_c p_0 _ hy_27) hT ⟨ga 1, trivial⟩ ?_; refine ra [] f0 [(19, I v_27), (17, I v_28)] ?_; refine tN ?_; obtain ⟨o_31, hG, hG_31⟩ := bind_some hG; refine jn (fun K E a w => ∃ (v_32 : Bool), Js S0 w0 135 ([(13, B v_32)] ++ K) (se E [0, 1]) (v_32 = o_31) a w) ?_ ?_
    ·replace hG := ifB_cases hG; rcases hG with ⟨h_29, hG⟩ | ⟨h_29, hG⟩
     ·replace hG := ifB_cases hG; rcases hG with ⟨h_30, hG⟩ | ⟨h_30, hG⟩
      ·refine rg ?_; refine rn 2 [] f0 [(77, B v_24)] ?_; refine sb 77 (bt h_29) ?_; refine rn 5 [] f0 [(82, B (v_25 == v_27))] ?_; refine sb 82 (bt h_30) ?_; refine ra [] f0 [(13, B (v_26 == v_28))] ?_; refine tN ?_; exact fun a w S hK hE => ⟨(v_26 == v_28), S, hK.wk, hE.sel [0, 1], Option.some.inj hG⟩
      ·refine rg ?_; refine rn 2 [] f0 [(77, B v_24)] ?_; refine sb 77 (bt h_29) ?_; refine rn 5 [] f0 [(82, B (v_25 == v_27))] ?_; refine sb 82 (bf h_30) ?_; refine ra [] f0 [(13, B false)] ?_; refine tN ?_; exact fun a w S hK hE => ⟨false, S, hK.wk, hE.sel [0, 1], Option.some.inj hG⟩
     ·refine rg ?_; refine rn 2 [] f0 [(77, B v_24)] ?_; refine sb 77 (bf h_29) ?_; refine ra [] f0 [(13, B false)] ?_; refine tN ?_; exact fun a w S hK hE => ⟨false, S, hK.wk, hE.sel [0, 1], Option.some.inj hG⟩
    ·rintro a w ⟨v_32, hJ⟩; refine hJ.go fun ho_ => ?_
     clear hJ; subst ho_; replace hG := hG_31
     try (simp only [un2, un3, un4, un5, un6, un7, un8, Sum.elim_inl, Sum.elim_inr, List.length_map, KCopyL.n_Log] at hG; replace hG : _ = _ := hG)
     refine sq ?_; replace hG := bind_some hG; obtain ⟨⟨v_33, v_34⟩, hy_33, hG⟩ := hG; refine rg ?_; refine rn 2 [] f0 [(88, .slice p_0_A p_0.length p_0_c), (89, .slice v_9_A v_8.length v_10_c)] ?_; refine l1 ?_; refine cl 90 (z_copies_Elect F p_0_A p_0_c p_0 v_9_A v_10_c v_8 _ hy_33) hT ⟨ga 1, ga 0, trivial⟩ ?_; refine ra [] f0 [(18, I v_33), (15, I v_34)] ?_; refine tN ?_; refine sq ?_; replace hG := bind_some hG; obtain ⟨⟨v_35, v_36⟩, hy_35, hG⟩ := hG; refine rg ?_; refine rn 2 [] f0 [(94, .slice p_0_A p_0.length p_0_c), (95, .slice v_9_A v_8.length v_10_c)] ?_; refine l1 ?_; refine cl 96 (z_regulatorref38_Elect F p_0_A p_0_c p_0 v_9_A v_10_c v_8 _ hy_35) hT ⟨ga 1, ga 0, trivial⟩ ?_; refine ra [] f0 [(19, I v_35), (17, I v_36)] ?_; refine tN ?_; obtain ⟨o_39, hG, hG_39⟩ := bind_some hG; refine jn (fun K E a w => ∃ (v_40 : Bool), Js S0 w0 135 ([(13, B v_40)] ++ K) (se E [1]) (v_40 = o_39) a w) ?_ ?_
     ·replace hG := ifB_cases hG; rcases hG with ⟨h_37, hG⟩ | ⟨h_37, hG⟩
      ·replace hG := ifB_cases hG; rcases hG with ⟨h_38, hG⟩ | ⟨h_38, hG⟩
       ·refine rg ?_; refine rn 2 [] f0 [(100, B v_32)] ?_; refine sb 100 (bt h_37) ?_; refine rn 5 [] f0 [(105, B (v_33 == v_35))] ?_; refine sb 105 (bt h_38) ?_; refine ra [] f0 [(13, B (v_34 == v_36))] ?_; refine tN ?_; exact fun a w S hK hE => ⟨(v_34 == v_36), S, hK.wk, hE.sel [1], Option.some.inj hG⟩
       ·refine rg ?_; refine rn 2 [] f0 [(100, B v_32)] ?_; refine sb 100 (bt h_37) ?_; refine rn 5 [] f0 [(105, B (v_33 == v_35))] ?_; refine sb 105 (bf h_38) ?_; refine ra [] f0 [(13, B false)] ?_; refine tN ?_; exact fun a w S hK hE => ⟨false, S, hK.wk, hE.sel [1], Option.some.inj hG⟩
      ·refine rg ?_; refine rn 2 [] f0 [(100, B v_32)] ?_; refine sb 100 (bf h_37) ?_; refine ra [] f0 [(13, B false)] ?_; refine tN ?_; exact fun a w S hK hE => ⟨false, S, hK.wk, hE.sel [1], Option.some.inj hG⟩
     ·rintro a w ⟨v_40, hJ⟩; refine hJ.go fun ho_ => ?_
      clear hJ; subst ho_; replace hG := hG_39
      try (simp only [un2, un3, un4, un5, un6, un7, un8, Sum.elim_inl, Sum.elim_inr, List.length_map, KCopyL.n_Log] at hG; replace hG : _ = _ := hG)
      refine sq ?_; replace hG := bind_some hG; obtain ⟨⟨v_41o, v_42⟩, hy_41, hG⟩ := hG; refine rg ?_; refine rn 3 [] f0 [(111, .slice p_0_A p_0.length p_0_c), (112, I p_1), (113, I v_11)] ?_; refine l1 ?_; refine cn 114 (z_copies_Read F p_0_A p_0_c p_0 p_1 v_11 _ hy_41) hT (fun _ => (mr tr_mv m0)) ⟨gi 0, trivial⟩ ?_; rintro ⟨v_41_A, v_41_c, v_41⟩ hq_41; obtain rfl : v_41 = v_41o := hq_41.symm
      try (simp only [un2, un3, un4, un5, un6, un7, un8, Sum.elim_inl, Sum.elim_inr, List.length_map, KCopyL.n_Log] at hG; replace hG : _ = _ := hG)
      refine ra [] f0 [(20, .slice v_41_A v_41.length v_41_c), (15, I v_42)] ?_; refine tN ?_; refine sq ?_; replace hG := bind_some hG; obtain ⟨⟨v_43o, v_44⟩, hy_43, hG⟩ := hG; refine rg ?_; refine rn 3 [] f0 [(118, .slice p_0_A p_0.length p_0_c), (119, I p_1), (120, I v_11)] ?_; refine l1 ?_; refine cn 121 (z_regulatorref38_Read F p_0_A p_0_c p_0 p_1 v_11 _ hy_43) hT (fun _ => (mr tr_mv m0)) ⟨gi 1, trivial⟩ ?_; rintro ⟨v_43_A, v_43_c, v_43⟩ hq_43; obtain rfl : v_43 = v_43o := hq_43.symm
      try (simp only [un2, un3, un4, un5, un6, un7, un8, Sum.elim_inl, Sum.elim_inr, List.length_map, KCopyL.n_Log] at hG; replace hG : _ = _ := hG)
      refine ra [] f0 [(21, .slice v_43_A v_43.length v_43_c), (17, I v_44)] ?_; refine tN ?_; obtain ⟨o_48, hG, hG_48⟩ := bind_some hG; refine jn (fun K E a w => ∃ (v_49 : Bool), Js S0 w0 135 ([(12, B v_49)] ++ K) (se E []) (v_49 = o_48) a w) ?_ ?_
      ·replace hG := ifB_cases hG; rcases hG with ⟨h_45, hG⟩ | ⟨h_45, hG⟩
       ·replace hG := bind_some hG; obtain ⟨v_46, hy_46, hG⟩ := hG; replace hG := ifB_cases hG; rcases hG with ⟨h_47, hG⟩ | ⟨h_47, hG⟩
        ·refine rg ?_; refine rn 2 [] f0 [(125, B v_40)] ?_; refine sb 125 (bt h_45) ?_; refine rn 2 [] f0 [(126, .slice v_41_A v_41.length v_41_c), (127, .slice v_43_A v_43.length v_43_c)] ?_; refine l1 ?_; refine cl 128 (z_regulatorref33_Same F v_41_A v_41_c v_41 v_43_A v_43_c v_43 _ hy_46) hT ⟨ga 1, ga 0, trivial⟩ ?_; refine rn 2 [] f0 [(130, B v_46)] ?_; refine sb 130 (bt h_47) ?_; refine ra [] f0 [(12, B (v_42 == v_44))] ?_; refine tN ?_; exact fun a w S hK hE => ⟨(v_42 == v_44), S, hK.wk, hE.sel [], Option.some.inj hG⟩
        ·refine rg ?_; refine rn 2 [] f0 [(125, B v_40)] ?_; refine sb 125 (bt h_45) ?_; refine rn 2 [] f0 [(126, .slice v_41_A v_41.length v_41_c), (127, .slice v_43_A v_43.length v_43_c)] ?_; refine l1 ?_; refine cl 128 (z_regulatorref33_Same F v_41_A v_41_c v_41 v_43_A v_43_c v_43 _ hy_46) hT ⟨ga 1, ga 0, trivial⟩ ?_; refine rn 2 [] f0 [(130, B v_46)] ?_; refine sb 130 (bf h_47) ?_; refine ra [] f0 [(12, B false)] ?_; refine tN ?_; exact fun a w S hK hE => ⟨false, S, hK.wk, hE.sel [], Option.some.inj hG⟩
       ·refine rg ?_; refine rn 2 [] f0 [(125, B v_40)] ?_; refine sb 125 (bf h_45) ?_; refine ra [] f0 [(12, B false)] ?_; refine tN ?_; exact fun a w S hK hE => ⟨false, S, hK.wk, hE.sel [], Option.some.inj hG⟩
      ·rintro a w ⟨v_49, hJ⟩; refine hJ.go fun ho_ => ?_
       clear hJ; subst ho_; replace hG := hG_48
       try (simp only [un2, un3, un4, un5, un6, un7, un8, Sum.elim_inl, Sum.elim_inr, List.length_map, KCopyL.n_Log] at hG; replace hG : _ = _ := hG)
       refine kR ?_; obtain rfl := Option.some.inj hG; exact rt []
end Go.Proofs.YtkchfmhgboiimaaGreat
namespace Go.Proofs.YtkchfmhgboiimaaGreat
open Go.RowKit Go.Maps
end Go.Proofs.YtkchfmhgboiimaaGreat
namespace Go.Proofs.YtkchfmhgboiimaaGreat
open Go.RowKit Go.Maps
end Go.Proofs.YtkchfmhgboiimaaGreat
namespace Go.Proofs.YtkchfmhgboiimaaGreat
theorem dnot {p q : Prop} [Decidable p] [Decidable q] (h : p ↔ ¬q) : decide p = !decide q := by
 rw [← decide_not]; exact decide_eq_decide.2 h
theorem deq {p q : Prop} [Decidable p] [Decidable q] (h : p ↔ q) : decide p = decide q := decide_eq_decide.2 h
def frL {α : Type} (p : Nat → α → Bool) : List α → Nat → Bool
 | [], _ => true
 | x :: xs, k => p k x && frL p xs (k + 1)
theorem frL_iff {α : Type} {p : Nat → α → Bool} : ∀ {l : List α} {k : Nat}, frL p l k = true ↔ ∀ j (h : j < l.length), p (k + j) l[j] = true
 | [], k => ⟨fun _ j h => absurd h (Nat.not_lt_zero _), fun _ => rfl⟩
 | x :: l, k => by
  rw [frL, Bool.and_eq_true, frL_iff]; constructor
  ·rintro ⟨h1, h2⟩ j hj
   match j, hj with
   | 0, _ => exact h1
   | j + 1, hj =>
    have := h2 j (by simpa using hj); rw [show k + (j + 1) = k + 1 + j by omega]; exact this
  ·intro h; refine ⟨h 0 (by simp), fun j hj => ?_⟩; have := h (j + 1) (by simpa using hj); rw [show k + 1 + j = k + (j + 1) by omega]; exact this
def foI {α β : Type} (h : β → Nat → α → β) : List α → Nat → β → β
 | [], _, b => b
 | x :: xs, k, b => foI h xs (k + 1) (h b k x)
theorem foI_inv {α β : Type} {h : β → Nat → α → β} (P : Nat → β → Prop) : ∀ {l : List α} {k : Nat} {b : β}, P k b → (∀ j (hj : j < l.length) b, P (k + j) b → P (k + j + 1) (h b (k + j) l[j])) → P (k + l.length) (foI h l k b)
 | [], k, b, h0, _ => h0
 | x :: l, k, b, h0, hs => by
  have h1 := hs 0 (by simp) b h0; have := foI_inv (l := l) (k := k + 1) P h1 fun j hj b hb => by
   have := hs (j + 1) (by simpa using hj) b (by rwa [show k + (j + 1) = k + 1 + j by omega])
   rwa [show k + (j + 1) = k + 1 + j by omega] at this
  rw [List.length_cons, show k + (l.length + 1) = k + 1 + l.length by omega]; exact this
section
variable {σ ρ α β : Type}
theorem iter_chk {f : σ → Option (σ ⊕ ρ)} (e : β → Int → σ) (l : List α) (p : Nat → α → Bool) (g : β → Nat → α → β) (fin : β → ρ) (r : ρ) (I : Nat → β → Prop) (hn : ∀ b, I l.length b → f (e b (l.length : Int)) = some (.inr (fin b)))
  (hk : ∀ b k (h : k < l.length), I k b → f (e b (k : Int)) = some (if p k l[k] = true then .inl (e (g b k l[k]) ((k : Int) + 1)) else .inr r) ∧ I (k + 1) (g b k l[k])) {F : Nat} (hF : l.length < F) (b : β) (hb : I 0 b) :
  iter f F (e b 0) = some (if frL p l 0 = true then fin (foI g l 0 b) else r) := by
 refine iter_from l (fun b k => e b (k : Int)) (fun b k x => if p k x = true then .inl (g b k x) else .inr r) fin I (fun l k b => if frL p l k = true then fin (foI g l k b) else r) (fun _ _ => rfl) (fun x xs k b => ?_) hn (fun b k h hb => ⟨?_, fun b' h' => ?_⟩) hF b hb
 ·rw [frL]; cases p k x <;> simp [foI]
 ·rw [(hk b k h hb).1]; cases p k l[k] <;> rfl
 ·have h1 := (hk b k h hb).2
  split at h'
  ·cases h'; exact h1
  ·cases h'
theorem iter_chkU {f : Int → Option (Int ⊕ ρ)} (l : List α) (p : Nat → α → Bool) (a r : ρ) (hn : f (l.length : Int) = some (.inr a))
  (hk : ∀ k (h : k < l.length), f (k : Int) = some (if p k l[k] = true then .inl ((k : Int) + 1) else .inr r)) {F : Nat} (hF : l.length < F) :
  iter f F 0 = some (if frL p l 0 = true then a else r) := by
 have := iter_chk (f := f) (β := Unit) (fun _ k => k) l p (fun _ _ _ => ()) (fun _ => a) r (fun _ _ => True) (fun _ _ => hn) (fun _ k h _ => ⟨hk k h, trivial⟩) hF () trivial; exact this
theorem iter_eqL [DecidableEq α] {f : Int → Option (Int ⊕ ρ)} (l m : List α) (hl : l.length = m.length) (a b : ρ) (hn : f (l.length : Int) = some (.inr a))
  (hk : ∀ k (h : k < l.length) (h' : k < m.length), f (k : Int) = some (if decide (l[k] = m[k]) = true then .inl ((k : Int) + 1) else .inr b)) {F : Nat} (hF : l.length < F) :
  iter f F 0 = some (if decide (l = m) = true then a else b) := by
 rw [iter_chkU l (fun k x => decide (m[k]? = some x)) a b hn (fun k h => ?_) hF]
 ·congr 2
  refine propext ?_; rw [frL_iff, decide_eq_true_eq]; constructor
  ·intro h; refine List.ext_getElem hl fun j h1 h2 => ?_
   have := h j h1; rw [Nat.zero_add, decide_eq_true_eq, List.getElem?_eq_getElem h2] at this; exact (Option.some.inj this).symm
  ·rintro rfl j hj
   simp [hj]
 ·rw [hk k h (hl ▸ h), List.getElem?_eq_getElem (hl ▸ h)]
  congr 2
  refine propext ?_; simp only [decide_eq_true_eq, Option.some.injEq]; exact ⟨fun h => h.symm, fun h => h.symm⟩
end
structure FewT (t : KTx) : Prop where
 r : t.Reads.length ≤ 20
 w : t.Writes.length ≤ 20
structure FewC (l : List KCopy) : Prop where
 n : l.length ≤ 10
 g : ∀ c ∈ l, c.Log.length ≤ 30
 t : ∀ c ∈ l, ∀ t ∈ c.Log, FewT t
theorem isTime_p (F : Nat) (n : Int) : G_copies_isTime F n = some (decide (0 ≤ n) && decide (n ≤ 3000000000000000)) := by
 unfold G_copies_isTime; cases decide (0 ≤ n) <;> rfl
theorem size_p (F : Nat) (c : KCopy) : G_copies_size F c = some ((c.Log.length : Nat) : Int) := rfl
def fdI : Option Nat → Int
 | none => -1
 | some k => (k : Int)
theorem find_p (l : List KCopy) (id : Int) (hl : l.length ≤ 10) {F : Nat} (hF : 64 ≤ F) : G_copies_find F l id = some (fdI (fnd l id)) := by
 unfold G_copies_find; rw [iter_fdL l (fun c => c.ID == id) (.inl ()) (fun k => .inr (k : Int)) ?_ ?_ (by omega)]
 ·unfold fnd; cases List.findIdx? (fun c : KCopy => c.ID == id) l <;> rfl
 ·simp only [ltn, ifB_f]
 ·intro k h; simp only [ltl h, ifB_t, ixI_get h, ob_some, w64_1 h (by omega)]; cases l[k].ID == id <;> rfl
theorem find_r (l : List KCopy) (id : Int) (hl : l.length ≤ 10) {F : Nat} (hF : 64 ≤ F) : G_regulatorref38_find F l id = some (fdI (fnd l id)) := by
 unfold G_regulatorref38_find; rw [iter_fdE (fun i => (id, i)) l (fun c => c.ID == id) (.inl ()) (fun k => .inr (k : Int)) ?_ ?_ (by omega)]
 ·unfold fnd; cases List.findIdx? (fun c : KCopy => c.ID == id) l <;> rfl
 ·simp only [un2, ltn, ifB_f]
 ·intro k h; simp only [un2, ltl h, ifB_t, ixI_get h, ob_some, w64_1 h (by omega)]; cases l[k].ID == id <;> rfl
theorem wr1_p (F : Nat) (s : KSeen) : G_copies_wrong_1 F s = some (!seenB s) := by
 unfold G_copies_wrong_1 seenB; rw [isTime_p, dnot (p := s.Key > 1000) (q := s.Key ≤ 1000) (by omega)]; cases decide (s.Key ≤ 1000) <;> rfl
theorem wr2_p (F : Nat) (w : KWrite) : G_copies_wrong_2 F w = some (!writB w) := by
 unfold G_copies_wrong_2 writB; rw [dnot (p := w.Key > 1000) (q := w.Key ≤ 1000) (by omega), dnot (p := w.Value < 0) (q := 0 ≤ w.Value) (by omega), dnot (p := w.Value > 1000000) (q := w.Value ≤ 1000000) (by omega)]; cases decide (w.Key ≤ 1000) <;> cases decide (0 ≤ w.Value) <;> cases decide (w.Value ≤ 1000000) <;> cases w.Gone <;> rfl
theorem fd_neg {α : Type} (p : α → Bool) (l : List α) : decide (fdI (l.findIdx? (fun x => !p x)) ≥ 0) = !l.all p := by
 cases h : l.findIdx? (fun x => !p x) with
 | none =>
  rw [List.findIdx?_eq_none_iff] at h; have : l.all p = true := List.all_eq_true.2 fun x hx => by simpa using h x hx
  rw [this]; rfl
 | some k =>
  rw [List.findIdx?_eq_some_iff_getElem] at h; obtain ⟨hk, h1, _⟩ := h; have : l.all p = false := by
   rw [Bool.eq_false_iff]; intro h2; have := List.all_eq_true.1 h2 l[k] (List.getElem_mem hk); rw [this] at h1; simp at h1
  rw [this]; simp only [Bool.not_false, decide_eq_true_eq]
  show (0 : Int) ≤ (k : Int)
  omega
theorem wrong_p (t : KTx) {F : Nat} (hF : 64 ≤ F) : G_copies_wrong F t = some (!txS t) := by
  have hc : (ifB (decide (t.ID < 1)) (some true) (ifB (decide (t.ID > 1000000)) (some true) (ifB (decide (t.Ts < 1)) (some true) (Option.bind (G_copies_isTime F t.Ts) (fun v_5 => ifB (v_5) (ifB (decide (((t.Reads.length : Nat) : Int) > 8)) (some true) (some (decide (((t.Writes.length : Nat) : Int) > 8)))) (some true))))) : Option Bool) =
      some (!(decide (1 ≤ t.ID) && decide (t.ID ≤ 1000000) && decide (1 ≤ t.Ts) && decide (t.Ts ≤ 3000000000000000) && decide (t.Reads.length ≤ 8) && decide (t.Writes.length ≤ 8))) := by
    rw [isTime_p, dnot (p := t.ID < 1) (q := 1 ≤ t.ID) (by omega), dnot (p := t.ID > 1000000) (q := t.ID ≤ 1000000) (by omega), dnot (p := t.Ts < 1) (q := 1 ≤ t.Ts) (by omega), dnot (p := ((t.Reads.length : Nat) : Int) > 8) (q := t.Reads.length ≤ 8) (by omega), dnot (p := ((t.Writes.length : Nat) : Int) > 8) (q := t.Writes.length ≤ 8) (by omega)]
    by_cases h1 : 1 ≤ t.Ts
    · rw [decide_eq_true (p := 0 ≤ t.Ts) (by omega)]
      cases decide (1 ≤ t.ID) <;> cases decide (t.ID ≤ 1000000) <;> cases decide (1 ≤ t.Ts) <;> cases decide (t.Ts ≤ 3000000000000000) <;> cases decide (t.Reads.length ≤ 8) <;> rfl
    · rw [decide_eq_false h1]
      cases decide (1 ≤ t.ID) <;> cases decide (t.ID ≤ 1000000) <;> rfl
  unfold G_copies_wrong
  rw [hc, ob_some]
  unfold txS
  cases hB : (decide (1 ≤ t.ID) && decide (t.ID ≤ 1000000) && decide (1 ≤ t.Ts) && decide (t.Ts ≤ 3000000000000000) && decide (t.Reads.length ≤ 8) && decide (t.Writes.length ≤ 8)) with
  | false => rfl
  | true =>
    simp only [Bool.and_eq_true, decide_eq_true_eq] at hB
    obtain ⟨⟨_, hr⟩, hw⟩ := hB
    simp only [Bool.not_true, ifB_f, Bool.true_and]
    rw [iter_fdL t.Reads (fun x => !seenB x) (.inl ()) (fun k => .inr (k : Int)) ?a1 ?a2 (by omega), iter_fdL t.Writes (fun x => !writB x) (.inl ()) (fun k => .inr (k : Int)) ?b1 ?b2 (by omega),
      iter_rise (fun x i => (i, x)) t.Reads (·.Key) (.inl ()) (.inr ()) ?c1 ?c2 (by omega) 0, iter_rise (fun x i => (i, x)) t.Writes (·.Key) (.inl ()) (.inr ()) ?d1 ?d2 (by omega) 0]
    case a1 => simp only [ltn, ifB_f]
    case b1 => simp only [ltn, ifB_f]
    case c1 => intro x; simp only [un2, ltn, ifB_f]
    case d1 => intro x; simp only [un2, ltn, ifB_f]
    case a2 =>
      intro k h
      simp only [ltl h, ifB_t, ixI_get h, ob_some, w64_1 h (by omega), wr1_p]
      cases seenB t.Reads[k] <;> rfl
    case b2 =>
      intro k h
      simp only [ltl h, ifB_t, ixI_get h, ob_some, w64_1 h (by omega), wr2_p]
      cases writB t.Writes[k] <;> rfl
    case c2 =>
      intro x k h
      simp only [un2, ltl h, ifB_t, ixI_get h, ob_some, w64_1 h (by omega), G_copies_wrong_3]
      rw [dnot (p := t.Reads[k].Key ≤ x) (q := x < t.Reads[k].Key) (by omega)]
      by_cases hx : x < t.Reads[k].Key <;> simp [hx, ifB]
    case d2 =>
      intro x k h
      simp only [un2, ltl h, ifB_t, ixI_get h, ob_some, w64_1 h (by omega), G_copies_wrong_4]
      rw [dnot (p := t.Writes[k].Key ≤ x) (q := x < t.Writes[k].Key) (by omega)]
      by_cases hx : x < t.Writes[k].Key <;> simp [hx, ifB]
    have e1 := fd_neg seenB t.Reads
    have e2 := fd_neg writB t.Writes
    cases h1 : List.findIdx? (fun x => !seenB x) t.Reads with
    | some k =>
      rw [h1] at e1
      have : t.Reads.all seenB = false := by rw [← Bool.not_inj_iff, ← e1]; simp [fdI]
      rw [this]
      simp [ifB, ob_some]
    | none =>
      rw [h1] at e1
      have : t.Reads.all seenB = true := by rw [← Bool.not_inj_iff, ← e1]; simp [fdI]
      rw [this]
      cases h2 : List.findIdx? (fun x => !writB x) t.Writes with
      | some k =>
        rw [h2] at e2
        have : t.Writes.all writB = false := by rw [← Bool.not_inj_iff, ← e2]; simp [fdI]
        rw [this]
        simp [ifB, ob_some]
      | none =>
        rw [h2] at e2
        have : t.Writes.all writB = true := by rw [← Bool.not_inj_iff, ← e2]; simp [fdI]
        rw [this]
        cases risF 0 (t.Reads.map (·.Key)) <;> cases risF 0 (t.Writes.map (·.Key)) <;> simp [ifB, ob_some]
theorem leq (n m : Nat) : (((n : Nat) : Int) == ((m : Nat) : Int)) = decide (n = m) := by rw [Bool.eq_iff_iff]; simp; omega
theorem iff_bool {a b : Bool} (h : a = true ↔ b = true) : a = b := Bool.eq_iff_iff.2 h
theorem eqS_p (a b : List KSeen) (h : a.length ≤ 60) {F : Nat} (hF : 64 ≤ F) : G_slices_Equal_api_Seen_api_Seen F a b = some (decide (a = b)) := by
 unfold G_slices_Equal_api_Seen_api_Seen
 by_cases hl : a.length = b.length
 ·rw [leq, decide_eq_true hl, ifB_t, iter_eqL a b hl (.inl ()) (.inr ()) ?_ ?_ (by omega)]
  ·cases decide (a = b) <;> rfl
  ·simp only [ltn, ifB_f]
  ·intro k h1 h2; simp only [ltl h1, ifB_t, ixI_get h1, ixI_get h2, ob_some, w64_1 h1 (by omega)]; cases decide (a[k] = b[k]) <;> rfl
 ·rw [leq, decide_eq_false hl, ifB_f, decide_eq_false (fun e => hl (congrArg List.length e))]
theorem eqW_p (a b : List KWrite) (h : a.length ≤ 60) {F : Nat} (hF : 64 ≤ F) : G_slices_Equal_api_Write_api_Write F a b = some (decide (a = b)) := by
 unfold G_slices_Equal_api_Write_api_Write
 by_cases hl : a.length = b.length
 ·rw [leq, decide_eq_true hl, ifB_t, iter_eqL a b hl (.inl ()) (.inr ()) ?_ ?_ (by omega)]
  ·cases decide (a = b) <;> rfl
  ·simp only [ltn, ifB_f]
  ·intro k h1 h2; simp only [ltl h1, ifB_t, ixI_get h1, ixI_get h2, ob_some, w64_1 h1 (by omega)]; cases decide (a[k] = b[k]) <;> rfl
 ·rw [leq, decide_eq_false hl, ifB_f, decide_eq_false (fun e => hl (congrArg List.length e))]
theorem tx_ext (a b : KTx) : decide (a = b) = (decide (a.ID = b.ID) && (decide (a.Ts = b.Ts) && (decide (a.Reads = b.Reads) && decide (a.Writes = b.Writes)))) := by
 refine iff_bool ?_; simp only [Bool.and_eq_true, decide_eq_true_eq]; constructor
 ·rintro rfl; exact ⟨rfl, rfl, rfl, rfl⟩
 ·rintro ⟨h1, h2, h3, h4⟩; cases a; cases b; simp only at h1 h2 h3 h4; subst h1 h2 h3 h4; rfl
theorem beq_dec (a b : Int) : (a == b) = decide (a = b) := iff_bool (by simp)
theorem equal_p (a b : KTx) (h : FewT a) {F : Nat} (hF : 64 ≤ F) : G_copies_equal F a b = some (decide (a = b)) := by
 unfold G_copies_equal; rw [eqS_p _ _ (by have := h.r; omega) hF, eqW_p _ _ (by have := h.w; omega) hF, tx_ext, beq_dec, beq_dec]; cases decide (a.ID = b.ID) <;> cases decide (a.Ts = b.Ts) <;> cases decide (a.Reads = b.Reads) <;> rfl
theorem key_r (F : Nat) (n : Int) : G_regulatorref33_Key F n = some (decide (1 ≤ n) && decide (n ≤ 1000)) := by
 unfold G_regulatorref33_Key; show Option.bind (ifB (decide (1 ≤ n)) _ _) _ = _; cases decide (1 ≤ n) <;> rfl
theorem stamp_r (F : Nat) (n : Int) : G_regulatorref33_Stamp F n = some (decide (1 ≤ n) && decide (n ≤ 3000000000000000)) := by
 unfold G_regulatorref33_Stamp; show Option.bind (ifB (decide (1 ≤ n)) _ _) _ = _; cases decide (1 ≤ n) <;> rfl
theorem ver_r (F : Nat) (k v : Int) (g : Bool) : G_regulatorref33_Version F ⟨k, 1, v, g⟩ = some (decide (1 ≤ k) && (decide (k ≤ 1000) && decide (0 ≤ v) && decide (v ≤ 1000000) && (!g || v == 0))) := by
 unfold G_regulatorref33_Version; rw [key_r, stamp_r]
 show Option.bind (Option.bind _ _) _ = _
 simp only [ob_some]; rw [show decide (v ≥ 0) = decide (0 ≤ v) from rfl]; cases decide (1 ≤ k) <;> cases decide (k ≤ 1000) <;> cases decide (0 ≤ v) <;> cases decide (v ≤ 1000000) <;> cases g <;> rfl
theorem ris_ix {α : Type} (key : α → Int) (l : List α) : risF 0 (l.map key) = frL (fun k x => decide (1 ≤ key x) && (k == 0 || decide (((l.map key).getD (k - 1) 0) < key x))) l 0 := by
 refine iff_bool ?_; rw [risF_iff, frL_iff, List.pairwise_cons]; constructor
 ·rintro ⟨h1, h2⟩ j hj; simp only [Nat.zero_add, Bool.and_eq_true, Bool.or_eq_true, decide_eq_true_eq, beq_iff_eq]; have := h1 (key l[j]) (List.mem_map_of_mem (List.getElem_mem hj)); refine ⟨by omega, ?_⟩
  by_cases h0 : j = 0
  ·exact .inl h0
  ·refine .inr ?_; have h3 := List.pairwise_iff_getElem.1 h2 (j - 1) j (by simp; omega) (by simpa using hj) (by omega); rw [List.getD, List.getElem?_eq_getElem (by simp; omega), Option.getD_some]
   simpa using h3
 ·intro h; have hst : ∀ j (hj : j + 1 < (l.map key).length), (l.map key)[j]'(by omega) < (l.map key)[j + 1] := fun j hj => by
   have := h (j + 1) (by simpa using hj); simp only [Nat.zero_add, Bool.and_eq_true, Bool.or_eq_true, decide_eq_true_eq, beq_iff_eq] at this; have h3 := this.2.resolve_left (by omega); rw [Nat.add_sub_cancel, List.getD, List.getElem?_eq_getElem (by omega), Option.getD_some] at h3
   simpa using h3
  refine ⟨fun x hx => ?_, ?_⟩
  ·obtain ⟨y, hy, rfl⟩ := List.mem_map.1 hx; obtain ⟨j, hj, rfl⟩ := List.getElem_of_mem hy; have := h j hj; simp only [Nat.zero_add, Bool.and_eq_true, decide_eq_true_eq] at this; omega
  ·have key2 : ∀ (d i : Nat) (hj : i + d + 1 < (l.map key).length), (l.map key)[i]'(by omega) < (l.map key)[i + d + 1] := by
    intro d
    induction d with
    | zero => intro i hj; exact hst i hj
    | succ d ih =>
     intro i hj; have h1 := ih i (by omega); have h2 := hst (i + d + 1) (by omega); exact Int.lt_trans h1 h2
   rw [List.pairwise_iff_getElem]; intro i j hi hj hij; have := key2 (j - i - 1) i (by omega)
   simpa [show i + (j - i - 1) + 1 = j by omega] using this
theorem frL_and {α : Type} {p q : Nat → α → Bool} : ∀ {l : List α} {k : Nat}, frL (fun j x => p j x && q j x) l k = (frL p l k && frL q l k)
 | [], _ => rfl
 | x :: l, k => by
  rw [frL, frL, frL, frL_and]; cases p k x <;> cases q k x <;> cases frL p l (k + 1) <;> simp
theorem frL_all {α : Type} {p : α → Bool} : ∀ {l : List α} {k : Nat}, frL (fun _ x => p x) l k = l.all p
 | [], _ => rfl
 | x :: l, k => by rw [frL, List.all_cons, frL_all]
theorem getD_map {α : Type} (key : α → Int) {l : List α} {k : Nat} (h : k < l.length) : (l.map key).getD k 0 = key l[k] := by
 rw [List.getD, List.getElem?_eq_getElem (by simpa using h), Option.getD_some, List.getElem_map]
theorem reads_r (l : List KSeen) (hl : l.length ≤ 60) {F : Nat} (hF : 64 ≤ F) : G_regulatorref38_reads F l = some (l.all seenB && risF 0 (l.map (·.Key)) && decide (l.length ≤ 8)) := by
 unfold G_regulatorref38_reads; rw [iter_chkU l (fun k x => seenB x && (decide (1 ≤ x.Key) && (k == 0 || decide ((l.map (·.Key)).getD (k - 1) 0 < x.Key)))) (.inl ()) (.inr ()) ?_ ?_ (by omega)]
 ·rw [frL_and, frL_all, ← ris_ix (fun x : KSeen => x.Key) l, deq (p := ((l.length : Nat) : Int) ≤ 8) (q := l.length ≤ 8) (by omega)]; cases l.all seenB <;> cases risF 0 (l.map (·.Key)) <;> simp [ob_some]
 ·simp only [ltn, ifB_f]
 ·intro k h; simp only [ltl h, ifB_t, ixI_get h, ob_some, w64_1 h (by omega), key_r]; have hp : ∀ h0 : 0 < k, ixI l (IntKind.i64.wrap ((k : Int) - 1)) = some (l[k - 1]'(by omega)) := fun h0 => by rw [w64_p h0 (by omega)]; exact ixI_get (by omega)
  unfold seenB; rw [dnot (p := l[k].Ts < 0) (q := 0 ≤ l[k].Ts) (by omega), dnot (p := l[k].Ts > 3000000000000000) (q := l[k].Ts ≤ 3000000000000000) (by omega)]
  by_cases h0 : 0 < k
  ·rw [decide_eq_true (p := (k : Int) > 0) (by omega), ifB_t, hp h0, ob_some, getD_map (fun x : KSeen => x.Key) (by omega), dnot (p := l[k].Key ≤ l[k - 1].Key) (q := l[k - 1].Key < l[k].Key) (by omega), show (k == 0) = false by simpa using (by omega : k ≠ 0)]; cases decide (1 ≤ l[k].Key) <;> cases decide (l[k].Key ≤ 1000) <;> cases decide (0 ≤ l[k].Ts) <;> cases decide (l[k].Ts ≤ 3000000000000000) <;> cases decide (l[k - 1].Key < l[k].Key) <;> rfl
  ·rw [decide_eq_false (p := (k : Int) > 0) (by omega), ifB_f, show (k == 0) = true by simpa using (by omega : k = 0)]; cases decide (1 ≤ l[k].Key) <;> cases decide (l[k].Key ≤ 1000) <;> cases decide (0 ≤ l[k].Ts) <;> cases decide (l[k].Ts ≤ 3000000000000000) <;> rfl
theorem writes_r (l : List KWrite) (hl : l.length ≤ 60) {F : Nat} (hF : 64 ≤ F) : G_regulatorref38_writes F l = some (l.all writB && risF 0 (l.map (·.Key)) && decide (l.length ≤ 8)) := by
 unfold G_regulatorref38_writes; rw [iter_chkU l (fun k x => writB x && (decide (1 ≤ x.Key) && (k == 0 || decide ((l.map (·.Key)).getD (k - 1) 0 < x.Key)))) (.inl ()) (.inr ()) ?_ ?_ (by omega)]
 ·rw [frL_and, frL_all, ← ris_ix (fun x : KWrite => x.Key) l, deq (p := ((l.length : Nat) : Int) ≤ 8) (q := l.length ≤ 8) (by omega)]; cases l.all writB <;> cases risF 0 (l.map (·.Key)) <;> simp [ob_some]
 ·simp only [ltn, ifB_f]
 ·intro k h; simp only [ltl h, ifB_t, ixI_get h, ob_some, w64_1 h (by omega), ver_r]; have hp : ∀ h0 : 0 < k, ixI l (IntKind.i64.wrap ((k : Int) - 1)) = some (l[k - 1]'(by omega)) := fun h0 => by rw [w64_p h0 (by omega)]; exact ixI_get (by omega)
  unfold writB
  by_cases h0 : 0 < k
  ·rw [decide_eq_true (p := (k : Int) > 0) (by omega), ifB_t, hp h0, ob_some, getD_map (fun x : KWrite => x.Key) (by omega), dnot (p := l[k].Key ≤ l[k - 1].Key) (q := l[k - 1].Key < l[k].Key) (by omega), show (k == 0) = false by simpa using (by omega : k ≠ 0)]; cases decide (1 ≤ l[k].Key) <;> cases (decide (l[k].Key ≤ 1000) && decide (0 ≤ l[k].Value) && decide (l[k].Value ≤ 1000000) && (!l[k].Gone || l[k].Value == 0)) <;> cases decide (l[k - 1].Key < l[k].Key) <;> rfl
  ·rw [decide_eq_false (p := (k : Int) > 0) (by omega), ifB_f, show (k == 0) = true by simpa using (by omega : k = 0)]; cases decide (1 ≤ l[k].Key) <;> cases (decide (l[k].Key ≤ 1000) && decide (0 ≤ l[k].Value) && decide (l[k].Value ≤ 1000000) && (!l[k].Gone || l[k].Value == 0)) <;> rfl
theorem tx_r (t : KTx) (h : FewT t) {F : Nat} (hF : 64 ≤ F) : G_regulatorref38_Tx F t = some (txS t) := by
 unfold G_regulatorref38_Tx; rw [reads_r _ (by have := h.r; omega) hF, writes_r _ (by have := h.w; omega) hF]; simp only [ob_some]; rw [show decide (t.ID ≥ 1) = decide (1 ≤ t.ID) from rfl, show decide (t.Ts ≥ 1) = decide (1 ≤ t.Ts) from rfl]; unfold txS; cases decide (1 ≤ t.ID) <;> cases decide (t.ID ≤ 1000000) <;> cases decide (1 ≤ t.Ts) <;> cases decide (t.Ts ≤ 3000000000000000) <;> cases decide (t.Reads.length ≤ 8) <;> cases decide (t.Writes.length ≤ 8) <;> cases t.Reads.all seenB <;> cases t.Writes.all writB <;> cases risF 0 (t.Reads.map (·.Key)) <;> cases risF 0 (t.Writes.map (·.Key)) <;> rfl
theorem log_r (l : List KTx) (hl : l.length ≤ 60) (ht : ∀ t ∈ l, FewT t) {F : Nat} (hF : 64 ≤ F) : G_regulatorref38_Log F l = some (logS l) := by
 unfold G_regulatorref38_Log; rw [iter_chkU l (fun k x => txS x && (decide (1 ≤ x.Ts) && (k == 0 || decide ((l.map (·.Ts)).getD (k - 1) 0 < x.Ts)))) (.inl ()) (.inr ()) ?_ ?_ (by omega)]
 ·rw [frL_and, frL_all, ← ris_ix (fun x : KTx => x.Ts) l, decide_eq_true (p := ((l.length : Nat) : Int) ≤ 2000) (by omega)]; unfold logS; cases l.all txS <;> cases risF 0 (l.map (·.Ts)) <;> simp [ob_some]
 ·simp only [ltn, ifB_f]
 ·intro k h; simp only [ltl h, ifB_t, ixI_get h, ob_some, w64_1 h (by omega), tx_r _ (ht _ (List.getElem_mem h)) hF]; have hp : ∀ h0 : 0 < k, ixI l (IntKind.i64.wrap ((k : Int) - 1)) = some (l[k - 1]'(by omega)) := fun h0 => by rw [w64_p h0 (by omega)]; exact ixI_get (by omega)
  cases hx : txS l[k] with
  | false => rfl
  | true =>
   have h1 := ((txs_iff _).1 hx).ts.1; rw [decide_eq_true h1]
   by_cases h0 : 0 < k
   ·rw [decide_eq_true (p := (k : Int) > 0) (by omega), ifB_t, ifB_t, hp h0, ob_some, getD_map (fun x : KTx => x.Ts) (by omega), dnot (p := l[k].Ts ≤ l[k - 1].Ts) (q := l[k - 1].Ts < l[k].Ts) (by omega), show (k == 0) = false by simpa using (by omega : k ≠ 0)]; cases decide (l[k - 1].Ts < l[k].Ts) <;> rfl
   ·rw [decide_eq_false (p := (k : Int) > 0) (by omega), ifB_t, ifB_f, show (k == 0) = true by simpa using (by omega : k = 0)]; rfl
theorem sameTx_r (a b : KTx) (h : FewT a) {F : Nat} (hF : 64 ≤ F) : G_regulatorref38_SameTx F a b = some (decide (a = b)) := by
 unfold G_regulatorref38_SameTx; have hr := h.r; have hw := h.w; rw [tx_ext, leq, leq, beq_dec, beq_dec]
 by_cases h1 : a.ID = b.ID
 ·by_cases h2 : a.Ts = b.Ts
  ·by_cases h3 : a.Reads.length = b.Reads.length
   ·by_cases h4 : a.Writes.length = b.Writes.length
    ·rw [decide_eq_true h1, decide_eq_true h2, decide_eq_true h3, decide_eq_true h4]; simp only [ifB_t, ob_some, Bool.not_true, ifB_f, Bool.true_and]; rw [iter_eqL a.Reads b.Reads h3 (.inl ()) (.inr ()) ?a1 ?a2 (by omega), iter_eqL a.Writes b.Writes h4 (.inl ()) (.inr ()) ?b1 ?b2 (by omega)]
     case a1 => simp only [ltn, ifB_f]
     case b1 => simp only [ltn, ifB_f]
     case a2 =>
      intro k h1 h2; simp only [ltl h1, ifB_t, ixI_get h1, ixI_get h2, ob_some, w64_1 h1 (by omega)]; cases decide (a.Reads[k] = b.Reads[k]) <;> rfl
     case b2 =>
      intro k h1 h2; simp only [ltl h1, ifB_t, ixI_get h1, ixI_get h2, ob_some, w64_1 h1 (by omega)]; cases decide (a.Writes[k] = b.Writes[k]) <;> rfl
     cases decide (a.Reads = b.Reads) <;> cases decide (a.Writes = b.Writes) <;> rfl
    ·rw [decide_eq_true h1, decide_eq_true h2, decide_eq_true h3, decide_eq_false h4, decide_eq_false (p := a.Writes = b.Writes) (fun e => h4 (congrArg List.length e)), Bool.and_false]; rfl
   ·rw [decide_eq_true h1, decide_eq_true h2, decide_eq_false h3, decide_eq_false (p := a.Reads = b.Reads) (fun e => h3 (congrArg List.length e))]; rfl
  ·rw [decide_eq_true h1, decide_eq_false h2]; rfl
 ·rw [decide_eq_false h1]; rfl
theorem sameLog_r (a b : List KTx) (hl : a.length ≤ 60) (h : ∀ t ∈ a, FewT t) {F : Nat} (hF : 64 ≤ F) : G_regulatorref38_SameLog F a b = some (decide (a = b)) := by
 unfold G_regulatorref38_SameLog
 by_cases hl : a.length = b.length
 ·rw [leq, decide_eq_true hl, ifB_t, iter_eqL a b hl (.inl ()) (.inr ()) ?_ ?_ (by omega)]
  ·cases decide (a = b) <;> rfl
  ·simp only [ltn, ifB_f]
  ·intro k h1 h2; simp only [ltl h1, ifB_t, ixI_get h1, ixI_get h2, ob_some, w64_1 h1 (by omega), sameTx_r _ _ (h _ (List.getElem_mem h1)) hF]; cases decide (a[k] = b[k]) <;> rfl
 ·rw [leq, decide_eq_false hl, ifB_f, decide_eq_false (fun e => hl (congrArg List.length e))]
theorem copy_ext (a b : KCopy) : decide (a = b) = (decide (a.Log = b.Log) && decide (a.ID = b.ID)) := by
 refine iff_bool ?_; simp only [Bool.and_eq_true, decide_eq_true_eq]; constructor
 ·rintro rfl; exact ⟨rfl, rfl⟩
 ·rintro ⟨h1, h2⟩; cases a; cases b; simp only at h1 h2; subst h1 h2; rfl
theorem same_r (a b : List KCopy) (h : FewC a) {F : Nat} (hF : 64 ≤ F) : G_regulatorref38_Same F a b = some (decide (a = b)) := by
 unfold G_regulatorref38_Same; have hn := h.n
 by_cases hl : a.length = b.length
 ·rw [leq, decide_eq_true hl, ifB_t, iter_eqL a b hl (.inl ()) (.inr ()) ?_ ?_ (by omega)]
  ·cases decide (a = b) <;> rfl
  ·simp only [ltn, ifB_f]
  ·intro k h1 h2; have hm := List.getElem_mem h1; simp only [ltl h1, ifB_t, ixI_get h1, ixI_get h2, ob_some, w64_1 h1 (by omega), sameLog_r _ _ (by have := h.g _ hm; omega) (h.t _ hm) hF]; rw [copy_ext, beq_dec]; cases decide (a[k].Log = b[k].Log) <;> cases decide (a[k].ID = b[k].ID) <;> rfl
 ·rw [leq, decide_eq_false hl, ifB_f, decide_eq_false (fun e => hl (congrArg List.length e))]
theorem same33_r (a b : List KVersion) {F : Nat} (hF : a.length < F) (hb : a.length ≤ 5000) : G_regulatorref33_Same F a b = some (decide (a = b)) := by
 unfold G_regulatorref33_Same
 by_cases hl : a.length = b.length
 ·rw [leq, decide_eq_true hl, ifB_t, iter_eqL a b hl (.inl ()) (.inr ()) ?_ ?_ hF]
  ·cases decide (a = b) <;> rfl
  ·simp only [ltn, ifB_f]
  ·intro k h1 h2; simp only [ltl h1, ifB_t, ixI_get h1, ixI_get h2, ob_some, w64_1 h1 (by omega)]; cases decide (a[k] = b[k]) <;> rfl
 ·rw [leq, decide_eq_false hl, ifB_f, decide_eq_false (fun e => hl (congrArg List.length e))]
end Go.Proofs.YtkchfmhgboiimaaGreat
namespace Go.Proofs.YtkchfmhgboiimaaGreat
theorem vcmp_p (F : Nat) (a b : KCopy) : ∃ v, G_copies_Valid_1 F a b = some v ∧ decide (v > 0) = decide (b.Log.length < a.Log.length) := by
 unfold G_copies_Valid_1 G_cmp_Compare_int G_cmp_isNaN_int; rw [size_p, size_p]; simp only [ob_some]; rw [show (!(((a.Log.length : Nat) : Int) == ((a.Log.length : Nat) : Int))) = false by simp, show (!(((b.Log.length : Nat) : Int) == ((b.Log.length : Nat) : Int))) = false by simp]; simp only [ifB_f]
 by_cases h1 : ((a.Log.length : Nat) : Int) < ((b.Log.length : Nat) : Int)
 ·rw [decide_eq_true h1, decide_eq_false (p := b.Log.length < a.Log.length) (by omega)]; exact ⟨-1, rfl, rfl⟩
 ·rw [decide_eq_false h1]
  by_cases h2 : ((a.Log.length : Nat) : Int) > ((b.Log.length : Nat) : Int)
  ·rw [decide_eq_true h2, decide_eq_true (p := b.Log.length < a.Log.length) (by omega)]; exact ⟨1, rfl, rfl⟩
  ·rw [decide_eq_false h2, decide_eq_false (p := b.Log.length < a.Log.length) (by omega)]; exact ⟨0, rfl, rfl⟩
def lgC (b c : KCopy) : KCopy := if b.Log.length < c.Log.length then c else b
theorem lgC_log : ∀ (l : List KCopy) (b : KCopy), (l.foldl lgC b).Log = l.foldl (fun m c => if m.length < c.Log.length then c.Log else m) b.Log
 | [], _ => rfl
 | c :: l, b => by
  rw [List.foldl_cons, List.foldl_cons, lgC_log]
  congr 1
  unfold lgC
  split <;> rfl
theorem lgC_lg {c : KCopy} {l : List KCopy} : (l.foldl lgC c).Log = lgS (c :: l) := by
 rw [lgC_log]; unfold lgS; rw [List.foldl_cons]
 congr 1
 split
 ·rfl
 ·next h => exact List.eq_nil_of_length_eq_zero (by simpa using h)
theorem fewLg {l : List KCopy} (h : FewC l) : (lgS l).length ≤ 30 ∧ ∀ t ∈ lgS l, FewT t := by
 by_cases h0 : l = []
 ·subst h0; exact ⟨Nat.zero_le _, fun _ h => absurd h List.not_mem_nil⟩
 ·obtain ⟨c, hc, e⟩ := lg_mem h0; rw [e]; exact ⟨h.g c hc, h.t c hc⟩
theorem not_seq (F : Nat) {l : List KCopy} (h : FewC l) (hF : 64 ≤ F) (c : KCopy) (hc : c ∈ l) : (Option.bind (G_copies_size F c) (fun v_677 =>
                                  Option.bind (slI (lgS l) 0 v_677) (fun v_678 =>
                                  Option.bind (ifB ((((c.Log.length : Nat) : Int) == ((v_678.length : Nat) : Int)))
                                      (Option.bind (Option.bind (iter (σ := Int) (ρ := Unit ⊕ Unit) (fun (v_703 : Int) => 
                                            (ifB (decide (v_703 < ((c.Log.length : Nat) : Int)))
                                              (Option.bind (ixI c.Log v_703) (fun v_706 =>
                                              Option.bind (ixI v_678 v_703) (fun v_710 =>
                                              Option.bind (G_copies_equal F v_706 v_710) (fun v_714 =>
                                              ifB (v_714)
                                                (some (.inl (IntKind.i64.wrap (v_703 + 1))))
                                                (some (.inr (.inr ())))))))
                                              (some (.inr (.inl ()))) : Option (Int ⊕ (Unit ⊕ Unit)))) F 0) (Sum.elim (fun (_ : Unit) => 
                                          some (.inl ())) (fun (_ : Unit) => 
                                          some (.inr ()))) : Option (Unit ⊕ Unit)) (Sum.elim (fun (_ : Unit) => 
                                        some true) (fun (_ : Unit) => 
                                        some false)))
                                      (some false) : Option (Bool)) (fun (v_717 : Bool) => 
                                    some (!v_717)))) : Option (Bool)) = some (!decide (c.Log = (lgS l).take c.Log.length)) := by
  have hle := lg_ge hc
  have hg := h.g c hc
  rw [size_p, ob_some, show (0 : Int) = ((0 : Nat) : Int) from rfl, slI_ok (Nat.zero_le _) hle, ob_some, List.drop_zero]
  have hlen : c.Log.length = ((lgS l).take c.Log.length).length := by rw [List.length_take]; omega
  rw [leq, decide_eq_true hlen, ifB_t, show ((0 : Nat) : Int) = 0 from rfl, iter_eqL c.Log ((lgS l).take c.Log.length) hlen (.inl ()) (.inr ()) ?_ ?_ (by omega)]
  · cases decide (c.Log = (lgS l).take c.Log.length) <;> rfl
  · simp only [ltn, ifB_f]
  · intro k h1 h2
    simp only [ltl h1, ifB_t, ixI_get h1, ixI_get h2, ob_some, w64_1 h1 (by omega), equal_p _ _ (h.t c hc _ (List.getElem_mem h1)) hF]
    cases decide (c.Log[k] = ((lgS l).take c.Log.length)[k]) <;> rfl
theorem ids_last {l : List KCopy} (h0 : 0 < l.length) (h : risF 0 (l.map (·.ID)) = true) : l.all (fun c => decide (c.ID ≤ 64)) = decide (l[l.length - 1].ID ≤ 64) := by
 refine iff_bool ?_; rw [List.all_eq_true, decide_eq_true_eq]; constructor
 ·intro h; simpa using h l[l.length - 1] (List.getElem_mem _)
 ·intro h1 c hc; obtain ⟨j, hj, rfl⟩ := List.getElem_of_mem hc; rw [risF_iff, List.pairwise_cons] at h; rw [decide_eq_true_eq]; rcases Nat.lt_or_ge j (l.length - 1) with h2 | h2
  ·have := List.pairwise_iff_getElem.1 h.2 j (l.length - 1) (by simpa using hj) (by simp; omega) h2; simp only [List.getElem_map] at this; omega
  ·obtain rfl : j = l.length - 1 := by omega
   exact h1
set_option maxHeartbeats 1000000 in
theorem valid_p (l : List KCopy) (h : FewC l) {F : Nat} (hF : 64 ≤ F) : G_copies_Valid F l = some (validS l) := by
  have hn := h.n
  obtain ⟨hlg, hlt⟩ := fewLg h
  unfold G_copies_Valid
  rw [iter_rise (fun x i => (i, x)) l (·.ID) (.inl ()) (.inr ()) ?a1 ?a2 (by omega) 0]
  case a1 => intro x; simp only [un2, ltn, ifB_f]
  case a2 =>
    intro x k h
    simp only [un2, ltl h, ifB_t, ixI_get h, ob_some, w64_1 h (by omega), G_copies_id]
    rw [dnot (p := l[k].ID ≤ x) (q := x < l[k].ID) (by omega)]
    by_cases hx : x < l[k].ID <;> simp [hx, ifB]
  by_cases h0 : l.length = 0
  · have : l = [] := List.eq_nil_of_length_eq_zero h0
    subst this
    rfl
  have h1 : 0 < l.length := by omega
  rw [beq_dec, decide_eq_false (p := ((l.length : Nat) : Int) = 0) (by omega), ifB_f]
  by_cases h7 : l.length ≤ 7
  case neg =>
    rw [decide_eq_true (p := ((l.length : Nat) : Int) > 7) (by omega)]
    unfold validS
    rw [decide_eq_false h7, Bool.and_false]; rfl
  rw [decide_eq_false (p := ((l.length : Nat) : Int) > 7) (by omega), ifB_f]
  cases hr : risF 0 (l.map (·.ID)) with
  | false =>
    unfold validS
    rw [hr, Bool.and_false]; rfl
  | true =>
  have hlast : ixI l (IntKind.i64.wrap (((l.length : Nat) : Int) - 1)) = some l[l.length - 1] := by rw [w64_p h1 (by omega)]; exact ixI_get (by omega)
  simp only [if_true, ob_some, Sum.elim_inl, ifB_t, hlast]
  unfold validS
  rw [hr, ids_last h1 hr, dnot (p := l[l.length - 1].ID > 64) (q := l[l.length - 1].ID ≤ 64) (by omega)]
  cases hl64 : decide (l[l.length - 1].ID ≤ 64) with
  | false => simp [ifB]
  | true =>
  rw [decide_eq_false (p := ((l.length : Nat) : Int) < 1) (by omega)]
  have e0 : ixI l 0 = some l[0] := ixI_get (k := 0) h1
  simp only [Bool.not_true, ifB_f, e0, ob_some]
  obtain ⟨c, l', rfl⟩ : ∃ c l', l = c :: l' := by
    cases l with
    | nil => simp at h1
    | cons c l' => exact ⟨c, l', rfl⟩
  have hf := iter_fold (ρ := Int × List KTx) (f := (un3 fun (v_141 : Int) (v_142 : (List KTx)) (v_145 : Int) => 
                (ifB (decide (v_145 < (((c :: l').length : Nat) : Int)))
                  (Option.bind (Option.bind (ixI (c :: l') v_145) (fun v_148 =>
                    Option.bind (G_copies_Valid_1 F v_148 (⟨v_141, v_142⟩ : KCopy)) (fun v_151 =>
                    ifB (decide (v_151 > 0))
                      (Option.bind (ixI (c :: l') v_145) (fun v_153 =>
                      some (v_153.ID, v_153.Log)))
                      (some (v_141, v_142)))) : Option ((Int × (List KTx)))) (un2 fun (v_157 : Int) (v_158 : (List KTx)) => 
                    some (.inl (v_157, v_158, IntKind.i64.wrap (v_145 + 1)))))
                  (some (.inr (v_141, v_142))) : Option ((Int × (List KTx) × Int) ⊕ (Int × (List KTx)))))) (fun (b : KCopy) i => (b.ID, b.Log, i + 1)) l' lgC (fun b => (b.ID, b.Log)) (fun _ _ => True) ?b1 ?b2 (F := F) (by simp at hn; omega) c trivial
  case b1 =>
    intro b _
    simp only [un3]
    rw [show ((l'.length : Nat) : Int) + 1 = (((c :: l').length : Nat) : Int) by simp, ltn]
    rfl
  case b2 =>
    intro b k hk _
    refine ⟨?_, trivial⟩
    have hk1 : k + 1 < (c :: l').length := by simpa using hk
    simp only [un3]
    rw [show ((k : Nat) : Int) + 1 = ((k + 1 : Nat) : Int) by omega, ltl hk1, ifB_t, ixI_get hk1, ob_some]
    obtain ⟨v, hv1, hv2⟩ := vcmp_p F (c :: l')[k + 1] ⟨b.ID, b.Log⟩
    rw [hv1, ob_some, hv2, ob_some, w64_1 hk1 (by omega), List.getElem_cons_succ]
    unfold lgC
    by_cases hb : b.Log.length < l'[k].Log.length
    · rw [decide_eq_true hb, if_pos hb]; rfl
    · rw [decide_eq_false hb, if_neg hb]; rfl
  simp only [List.getElem_cons_zero] at hf ⊢
  rw [show ((0 : Int) + 1) = 1 from rfl] at hf
  rw [hf]
  simp only [ob_some, un2]
  rw [lgC_lg]
  obtain ⟨L, hL⟩ : ∃ L, lgS (c :: l') = L := ⟨_, rfl⟩
  rw [decide_eq_true (p := (((lgS (c :: l')).length : Nat) : Int) ≤ 2000) (by omega), ifB_t,
    iter_fdL (lgS (c :: l')) (fun x => !txS x) (.inl ()) (fun k => .inr (k : Int)) ?c1 ?c2 (by omega),
    iter_rise (fun x i => (i, x)) (lgS (c :: l')) (·.Ts) (.inl ()) (.inr ()) ?d1 ?d2 (by omega) 0,
    iter_fdL (c :: l') (fun x => !decide (x.Log = (lgS (c :: l')).take x.Log.length)) (.inl ()) (fun k => .inr (k : Int)) ?g1 ?g2 (by omega)]
  case c1 => simp only [ltn, ifB_f]
  case c2 =>
    intro k h
    simp only [ltl h, ifB_t, ixI_get h, ob_some, w64_1 h (by omega), wrong_p _ hF]
    cases txS (lgS (c :: l'))[k] <;> rfl
  case d1 => intro x; simp only [un2, ltn, ifB_f]
  case d2 =>
    intro x k h
    simp only [un2, ltl h, ifB_t, ixI_get h, ob_some, w64_1 h (by omega), G_copies_Valid_3]
    rw [dnot (p := (lgS (c :: l'))[k].Ts ≤ x) (q := x < (lgS (c :: l'))[k].Ts) (by omega)]
    by_cases hx : x < (lgS (c :: l'))[k].Ts <;> simp [hx, ifB]
  case g1 => simp only [ltn, ifB_f]
  case g2 =>
    intro k hk
    simp only [ltl hk, ifB_t, ixI_get hk]
    rw [ob_some, not_seq F h hF _ (List.getElem_mem hk), ob_some, w64_1 hk (by omega)]
    cases decide ((c :: l')[k].Log = (lgS (c :: l')).take (c :: l')[k].Log.length) <;> rfl
  have e1 := fd_neg txS (lgS (c :: l'))
  have e2 := fd_neg (fun x : KCopy => decide (x.Log = (lgS (c :: l')).take x.Log.length)) (c :: l')
  rw [decide_eq_true (p := 1 ≤ (c :: l').length) h1, decide_eq_true h7, decide_eq_true (p := (lgS (c :: l')).length ≤ 2000) (by omega)]
  unfold logS
  simp only [Bool.true_and, Bool.and_true]
  cases h1 : List.findIdx? (fun x => !txS x) (lgS (c :: l')) with
  | some k =>
    rw [h1] at e1
    have : (lgS (c :: l')).all txS = false := by rw [← Bool.not_inj_iff, ← e1]; simp [fdI]
    rw [this]
    simp [ifB, ob_some]
  | none =>
    rw [h1] at e1
    have : (lgS (c :: l')).all txS = true := by rw [← Bool.not_inj_iff, ← e1]; simp [fdI]
    rw [this]
    cases h2 : List.findIdx? (fun x : KCopy => !decide (x.Log = (lgS (c :: l')).take x.Log.length)) (c :: l') with
    | some k =>
      rw [h2] at e2
      have : (c :: l').all (fun x : KCopy => decide (x.Log = (lgS (c :: l')).take x.Log.length)) = false := by rw [← Bool.not_inj_iff, ← e2]; simp [fdI]
      rw [this]
      cases risF 0 ((lgS (c :: l')).map (·.Ts)) <;> simp [ifB, ob_some]
    | none =>
      rw [h2] at e2
      have : (c :: l').all (fun x : KCopy => decide (x.Log = (lgS (c :: l')).take x.Log.length)) = true := by rw [← Bool.not_inj_iff, ← e2]; simp [fdI]
      rw [this]
      cases risF 0 ((lgS (c :: l')).map (·.Ts)) <;> simp [ifB, ob_some]
end Go.Proofs.YtkchfmhgboiimaaGreat
