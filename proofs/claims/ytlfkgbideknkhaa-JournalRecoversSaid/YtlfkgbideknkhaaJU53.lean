/-
  Texts joined: Cg37, Cf37, Z5, Z6, Z7, Z8, Z9, Z10, Jn37.
-/
import Derived.ChangeKeysEq
import Derived.Test.YtlfkgbideknkhaaProg
import Derived.Test.YtlfkgbideknkhaaJU51
import Derived.Test.YtlfkgbideknkhaaJU52
set_option linter.unusedSimpArgs false
set_option linter.unusedVariables false
namespace Go.Proofs.Ytlfkgbideknkhaa
open Go.RowKit Go.Maps
def rdN : Nat → List Int → Option (List Int × List Int)
 | 0, b => some ([], b)
 | k + 1, b => match rdV 10 0 0 b with
  | none => none
  | some (n, r) => match rdN k r with
   | none => none
   | some (l, r') => some (n :: l, r')
def fnG (l : List Int) : Option (List Int × List Int) → List Int × Int
 | some (l2, []) => (l ++ l2, 0)
 | _ => ([], 7)
theorem fn_step {l : List Int} {v : Int} {k : Nat} {b rs : List Int} (h : rdV 10 0 0 b = some (v, rs)) : fnG l (rdN (k + 1) b) = fnG (l ++ [v]) (rdN k rs) := by
  have e : rdN (k + 1) b = match rdN k rs with
      | none => none
      | some (l, r') => some (v :: l, r') := by conv => lhs; unfold rdN; rw [h]
  rw [e]
  cases rdN k rs with
  | none => rfl
  | some q =>
    obtain ⟨q1, q2⟩ := q
    cases q2 with
    | nil => simp [fnG]
    | cons x y => rfl
def getS (b : List Int) : List Int × Int := match rdV 10 0 0 b with
 | none => ([], 7)
 | some (n, rest) => if 0 ≤ n ∧ n ≤ 1000 then fnG [] (rdN n.toNat rest) else ([], 7)
def G_codec_Get (_F : Nat) (b : List Int) : Option (List Int × Int) := if b.length ≤ 4611686018427387904 then some (getS b) else none
section
variable {S0 S : Nat → Prop} {w0 w w' : World} {n : Nat} {K : List (Nat × Value)} {E E' : List Iz} {Q : Exit → Act → World → Prop} {o : Oper} {Kx X : Act → World → Prop}
theorem cI [DSc] (d g : Nat) (A : Option Addr) (c : Nat) (bs : List Int) (i0 : Nat) (il : List Nat) (hi0 : i0 ≤ bs.length) (hbs : bs.length ≤ 4611686018427387904) (hT : Tb w0)
  (hok : ∀ v rest, rdV 10 0 0 (bs.drop i0) = some (v, rest) → rest.length ≤ bs.length → rest = bs.drop (bs.length - rest.length) → Ge S0 w0 n ((d, I v) :: K) (.blk g 142 [.slice A bs.length c, I ((bs.length - rest.length : Nat) : Int)] :: .dat (RowC A c c_u8 tr bs) :: E') Kx)
  (hbad : rdV 10 0 0 (bs.drop i0) = none → ∀ z, Ge S0 w0 n K (.blk g 142 [.slice A bs.length c, I z] :: .dat (RowC A c c_u8 tr bs) :: E') (Q (.panic chE)))
  (hw : selz E il = some (.blk g 142 [.slice A bs.length c, I (i0 : Nat)] :: .dat (RowC A c c_u8 tr bs) :: E') := by kernel_rfl) (hi : ndB il = true := by kernel_rfl)
  (he : ∀ J, sx Try.prog (execOp (rho K J) o) [] = some (.enter 105 #[Pt g 0], []) := by intro J; kernel_rfl) (hd : o.dst = some d := by kernel_rfl) (hn : Nat.blt d n = true := by kernel_rfl) :
  Ge S0 w0 n K E (oW Try.prog o Q Kx) := fun a w S hK hE => by
 unfold oW Oper.wp Oper.upon; rw [hK.eval, sx_run _ (he _) trivial, hd]; refine (int_c S0 w0 w S E' g A c bs i0 hi0 hbs hT (hE.sel il hw hi)).mono fun e w' hr => ?_
 rcases hr with ⟨v, rest, S', h1, rfl, h2, h3, h4⟩ | ⟨h1, rfl, z, S', h4⟩
 ·exact hok v rest h1 h2 h3 _ _ _ (hK.put hn _) h4
 ·exact hbad h1 z _ _ _ hK h4
theorem pm (il : List Nat) [DSc] (h : Ge S0 w0 n K E' X) (hw : selz E il = some E' := by kernel_rfl) (hi : ndB il = true := by kernel_rfl) : Ge S0 w0 n K E X := fun a w S k e => h a w S k (e.sel il hw hi)
end
abbrev deG (g2 g3 : Nat) : Deferred := { target := .fn (.func 104) #[Pt g2 0, Pt g3 0], args := #[] }
abbrev dG (g2 g3 : Nat) : DSc := ⟨[deG g2 g3]⟩
theorem get_bad {S0 : Nat → Prop} {w0 : World} {K : List (Nat × Value)} {E : List Iz} {g2 g3 : Nat} {x y : Value} {R : Ending → World → Prop} (hK2 : ∀ a, @Kn (dG g2 g3) 37 K a → @Kn (dG g2 g3) 37 [(2, Pt g2 0), (3, Pt g3 0)] a)
  (hR : ∀ S w, Ez S0 w0 w S (.blk g2 45 [.slice none 0 0] :: .blk g3 31 [I 7] :: E) → R (.returned (.tuple #[.slice none 0 0, I 7])) w) :
  @Ge (dG g2 g3) S0 w0 37 K (.blk g2 45 [x] :: .blk g3 31 [y] :: E) (bodyPostD Try.prog Try.f84 R (.panic chE)) := fun a w S hK hE => by
 letI : DSc := dG g2 g3
 have hK' := hK2 a hK
 show Leaves _ _ _ _ a.defers _ _
 rw [hK'.d]; refine leaves_cons (f := 104) (args := #[Pt g2 0, Pt g3 0]) (by simp) (by simp [go_sem]) ?_; refine (get1_catch S0 w0 w S E g2 g3 x y hE).mono ?_; rintro e u' w' ⟨rfl, rfl, S', hE'⟩; exact ⟨_, res_run hK' hE' [(0, 0, 1), (1, 0, 1)], hR _ _ hE'⟩
theorem get_end {S0 : Nat → Prop} {w0 : World} {K : List (Nat × Value)} {E : List Iz} {g2 g3 : Nat} {x y : Value} {R : Ending → World → Prop} (hK2 : ∀ a, @Kn (dG g2 g3) 37 K a → @Kn (dG g2 g3) 37 [(2, Pt g2 0), (3, Pt g3 0)] a)
  (hR : ∀ S w, Ez S0 w0 w S (.blk g2 45 [x] :: .blk g3 31 [y] :: E) → R (.returned (.tuple #[x, y])) w) :
  @Ge (dG g2 g3) S0 w0 37 K (.blk g2 45 [x] :: .blk g3 31 [y] :: E) (bodyPostD Try.prog Try.f84 R .ret) := fun a w S hK hE => by
 letI : DSc := dG g2 g3
 have hK' := hK2 a hK
 show Leaves _ _ _ _ a.defers _ _
 rw [hK'.d]; refine leaves_cons (f := 104) (args := #[Pt g2 0, Pt g3 0]) (by simp) (by simp [go_sem]) ?_; refine (get1_idle _ _ w).mono ?_; rintro e u' w' ⟨rfl, rfl, rfl⟩; exact ⟨_, res_run hK' hE [(0, 0, 1), (1, 0, 1)], hR _ _ hE⟩
set_option maxRecDepth 100000 in
set_option maxHeartbeats 4000000 in
theorem z_codec_Get (F : Nat) (A : Option Addr) (c : Nat) (b : List Int) (r : List Int × Int) (hG : G_codec_Get F b = some r) :
  Cn Try.prog 84 [.slice A b.length c] [RowC A c c_u8 tr b] (fun q : KSintL => r.1 = q.l) (fun q => .tuple #[.slice q.A q.l.length q.c, I r.2]) (fun q => [RowC q.A q.c c_i64 tr q.l]) := by
 unfold G_codec_Get at hG
 split at hG
 ·next hbl =>
  obtain rfl := oi hG; clear hG; intro S0 w0 hS hT hH; refine vcD_enter Try.func84 rfl rfl (by kernel_rfl) fun a hK => ?_
  refine (?_ : Ge S0 w0 37 _ ([RowC A c c_u8 tr b].map .dat) _) a w0 S0 hK (hH.ez hS (mr tr_mv m0)); clear hK a hS hH; refine sq (rg (l1 (nw 2 vp [.slice none 0 0] 45 fun g2 => l1 (nw 3 vp [I 0] 31 fun g3 => nl (tN ?_))))); refine sq (rg (rn 1 [] f0 [(6, .func (.func 104) #[] #[Pt g2 0, Pt g3 0])] (df (deG g2 g3) ?_ (by intro J W; first | kernel_rfl | simp [execOp, resolve, go_sem, rho, look]))))
  letI : DSc := dG g2 g3
  refine nl (tN ?_); have bad : getS b = ([], 7) → ∀ K x y E, (∀ a, Kn 37 K a → Kn 37 [(2, Pt g2 0), (3, Pt g3 0)] a) → Ge S0 w0 37 K (.blk g2 45 [x] :: .blk g3 31 [y] :: E) (bodyPostD Try.prog Try.f84 (fun e w' => ∃ x : KSintL, (getS b).1 = x.l ∧ e = .returned (.tuple #[.slice x.A x.l.length x.c, I (getS b).2]) ∧ Below w0.heap.size w0 w' ∧ AllH (ext S0 w0 w') w' [RowC x.A x.c c_i64 tr x.l]) (.panic chE)) := fun hn K x y E hk =>
   get_bad hk fun S w e => ⟨⟨none, 0, []⟩, by rw [hn], by rw [hn]; rfl, Es.b e, ⟨RowS.nil _ _ _, Nat.le_refl _, fun _ h => absurd h List.not_mem_nil⟩, trivial⟩
  refine sq (rg (rn 2 [] f0 [(8, .agg #[.slice A b.length c, I 0])] (l1 (nw 9 vp [.slice A b.length c, I 0] 142 fun g9 => ra [] f0 [(4, Pt g9 0)] (tN ?_))))); have bad1 : getS b = ([], 7) → ∀ K z, (∀ a, Kn 37 K a → Kn 37 [(2, Pt g2 0), (3, Pt g3 0)] a) → Ge S0 w0 37 K [.blk g9 142 [.slice A b.length c, I z], .dat (RowC A c c_u8 tr b), .blk g3 31 [I 0], .blk g2 45 [.slice none 0 0]] (bodyPostD Try.prog Try.f84 (fun e w' => ∃ x : KSintL, (getS b).1 = x.l ∧ e = .returned (.tuple #[.slice x.A x.l.length x.c, I (getS b).2]) ∧ Below w0.heap.size w0 w' ∧ AllH (ext S0 w0 w') w' [RowC x.A x.c c_i64 tr x.l]) (.panic chE)) := fun hn K z hk =>
   pm [3, 2, 0, 1] (bad hn K (.slice none 0 0) (I 0) [.blk g9 142 [.slice A b.length c, I z], .dat (RowC A c c_u8 tr b)] hk)
  refine sq (rg (rn 1 [] f0 [(10, Pt g9 0)] (l1 (cI (E' := [.blk g3 31 [I 0], .blk g2 45 [.slice none 0 0]]) 11 g9 A c b 0 [0, 3, 1, 2] (Nat.zero_le _) hbl hT (fun n rest q1 q2 q3 => ?_) (fun q1 z => ?_)))))
  ·have hn : getS b = if 0 ≤ n ∧ n ≤ 1000 then fnG [] (rdN n.toNat rest) else ([], 7) := by unfold getS; rw [show b = b.drop 0 from rfl, q1]
   refine ra [] f0 [(5, I n)] (tN ?_); refine sq (rg ?_); refine rn 3 [] f0 [(14, B (decide (0 ≤ n)))] ?_; have fail : ¬ (0 ≤ n ∧ n ≤ 1000) → getS b = ([], 7) := fun h => by rw [hn, if_neg h]
   by_cases hn0 : 0 ≤ n
   ·refine sb 14 (bt (decide_eq_true hn0)) ?_; refine rn 3 [] f0 [(17, B (decide (n ≤ 1000)))] ?_
    by_cases hn1 : n ≤ 1000
    ·refine sb 17 (bt (decide_eq_true hn1)) ?_; rw [if_pos ⟨hn0, hn1⟩] at hn; refine l1 (cl 18 need_ok hT trivial (nl (tN ?_))); clear fail; refine jn (fun K E a w => ∃ (l : List Int) (A2 : Option Addr) (c2 i : Nat), Js S0 w0 37 [(4, Pt g9 0), (2, Pt g2 0), (3, Pt g3 0), (0, .slice A b.length c)] [.blk g2 45 [.slice A2 l.length c2], .own 3 1 (.slice A2 l.length c2) l.length (l.flatMap c_i64), .blk g9 142 [.slice A b.length c, I (i : Nat)], .dat (RowC A c c_u8 tr b), .blk g3 31 [I 0]] (i ≤ b.length ∧ getS b = fnG l (some ([], b.drop i))) a w) ?_ ?_
     ·refine sq (rg (ra [] f0 [(19, I n), (20, I 0)] (tN (bk ?_)))); refine lp (fun K E m a w => ∃ (k : Nat) (l : List Int) (A2 : Option Addr) (c2 i : Nat), Js S0 w0 37 [(19, I n), (20, I (l.length : Nat)), (4, Pt g9 0), (2, Pt g2 0), (3, Pt g3 0), (0, .slice A b.length c)] [.blk g2 45 [.slice A2 l.length c2], .own 3 1 (.slice A2 l.length c2) l.length (l.flatMap c_i64), .blk g9 142 [.slice A b.length c, I (i : Nat)], .dat (RowC A c c_u8 tr b), .blk g3 31 [I 0]] (i ≤ b.length ∧ getS b = fnG l (rdN k (b.drop i)) ∧ (l.length : Int) + k = n ∧ m = k) a w) n.toNat ?_ ?_
      ·exact on 3 1 (fun a w S k e => ⟨n.toNat, [], none, 0, b.length - rest.length, S, k.wk, e.sel [4, 0, 1, 2, 3], by omega, by rw [hn, ← q3], by simp; omega, rfl⟩)
      ·rintro m a w ⟨k, l, A2, c2, i, hJ⟩; refine hJ.go fun ⟨hi, hg, hk0, hm⟩ => ?_
       clear hJ hn; refine sq (rg (ra [] f0 [(21, B (decide (((l.length : Nat) : Int) < n)))] (tN (sq ?_))))
       by_cases hlt : ((l.length : Nat) : Int) < n
       ·refine sb 21 (bt (decide_eq_true hlt)) (ct (kS (tN (sq (bk ?_))))); obtain ⟨k, rfl⟩ : ∃ k', k = k' + 1 := ⟨k - 1, by omega⟩; have hwl : IntKind.i64.wrap (((l.length : Nat) : Int) + 1) = ((l.length : Nat) : Int) + 1 := by unfold IntKind.wrap; simp [IntKind.signed, IntKind.bits]; omega
        have hbd : rdV 10 0 0 (b.drop i) = none → getS b = ([], 7) := fun h => by rw [hg]; unfold rdN; rw [h]; rfl
        have badL : getS b = ([], 7) → ∀ K z, (∀ a, Kn 37 K a → Kn 37 [(2, Pt g2 0), (3, Pt g3 0)] a) → Ge S0 w0 37 K [.blk g9 142 [.slice A b.length c, I z], .dat (RowC A c c_u8 tr b), .blk g2 45 [.slice A2 l.length c2], .own 3 1 (.slice A2 l.length c2) l.length (l.flatMap c_i64), .blk g3 31 [I 0]] (bodyPostD Try.prog Try.f84 (fun e w' => ∃ x : KSintL, (getS b).1 = x.l ∧ e = .returned (.tuple #[.slice x.A x.l.length x.c, I (getS b).2]) ∧ Below w0.heap.size w0 w' ∧ AllH (ext S0 w0 w') w' [RowC x.A x.c c_i64 tr x.l]) (.panic chE)) := fun hn K z hk =>
         pm [2, 4, 3, 0, 1] (bad hn K (.slice A2 l.length c2) (I 0) [.own 3 1 (.slice A2 l.length c2) l.length (l.flatMap c_i64), .blk g9 142 [.slice A b.length c, I z], .dat (RowC A c c_u8 tr b)] hk)
        have hap : ∀ v, apG 8 l ([v] : List Int) = some (l ++ [v]) := fun v => by unfold apG; rw [if_pos (by simp; omega)]
        refine hb [] (ho [0, 1] ⟨h1 (po 22 (.slice A2 l.length c2) [(0, 1, 0, 0)] f0 (hk [] (ho [1] ⟨h1 (po 23 (Pt g9 0) [] f0 (hk [] (ho [2] ⟨h1 (cI (E' := [.blk g2 45 [.slice A2 l.length c2], .own 3 1 (.slice A2 l.length c2) l.length (l.flatMap c_i64), .blk g3 31 [I 0]]) 24 g9 A c b i [2, 3, 0, 1, 4] hi hbl hT (fun v rs j1 j2 j3 => hk [] (ho [3] ⟨h1 (nw 25 (vs 1) [I v] 3 fun g => hk [] (ho [4] ⟨h1 (ap 4 26 A2 c2 l ([v] : List Int) inf45 (bA (f := c_i64) (ok := tr) (l := ([v] : List Int)) g 0 et.a) (hap v) one_i64 fun A3 c3 _ => hk [] (ho [5] ⟨h1 (sr 3 g2 [(0, .slice A3 (l ++ [v]).length c3)] (hk [] (he (hN (tN ?_))))), trivial⟩)), trivial⟩)), trivial⟩)) (fun j1 z => badL (hbd j1) _ z fun a k => k.wk)), trivial⟩))), trivial⟩))), h1 (po 23 (Pt g9 0) [] f0 (hk [] (ho [0, 2] ⟨h1 (po 22 (.slice A2 l.length c2) [(0, 1, 0, 0)] f0 (hk [] (ho [2] ⟨h1 (cI (E' := [.blk g2 45 [.slice A2 l.length c2], .own 3 1 (.slice A2 l.length c2) l.length (l.flatMap c_i64), .blk g3 31 [I 0]]) 24 g9 A c b i [2, 3, 0, 1, 4] hi hbl hT (fun v rs j1 j2 j3 => hk [] (ho [3] ⟨h1 (nw 25 (vs 1) [I v] 3 fun g => hk [] (ho [4] ⟨h1 (ap 4 26 A2 c2 l ([v] : List Int) inf45 (bA (f := c_i64) (ok := tr) (l := ([v] : List Int)) g 0 et.a) (hap v) one_i64 fun A3 c3 _ => hk [] (ho [5] ⟨h1 (sr 3 g2 [(0, .slice A3 (l ++ [v]).length c3)] (hk [] (he (hN (tN ?_))))), trivial⟩)), trivial⟩)), trivial⟩)) (fun j1 z => badL (hbd j1) _ z fun a k => k.wk)), trivial⟩))), h1 (cI (E' := [.blk g2 45 [.slice A2 l.length c2], .own 3 1 (.slice A2 l.length c2) l.length (l.flatMap c_i64), .blk g3 31 [I 0]]) 24 g9 A c b i [2, 3, 0, 1, 4] hi hbl hT (fun v rs j1 j2 j3 => hk [] (ho [0, 3] ⟨h1 (po 22 (.slice A2 l.length c2) [(0, 1, 2, 0)] f0 (hk [] (ho [3] ⟨h1 (nw 25 (vs 1) [I v] 3 fun g => hk [] (ho [4] ⟨h1 (ap 4 26 A2 c2 l ([v] : List Int) inf45 (bA (f := c_i64) (ok := tr) (l := ([v] : List Int)) g 0 et.a) (hap v) one_i64 fun A3 c3 _ => hk [] (ho [5] ⟨h1 (sr 3 g2 [(0, .slice A3 (l ++ [v]).length c3)] (hk [] (he (hN (tN ?_))))), trivial⟩)), trivial⟩)), trivial⟩))), h1 (nw 25 (vs 1) [I v] 3 fun g => hk [] (ho [0] ⟨h1 (po 22 (.slice A2 l.length c2) [(0, 1, 3, 0)] f0 (hk [] (ho [4] ⟨h1 (ap 4 26 A2 c2 l ([v] : List Int) inf45 (bA (f := c_i64) (ok := tr) (l := ([v] : List Int)) g 0 et.a) (hap v) one_i64 fun A3 c3 _ => hk [] (ho [5] ⟨h1 (sr 3 g2 [(0, .slice A3 (l ++ [v]).length c3)] (hk [] (he (hN (tN ?_))))), trivial⟩)), trivial⟩))), trivial⟩)), trivial⟩)) (fun j1 z => badL (hbd j1) _ z fun a k => k.wk)), trivial⟩))), trivial⟩)
        all_goals
         refine rg (ra [] f0 [(20, I (IntKind.i64.wrap (((l.length : Nat) : Int) + 1)))] (tN ?_)); refine sb 20 (congrArg I (hwl.trans (by simp : ((l.length : Nat) : Int) + 1 = (((l ++ [v]).length : Nat) : Int)))) ?_; exact fun a w S k' e => ⟨k, ⟨k, l ++ [v], A3, c3, b.length - rs.length, S, k'.wk, e.sel [3, 4, 1, 2, 5], by omega, by rw [hg, ← j3]; exact fn_step j1, by simp; omega, rfl⟩, by omega⟩
       ·refine sb 21 (bf (decide_eq_false hlt)) (cf (kX (tX (tX ?_)))); obtain rfl : k = 0 := by omega
        refine hH (tN ?_); exact fun a w S k e => ⟨l, A2, c2, i, S, k.wk, e, hi, hg⟩
     ·rintro a w ⟨l, A2, c2, i, hJ⟩; refine hJ.go fun ⟨hi, hg⟩ => ?_
      clear hJ hn; refine sq (rg (rn 7 [(3, 1, 2, 1)] f0 [(34, B (((i : Nat) : Int) == ((b.length : Nat) : Int)))] ?_))
      by_cases he : i = b.length
      ·refine sb 34 (bt (b := ((i : Nat) : Int) == ((b.length : Nat) : Int)) (by simp [he])) (l1 (cl 35 need_ok hT trivial (nl (tN ?_)))); have hg2 : getS b = (l, 0) := by rw [hg, he, List.drop_eq_nil_of_le (Nat.le_refl _)]; simp [fnG]
       refine sq (rg (rn 1 [(0, 1, 0, 0)] f0 [(36, .slice A2 l.length c2)] (l1 (sr 0 g2 [(0, .slice A2 l.length c2)] (l1 (sr 4 g3 [(0, I 0)] (nl (tN (kR ?_))))))))); refine so (A := A2) (c := c2) 1 c_i64 tr l tr_mv et ?_; refine pm (E' := .blk g2 45 [.slice A2 l.length c2] :: .blk g3 31 [I 0] :: [.dat (RowC A2 c2 c_i64 tr l), .blk g9 142 [.slice A b.length c, I (i : Nat)], .dat (RowC A c c_u8 tr b)]) [0, 4, 1, 2, 3] ?_; exact get_end (fun a k => k.wk) fun S w e => ⟨⟨A2, c2, l⟩, by rw [hg2], by rw [hg2], Es.b e, RowC.to tr_mv (Ez.get e (i := 2) rfl) (Es.sub e) (Ag.refl _ _), trivial⟩
      ·refine sb 34 (bf (b := ((i : Nat) : Int) == ((b.length : Nat) : Int)) (by simp; omega)) (l1 (pn need_bad ?_)); have hg2 : getS b = ([], 7) := by
        rw [hg]; cases hd : b.drop i with
        | nil => have := congrArg List.length hd; simp at this; omega
        | cons x y => rfl
       exact pm [0, 4, 1, 2, 3] (bad hg2 _ (.slice A2 l.length c2) (I 0) [.own 3 1 (.slice A2 l.length c2) l.length (l.flatMap c_i64), .blk g9 142 [.slice A b.length c, I (i : Nat)], .dat (RowC A c c_u8 tr b)] fun a k => k.wk)
    ·refine sb 17 (bf (decide_eq_false hn1)) ?_; exact l1 (pn need_bad (bad1 (fail fun h => hn1 h.2) _ _ fun a k => k.wk))
   ·refine sb 14 (bf (decide_eq_false hn0)) ?_; refine rn 3 [] f0 [(17, B false)] ?_; exact l1 (pn need_bad (bad1 (fail fun h => hn0 h.1) _ _ fun a k => k.wk))
  ·exact bad1 (by unfold getS; rw [show b = b.drop 0 from rfl, q1]) _ _ fun a k => k.wk
 ·cases hG
end Go.Proofs.Ytlfkgbideknkhaa
namespace Go.Proofs.Ytlfkgbideknkhaa
open Go.RowKit Go.Maps
theorem run_part3 {P : Program} {T e : TypeId} {i : TypeInfo} {A : Option Addr} {n c m p q : Nat} {k' k'' : IntKind} (lo : Option Value) (hT : P.underlying T = some (.slice e)) (hi' : P.info? e = some i) (hm : i.size = m) (hlo : (lo = none ∧ p = 0) ∨ (∃ k, lo = some (.int k (p : Int)))) (hpq : p ≤ q) (hqn : q ≤ n) (hnc : n ≤ c) (W : World) :
  (Instr.sliceAt T (.slice A n c) lo (some (.int k' (q : Int))) (some (.int k'' (q : Int)))).run P W = .ok (.slice (if q = p then A else A.map (·.add (p * m))) (q - p) (q - p)) W := by
 have hs : ∀ W, (sizeOf e).run P W = .ok m W := fun W => by simp [sizeOf, typeInfo, hi', hm, run_program]
 have h1 : (p : Int) ≤ q := by omega
 have h2 : (q : Int) ≤ c := by omega
 rcases hlo with ⟨rfl, rfl⟩ | ⟨k, rfl⟩ <;> simp [Instr.sliceAt, Instr.slice, run_underlying hT, Instr.sliceBounds, run_sliceBound, hs, h1, h2]
section
variable {S0 : Nat → Prop} {w0 : World} {n : Nat} {K : List (Nat × Value)} {E : List Iz} {X : Act → World → Prop} {P : Program} {T e : TypeId} {m bytes : Nat} {z0 : Value} {α : Type} {A : Option Addr} {c : Nat} {f : α → List Value} {ok : α → Pr} {l : List α}
theorem fpx [DSc] (lo : Bool) (inf : Inf P T e m bytes z0) (hr : Fd E (RowC A c f ok l)) {a b : Int} {r : List α} (hy : slI l a b = some r) (hlo : lo = false → a = 0)
  (h : ∀ A', (∀ k k' k'' W, (Instr.sliceAt T (.slice A l.length c) (ib lo k a) (some (.int k' b)) (some (.int k'' b))).run P W = .ok (.slice A' r.length r.length) W) → Ge S0 w0 n K (.dat (RowC A' r.length f ok r) :: E) X) (hm : ∀ x, (f x).length = m := by intro _; rfl) : Ge S0 w0 n K E X := fun ac w S hK hE => by
 obtain ⟨ti, hti, _, hm', _⟩ := info_parts inf.i; obtain ⟨p, q, rfl, rfl, hpq, hql, hrr⟩ := slI_some hy; have hc := (hr _ _ _ _ hE S w (fun _ h => h) (Ag.refl _ _)).c; have hrl : r.length = q - p := by rw [hrr, List.length_drop, List.length_take]; omega
 refine h (if q = p then A else A.map (·.add (p * m))) (fun k k' k'' W => ?_) ac w S hK (Es.dat hE fun S' W h1 h2 => ?_)
 ·rw [hrl]; refine run_part3 (p := p) (q := q) (n := l.length) _ inf.t hti hm' ?_ hpq hql hc W; cases lo with
  | false => exact .inl ⟨rfl, by have := hlo rfl; omega⟩
  | true => exact .inr ⟨k, rfl⟩
 ·have h3 := hr _ _ _ _ hE S' W h1 h2; refine ⟨?_, Nat.le_refl _, fun y hy => h3.e y (List.mem_of_mem_take (List.mem_of_mem_drop (hrr ▸ hy)))⟩; subst hrr
  split
  ·next hcp =>
   have : (l.take q).drop p = [] := List.drop_eq_nil_of_le (by rw [List.length_take]; omega); rw [this]; exact RowS.nil _ _ _
  ·exact h3.r.part hm p q hql
theorem rwc [DSc] (hr : Fd E (RowC A c f ok l)) (hl : l.flatMap f ≠ []) (h : ∀ b o, A = some ⟨b, o, none⟩ → Ge S0 w0 n K (.rc b o (l.flatMap f) :: E) X) : Ge S0 w0 n K E X := fun a w S hK hE => by
 obtain ⟨b, o, hA, _⟩ := (hr _ _ _ _ hE S w (fun _ h => h) (Ag.refl _ _)).r.s hl; refine h b o hA a w S hK (Es.dat hE fun S' W h1 h2 => ?_); have h3 := (hr _ _ _ _ hE S' W h1 h2).r; obtain ⟨b', o', e1, hS⟩ := h3.s hl; obtain ⟨b2, o2, e2, _, hc⟩ := h3.r hl; rw [hA] at e1 e2
 injection e1 with e1; injection e1 with e11 e12
 injection e2 with e2; injection e2 with e21 e22
 subst e11 e12 e21 e22; exact ⟨hc, hS⟩
end
theorem eqItems_bytes {P : Program} {e : TypeId} {xs ys : Array Value} {a b : Nat → Int} (d : Nat) (he : P.plainKey e = true) (hu : P.underlying e = some (.int .u8)) (w : World) :
  ∀ (is : List Nat), (∀ i ∈ is, xs[i]? = some (Y (a i)) ∧ ys[i]? = some (Y (b i))) → (Op.eqItems (d + 1) e 1 xs ys is).run P w = .ok (is.all fun i => a i == b i) w
 | [], _ => by simp [Op.eqItems, List.all]
 | i :: is, h => by
  have h0 := h i (.head _); have ih := eqItems_bytes d he hu w is (fun j hj => h j (.tail _ hj)); rw [Op.eqItems, Sem.run_bind, Nat.mul_one, run_part_plain w he h0.1, Result.andThen_ok, Sem.run_bind, run_part_plain w he h0.2, Result.andThen_ok, Sem.run_bind, run_equalIn_int w d e _ _ _ _ hu, Result.andThen_ok]
  by_cases hq : a i = b i
  ·rw [show (a i == b i) = true from beq_iff_eq.2 hq, if_neg (by simp), ih, List.all_cons, beq_iff_eq.2 hq, Bool.true_and]
  ·have hf : (a i == b i) = false := by simpa using hq
   rw [hf, if_pos (show (!false) = true from rfl), Sem.run_pure, List.all_cons, hf, Bool.false_and]
theorem neq_K8 (x y : K8_uint8) (w : World) : (binOp .neq 107 (.agg #[Y x.f0, Y x.f1, Y x.f2, Y x.f3, Y x.f4, Y x.f5, Y x.f6, Y x.f7]) (.agg #[Y y.f0, Y y.f1, Y y.f2, Y y.f3, Y y.f4, Y y.f5, Y y.f6, Y y.f7])).run Try.prog w = .ok (.bool (!decide (x = y))) w := by
 obtain ⟨i, hi⟩ : ∃ i, Try.prog.info? 5 = some i := info_of_underlying Try.underlying5
 let at8 : K8_uint8 → Nat → Int := fun x i => match i with | 0 => x.f0 | 1 => x.f1 | 2 => x.f2 | 3 => x.f3 | 4 => x.f4 | 5 => x.f5 | 6 => x.f6 | _ => x.f7
 rw [run_neq_struct, show (10000 : Nat) = 9998 + 1 + 1 from rfl, run_equalIn_array w (9998 + 1) (e := 5) (n := 8) _ _ (by kernel_rfl) hi, show Try.prog.cellsOf 5 = 1 by kernel_rfl,
  eqItems_bytes (a := at8 x) (b := at8 y) 9998 (by kernel_rfl) (by kernel_rfl) w _ (fun i hi => ?_), Result.andThen_ok]
 ·have he : ((List.range 8).all fun i => at8 x i == at8 y i) = decide (x = y) := by
   rw [Bool.eq_iff_iff, List.all_eq_true, decide_eq_true_iff]; constructor
   ·intro h; have h' : ∀ i, i < 8 → at8 x i = at8 y i := fun i hi => beq_iff_eq.1 (h i (List.mem_range.2 hi))
    have e0 := h' 0 (by decide); have e1 := h' 1 (by decide); have e2 := h' 2 (by decide); have e3 := h' 3 (by decide); have e4 := h' 4 (by decide); have e5 := h' 5 (by decide); have e6 := h' 6 (by decide); have e7 := h' 7 (by decide); cases x; cases y; simp only [at8] at e0 e1 e2 e3 e4 e5 e6 e7; subst e0 e1 e2 e3 e4 e5 e6 e7; rfl
   ·intro h; subst h; intro i _; exact beq_self_eq_true _
  rw [he]
 ·have := List.mem_range.1 hi
  match i, this with
  | 0, _ => exact ⟨rfl, rfl⟩
  | 1, _ => exact ⟨rfl, rfl⟩
  | 2, _ => exact ⟨rfl, rfl⟩
  | 3, _ => exact ⟨rfl, rfl⟩
  | 4, _ => exact ⟨rfl, rfl⟩
  | 5, _ => exact ⟨rfl, rfl⟩
  | 6, _ => exact ⟨rfl, rfl⟩
  | 7, _ => exact ⟨rfl, rfl⟩
def frmN (b0 b1 b2 : Int) : Int := bits .or .i64 (bits .or .i64 (IntKind.i64.wrap (IntKind.i64.wrap b0 * 2 ^ 16)) (IntKind.i64.wrap (IntKind.i64.wrap b1 * 2 ^ 8))) (IntKind.i64.wrap b2)
def k8 : List Int → Option K8_uint8
 | [d0, d1, d2, d3, d4, d5, d6, d7] => some ⟨d0, d1, d2, d3, d4, d5, d6, d7⟩
 | _ => none
def G_codec_first (F : Nat) (b : List Int) : Option (List Int × Int × Bool) :=
  match b with
  | b0 :: b1 :: b2 :: _ => ifB (decide (((b.length : Nat) : Int) < IntKind.i64.wrap (frmN b0 b1 b2 + 11))) (some ([], 0, false))
      (Option.bind (slI b (IntKind.i64.wrap (frmN b0 b1 b2 + 3)) (IntKind.i64.wrap (frmN b0 b1 b2 + 11))) fun d =>
      Option.bind (k8 d) fun d8 =>
      Option.bind (slI b 0 (IntKind.i64.wrap (frmN b0 b1 b2 + 3))) fun h =>
      Option.bind (G_codec_sum F h) fun s =>
      ifB (decide (d8 = s)) (Option.bind (slI b 3 (IntKind.i64.wrap (frmN b0 b1 b2 + 3))) fun q =>
          Option.bind (G_codec_Get F q) (un2 fun l e => some (l, IntKind.i64.wrap (frmN b0 b1 b2 + 11), e == 0)))
        (some ([], 0, false)))
  | _ => some ([], 0, false)
theorem k8_some {d : List Int} {x : K8_uint8} (h : k8 d = some x) : d = [x.f0, x.f1, x.f2, x.f3, x.f4, x.f5, x.f6, x.f7] := by
 unfold k8 at h
 split at h
 ·cases h; rfl
 ·cases h
set_option maxRecDepth 100000 in
set_option maxHeartbeats 4000000 in
theorem z_codec_first (F : Nat) (A : Option Addr) (c : Nat) (b : List Int) (r : List Int × Int × Bool) (hG : G_codec_first F b = some r) :
  Cn Try.prog 64 [.slice A b.length c] [RowC A c c_u8 tr b] (fun q : KSintL => r.1 = q.l) (fun q => .tuple #[.slice q.A q.l.length q.c, I r.2.1, B r.2.2]) (fun q => [RowC q.A q.c c_i64 tr q.l]) := by
 refine fin Try.func64 rfl rfl (mr tr_mv m0) fun S0 w0 hT => ?_
 refine sq (rg (ra [] f0 [(2, .slice none 0 0), (3, I 0), (4, B false)] (tN (sq (sq (rg (ra [] f0 [(10, B (decide (((b.length : Nat) : Int) < 3)))] (tN ?_))))))))
 by_cases h3 : b.length < 3
 ·refine sb 10 (bt (b := decide (((b.length : Nat) : Int) < 3)) (decide_eq_true (by omega))) (ct (sq (rg (ra [] f0 [(2, .slice none 0 0), (3, I 0), (4, B false)] (tN (kR (tR ?_))))))); have hr : r = ([], 0, false) := by
   match b, h3 with
   | [], _ => exact (oi hG).symm
   | [_], _ => exact (oi hG).symm
   | [_, _], _ => exact (oi hG).symm
  subst hr; exact rtn [] ⟨none, 0, ([] : List Int)⟩ rfl ⟨gn, trivial⟩
 ·refine sb 10 (bf (b := decide (((b.length : Nat) : Int) < 3)) (decide_eq_false (by omega))) (cf (kS (tN (sq ?_)))); obtain ⟨y0, y1, y2, ys, rfl⟩ : ∃ y0 y1 y2 ys, b = y0 :: y1 :: y2 :: ys := by
   match b, h3 with
   | y0 :: y1 :: y2 :: ys, _ => exact ⟨_, _, _, _, rfl⟩
   | [], h => exact absurd (by simp) h
   | [_], h => exact absurd (by simp) h
   | [_, _], h => exact absurd (by simp) h
  unfold G_codec_first at hG; obtain ⟨n, hn⟩ : ∃ n, frmN y0 y1 y2 = n := ⟨_, rfl⟩
  dsimp only at hG
  rw [hn] at hG; obtain ⟨b, hb⟩ : ∃ b, y0 :: y1 :: y2 :: ys = b := ⟨_, rfl⟩; have e0 : ixI b 0 = some y0 := by rw [← hb]; rfl
  have e1 : ixI b 1 = some y1 := by rw [← hb]; rfl
  have e2 : ixI b 2 = some y2 := by rw [← hb]; rfl
  rw [hb] at hG h3 ⊢; clear hb; refine qb (fx inf22 (gd' (RowC A c c_u8 tr b) 0) e0 fun g0 o0 i0 => fx inf22 (gd' (RowC A c c_u8 tr b) 1) e1 fun g1 o1 i1 => fx inf22 (gd' (RowC A c c_u8 tr b) 2) e2 fun g2 o2 i2 => qa [(1, 0, 0, 0), (0, 1, 2, 0), (3, 0, 0, 0), (0, 1, 1, 0), (4, 0, 0, 0), (0, 1, 0, 0)] (fc (i0 .i64) (fc (i1 .i64) (fc (i2 .i64) f0))) [(5, I (frmN y0 y1 y2))] (tN ?_)); refine sb 5 (congrArg I hn) (sq (sq ?_)); refine (qb (qn 6 [] f0 [(32, B (decide (((b.length : Nat) : Int) < IntKind.i64.wrap (n + 11))))] ?_)); rcases ic hG with ⟨h4, hG⟩ | ⟨h4, hG⟩
  ·refine sb 32 (bt h4) (qa [] f0 [(49, B true)] (tN (ct (sq (rg (ra [] f0 [(2, .slice none 0 0), (3, I 0), (4, B false)] (tN (kR (tR ?_))))))))); obtain rfl := oi hG; exact rtn [] ⟨none, 0, ([] : List Int)⟩ rfl ⟨gn, trivial⟩
  ·refine sb 32 (bf h4) ?_; obtain ⟨d, hd, hG1⟩ := bs hG; obtain ⟨x, hx, hG2⟩ := bs hG1; have hdx := k8_some hx; subst hdx; obtain ⟨h, hh, hG3⟩ := bs hG2; obtain ⟨s, hs, hG⟩ := bs hG3; refine fp true true inf22 (gd' (RowC A c c_u8 tr b) 3) hd fun A' c' i1 => ?_
   refine rwc (gd' (RowC A' c' c_u8 tr [x.f0, x.f1, x.f2, x.f3, x.f4, x.f5, x.f6, x.f7]) 0) (by simp [List.flatMap, c_u8]) fun g1 o1 hA => ?_
   subst hA; refine fpx false inf22 (gd' (RowC A c c_u8 tr b) 5) hh (fun _ => rfl) fun A2 i2 => ?_
   refine qn 14 [(5, 0, 0, 0), (1, 8, 1, 0), (5, 0, 0, 0)] (fc (i1 .i64 .i64) (fc (i2 .i64 .i64 .i64) f0)) [(40, .agg #[Y x.f0, Y x.f1, Y x.f2, Y x.f3, Y x.f4, Y x.f5, Y x.f6, Y x.f7]), (46, .slice A2 h.length h.length)] ?_; refine qc 47 (z_codec_sum F A2 h.length h _ hs) hT ⟨ga 0, trivial⟩ (qa [(0, 0, 0, 0)] (fc (neq_K8 x s) f0) [(49, B (!decide (x = s)))] (tN ?_)); rcases ic hG with ⟨h5, hG⟩ | ⟨h5, hG⟩
   ·refine sb 49 (nt h5) (cf (kS (tN (sq ?_)))); obtain ⟨q, hq, hG⟩ := bs hG; obtain ⟨l, e, hl, hG⟩ := b2 hG; obtain rfl := oi hG; refine rg (fpx true inf22 (gd' (RowC A c c_u8 tr b) 6) hq (fun h => by cases h) fun A3 i3 => rn 6 [(5, 0, 0, 0)] (fc (i3 .i64 .i64 .i64) f0) [(56, .slice A3 q.length q.length)] (l1 (cn 57 (z_codec_Get F A3 q.length q _ hl) hT (fun _ => (mr tr_mv m0)) ⟨gi 0, trivial⟩ ?_))); rintro ⟨A4, c4, l'⟩ hq4; obtain rfl : l = l' := hq4; refine ra [] f0 [(6, .slice A4 l.length c4), (7, I e)] (tN (sq (rg (ra [] f0 [(2, .slice A4 l.length c4), (3, I (IntKind.i64.wrap (n + 11))), (4, B (e == 0))] (tN (kR ?_)))))); exact rtn [] ⟨A4, c4, l⟩ rfl ⟨gi 0, trivial⟩
   ·refine sb 49 (nf h5) (ct (sq (rg (ra [] f0 [(2, .slice none 0 0), (3, I 0), (4, B false)] (tN (kR (tR ?_))))))); obtain rfl := oi hG; exact rtn [] ⟨none, 0, ([] : List Int)⟩ rfl ⟨gn, trivial⟩
end Go.Proofs.Ytlfkgbideknkhaa
namespace Go.Proofs.Ytlfkgbideknkhaa
open Go.RowKit Go.Maps
def G_codec_Frame (F : Nat) (p_0 : List Int) : Option ((List Int) × Int) :=
 Option.bind (G_codec_Put F p_0) (un2 fun v_1 v_2 =>
 ifB ((v_2 == 0))
  (Option.bind (apG 1 ([IntKind.u8.wrap (Int.fdiv ((v_1.length : Nat) : Int) (2 ^ 16)), IntKind.u8.wrap (Int.fdiv ((v_1.length : Nat) : Int) (2 ^ 8)), IntKind.u8.wrap ((v_1.length : Nat) : Int)] : List Int) v_1) (fun v_5 =>
  Option.bind (G_codec_sum F v_5) (fun v_6 =>
  Option.bind (apG 1 v_5 ([v_6.f0, v_6.f1, v_6.f2, v_6.f3, v_6.f4, v_6.f5, v_6.f6, v_6.f7] : List Int)) (fun v_8 =>
  some (v_8, 0)))))
  (some (([] : List Int), v_2)))
set_option maxRecDepth 100000 in
set_option maxHeartbeats 16000000 in
theorem z_codec_Frame (F : Nat) (p_0_A : Option Addr) (p_0_c : Nat) (p_0 : List Int) (r : (List Int) × Int) (hG : G_codec_Frame F p_0 = some r) :
  Cg Try.prog 28 [.slice p_0_A p_0.length p_0_c] [RowC p_0_A p_0_c c_i64 tr p_0] (fun q : KSuint8L => r.1 = q.l) (fun q => .tuple #[.slice q.A q.l.length q.c, I r.2]) (fun q => [RowC q.A q.c c_u8 tr q.l]) := by
 unfold G_codec_Frame at hG
 try simp only [List.length_map, KLeaderL.n_Open] at hG
 refine fing Try.func28 rfl rfl (mr tr_mv m0) fun S0 w0 hT => sq (rg (ra [] f0 [] (tN (sq ?_))))
 obtain ⟨v_1o, v_2, hy_1, hG⟩ := b2 hG; refine rg (rn 1 [] f0 [(9, .slice p_0_A p_0.length p_0_c)] (l1 (cgn 10 (z_codec_Put F p_0_A p_0_c p_0 _ hy_1) hT (fun _ => (mr tr_mv m0)) ⟨ga 0, trivial⟩ ?_))); rintro ⟨v_1_A, v_1_c, v_1⟩ hq_1; obtain rfl : v_1 = v_1o := hq_1.symm
 try simp only [List.length_map, KLeaderL.n_Open] at hG
 refine ra [] f0 [(4, .slice v_1_A v_1.length v_1_c), (5, I v_2)] (tN (sq (sq (rg (ra [] f0 [(14, B (!(v_2 == 0)))] (tN ?_)))))); rcases ic hG with ⟨h_3, hG⟩ | ⟨h_3, hG⟩
 ·refine sb 14 (nt h_3) (cf (kS (tN (sq ?_)))); obtain ⟨v_5, hy_5, hG⟩ := bs hG; refine rg (rn 11 [] f0 [(19, Y (IntKind.u8.wrap (Int.fdiv ((v_1.length : Nat) : Int) (2 ^ 16)))), (23, Y (IntKind.u8.wrap (Int.fdiv ((v_1.length : Nat) : Int) (2 ^ 8)))), (26, Y (IntKind.u8.wrap ((v_1.length : Nat) : Int)))] (l1 (nw 27 (vs 3) [Y (IntKind.u8.wrap (Int.fdiv ((v_1.length : Nat) : Int) (2 ^ 16))), Y (IntKind.u8.wrap (Int.fdiv ((v_1.length : Nat) : Int) (2 ^ 8))), Y (IntKind.u8.wrap ((v_1.length : Nat) : Int))] 5 fun g_4 => rn 1 [] f0 [(28, .slice v_1_A v_1.length v_1_c)] (bo 0 1 3 g_4 5 [Y (IntKind.u8.wrap (Int.fdiv ((v_1.length : Nat) : Int) (2 ^ 16))), Y (IntKind.u8.wrap (Int.fdiv ((v_1.length : Nat) : Int) (2 ^ 8))), Y (IntKind.u8.wrap ((v_1.length : Nat) : Int))] (l1 (ap 0 29 (some ⟨g_4, 0, none⟩) 3 ([IntKind.u8.wrap (Int.fdiv ((v_1.length : Nat) : Int) (2 ^ 16)), IntKind.u8.wrap (Int.fdiv ((v_1.length : Nat) : Int) (2 ^ 8)), IntKind.u8.wrap ((v_1.length : Nat) : Int)] : List Int) v_1 inf22 ((gd' (RowC v_1_A v_1_c c_u8 tr v_1) 2).a) hy_5 one_u8 fun v_5_A v_5_c _ => ra [] f0 [(6, .slice v_5_A v_5.length v_5_c)] (tN (sq ?_)))))))); obtain ⟨v_6, hy_6, hG⟩ := bs hG; refine rg (rn 1 [] f0 [(30, .slice v_5_A v_5.length v_5_c)] (l1 (cl 31 (z_codec_sum F v_5_A v_5_c v_5 _ hy_6) hT ⟨oa 0 et.a, trivial⟩ (l1 (nw 7 vp [Y 0, Y 0, Y 0, Y 0, Y 0, Y 0, Y 0, Y 0] 107 fun g_7 => l1 (sr 0 g_7 (ns 0 [Y v_6.f0, Y v_6.f1, Y v_6.f2, Y v_6.f3, Y v_6.f4, Y v_6.f5, Y v_6.f6, Y v_6.f7]) (nl (tN (sq ?_))))))))); obtain ⟨v_8, hy_8, hG⟩ := bs hG; refine rg (rn 2 [] f0 [(32, .slice v_5_A v_5.length v_5_c), (33, Sb g_7 8 8)] (l1 (ap 1 34 v_5_A v_5_c v_5 ([v_6.f0, v_6.f1, v_6.f2, v_6.f3, v_6.f4, v_6.f5, v_6.f6, v_6.f7] : List Int) inf22 (bA (f := c_u8) (ok := tr) (l := ([v_6.f0, v_6.f1, v_6.f2, v_6.f3, v_6.f4, v_6.f5, v_6.f6, v_6.f7] : List Int)) g_7 0 et.a) hy_8 one_u8 fun v_8_A v_8_c _ => ra [] f0 [(2, .slice v_8_A v_8.length v_8_c), (3, I 0)] (tN (kR ?_))))); obtain rfl := oi hG; exact rtg [] ⟨v_8_A, v_8_c, v_8⟩ rfl ⟨frO 1, trivial⟩
 ·refine sb 14 (nf h_3) (ct (sq (rg (ra [] f0 [(2, .slice none 0 0), (3, I v_2)] (tN (kR (tR ?_))))))); obtain rfl := oi hG; exact rtg [] ⟨none, 0, ([] : List Int)⟩ rfl ⟨frN, trivial⟩
def G_codec_Frames (F : Nat) (p_0 : List Int) : Option ((List (List Int)) × Int × Int) :=
  ifB (decide (((p_0.length : Nat) : Int) > 100000))
    (some (([] : List (List Int)), 0, 2))
    (Option.bind (Option.bind (G_codec_first F p_0) (un3 fun v_2 v_3 v_4 =>
      Option.bind (iter (σ := (List (List Int)) × Int × (List Int) × Int × Bool) (ρ := ((List (List Int)) × Int)) (un5 fun (v_28 : (List (List Int))) (v_31 : Int) (v_32 : (List Int)) (v_35 : Int) (v_36 : Bool) => 
          (ifB (v_36)
            (Option.bind (apG 24 v_28 ([v_32] : List (List Int))) (fun v_40 =>
            Option.bind (slI p_0 (IntKind.i64.wrap (v_31 + v_35)) ((p_0.length : Nat) : Int)) (fun v_41 =>
            Option.bind (G_codec_first F v_41) (un3 fun v_42 v_43 v_44 =>
            some (.inl (v_40, IntKind.i64.wrap (v_31 + v_35), v_42, v_43, v_44))))))
            (some (.inr (v_28, v_31))) : Option (((List (List Int)) × Int × (List Int) × Int × Bool) ⊕ ((List (List Int)) × Int)))) F (([] : List (List Int)), 0, v_2, v_3, v_4)) (un2 fun (v_45 : (List (List Int))) (v_48 : Int) => 
        some (v_45, v_48))) : Option (((List (List Int)) × Int))) (un2 fun (v_50 : (List (List Int))) (v_53 : Int) => 
      some (v_50, v_53, 0)))
set_option maxRecDepth 100000 in
set_option maxHeartbeats 16000000 in
theorem z_codec_Frames (F : Nat) (p_0_A : Option Addr) (p_0_c : Nat) (p_0 : List Int) (r : (List (List Int)) × Int × Int) (hG : G_codec_Frames F p_0 = some r) :
  Cn Try.prog 32 [.slice p_0_A p_0.length p_0_c] [RowC p_0_A p_0_c c_u8 tr p_0] (fun q : KS__intL => r.1 = (q.l.map KSintL.p)) (fun q => .tuple #[.slice q.A q.l.length q.c, I r.2.1, I r.2.2]) (fun q => [RowC q.A q.c KSintL.cells KSintL.ok q.l]) := by
 unfold G_codec_Frames at hG
 try simp only [List.length_map, KLeaderL.n_Open] at hG
 refine fin Try.func32 rfl rfl (mr tr_mv m0) fun S0 w0 hT => sq (rg (ra [] f0 [] (tN (sq (sq (rg (ra [] f0 [(12, B (decide (((p_0.length : Nat) : Int) > 100000)))] (tN ?_))))))))
 rcases ic hG with ⟨h_1, hG⟩ | ⟨h_1, hG⟩
 ·try simp only [List.length_map, KLeaderL.n_Open] at h_1
  refine sb 12 (bt h_1) (ct (sq (rg (ra [] f0 (ns 2 [.slice none 0 0, I 0, I 2]) (tN (kR (tR ?_))))))); obtain rfl := oi hG; exact rtn [] ⟨none, 0, ([] : List KSintL)⟩ rfl ⟨gn, trivial⟩
 ·try simp only [List.length_map, KLeaderL.n_Open] at h_1
  refine sb 12 (bf h_1) (cf (kS (tN (sq (rg (ra [] f0 [(5, .slice none 0 0)] (tN (sq (rg (ra [] f0 [(6, I 0)] (tN ?_))))))))))); obtain ⟨o_49, hG, hG_49⟩ := bs hG; refine jn (fun K E a w => ∃ (v_50 : List KSintL) (v_51_A : Option Addr) (v_52_c : Nat) (v_53 : Int), Js S0 w0 37 ([(5, .slice v_51_A v_50.length v_52_c), (6, I v_53)] ++ K) ([.own 45 1 (.slice v_51_A v_50.length v_52_c) v_50.length (v_50.flatMap KSintL.cells), .dat (Each KSintL.ok v_50)]) (((v_50.map KSintL.p), v_53) = o_49) a w) ?_ ?_
  ·refine sq ?_; obtain ⟨v_2o, v_3, v_4, hy_2, hG⟩ := b3 hG; refine rg (rn 1 [] f0 [(14, .slice p_0_A p_0.length p_0_c)] (l1 (cn 15 (z_codec_first F p_0_A p_0_c p_0 _ hy_2) hT (fun _ => (mr tr_mv m0)) ⟨gi 0, trivial⟩ ?_))); rintro ⟨v_2_A, v_2_c, v_2⟩ hq_2; obtain rfl : v_2 = v_2o := hq_2.symm
   try simp only [List.length_map, KLeaderL.n_Open] at hG
   refine ra [] f0 (ns 7 [.slice v_2_A v_2.length v_2_c, I v_3, B v_4]) (tN (bk ?_)); obtain ⟨e_37, hL, hG_37⟩ := bs hG; clear hG; obtain ⟨stp_37, hs_37, hL⟩ := iter_gen hL; refine lp (fun K E n_ a w => ∃ (v_28 : List KSintL) (v_29_A : Option Addr) (v_30_c : Nat) (v_31 : Int) (v_32 : List Int) (v_33_A : Option Addr) (v_34_c : Nat) (v_35 : Int) (v_36 : Bool), Js S0 w0 37 ((ns 5 [.slice v_29_A v_28.length v_30_c, I v_31, .slice v_33_A v_32.length v_34_c, I v_35, B v_36]) ++ K) ([.own 45 1 (.slice v_29_A v_28.length v_30_c) v_28.length (v_28.flatMap KSintL.cells), .dat (Each KSintL.ok v_28), .dat (RowC v_33_A v_34_c c_i64 tr v_32)] ++ se E [1]) (iter stp_37 n_ ((v_28.map KSintL.p), v_31, v_32, v_35, v_36) = some e_37) a w) F ?_ ?_
   ·exact on 45 1 (fm (Each KSintL.ok ([] : List KSintL)) e0 (fun _ _ S k e => ⟨([] : List KSintL), none, 0, 0, v_2, v_2_A, v_2_c, v_3, v_4, S, k.wk, e.sel [1, 0, 2, 3], hL⟩))
   ·clear hL; rintro n_37 a w ⟨v_28, v_29_A, v_30_c, v_31, v_32, v_33_A, v_34_c, v_35, v_36, hJ⟩; refine hJ.go fun hL => ?_
    clear hJ; obtain ⟨m_37, o_37, rfl, hG, hO1_37, hO2_37⟩ := iter_step hL; clear hL; rw [hs_37] at hG
    try simp only [List.length_map, KLeaderL.n_Open] at hG
    refine sq (sq (rg (ra [] f0 [(19, B v_36)] (tN ?_)))); rcases ic hG with ⟨h_38, hG⟩ | ⟨h_38, hG⟩
    ·refine sb 19 (bt h_38) (ct (kS (tN (sq (bk ?_))))); obtain ⟨v_40o, hy_40, hG⟩ := bs hG; refine rg (rn 2 [] f0 [(28, .slice v_29_A v_28.length v_30_c), (29, .slice v_33_A v_32.length v_34_c)] (l1 (nw 30 (vs 1) [.slice v_33_A v_32.length v_34_c] 45 fun g_39 => l1 (apn (p := KSintL.p) (ok := KSintL.ok) 1 31 v_29_A v_30_c v_28 ([(⟨v_33_A, v_34_c, v_32⟩ : KSintL)] : List KSintL) inf71 (bA (f := KSintL.cells) (ok := tr) (l := ([(⟨v_33_A, v_34_c, v_32⟩ : KSintL)] : List KSintL)) g_39 0 et.a) (gd' (Each KSintL.ok v_28) 2) (ec (((gd' (RowC v_33_A v_34_c c_i64 tr v_32) 3)).m fun _ _ h => ⟨h⟩) e0) hy_40 KSintL.one fun v_40 v_40_A v_40_c he_40 _ => ?_)))); subst he_40
     try simp only [List.length_map, KLeaderL.n_Open] at hG
     refine ra [] f0 [(5, .slice v_40_A v_40.length v_40_c), (6, I (IntKind.i64.wrap (v_31 + v_35)))] (hN (tN ?_)); obtain ⟨v_41, hy_41, hG⟩ := bs hG; obtain ⟨v_42o, v_43, v_44, hy_42, hG⟩ := b3 hG; refine rg (fp true false inf22 (gd' (RowC p_0_A p_0_c c_u8 tr p_0) 5) hy_41 fun v_41_A v_41_c hp_41 => rn 3 [(2, 0, 0, 0)] (fc (hp_41 .i64 .i64) f0) [(23, .slice v_41_A v_41.length v_41_c)] (l1 (cn 24 (z_codec_first F v_41_A v_41_c v_41 _ hy_42) hT (fun _ => (mr tr_mv m0)) ⟨gi 0, trivial⟩ ?_))); rintro ⟨v_42_A, v_42_c, v_42⟩ hq_42; obtain rfl : v_42 = v_42o := hq_42.symm
     try simp only [List.length_map, KLeaderL.n_Open] at hG
     exact ra [] f0 (ns 7 [.slice v_42_A v_42.length v_42_c, I v_43, B v_44]) (tN (fun a w S hK hE => ⟨m_37, ⟨v_40, v_40_A, v_40_c, IntKind.i64.wrap (v_31 + v_35), v_42, v_42_A, v_42_c, v_43, v_44, S, hK.wk, hE.sel [4, 2, 0, 7], hO1_37 _ (oi hG).symm⟩, Nat.lt_succ_self _⟩))
    ·refine sb 19 (bf h_38) (cf (kX (tX (tX ?_)))); have he_ := hO2_37 _ (oi hG).symm; subst he_; replace hG := hG_37
     try simp only [List.length_map, KLeaderL.n_Open] at hG
     exact hH (tN (fun _ _ S k e => ⟨v_28, v_29_A, v_30_c, v_31, S, k.wk, e.sel [0, 1], oi hG⟩))
  ·rintro a w ⟨v_50, v_51_A, v_52_c, v_53, hJ⟩; refine hJ.go fun ho_ => ?_
   clear hJ; subst ho_; replace hG := hG_49
   try simp only [List.length_map, KLeaderL.n_Open] at hG
   refine sq (rg (ra [] f0 (ns 2 [.slice v_51_A v_50.length v_52_c, I v_53, I 0]) (tN (kR ?_)))); obtain rfl := oi hG; exact so (A := v_51_A) (c := v_52_c) 0 KSintL.cells KSintL.ok v_50 KSintL.mv (gd' (Each KSintL.ok v_50) 1) (rtn [] ⟨v_51_A, v_52_c, v_50⟩ rfl ⟨gi 0, trivial⟩)
def G_versions_order (F : Nat) (p_0 : KVersion) (p_1 : KVersion) : Option (Int) :=
 Option.bind (G_cmp_Compare_int F p_0.Key p_1.Key) (fun v_3 =>
 Option.bind (G_cmp_Compare_int F p_0.Ts p_1.Ts) (fun v_4 =>
 Option.bind (G_cmp_Or_int F ([v_3, v_4] : List Int)) (fun v_6 =>
 some v_6)))
set_option maxRecDepth 100000 in
set_option maxHeartbeats 16000000 in
theorem z_versions_order (F : Nat) (p_0 : KVersion) (p_1 : KVersion) (r : Int) (hG : G_versions_order F p_0 p_1 = some r) :
  Cf Try.prog 72 [.agg #[I p_0.Key, I p_0.Ts, I p_0.Value, B p_0.Gone], .agg #[I p_1.Key, I p_1.Ts, I p_1.Value, B p_1.Gone]] [] (I r) := by
 unfold G_versions_order at hG; refine fi Try.func72 rfl rfl m0 fun S0 w0 hT => sq (rg (l1 (nw 2 vp [I p_0.Key, I p_0.Ts, I p_0.Value, B p_0.Gone] 61 fun g_1 => l1 (nw 3 vp [I p_1.Key, I p_1.Ts, I p_1.Value, B p_1.Gone] 61 fun g_2 => ra [] f0 [] (tN (sq ?_))))))
 obtain ⟨v_3, hy_3, hG⟩ := bs hG; obtain ⟨v_4, hy_4, hG⟩ := bs hG; obtain ⟨v_6, hy_6, hG⟩ := bs hG; refine hb [0, 1] (ht [0, 1] [0, 1, 2, 3, 5, 6, 7, 8] [(1, 1, 1, 0), (1, 1, 0, 0), (1, 1, 1, 1), (1, 1, 0, 1)] f0 [(6, I p_0.Key), (8, I p_1.Key), (11, I p_0.Ts), (13, I p_1.Ts)] (ho [4] ⟨h1 (cl 9 (z_cmp_Compare_int F p_0.Key p_1.Key _ hy_3) hT trivial (hk [0, 1] (ho [9] ⟨h1 (cl 14 (z_cmp_Compare_int F p_0.Ts p_1.Ts _ hy_4) hT trivial (hk [0, 1] (ho [10] ⟨h1 (nw 15 (vs 2) [I v_3, I v_4] 3 fun g_5 => hk [1, 2] (ho [11] ⟨h1 (cl 16 (z_cmp_Or_int F (some ⟨g_5, 0, none⟩) 2 ([v_3, v_4] : List Int) _ hy_6) hT ⟨ba 0 et.a, trivial⟩ (hk [1, 2] (ht [1, 2] [12] [] f0 [(4, I v_6)] (he (tN (kR ?_)))))), trivial⟩)), trivial⟩))), trivial⟩))), trivial⟩)); obtain rfl := oi hG; exact rt []
def G_versions_wellFormed (F : Nat) (p_0 : KVersion) : Option (Bool) :=
 Option.bind (Option.bind (G_versions_isKey F p_0.Key) (fun v_2 =>
  ifB (v_2)
   (Option.bind (G_versions_isStamp F p_0.Ts) (fun v_4 =>
   ifB (v_4)
    (Option.bind (G_versions_within F p_0.Value 0 1000000) (fun v_6 =>
    ifB (v_6)
     (ifB (p_0.Gone)
      (some (p_0.Value == 0))
      (some true))
     (some false)))
    (some false)))
   (some false)) : Option (Bool)) (fun (v_10 : Bool) =>
  some v_10)
set_option maxRecDepth 100000 in
set_option maxHeartbeats 16000000 in
theorem z_versions_wellFormed (F : Nat) (p_0 : KVersion) (r : Bool) (hG : G_versions_wellFormed F p_0 = some r) :
  Cf Try.prog 68 [.agg #[I p_0.Key, I p_0.Ts, I p_0.Value, B p_0.Gone]] [] (B r) := by
 unfold G_versions_wellFormed at hG; refine fi Try.func68 rfl rfl m0 fun S0 w0 hT => sq (rg (l1 (nw 1 vp [I p_0.Key, I p_0.Ts, I p_0.Value, B p_0.Gone] 61 fun g_1 => ra [] f0 [] (tN ?_))))
 obtain ⟨o_9, hG, hG_9⟩ := bs hG; refine jn (fun K E a w => ∃ v_10 : Bool, Js S0 w0 26 ([(2, B v_10)] ++ K) (se E []) (v_10 = o_9) a w) ?_ ?_
 ·obtain ⟨v_2, hy_2, hG⟩ := bs hG; rcases ic hG with ⟨h_3, hG⟩ | ⟨h_3, hG⟩
  ·obtain ⟨v_4, hy_4, hG⟩ := bs hG; rcases ic hG with ⟨h_5, hG⟩ | ⟨h_5, hG⟩
   ·obtain ⟨v_6, hy_6, hG⟩ := bs hG; rcases ic hG with ⟨h_7, hG⟩ | ⟨h_7, hG⟩
    ·rcases ic hG with ⟨h_8, hG⟩ | ⟨h_8, hG⟩
     ·exact rg (rn 2 [(1, 1, 0, 0)] f0 [(4, I p_0.Key)] (l1 (cl 5 (z_versions_isKey F p_0.Key _ hy_2) hT trivial (rn 1 [] f0 [(6, B v_2)] (sb 6 (bt h_3) (rn 2 [(1, 1, 0, 1)] f0 [(8, I p_0.Ts)] (l1 (cl 9 (z_versions_isStamp F p_0.Ts _ hy_4) hT trivial (rn 2 [] f0 [(11, B v_4)] (sb 11 (bt h_5) (rn 2 [(1, 1, 0, 2)] f0 [(13, I p_0.Value)] (l1 (cl 14 (z_versions_within F p_0.Value 0 1000000 _ hy_6) hT trivial (rn 2 [] f0 [(16, B v_6)] (sb 16 (bt h_7) (rn 4 [(1, 1, 0, 3)] f0 [(20, B (!p_0.Gone))] (sb 20 (nt h_8) (ra [(1, 1, 0, 2)] f0 [(2, B (p_0.Value == 0))] (tN (fun _ _ S k e => ⟨(p_0.Value == 0), S, k.wk, e.sel [], oi hG⟩))))))))))))))))))))
     ·exact rg (rn 2 [(1, 1, 0, 0)] f0 [(4, I p_0.Key)] (l1 (cl 5 (z_versions_isKey F p_0.Key _ hy_2) hT trivial (rn 1 [] f0 [(6, B v_2)] (sb 6 (bt h_3) (rn 2 [(1, 1, 0, 1)] f0 [(8, I p_0.Ts)] (l1 (cl 9 (z_versions_isStamp F p_0.Ts _ hy_4) hT trivial (rn 2 [] f0 [(11, B v_4)] (sb 11 (bt h_5) (rn 2 [(1, 1, 0, 2)] f0 [(13, I p_0.Value)] (l1 (cl 14 (z_versions_within F p_0.Value 0 1000000 _ hy_6) hT trivial (rn 2 [] f0 [(16, B v_6)] (sb 16 (bt h_7) (rn 4 [(1, 1, 0, 3)] f0 [(20, B (!p_0.Gone))] (sb 20 (nf h_8) (ra [] f0 [(2, B true)] (tN (fun _ _ S k e => ⟨true, S, k.wk, e.sel [], oi hG⟩))))))))))))))))))))
    ·exact rg (rn 2 [(1, 1, 0, 0)] f0 [(4, I p_0.Key)] (l1 (cl 5 (z_versions_isKey F p_0.Key _ hy_2) hT trivial (rn 1 [] f0 [(6, B v_2)] (sb 6 (bt h_3) (rn 2 [(1, 1, 0, 1)] f0 [(8, I p_0.Ts)] (l1 (cl 9 (z_versions_isStamp F p_0.Ts _ hy_4) hT trivial (rn 2 [] f0 [(11, B v_4)] (sb 11 (bt h_5) (rn 2 [(1, 1, 0, 2)] f0 [(13, I p_0.Value)] (l1 (cl 14 (z_versions_within F p_0.Value 0 1000000 _ hy_6) hT trivial (rn 2 [] f0 [(16, B v_6)] (sb 16 (bf h_7) (ra [] f0 [(2, B false)] (tN (fun _ _ S k e => ⟨false, S, k.wk, e.sel [], oi hG⟩))))))))))))))))))
   ·exact rg (rn 2 [(1, 1, 0, 0)] f0 [(4, I p_0.Key)] (l1 (cl 5 (z_versions_isKey F p_0.Key _ hy_2) hT trivial (rn 1 [] f0 [(6, B v_2)] (sb 6 (bt h_3) (rn 2 [(1, 1, 0, 1)] f0 [(8, I p_0.Ts)] (l1 (cl 9 (z_versions_isStamp F p_0.Ts _ hy_4) hT trivial (rn 2 [] f0 [(11, B v_4)] (sb 11 (bf h_5) (ra [] f0 [(2, B false)] (tN (fun _ _ S k e => ⟨false, S, k.wk, e.sel [], oi hG⟩)))))))))))))
  ·exact rg (rn 2 [(1, 1, 0, 0)] f0 [(4, I p_0.Key)] (l1 (cl 5 (z_versions_isKey F p_0.Key _ hy_2) hT trivial (rn 1 [] f0 [(6, B v_2)] (sb 6 (bf h_3) (ra [] f0 [(2, B false)] (tN (fun _ _ S k e => ⟨false, S, k.wk, e.sel [], oi hG⟩))))))))
 ·rintro a w ⟨v_10, hJ⟩; refine hJ.go fun ho_ => ?_
  clear hJ; subst ho_; replace hG := hG_9; refine kR ?_; obtain rfl := oi hG; exact rt []
def G_regulatorref34_Same (F : Nat) (p_0 : KLeader) (p_1 : KLeader) : Option (Bool) :=
  Option.bind (ifB ((p_0.Last == p_1.Last))
      (Option.bind (G_regulatorref33_Same F p_0.Store p_1.Store) (fun v_4 =>
      ifB (v_4)
        (Option.bind (G_regulatorref34_SameTxs F p_0.Open p_1.Open) (fun v_6 =>
        some v_6))
        (some false)))
      (some false) : Option (Bool)) (fun (v_8 : Bool) => 
    some v_8)
set_option maxRecDepth 100000 in
set_option maxHeartbeats 16000000 in
theorem z_regulatorref34_Same (F : Nat) (p_0 : KLeaderL) (p_1 : KLeaderL) (r : Bool) (hG : G_regulatorref34_Same F p_0.p p_1.p = some r) :
  Cf Try.prog 19 [.agg #[I p_0.Last, .slice p_0.Store_A p_0.Store.length p_0.Store_c, .slice p_0.Open_A p_0.Open.length p_0.Open_c], .agg #[I p_1.Last, .slice p_1.Store_A p_1.Store.length p_1.Store_c, .slice p_1.Open_A p_1.Open.length p_1.Open_c]] [KLeaderL.ok p_0, KLeaderL.ok p_1] (B r) := by
 unfold G_regulatorref34_Same at hG
 try simp only [List.length_map, KLeaderL.n_Open] at hG
 refine fi Try.func19 rfl rfl (mc KLeaderL.mv (mc KLeaderL.mv m0)) fun S0 w0 hT => sq (rg (l1 (nw 2 vp [I p_0.Last, .slice p_0.Store_A p_0.Store.length p_0.Store_c, .slice p_0.Open_A p_0.Open.length p_0.Open_c] 40 fun g_1 => l1 (nw 3 vp [I p_1.Last, .slice p_1.Store_A p_1.Store.length p_1.Store_c, .slice p_1.Open_A p_1.Open.length p_1.Open_c] 40 fun g_2 => ra [] f0 [] (tN ?_)))))
 obtain ⟨o_7, hG, hG_7⟩ := bs hG; refine jn (fun K E a w => ∃ v_8 : Bool, Js S0 w0 24 ([(4, B v_8)] ++ K) (se E []) (v_8 = o_7) a w) ?_ ?_
 ·rcases ic hG with ⟨h_3, hG⟩ | ⟨h_3, hG⟩
  ·obtain ⟨v_4, hy_4, hG⟩ := bs hG; rcases ic hG with ⟨h_5, hG⟩ | ⟨h_5, hG⟩
   ·obtain ⟨v_6, hy_6, hG⟩ := bs hG; exact rg (rn 6 [(1, 1, 1, 0), (1, 1, 0, 0)] f0 [(10, B (p_0.Last == p_1.Last))] (sb 10 (bt h_3) (rn 4 [(1, 1, 1, 1), (1, 1, 0, 1)] f0 [(12, .slice p_0.Store_A p_0.Store.length p_0.Store_c), (14, .slice p_1.Store_A p_1.Store.length p_1.Store_c)] (l1 (cl 15 (z_regulatorref33_Same F p_0.Store_A p_0.Store_c p_0.Store p_1.Store_A p_1.Store_c p_1.Store _ hy_4) hT ⟨(gm (KLeaderL.ok p_0) 2 fun _ _ h => h.f_Store).a, (gm (KLeaderL.ok p_1) 3 fun _ _ h => h.f_Store).a, trivial⟩ (rn 2 [] f0 [(17, B v_4)] (sb 17 (bt h_5) (rn 4 [(1, 1, 1, 2), (1, 1, 0, 2)] f0 [(19, .slice p_0.Open_A p_0.Open.length p_0.Open_c), (21, .slice p_1.Open_A p_1.Open.length p_1.Open_c)] (l1 (cl 22 (z_regulatorref34_SameTxs F p_0.Open_A p_0.Open_c p_0.Open p_1.Open_A p_1.Open_c p_1.Open _ hy_6) hT ⟨(gm (KLeaderL.ok p_0) 2 fun _ _ h => h.f_Open).a, (gm (KLeaderL.ok p_1) 3 fun _ _ h => h.f_Open).a, trivial⟩ (ra [] f0 [(4, B v_6)] (tN (fun _ _ S k e => ⟨v_6, S, k.wk, e.sel [], oi hG⟩)))))))))))))
   ·exact rg (rn 6 [(1, 1, 1, 0), (1, 1, 0, 0)] f0 [(10, B (p_0.Last == p_1.Last))] (sb 10 (bt h_3) (rn 4 [(1, 1, 1, 1), (1, 1, 0, 1)] f0 [(12, .slice p_0.Store_A p_0.Store.length p_0.Store_c), (14, .slice p_1.Store_A p_1.Store.length p_1.Store_c)] (l1 (cl 15 (z_regulatorref33_Same F p_0.Store_A p_0.Store_c p_0.Store p_1.Store_A p_1.Store_c p_1.Store _ hy_4) hT ⟨(gm (KLeaderL.ok p_0) 2 fun _ _ h => h.f_Store).a, (gm (KLeaderL.ok p_1) 3 fun _ _ h => h.f_Store).a, trivial⟩ (rn 2 [] f0 [(17, B v_4)] (sb 17 (bf h_5) (ra [] f0 [(4, B false)] (tN (fun _ _ S k e => ⟨false, S, k.wk, e.sel [], oi hG⟩))))))))))
  ·exact rg (rn 6 [(1, 1, 1, 0), (1, 1, 0, 0)] f0 [(10, B (p_0.Last == p_1.Last))] (sb 10 (bf h_3) (ra [] f0 [(4, B false)] (tN (fun _ _ S k e => ⟨false, S, k.wk, e.sel [], oi hG⟩)))))
 ·rintro a w ⟨v_8, hJ⟩; refine hJ.go fun ho_ => ?_
  clear hJ; subst ho_; replace hG := hG_7; refine kR ?_; obtain rfl := oi hG; exact rt []
def G_regulatorref34_Tx (F : Nat) (p_0 : KTx) : Option (Bool) :=
  Option.bind (G_regulatorref34_reads F p_0.Reads) (fun v_2 =>
  Option.bind (G_regulatorref34_writes F p_0.Writes) (fun v_3 =>
  Option.bind (ifB (v_2)
      (ifB (v_3)
        (ifB (decide (p_0.ID ≥ 1))
          (ifB (decide (p_0.ID ≤ 1000000))
            (ifB (decide (p_0.Ts ≥ 0))
              (some (decide (p_0.Ts ≤ 3000000000000000)))
              (some false))
            (some false))
          (some false))
        (some false))
      (some false) : Option (Bool)) (fun (v_10 : Bool) => 
    some v_10)))
set_option maxRecDepth 100000 in
set_option maxHeartbeats 16000000 in
theorem z_regulatorref34_Tx (F : Nat) (p_0 : KTxL) (r : Bool) (hG : G_regulatorref34_Tx F p_0.p = some r) :
  Cf Try.prog 25 [.agg #[I p_0.ID, I p_0.Ts, .slice p_0.Reads_A p_0.Reads.length p_0.Reads_c, .slice p_0.Writes_A p_0.Writes.length p_0.Writes_c]] [KTxL.ok p_0] (B r) := by
 unfold G_regulatorref34_Tx at hG
 try simp only [List.length_map, KLeaderL.n_Open] at hG
 refine fi Try.func25 rfl rfl (mc KTxL.mv m0) fun S0 w0 hT => sq (rg (l1 (nw 1 vp [I p_0.ID, I p_0.Ts, .slice p_0.Reads_A p_0.Reads.length p_0.Reads_c, .slice p_0.Writes_A p_0.Writes.length p_0.Writes_c] 26 fun g_1 => ra [] f0 [] (tN (sq ?_)))))
 obtain ⟨v_2, hy_2, hG⟩ := bs hG; refine rg (rn 2 [(1, 1, 0, 2)] f0 [(6, .slice p_0.Reads_A p_0.Reads.length p_0.Reads_c)] (l1 (cl 7 (z_regulatorref34_reads F p_0.Reads_A p_0.Reads_c p_0.Reads _ hy_2) hT ⟨(gm (KTxL.ok p_0) 1 fun _ _ h => h.f_Reads).a, trivial⟩ (ra [] f0 [(3, B v_2)] (tN (sq ?_)))))); obtain ⟨v_3, hy_3, hG⟩ := bs hG; refine rg (rn 2 [(1, 1, 0, 3)] f0 [(9, .slice p_0.Writes_A p_0.Writes.length p_0.Writes_c)] (l1 (cl 10 (z_regulatorref34_writes F p_0.Writes_A p_0.Writes_c p_0.Writes _ hy_3) hT ⟨(gm (KTxL.ok p_0) 1 fun _ _ h => h.f_Writes).a, trivial⟩ (ra [] f0 [(4, B v_3)] (tN ?_))))); obtain ⟨o_9, hG, hG_9⟩ := bs hG; refine jn (fun K E a w => ∃ v_10 : Bool, Js S0 w0 35 ([(2, B v_10)] ++ K) (se E []) (v_10 = o_9) a w) ?_ ?_
 ·rcases ic hG with ⟨h_4, hG⟩ | ⟨h_4, hG⟩
  ·rcases ic hG with ⟨h_5, hG⟩ | ⟨h_5, hG⟩
   ·rcases ic hG with ⟨h_6, hG⟩ | ⟨h_6, hG⟩
    ·rcases ic hG with ⟨h_7, hG⟩ | ⟨h_7, hG⟩
     ·rcases ic hG with ⟨h_8, hG⟩ | ⟨h_8, hG⟩
      ·exact rg (rn 2 [] f0 [(12, B v_2)] (sb 12 (bt h_4) (rn 3 [] f0 [(15, B v_3)] (sb 15 (bt h_5) (rn 5 [(1, 1, 0, 0)] f0 [(20, B (decide (p_0.ID ≥ 1)))] (sb 20 (bt h_6) (rn 5 [(1, 1, 0, 0)] f0 [(25, B (decide (p_0.ID ≤ 1000000)))] (sb 25 (bt h_7) (rn 5 [(1, 1, 0, 1)] f0 [(30, B (decide (p_0.Ts ≥ 0)))] (sb 30 (bt h_8) (ra [(1, 1, 0, 1)] f0 [(2, B (decide (p_0.Ts ≤ 3000000000000000)))] (tN (fun _ _ S k e => ⟨decide (p_0.Ts ≤ 3000000000000000), S, k.wk, e.sel [], oi hG⟩)))))))))))))
      ·exact rg (rn 2 [] f0 [(12, B v_2)] (sb 12 (bt h_4) (rn 3 [] f0 [(15, B v_3)] (sb 15 (bt h_5) (rn 5 [(1, 1, 0, 0)] f0 [(20, B (decide (p_0.ID ≥ 1)))] (sb 20 (bt h_6) (rn 5 [(1, 1, 0, 0)] f0 [(25, B (decide (p_0.ID ≤ 1000000)))] (sb 25 (bt h_7) (rn 5 [(1, 1, 0, 1)] f0 [(30, B (decide (p_0.Ts ≥ 0)))] (sb 30 (bf h_8) (ra [] f0 [(2, B false)] (tN (fun _ _ S k e => ⟨false, S, k.wk, e.sel [], oi hG⟩)))))))))))))
     ·exact rg (rn 2 [] f0 [(12, B v_2)] (sb 12 (bt h_4) (rn 3 [] f0 [(15, B v_3)] (sb 15 (bt h_5) (rn 5 [(1, 1, 0, 0)] f0 [(20, B (decide (p_0.ID ≥ 1)))] (sb 20 (bt h_6) (rn 5 [(1, 1, 0, 0)] f0 [(25, B (decide (p_0.ID ≤ 1000000)))] (sb 25 (bf h_7) (ra [] f0 [(2, B false)] (tN (fun _ _ S k e => ⟨false, S, k.wk, e.sel [], oi hG⟩)))))))))))
    ·exact rg (rn 2 [] f0 [(12, B v_2)] (sb 12 (bt h_4) (rn 3 [] f0 [(15, B v_3)] (sb 15 (bt h_5) (rn 5 [(1, 1, 0, 0)] f0 [(20, B (decide (p_0.ID ≥ 1)))] (sb 20 (bf h_6) (ra [] f0 [(2, B false)] (tN (fun _ _ S k e => ⟨false, S, k.wk, e.sel [], oi hG⟩)))))))))
   ·exact rg (rn 2 [] f0 [(12, B v_2)] (sb 12 (bt h_4) (rn 3 [] f0 [(15, B v_3)] (sb 15 (bf h_5) (ra [] f0 [(2, B false)] (tN (fun _ _ S k e => ⟨false, S, k.wk, e.sel [], oi hG⟩)))))))
  ·exact rg (rn 2 [] f0 [(12, B v_2)] (sb 12 (bf h_4) (ra [] f0 [(2, B false)] (tN (fun _ _ S k e => ⟨false, S, k.wk, e.sel [], oi hG⟩)))))
 ·rintro a w ⟨v_10, hJ⟩; refine hJ.go fun ho_ => ?_
  clear hJ; subst ho_; replace hG := hG_9; refine kR ?_; obtain rfl := oi hG; exact rt []
end Go.Proofs.Ytlfkgbideknkhaa
namespace Go.Proofs.Ytlfkgbideknkhaa
open Go.RowKit Go.Maps
def G_versions_Valid (F : Nat) (p_0 : List KVersion) : Option (Bool) :=
  Option.bind (Option.bind (iter (σ := Int) (ρ := Unit ⊕ Unit) (fun (v_27 : Int) => 
        (ifB (decide (v_27 < ((p_0.length : Nat) : Int)))
          (Option.bind (ixI p_0 v_27) (fun v_30 =>
          Option.bind (Option.bind (G_versions_wellFormed F v_30) (fun v_34 =>
            ifB (v_34)
              (ifB (decide (v_27 > 0))
                (Option.bind (ixI p_0 (IntKind.i64.wrap (v_27 - 1))) (fun v_37 =>
                Option.bind (G_versions_order F v_37 v_30) (fun v_40 =>
                some (decide (v_40 ≥ 0)))))
                (some false))
              (some true)) : Option (Bool)) (fun (v_42 : Bool) => 
            ifB (v_42)
              (some (.inr (.inr ())))
              (some (.inl (IntKind.i64.wrap (v_27 + 1)))))))
          (some (.inr (.inl ()))) : Option (Int ⊕ (Unit ⊕ Unit)))) F 0) (Sum.elim (fun (_ : Unit) => 
      some (.inl ())) (fun (_ : Unit) => 
      some (.inr ()))) : Option (Unit ⊕ Unit)) (Sum.elim (fun (_ : Unit) => 
    some (decide (((p_0.length : Nat) : Int) ≤ 4000))) (fun (_ : Unit) => 
    some false))
set_option maxRecDepth 100000 in
set_option maxHeartbeats 16000000 in
theorem z_versions_Valid (F : Nat) (p_0_A : Option Addr) (p_0_c : Nat) (p_0 : List KVersion) (r : Bool) (hG : G_versions_Valid F p_0 = some r) :
  Cf Try.prog 40 [.slice p_0_A p_0.length p_0_c] [RowC p_0_A p_0_c KVersion.cells tr p_0] (B r) := by
 unfold G_versions_Valid at hG
 try simp only [List.length_map, KLeaderL.n_Open] at hG
 refine fi Try.func40 rfl rfl (mr tr_mv m0) fun S0 w0 hT => sq (rg (ra [] f0 [] (tN ?_)))
 obtain ⟨o_44, hG, hG_44⟩ := bs hG; refine jn (fun K E a w => Js S0 w0 33 (K) (se E [0]) (.inl () = o_44) a w) ?_ ?_
 ·refine sq (rg (ra [] f0 (ns 5 [.slice p_0_A p_0.length p_0_c, I ((p_0.length : Nat) : Int), I 0]) (tN (bk ?_)))); obtain ⟨e_28, hL, hG_28⟩ := bs hG; clear hG; obtain ⟨stp_28, hs_28, hL⟩ := iter_gen hL; refine lp (fun K E n_ a w => ∃ v_27 : Int, Js S0 w0 33 ([(7, I v_27)] ++ K) (se E [0]) (iter stp_28 n_ v_27 = some e_28) a w) F ?_ ?_
  ·exact fun _ _ S k e => ⟨0, S, k.wk, e.sel [0], hL⟩
  ·clear hL; rintro n_28 a w ⟨v_27, hJ⟩; refine hJ.go fun hL => ?_
   clear hJ; obtain ⟨m_28, o_28, rfl, hG, hO1_28, hO2_28⟩ := iter_step hL; clear hL; rw [hs_28] at hG; refine sq (rg (ra [] f0 [(8, B (decide (v_27 < ((p_0.length : Nat) : Int))))] (tN (sq ?_)))); rcases ic hG with ⟨h_29, hG⟩ | ⟨h_29, hG⟩
   ·try simp only [List.length_map, KLeaderL.n_Open] at h_29
    refine sb 8 (bt h_29) (ct (kS (tN (sq (bk (sq ?_)))))); obtain ⟨v_30, hy_30, hG⟩ := bs hG; refine rg (fx inf38 (gd' (RowC p_0_A p_0_c KVersion.cells tr p_0) 0) hy_30 fun b_31 o_32 hi_30 => rn 3 [(1, 0, 0, 0), (0, 4, 0, 0)] (fc (hi_30 .i64) f0) [(9, I v_27), (11, .agg #[I v_30.Key, I v_30.Ts, I v_30.Value, B v_30.Gone])] (l1 (nw 4 vp [I 0, I 0, I 0, B false] 61 fun g_33 => rn 1 [] f0 [(3, I v_27)] (l1 (sr 0 g_33 (ns 0 [I v_30.Key, I v_30.Ts, I v_30.Value, B v_30.Gone]) (nl (tN ?_))))))); obtain ⟨o_41, hG, hG_41⟩ := bs hG; refine jn (fun K E a w => ∃ v_42 : Bool, Js S0 w0 33 ([(28, B v_42)] ++ K) (se E [2]) (v_42 = o_41) a w) ?_ ?_
    ·obtain ⟨v_34, hy_34, hG⟩ := bs hG; rcases ic hG with ⟨h_35, hG⟩ | ⟨h_35, hG⟩
     ·rcases ic hG with ⟨h_36, hG⟩ | ⟨h_36, hG⟩
      ·obtain ⟨v_37, hy_37, hG⟩ := bs hG; obtain ⟨v_40, hy_40, hG⟩ := bs hG; exact qb (qn 1 [(0, 4, 0, 0)] f0 [(12, .agg #[I v_30.Key, I v_30.Ts, I v_30.Value, B v_30.Gone])] (qc 13 (z_versions_wellFormed F v_30 _ hy_34) hT trivial (qn 2 [] f0 [(15, B (!v_34))] (sb 15 (nt h_35) (qn 3 [] f0 [(18, B (decide (v_27 > 0)))] (sb 18 (bt h_36) (fx inf38 (gd' (RowC p_0_A p_0_c KVersion.cells tr p_0) 2) hy_37 fun b_38 o_39 hi_37 => qn 6 [(3, 0, 0, 0), (0, 4, 0, 0), (0, 4, 1, 0)] (fc (hi_37 .i64) f0) [(23, .agg #[I v_37.Key, I v_37.Ts, I v_37.Value, B v_37.Gone]), (24, .agg #[I v_30.Key, I v_30.Ts, I v_30.Value, B v_30.Gone])] (qc 25 (z_versions_order F v_37 v_30 _ hy_40) hT trivial (qa [] f0 [(28, B (decide (v_40 ≥ 0)))] (tN (fun _ _ S k e => ⟨decide (v_40 ≥ 0), S, k.wk, e.sel [3], oi hG⟩)))))))))))
      ·exact qb (qn 1 [(0, 4, 0, 0)] f0 [(12, .agg #[I v_30.Key, I v_30.Ts, I v_30.Value, B v_30.Gone])] (qc 13 (z_versions_wellFormed F v_30 _ hy_34) hT trivial (qn 2 [] f0 [(15, B (!v_34))] (sb 15 (nt h_35) (qn 3 [] f0 [(18, B (decide (v_27 > 0)))] (sb 18 (bf h_36) (qa [] f0 [(28, B false)] (tN (fun _ _ S k e => ⟨false, S, k.wk, e.sel [2], oi hG⟩)))))))))
     ·exact qb (qn 1 [(0, 4, 0, 0)] f0 [(12, .agg #[I v_30.Key, I v_30.Ts, I v_30.Value, B v_30.Gone])] (qc 13 (z_versions_wellFormed F v_30 _ hy_34) hT trivial (qn 2 [] f0 [(15, B (!v_34))] (sb 15 (nf h_35) (qa [] f0 [(28, B true)] (tN (fun _ _ S k e => ⟨true, S, k.wk, e.sel [2], oi hG⟩)))))))
    ·rintro a w ⟨v_42, hJ⟩; refine hJ.go fun ho_ => ?_
     clear hJ; subst ho_; replace hG := hG_41; rcases ic hG with ⟨h_43, hG⟩ | ⟨h_43, hG⟩
     ·refine sb 28 (bt h_43) (ct (sq (rg (ra [] f0 [(2, B false)] (tN (kR (hR (tR (tR ?_))))))))); have he_ := hO2_28 _ (oi hG).symm; subst he_; replace hG := hG_28; refine hR (tR ?_); obtain rfl := oi hG; replace hG := hG_44; obtain rfl := oi hG; exact rt []
     ·exact sb 28 (bf h_43) (cf (kS (hN (tN (rg (ra [] f0 [(7, I (IntKind.i64.wrap (v_27 + 1)))] (tN (fun a w S hK hE => ⟨m_28, ⟨IntKind.i64.wrap (v_27 + 1), S, hK.wk, hE.sel [0], hO1_28 _ (oi hG).symm⟩, Nat.lt_succ_self _⟩))))))))
   ·try simp only [List.length_map, KLeaderL.n_Open] at h_29
    refine sb 8 (bf h_29) (cf (kX (tX (tX ?_)))); have he_ := hO2_28 _ (oi hG).symm; subst he_; replace hG := hG_28; exact hH (tN (fun _ _ S k e => ⟨S, k.wk, e.sel [0], oi hG⟩))
 ·rintro a w hJ; refine hJ.go fun ho_ => ?_
  clear hJ; subst ho_; replace hG := el hG_44; refine sq (rg (ra [] f0 [(2, B (decide (((p_0.length : Nat) : Int) ≤ 4000)))] (tN (kR ?_)))); obtain rfl := oi hG; exact rt []
def G_versions_upTo_1 (F : Nat) (p_0 : KVersion) (p_1 : KVersion) : Option (Int) :=
 Option.bind (G_versions_order F p_0 p_1) (fun v_3 =>
 some v_3)
set_option maxRecDepth 100000 in
set_option maxHeartbeats 16000000 in
theorem z_versions_upTo_1 (F : Nat) (p_0 : KVersion) (p_1 : KVersion) (r : Int) (hG : G_versions_upTo_1 F p_0 p_1 = some r) :
  Cf Try.prog 94 [.agg #[I p_0.Key, I p_0.Ts, I p_0.Value, B p_0.Gone], .agg #[I p_1.Key, I p_1.Ts, I p_1.Value, B p_1.Gone]] [] (I r) := by
 unfold G_versions_upTo_1 at hG; refine fi Try.func94 rfl rfl m0 fun S0 w0 hT => sq (rg (l1 (nw 2 vp [I p_0.Key, I p_0.Ts, I p_0.Value, B p_0.Gone] 61 fun g_1 => l1 (nw 3 vp [I p_1.Key, I p_1.Ts, I p_1.Value, B p_1.Gone] 61 fun g_2 => ra [] f0 [] (tN (sq ?_))))))
 obtain ⟨v_3, hy_3, hG⟩ := bs hG; refine rg (rn 2 [(0, 4, 1, 0), (0, 4, 0, 0)] f0 [(5, .agg #[I p_0.Key, I p_0.Ts, I p_0.Value, B p_0.Gone]), (6, .agg #[I p_1.Key, I p_1.Ts, I p_1.Value, B p_1.Gone])] (l1 (cl 7 (z_versions_order F p_0 p_1 _ hy_3) hT trivial (ra [] f0 [(4, I v_3)] (tN (kR ?_)))))); obtain rfl := oi hG; exact rt []
end Go.Proofs.Ytlfkgbideknkhaa
namespace Go.Proofs.Ytlfkgbideknkhaa
open Go.RowKit Go.Maps
def G_commit_Valid (F : Nat) (p_0 : KLeader) : Option (Bool) :=
  Option.bind (Option.bind (G_versions_Valid F p_0.Store) (fun v_2 =>
    ifB (v_2)
      (Option.bind (G_commit_between F p_0.Last 0 3000000000000000) (fun v_4 =>
      ifB (v_4)
        (ifB (decide (((p_0.Open.length : Nat) : Int) > 2000))
          (some true)
          (Option.bind (G_commit_size F p_0) (fun v_7 =>
          some (decide (v_7 > 4000)))))
        (some true)))
      (some true)) : Option (Bool)) (fun (v_9 : Bool) => 
    ifB (v_9)
      (some false)
      (Option.bind (Option.bind (iter (σ := Int × Int) (ρ := Int) (un2 fun (v_23 : Int) (v_24 : Int) => 
            (ifB (decide (v_24 < ((p_0.Store.length : Nat) : Int)))
              (Option.bind (ixI p_0.Store v_24) (fun v_27 =>
              some (.inl ((max v_23 v_27.Ts), IntKind.i64.wrap (v_24 + 1)))))
              (some (.inr v_23)) : Option ((Int × Int) ⊕ Int))) F (0, 0)) (fun (v_31 : Int) => 
          some v_31) : Option (Int)) (fun (v_33 : Int) => 
        Option.bind (Option.bind (iter (σ := Int × Int) (ρ := Int ⊕ Unit) (un2 fun (v_56 : Int) (v_57 : Int) => 
              (ifB (decide (v_57 < ((p_0.Open.length : Nat) : Int)))
                (Option.bind (ixI p_0.Open v_57) (fun v_60 =>
                Option.bind (Option.bind (G_commit_work_formed F (⟨v_60⟩ : Kcommit_work)) (fun v_64 =>
                  ifB (v_64)
                    (some (decide (v_60.Ts ≤ v_56)))
                    (some true)) : Option (Bool)) (fun (v_67 : Bool) => 
                  ifB (v_67)
                    (some (.inr (.inr ())))
                    (some (.inl (v_60.Ts, IntKind.i64.wrap (v_57 + 1)))))))
                (some (.inr (.inl v_56))) : Option ((Int × Int) ⊕ (Int ⊕ Unit)))) F (v_33, 0)) (Sum.elim (fun (v_69 : Int) => 
            some (.inl v_69)) (fun (_ : Unit) => 
            some (.inr ()))) : Option (Int ⊕ Unit)) (Sum.elim (fun (v_71 : Int) => 
          some (decide (v_71 ≤ p_0.Last))) (fun (_ : Unit) => 
          some false)))))
set_option maxRecDepth 100000 in
set_option maxHeartbeats 16000000 in
theorem z_commit_Valid (F : Nat) (p_0 : KLeaderL) (r : Bool) (hG : G_commit_Valid F p_0.p = some r) :
  Cf Try.prog 22 [.agg #[I p_0.Last, .slice p_0.Store_A p_0.Store.length p_0.Store_c, .slice p_0.Open_A p_0.Open.length p_0.Open_c]] [KLeaderL.ok p_0] (B r) := by
 unfold G_commit_Valid at hG
 try simp only [List.length_map, KLeaderL.n_Open] at hG
 refine fi Try.func22 rfl rfl (mc KLeaderL.mv m0) fun S0 w0 hT => sq (rg (l1 (nw 1 vp [I p_0.Last, .slice p_0.Store_A p_0.Store.length p_0.Store_c, .slice p_0.Open_A p_0.Open.length p_0.Open_c] 40 fun g_1 => ra [] f0 [] (tN (sq ?_)))))
 obtain ⟨o_8, hG, hG_8⟩ := bs hG; refine jn (fun K E a w => ∃ v_9 : Bool, Js S0 w0 65 ([(28, B v_9)] ++ K) ([.dat (RowC p_0.Store_A p_0.Store_c KVersion.cells tr p_0.Store), .dat (RowC p_0.Open_A p_0.Open_c KTxL.cells KTxL.ok p_0.Open)] ++ se E [0]) (v_9 = o_8) a w) ?_ ?_
 ·obtain ⟨v_2, hy_2, hG⟩ := bs hG; rcases ic hG with ⟨h_3, hG⟩ | ⟨h_3, hG⟩
  ·obtain ⟨v_4, hy_4, hG⟩ := bs hG; rcases ic hG with ⟨h_5, hG⟩ | ⟨h_5, hG⟩
   ·rcases ic hG with ⟨h_6, hG⟩ | ⟨h_6, hG⟩
    ·refine rg (rn 2 [(1, 1, 0, 1)] f0 [(9, .slice p_0.Store_A p_0.Store.length p_0.Store_c)] (l1 (cl 10 (z_versions_Valid F p_0.Store_A p_0.Store_c p_0.Store _ hy_2) hT ⟨(gm (KLeaderL.ok p_0) 1 fun _ _ h => h.f_Store).a, trivial⟩ (rn 2 [] f0 [(12, B (!v_2))] (sb 12 (nt h_3) (rn 2 [(1, 1, 0, 0)] f0 [(14, I p_0.Last)] (l1 (cl 15 (z_commit_between F p_0.Last 0 3000000000000000 _ hy_4) hT trivial (rn 3 [] f0 [(18, B (!v_4))] (sb 18 (nt h_5) (rn 6 [(1, 1, 0, 2)] f0 [(24, B (decide (((p_0.Open.length : Nat) : Int) > 2000)))] ?_)))))))))))
     try simp only [List.length_map, KLeaderL.n_Open] at h_6
     exact sb 24 (bt h_6) (ra [] f0 [(28, B true)] (tN (fg (KLeaderL.ok p_0) 1 (fun _ _ h => h.f_Store) (fg (KLeaderL.ok p_0) 2 (fun _ _ h => h.f_Open) (fun _ _ S k e => ⟨true, S, k.wk, e.sel [1, 0, 2], oi hG⟩)))))
    ·obtain ⟨v_7, hy_7, hG⟩ := bs hG; refine rg (rn 2 [(1, 1, 0, 1)] f0 [(9, .slice p_0.Store_A p_0.Store.length p_0.Store_c)] (l1 (cl 10 (z_versions_Valid F p_0.Store_A p_0.Store_c p_0.Store _ hy_2) hT ⟨(gm (KLeaderL.ok p_0) 1 fun _ _ h => h.f_Store).a, trivial⟩ (rn 2 [] f0 [(12, B (!v_2))] (sb 12 (nt h_3) (rn 2 [(1, 1, 0, 0)] f0 [(14, I p_0.Last)] (l1 (cl 15 (z_commit_between F p_0.Last 0 3000000000000000 _ hy_4) hT trivial (rn 3 [] f0 [(18, B (!v_4))] (sb 18 (nt h_5) (rn 6 [(1, 1, 0, 2)] f0 [(24, B (decide (((p_0.Open.length : Nat) : Int) > 2000)))] ?_)))))))))))
     try simp only [List.length_map, KLeaderL.n_Open] at h_6
     exact sb 24 (bf h_6) (rn 1 [(0, 3, 0, 0)] f0 [(25, .agg #[I p_0.Last, .slice p_0.Store_A p_0.Store.length p_0.Store_c, .slice p_0.Open_A p_0.Open.length p_0.Open_c])] (l1 (cl 26 (z_commit_size F p_0 _ hy_7) hT ⟨(gi 1).a, trivial⟩ (ra [] f0 [(28, B (decide (v_7 > 4000)))] (tN (fg (KLeaderL.ok p_0) 1 (fun _ _ h => h.f_Store) (fg (KLeaderL.ok p_0) 2 (fun _ _ h => h.f_Open) (fun _ _ S k e => ⟨decide (v_7 > 4000), S, k.wk, e.sel [1, 0, 2], oi hG⟩))))))))
   ·exact rg (rn 2 [(1, 1, 0, 1)] f0 [(9, .slice p_0.Store_A p_0.Store.length p_0.Store_c)] (l1 (cl 10 (z_versions_Valid F p_0.Store_A p_0.Store_c p_0.Store _ hy_2) hT ⟨(gm (KLeaderL.ok p_0) 1 fun _ _ h => h.f_Store).a, trivial⟩ (rn 2 [] f0 [(12, B (!v_2))] (sb 12 (nt h_3) (rn 2 [(1, 1, 0, 0)] f0 [(14, I p_0.Last)] (l1 (cl 15 (z_commit_between F p_0.Last 0 3000000000000000 _ hy_4) hT trivial (rn 3 [] f0 [(18, B (!v_4))] (sb 18 (nf h_5) (ra [] f0 [(28, B true)] (tN (fg (KLeaderL.ok p_0) 1 (fun _ _ h => h.f_Store) (fg (KLeaderL.ok p_0) 2 (fun _ _ h => h.f_Open) (fun _ _ S k e => ⟨true, S, k.wk, e.sel [1, 0, 2], oi hG⟩)))))))))))))))
  ·exact rg (rn 2 [(1, 1, 0, 1)] f0 [(9, .slice p_0.Store_A p_0.Store.length p_0.Store_c)] (l1 (cl 10 (z_versions_Valid F p_0.Store_A p_0.Store_c p_0.Store _ hy_2) hT ⟨(gm (KLeaderL.ok p_0) 1 fun _ _ h => h.f_Store).a, trivial⟩ (rn 2 [] f0 [(12, B (!v_2))] (sb 12 (nf h_3) (ra [] f0 [(28, B true)] (tN (fg (KLeaderL.ok p_0) 1 (fun _ _ h => h.f_Store) (fg (KLeaderL.ok p_0) 2 (fun _ _ h => h.f_Open) (fun _ _ S k e => ⟨true, S, k.wk, e.sel [1, 0, 2], oi hG⟩))))))))))
 ·rintro a w ⟨v_9, hJ⟩; refine hJ.go fun ho_ => ?_
  clear hJ; subst ho_; replace hG := hG_8; rcases ic hG with ⟨h_10, hG⟩ | ⟨h_10, hG⟩
  ·refine sb 28 (bt h_10) (ct (sq (rg (ra [] f0 [(2, B false)] (tN (kR (tR ?_))))))); obtain rfl := oi hG; exact rt []
  ·refine sb 28 (bf h_10) (cf (kS (tN (sq (rg (ra [] f0 [(3, I 0)] (tN ?_))))))); obtain ⟨o_32, hG, hG_32⟩ := bs hG; refine jn (fun K E a w => ∃ v_33 : Int, Js S0 w0 65 ([(3, I v_33)] ++ K) (se E [0, 1, 2]) (v_33 = o_32) a w) ?_ ?_
   ·refine sq (rg (ra [(1, 1, 2, 1)] f0 (ns 30 [.slice p_0.Store_A p_0.Store.length p_0.Store_c, I ((p_0.Store.length : Nat) : Int), I 0]) (tN (bk ?_)))); obtain ⟨e_25, hL, hG_25⟩ := bs hG; clear hG; obtain ⟨stp_25, hs_25, hL⟩ := iter_gen hL; refine lp (fun K E n_ a w => ∃ v_23 v_24 : Int, Js S0 w0 65 ([(3, I v_23), (32, I v_24)] ++ K) (se E [0, 1, 2]) (iter stp_25 n_ (v_23, v_24) = some e_25) a w) F ?_ ?_
    ·exact fun _ _ S k e => ⟨0, 0, S, k.wk, e.sel [0, 1, 2], hL⟩
    ·clear hL; rintro n_25 a w ⟨v_23, v_24, hJ⟩; refine hJ.go fun hL => ?_
     clear hJ; obtain ⟨m_25, o_25, rfl, hG, hO1_25, hO2_25⟩ := iter_step hL; clear hL; rw [hs_25] at hG; refine sq (rg (ra [] f0 [(33, B (decide (v_24 < ((p_0.Store.length : Nat) : Int))))] (tN (sq ?_)))); rcases ic hG with ⟨h_26, hG⟩ | ⟨h_26, hG⟩
     ·try simp only [List.length_map, KLeaderL.n_Open] at h_26
      refine sb 33 (bt h_26) (ct (kS (tN (sq (bk (sq ?_)))))); obtain ⟨v_27, hy_27, hG⟩ := bs hG; exact rg (fx inf38 (gd' (RowC p_0.Store_A p_0.Store_c KVersion.cells tr p_0.Store) 0) hy_27 fun b_28 o_29 hi_27 => rn 2 [(0, 0, 0, 0), (0, 4, 0, 0)] (fc (hi_27 .i64) f0) [(35, .agg #[I v_27.Key, I v_27.Ts, I v_27.Value, B v_27.Gone])] (l1 (nw 5 vp [I 0, I 0, I 0, B false] 61 fun g_30 => l1 (sr 0 g_30 (ns 0 [I v_27.Key, I v_27.Ts, I v_27.Value, B v_27.Gone]) (nl (tN (rg (rn 4 [(2, 1, 0, 1)] f0 [(39, I (if v_27.Ts > v_23 then v_27.Ts else v_23))] (sb 39 (v := I (if v_27.Ts > v_23 then v_27.Ts else v_23)) (v' := I (max v_23 v_27.Ts)) (congrArg (Value.int .i64) (by omega)) (ra [] f0 [(3, I (max v_23 v_27.Ts))] (hN (tN (rg (ra [] f0 [(32, I (IntKind.i64.wrap (v_24 + 1)))] (tN (fun a w S hK hE => ⟨m_25, ⟨(max v_23 v_27.Ts), IntKind.i64.wrap (v_24 + 1), S, hK.wk, hE.sel [2, 3, 4], hO1_25 _ (oi hG).symm⟩, Nat.lt_succ_self _⟩))))))))))))))))
     ·try simp only [List.length_map, KLeaderL.n_Open] at h_26
      refine sb 33 (bf h_26) (cf (kX (tX (tX ?_)))); have he_ := hO2_25 _ (oi hG).symm; subst he_; replace hG := hG_25; exact hH (tN (fun _ _ S k e => ⟨v_23, S, k.wk, e.sel [0, 1, 2], oi hG⟩))
   ·rintro a w ⟨v_33, hJ⟩; refine hJ.go fun ho_ => ?_
    clear hJ; subst ho_; replace hG := hG_32; obtain ⟨o_70, hG, hG_70⟩ := bs hG; refine jn (fun K E a w => ∃ v_71 : Int, Js S0 w0 65 ([(3, I v_71)] ++ K) (se E [0, 1, 2]) (.inl v_71 = o_70) a w) ?_ ?_
    ·refine sq (rg (ra [(1, 1, 2, 2)] f0 (ns 42 [.slice p_0.Open_A p_0.Open.length p_0.Open_c, I ((p_0.Open.length : Nat) : Int), I 0]) (tN (bk ?_)))); obtain ⟨e_58, hL, hG_58⟩ := bs hG; clear hG; obtain ⟨stp_58, hs_58, hL⟩ := iter_gen hL; refine lp (fun K E n_ a w => ∃ v_56 v_57 : Int, Js S0 w0 65 ([(3, I v_56), (44, I v_57)] ++ K) (se E [0, 1, 2]) (iter stp_58 n_ (v_56, v_57) = some e_58) a w) F ?_ ?_
     ·exact fun _ _ S k e => ⟨v_33, 0, S, k.wk, e.sel [0, 1, 2], hL⟩
     ·clear hL; rintro n_58 a w ⟨v_56, v_57, hJ⟩; refine hJ.go fun hL => ?_
      clear hJ; obtain ⟨m_58, o_58, rfl, hG, hO1_58, hO2_58⟩ := iter_step hL; clear hL; rw [hs_58] at hG; refine sq (rg (ra [] f0 [(45, B (decide (v_57 < ((p_0.Open.length : Nat) : Int))))] (tN (sq ?_)))); rcases ic hG with ⟨h_59, hG⟩ | ⟨h_59, hG⟩
      ·try simp only [List.length_map, KLeaderL.n_Open] at h_59
       refine sb 45 (bt h_59) (ct (kS (tN (sq (bk (sq ?_)))))); obtain ⟨v_60o, hy_60, hG⟩ := bs hG; refine rg (fxn (p := KTxL.p) inf30 (gd' (RowC p_0.Open_A p_0.Open_c KTxL.cells KTxL.ok p_0.Open) 1) hy_60 fun v_60 b_61 o_62 he_60 hi_60 => ?_); subst he_60
       try simp only [List.length_map, KLeaderL.n_Open] at hG
       refine rn 2 [(0, 0, 0, 0), (0, 4, 0, 0)] (fc (hi_60 .i64) f0) [(47, .agg #[I v_60.ID, I v_60.Ts, .slice v_60.Reads_A v_60.Reads.length v_60.Reads_c, .slice v_60.Writes_A v_60.Writes.length v_60.Writes_c])] (l1 (nw 7 vp (KTxL.cells KTxL.z) 26 fun g_63 => l1 (sr 0 g_63 (ns 0 [I v_60.ID, I v_60.Ts, .slice v_60.Reads_A v_60.Reads.length v_60.Reads_c, .slice v_60.Writes_A v_60.Writes.length v_60.Writes_c]) (nl (tN (sq ?_)))))); obtain ⟨o_66, hG, hG_66⟩ := bs hG; refine jn (fun K E a w => ∃ v_67 : Bool, Js S0 w0 65 ([(57, B v_67)] ++ K) ([.dat (RowC v_60.Reads_A v_60.Reads_c KSeen.cells tr v_60.Reads), .dat (RowC v_60.Writes_A v_60.Writes_c KWrite.cells tr v_60.Writes)] ++ se E [0, 3, 4, 5]) (v_67 = o_66) a w) ?_ ?_
       ·obtain ⟨v_64, hy_64, hG⟩ := bs hG; rcases ic hG with ⟨h_65, hG⟩ | ⟨h_65, hG⟩
        ·exact rg (rn 2 [(0, 4, 0, 0)] f0 [(49, .agg #[I v_60.ID, I v_60.Ts, .slice v_60.Reads_A v_60.Reads.length v_60.Reads_c, .slice v_60.Writes_A v_60.Writes.length v_60.Writes_c])] (l1 (cl 50 (z_commit_work_formed F (⟨v_60⟩ : Kcommit_workL) _ hy_64) hT ⟨(((gm (KTxL.ok v_60) 2 fun _ _ h => h)).m fun _ _ h => ⟨h⟩).a, trivial⟩ (rn 2 [] f0 [(52, B (!v_64))] (sb 52 (nt h_65) (ra [(1, 1, 0, 1)] f0 [(57, B (decide (v_60.Ts ≤ v_56)))] (tN (fg (KTxL.ok v_60) 2 (fun _ _ h => h.f_Reads) (fg (KTxL.ok v_60) 3 (fun _ _ h => h.f_Writes) (fun _ _ S k e => ⟨decide (v_60.Ts ≤ v_56), S, k.wk, e.sel [1, 0, 2, 5, 6, 7], oi hG⟩))))))))))
        ·exact rg (rn 2 [(0, 4, 0, 0)] f0 [(49, .agg #[I v_60.ID, I v_60.Ts, .slice v_60.Reads_A v_60.Reads.length v_60.Reads_c, .slice v_60.Writes_A v_60.Writes.length v_60.Writes_c])] (l1 (cl 50 (z_commit_work_formed F (⟨v_60⟩ : Kcommit_workL) _ hy_64) hT ⟨(((gm (KTxL.ok v_60) 2 fun _ _ h => h)).m fun _ _ h => ⟨h⟩).a, trivial⟩ (rn 2 [] f0 [(52, B (!v_64))] (sb 52 (nf h_65) (ra [] f0 [(57, B true)] (tN (fg (KTxL.ok v_60) 2 (fun _ _ h => h.f_Reads) (fg (KTxL.ok v_60) 3 (fun _ _ h => h.f_Writes) (fun _ _ S k e => ⟨true, S, k.wk, e.sel [1, 0, 2, 5, 6, 7], oi hG⟩))))))))))
       ·rintro a w ⟨v_67, hJ⟩; refine hJ.go fun ho_ => ?_
        clear hJ; subst ho_; replace hG := hG_66; rcases ic hG with ⟨h_68, hG⟩ | ⟨h_68, hG⟩
        ·refine sb 57 (bt h_68) (ct (sq (rg (ra [] f0 [(2, B false)] (tN (kR (tR (hR (tR (tR ?_)))))))))); have he_ := hO2_58 _ (oi hG).symm; subst he_; replace hG := hG_58; refine hR (tR ?_); obtain rfl := oi hG; replace hG := hG_70; obtain rfl := oi hG; exact rt []
        ·exact sb 57 (bf h_68) (cf (kS (tN (rg (ra [(1, 1, 2, 1)] f0 [(3, I v_60.Ts)] (hN (tN (rg (ra [] f0 [(44, I (IntKind.i64.wrap (v_57 + 1)))] (tN (fun a w S hK hE => ⟨m_58, ⟨v_60.Ts, IntKind.i64.wrap (v_57 + 1), S, hK.wk, hE.sel [3, 4, 5], hO1_58 _ (oi hG).symm⟩, Nat.lt_succ_self _⟩)))))))))))
      ·try simp only [List.length_map, KLeaderL.n_Open] at h_59
       refine sb 45 (bf h_59) (cf (kX (tX (tX ?_)))); have he_ := hO2_58 _ (oi hG).symm; subst he_; replace hG := hG_58; exact hH (tN (fun _ _ S k e => ⟨v_56, S, k.wk, e.sel [0, 1, 2], oi hG⟩))
    ·rintro a w ⟨v_71, hJ⟩; refine hJ.go fun ho_ => ?_
     clear hJ; subst ho_; replace hG := el hG_70; refine sq (rg (ra [(2, 1, 2, 0)] f0 [(2, B (decide (v_71 ≤ p_0.Last)))] (tN (kR ?_)))); obtain rfl := oi hG; exact rt []
def G_versions_upTo (F : Nat) (p_0 : List KVersion) (p_1 : Int) (p_2 : Int) : Option (Int) :=
  Option.bind (Option.bind (Option.bind (iter (σ := Int × Int) (ρ := Int) (un2 fun (v_17 : Int) (v_18 : Int) => 
          (ifB (decide (v_18 < v_17))
            (Option.bind (ixI p_0 (IntKind.i64.wrap (Int.fdiv (IntKind.u64.wrap (IntKind.i64.wrap (v_18 + v_17))) (2 ^ 1)))) (fun v_21 =>
            Option.bind (G_versions_upTo_1 F v_21 (⟨p_1, p_2, 0, false⟩ : KVersion)) (fun v_24 =>
            ifB (decide (v_24 < 0))
              (some (.inl (v_17, IntKind.i64.wrap ((IntKind.i64.wrap (Int.fdiv (IntKind.u64.wrap (IntKind.i64.wrap (v_18 + v_17))) (2 ^ 1))) + 1))))
              (some (.inl (IntKind.i64.wrap (Int.fdiv (IntKind.u64.wrap (IntKind.i64.wrap (v_18 + v_17))) (2 ^ 1)), v_18))))))
            (some (.inr v_18)) : Option ((Int × Int) ⊕ Int))) F (((p_0.length : Nat) : Int), 0)) (fun (v_26 : Int) => 
        some v_26) : Option (Int)) (fun (v_28 : Int) => 
      Option.bind (ifB (decide (v_28 < ((p_0.length : Nat) : Int)))
          (Option.bind (ixI p_0 v_28) (fun v_30 =>
          Option.bind (G_versions_upTo_1 F v_30 (⟨p_1, p_2, 0, false⟩ : KVersion)) (fun v_33 =>
          some (v_33 == 0))))
          (some false) : Option (Bool)) (fun (v_35 : Bool) => 
        some (p_2, v_28, v_35))) : Option ((Int × Int × Bool))) (un3 fun (v_36 : Int) (v_37 : Int) (v_38 : Bool) => 
    Option.bind (ifB (v_38)
        (some (IntKind.i64.wrap (v_37 + 1)))
        (some v_37) : Option (Int)) (fun (v_76 : Int) => 
      some v_76))
set_option maxRecDepth 100000 in
set_option maxHeartbeats 16000000 in
theorem z_versions_upTo (F : Nat) (p_0_A : Option Addr) (p_0_c : Nat) (p_0 : List KVersion) (p_1 : Int) (p_2 : Int) (r : Int) (hG : G_versions_upTo F p_0 p_1 p_2 = some r) :
  Cf Try.prog 70 [.slice p_0_A p_0.length p_0_c, I p_1, I p_2] [RowC p_0_A p_0_c KVersion.cells tr p_0] (I r) := by
 unfold G_versions_upTo at hG
 try simp only [List.length_map, KLeaderL.n_Open] at hG
 refine fi Try.func70 rfl rfl (mr tr_mv m0) fun S0 w0 hT => sq (rg (ra [] f0 [] (tN (sq (rg (rn 3 [] f0 [(12, .agg #[I p_1, I p_2, I 0, B false])] (l1 (nw 7 vp [I 0, I 0, I 0, B false] 61 fun g_1 => l1 (sr 0 g_1 (ns 0 [I p_1, I p_2, I 0, B false]) (nl (tN (sq ?_))))))))))))
 obtain ⟨v_36o, v_37o, v_38o, hy_39, hG⟩ := b3 hG; refine rg (rn 2 [(1, 4, 0, 0)] f0 [(14, .slice p_0_A p_0.length p_0_c), (15, .agg #[I p_1, I p_2, I 0, B false])] (l1 (ci 16 (args := [.slice p_0_A p_0.length p_0_c, .agg #[I p_1, I p_2, I 0, B false], .func (.func 94) #[] #[]]) (fun E e w => ∃ (v_36 v_37 : Int) (v_38 : Bool), Rs S0 w0 (.tuple #[I v_37, B v_38]) ([.blk g_1 61 [I p_1, I v_36, I 0, B false]] ++ se E [1]) ((v_36, v_37, v_38) = (v_36o, v_37o, v_38o)) e w) Try.func93 rfl rfl ?_ ?_)))
 ·replace hG := hy_39
  try simp only [List.length_map, KLeaderL.n_Open] at hG
  refine sq (rg (l1 (nw 4 vp [I p_1, I p_2, I 0, B false] 61 fun g_40 => ra [] f0 [] (tN (sq (rg (ra [] f0 [(8, I ((p_0.length : Nat) : Int))] (tN (sq (rg (ra [] f0 [(9, I 0), (10, I ((p_0.length : Nat) : Int))] (tN ?_)))))))))))); replace hG := bs hG; obtain ⟨o_65, hG, hG_65⟩ := hG; refine jn (fun K E a w => ∃ v_66 : Int, Js S0 w0 49 ([(9, I v_66)] ++ dk [10] K) (se E [0, 1, 2]) (v_66 = o_65) a w) ?_ ?_
  ·refine bk ?_; obtain ⟨e_57, hL, hG_57⟩ := bs hG; clear hG; obtain ⟨stp_57, hs_57, hL⟩ := iter_gen hL; refine lp (fun K E n_ a w => ∃ v_55 v_56 : Int, Js S0 w0 49 ([(9, I v_56), (10, I v_55)] ++ K) (se E [0, 1, 2]) (iter stp_57 n_ (v_55, v_56) = some e_57) a w) F ?_ ?_
   ·exact fun _ _ S k e => ⟨((p_0.length : Nat) : Int), 0, S, k.wk, e.sel [0, 1, 2], hL⟩
   ·clear hL; rintro n_57 a w ⟨v_55, v_56, hJ⟩; refine hJ.go fun hL => ?_
    clear hJ; obtain ⟨m_57, o_57, rfl, hG, hO1_57, hO2_57⟩ := iter_step hL; clear hL; rw [hs_57] at hG; refine sq (sq (rg (ra [] f0 [(17, B (decide (v_56 < v_55)))] (tN ?_)))); replace hG := ic hG; rcases hG with ⟨h_58, hG⟩ | ⟨h_58, hG⟩
    ·refine sb 17 (bt h_58) (ct (kS (tN (bk (sq (rg (ra [] f0 [(11, I (IntKind.i64.wrap (Int.fdiv (IntKind.u64.wrap (IntKind.i64.wrap (v_56 + v_55))) (2 ^ 1))))] (tN (sq ?_))))))))); replace hG := bs hG; obtain ⟨v_59, hy_59, hG⟩ := hG; replace hG := bs hG; obtain ⟨v_62, hy_62, hG⟩ := hG; refine qb (fx inf38 (gd' (RowC p_0_A p_0_c KVersion.cells tr p_0) 2) hy_59 fun b_60 o_61 hi_59 => qn 6 [(3, 0, 0, 0), (0, 4, 0, 0), (0, 4, 1, 0)] (fc (hi_59 .i64) f0) [(24, .func (.func 94) #[] #[]), (28, .agg #[I v_59.Key, I v_59.Ts, I v_59.Value, B v_59.Gone]), (29, .agg #[I p_1, I p_2, I 0, B false])] (qc 30 (z_versions_upTo_1 F v_59 (⟨p_1, p_2, 0, false⟩ : KVersion) _ hy_62) hT trivial (qa [] f0 [(31, B (decide (v_62 < 0)))] (tN ?_)))); replace hG := ic hG; rcases hG with ⟨h_63, hG⟩ | ⟨h_63, hG⟩
     ·exact sb 31 (bt h_63) (ct (rg (ra [] f0 [(9, I (IntKind.i64.wrap ((IntKind.i64.wrap (Int.fdiv (IntKind.u64.wrap (IntKind.i64.wrap (v_56 + v_55))) (2 ^ 1))) + 1)))] (hN (tN (fun a w S hK hE => ⟨m_57, ⟨v_55, IntKind.i64.wrap ((IntKind.i64.wrap (Int.fdiv (IntKind.u64.wrap (IntKind.i64.wrap (v_56 + v_55))) (2 ^ 1))) + 1), S, hK.wk, hE.sel [1, 2, 3], hO1_57 _ (oi hG).symm⟩, Nat.lt_succ_self _⟩))))))
     ·exact sb 31 (bf h_63) (cf (rg (ra [] f0 [(10, I (IntKind.i64.wrap (Int.fdiv (IntKind.u64.wrap (IntKind.i64.wrap (v_56 + v_55))) (2 ^ 1))))] (hN (tN (fun a w S hK hE => ⟨m_57, ⟨IntKind.i64.wrap (Int.fdiv (IntKind.u64.wrap (IntKind.i64.wrap (v_56 + v_55))) (2 ^ 1)), v_56, S, hK.wk, hE.sel [1, 2, 3], hO1_57 _ (oi hG).symm⟩, Nat.lt_succ_self _⟩))))))
    ·refine sb 17 (bf h_58) (cf (kX (tX (tX ?_)))); have he_ := hO2_57 _ (oi hG).symm; subst he_; replace hG := hG_57; exact hH (tN (fun _ _ S k e => ⟨v_56, S, k.wk, e.sel [0, 1, 2], oi hG⟩))
  ·rintro a w ⟨v_66, hJ⟩; refine hJ.go fun ho_ => ?_
   clear hJ; subst ho_; replace hG := hG_65; replace hG := bs hG; obtain ⟨o_72, hG, hG_72⟩ := hG; refine jn (fun K E a w => ∃ v_73 : Bool, Js S0 w0 49 ([(6, I v_66), (7, B v_73)] ++ K) (se E [1, 2]) (v_73 = o_72) a w) ?_ ?_
   ·replace hG := ic hG; rcases hG with ⟨h_67, hG⟩ | ⟨h_67, hG⟩
    ·replace hG := bs hG; obtain ⟨v_68, hy_68, hG⟩ := hG; replace hG := bs hG; obtain ⟨v_71, hy_71, hG⟩ := hG; refine qb (qn 5 [] f0 [(35, I v_66), (39, B (decide (v_66 < ((p_0.length : Nat) : Int))))] ?_)
     try simp only [List.length_map, KLeaderL.n_Open] at h_67
     exact sb 39 (bt h_67) (fx inf38 (gd' (RowC p_0_A p_0_c KVersion.cells tr p_0) 2) hy_68 fun b_69 o_70 hi_68 => qn 6 [(3, 0, 0, 0), (0, 4, 0, 0), (0, 4, 1, 0)] (fc (hi_68 .i64) f0) [(40, .func (.func 94) #[] #[]), (44, .agg #[I v_68.Key, I v_68.Ts, I v_68.Value, B v_68.Gone]), (45, .agg #[I p_1, I p_2, I 0, B false])] (qc 46 (z_versions_upTo_1 F v_68 (⟨p_1, p_2, 0, false⟩ : KVersion) _ hy_71) hT trivial (qa [] f0 [(6, I v_66), (7, B (v_71 == 0))] (tN (fun _ _ S k e => ⟨(v_71 == 0), S, k.wk, e.sel [2, 3], oi hG⟩)))))
    ·refine qb (qn 5 [] f0 [(35, I v_66), (39, B (decide (v_66 < ((p_0.length : Nat) : Int))))] ?_)
     try simp only [List.length_map, KLeaderL.n_Open] at h_67
     exact sb 39 (bf h_67) (qa [] f0 [(6, I v_66), (7, B false)] (tN (fun _ _ S k e => ⟨false, S, k.wk, e.sel [1, 2], oi hG⟩)))
   ·rintro a w ⟨v_73, hJ⟩; refine hJ.go fun ho_ => ?_
    clear hJ; subst ho_; replace hG := hG_72; exact kR (ri [] (.tuple #[I v_66, B v_73]) (fun a w S hK hE => ⟨p_2, v_66, v_73, rfl, ⟨S, hE.sel [0, 1]⟩, oi hG⟩))
 ·rintro e w ⟨v_36, v_37, v_38, hJ⟩; refine hJ.go fun ho_ => ?_
  clear hJ; simp only [Prod.mk.injEq] at ho_; obtain ⟨rfl, rfl, rfl⟩ := ho_; refine ra [] f0 [(8, I v_37), (9, B v_38)] (tN ?_); replace hG := bs hG; obtain ⟨o_75, hG, hG_75⟩ := hG; refine jn (fun K E a w => ∃ v_76 : Int, Js S0 w0 23 ([(8, I v_76)] ++ K) (se E []) (v_76 = o_75) a w) ?_ ?_
  ·refine sq (rg (ra [] f0 [(19, B v_38)] (tN ?_))); replace hG := ic hG; rcases hG with ⟨h_74, hG⟩ | ⟨h_74, hG⟩
   ·exact sb 19 (bt h_74) (ct (rg (ra [] f0 [(8, I (IntKind.i64.wrap (v_37 + 1)))] (tN (fun _ _ S k e => ⟨IntKind.i64.wrap (v_37 + 1), S, k.wk, e.sel [], oi hG⟩)))))
   ·exact sb 19 (bf h_74) (cf (kS (tN (fun _ _ S k e => ⟨v_37, S, k.wk, e.sel [], oi hG⟩))))
  ·rintro a w ⟨v_76, hJ⟩; refine hJ.go fun ho_ => ?_
   clear hJ; subst ho_; replace hG := hG_75; refine sq (rg (ra [] f0 [(6, I v_76)] (tN (kR ?_)))); obtain rfl := oi hG; exact rt []
end Go.Proofs.Ytlfkgbideknkhaa
namespace Go.Proofs.Ytlfkgbideknkhaa
open Go.RowKit Go.Maps
def G_journal_formed (F : Nat) (p_0 : KTx) : Option (Bool) :=
  Option.bind (ifB (decide (p_0.Ts > 0))
      (Option.bind (G_commit_Valid F (⟨p_0.Ts, ([] : List KVersion), ([p_0] : List KTx)⟩ : KLeader)) (fun v_4 =>
      some v_4))
      (some false) : Option (Bool)) (fun (v_6 : Bool) => 
    some v_6)
set_option maxRecDepth 100000 in
set_option maxHeartbeats 16000000 in
theorem z_journal_formed (F : Nat) (p_0 : KTxL) (r : Bool) (hG : G_journal_formed F p_0.p = some r) :
  Cf Try.prog 27 [.agg #[I p_0.ID, I p_0.Ts, .slice p_0.Reads_A p_0.Reads.length p_0.Reads_c, .slice p_0.Writes_A p_0.Writes.length p_0.Writes_c]] [KTxL.ok p_0] (B r) := by
 unfold G_journal_formed at hG
 try simp only [List.length_map, KLeaderL.n_Open] at hG
 refine fi Try.func27 rfl rfl (mc KTxL.mv m0) fun S0 w0 hT => sq (rg (l1 (nw 1 vp [I p_0.ID, I p_0.Ts, .slice p_0.Reads_A p_0.Reads.length p_0.Reads_c, .slice p_0.Writes_A p_0.Writes.length p_0.Writes_c] 26 fun g_1 => ra [] f0 [] (tN ?_))))
 obtain ⟨o_5, hG, hG_5⟩ := bs hG; refine jn (fun K E a w => ∃ v_6 : Bool, Js S0 w0 14 ([(2, B v_6)] ++ K) (se E []) (v_6 = o_5) a w) ?_ ?_
 ·rcases ic hG with ⟨h_2, hG⟩ | ⟨h_2, hG⟩
  ·obtain ⟨v_4, hy_4, hG⟩ := bs hG; exact rg (rn 4 [(1, 1, 0, 1)] f0 [(6, B (decide (p_0.Ts > 0)))] (sb 6 (bt h_2) (rn 3 [(1, 1, 0, 1), (0, 4, 0, 0)] f0 [(8, I p_0.Ts), (9, .agg #[I p_0.ID, I p_0.Ts, .slice p_0.Reads_A p_0.Reads.length p_0.Reads_c, .slice p_0.Writes_A p_0.Writes.length p_0.Writes_c])] (l1 (nw 10 (vs 1) [I p_0.ID, I p_0.Ts, .slice p_0.Reads_A p_0.Reads.length p_0.Reads_c, .slice p_0.Writes_A p_0.Writes.length p_0.Writes_c] 26 fun g_3 => rn 1 [] f0 [(11, .agg #[I p_0.Ts, .slice none 0 0, Sb g_3 1 1])] (l1 (cl 12 (z_commit_Valid F (⟨p_0.Ts, none, 0, ([] : List KVersion), (some ⟨g_3, 0, none⟩), 1, ([p_0] : List KTxL)⟩ : KLeaderL) _ hy_4) hT ⟨Fa.m (Fa.two ((gn : Fd _ (RowC none 0 KVersion.cells tr ([] : List KVersion))).a) (bA (f := KTxL.cells) (ok := KTxL.ok) (l := ([p_0] : List KTxL)) g_3 0 ((ec (gi 2) e0).a))) fun _ _ h => ⟨h.1, h.2⟩, trivial⟩ (ra [] f0 [(2, B v_4)] (tN (fun _ _ S k e => ⟨v_4, S, k.wk, e.sel [], oi hG⟩))))))))))
  ·exact rg (rn 4 [(1, 1, 0, 1)] f0 [(6, B (decide (p_0.Ts > 0)))] (sb 6 (bf h_2) (ra [] f0 [(2, B false)] (tN (fun _ _ S k e => ⟨false, S, k.wk, e.sel [], oi hG⟩)))))
 ·rintro a w ⟨v_6, hJ⟩; refine hJ.go fun ho_ => ?_
  clear hJ; subst ho_; replace hG := hG_5; refine kR ?_; obtain rfl := oi hG; exact rt []
def G_commit_Show (F : Nat) (p_0 : KLeader) (p_1 : KInterval) : Option (KLeader × (List KTx) × Int) :=
  Option.bind (Option.bind (G_commit_Valid F p_0) (fun v_4 =>
    ifB (v_4)
      (Option.bind (G_interval_Valid F p_1) (fun v_6 =>
      some (!v_6)))
      (some true)) : Option (Bool)) (fun (v_8 : Bool) => 
    ifB (v_8)
      (some ((⟨0, ([] : List KVersion), ([] : List KTx)⟩ : KLeader), ([] : List KTx), 1))
      (Option.bind (G_commit_past F p_0 p_1.Lo) (fun v_10 =>
      Option.bind (apG 32 ([] : List KVersion) p_0.Store) (fun v_11 =>
      Option.bind (Option.bind (slI p_0.Open 0 v_10) (fun v_12 =>
        Option.bind (iter (σ := Int × (List KVersion)) (ρ := (List KVersion) ⊕ Int) (un2 fun (v_113 : Int) (v_114 : (List KVersion)) => 
            (ifB (decide (v_113 < ((v_12.length : Nat) : Int)))
              (Option.bind (Option.bind (ixI v_12 v_113) (fun v_119 =>
                Option.bind (G_commit_work_versions F (⟨v_119⟩ : Kcommit_work)) (fun v_123 =>
                Option.bind (iter (σ := Int × (List KVersion)) (ρ := (List KVersion) ⊕ Int) (un2 fun (v_144 : Int) (v_145 : (List KVersion)) => 
                    (ifB (decide (v_144 < ((v_123.length : Nat) : Int)))
                      (Option.bind (ixI v_123 v_144) (fun v_150 =>
                      Option.bind (G_versions_Put F v_145 v_150) (un2 fun v_154 v_155 =>
                      ifB ((v_155 == 0))
                        (some (.inl (IntKind.i64.wrap (v_144 + 1), v_154)))
                        (some (.inr (.inr v_155))))))
                      (some (.inr (.inl v_145))) : Option ((Int × (List KVersion)) ⊕ ((List KVersion) ⊕ Int)))) F (0, v_114)) (Sum.elim (fun (v_157 : (List KVersion)) => 
                  some (.inl v_157)) (fun (v_160 : Int) => 
                  some (.inr v_160))))) : Option ((List KVersion) ⊕ Int)) (Sum.elim (fun (v_162 : (List KVersion)) => 
                some (.inl (IntKind.i64.wrap (v_113 + 1), v_162))) (fun (v_165 : Int) => 
                some (.inr (.inr v_165)))))
              (some (.inr (.inl v_114))) : Option ((Int × (List KVersion)) ⊕ ((List KVersion) ⊕ Int)))) F (0, p_0.Store)) (Sum.elim (fun (v_166 : (List KVersion)) => 
          some (.inl v_166)) (fun (v_169 : Int) => 
          some (.inr v_169)))) : Option ((List KVersion) ⊕ Int)) (Sum.elim (fun (v_171 : (List KVersion)) => 
        Option.bind (slI p_0.Open v_10 ((p_0.Open.length : Nat) : Int)) (fun v_175 =>
        Option.bind (G_commit_copies F v_175) (fun v_176 =>
        Option.bind (slI p_0.Open 0 v_10) (fun v_177 =>
        Option.bind (G_commit_copies F v_177) (fun v_178 =>
        some ((⟨p_0.Last, v_171, v_176⟩ : KLeader), v_178, 0)))))) (fun (v_174 : Int) => 
        some ((⟨0, ([] : List KVersion), ([] : List KTx)⟩ : KLeader), ([] : List KTx), v_174)))))))
set_option maxRecDepth 100000 in
set_option maxHeartbeats 16000000 in
theorem z_commit_Show (F : Nat) (p_0 : KLeaderL) (p_1 : KInterval) (r : KLeader × (List KTx) × Int) (hG : G_commit_Show F p_0.p p_1 = some r) :
  Cn Try.prog 24 [.agg #[I p_0.Last, .slice p_0.Store_A p_0.Store.length p_0.Store_c, .slice p_0.Open_A p_0.Open.length p_0.Open_c], .agg #[I p_1.Lo, I p_1.Hi]] [KLeaderL.ok p_0] (fun q : KLeaderL × KSapi_TxL => r.1 = q.1.p ∧ r.2.1 = (q.2.l.map KTxL.p)) (fun q => .tuple #[.agg #[I q.1.Last, .slice q.1.Store_A q.1.Store.length q.1.Store_c, .slice q.1.Open_A q.1.Open.length q.1.Open_c], .slice q.2.A q.2.l.length q.2.c, I r.2.2]) (fun q => [KLeaderL.ok q.1, RowC q.2.A q.2.c KTxL.cells KTxL.ok q.2.l]) := by
 unfold G_commit_Show at hG
 try simp only [List.length_map, KLeaderL.n_Open] at hG
 refine fin Try.func24 rfl rfl (mc KLeaderL.mv m0) fun S0 w0 hT => sq (rg (l1 (nw 2 vp [I p_0.Last, .slice p_0.Store_A p_0.Store.length p_0.Store_c, .slice p_0.Open_A p_0.Open.length p_0.Open_c] 40 fun g_1 => l1 (nw 3 vp [I p_1.Lo, I p_1.Hi] 50 fun g_2 => l1 (nw 4 vp [I 0, .slice none 0 0, .slice none 0 0] 40 fun g_3 => ra [] f0 [] (tN (sq ?_)))))))
 obtain ⟨o_7, hG, hG_7⟩ := bs hG; refine jn (fun K E a w => ∃ v_8 : Bool, Js S0 w0 75 ([(22, B v_8)] ++ K) ([.dat (RowC p_0.Store_A p_0.Store_c KVersion.cells tr p_0.Store), .dat (RowC p_0.Open_A p_0.Open_c KTxL.cells KTxL.ok p_0.Open)] ++ se E [0, 1, 2]) (v_8 = o_7) a w) ?_ ?_
 ·obtain ⟨v_4, hy_4, hG⟩ := bs hG; rcases ic hG with ⟨h_5, hG⟩ | ⟨h_5, hG⟩
  ·obtain ⟨v_6, hy_6, hG⟩ := bs hG; exact rg (rn 1 [(0, 3, 2, 0)] f0 [(15, .agg #[I p_0.Last, .slice p_0.Store_A p_0.Store.length p_0.Store_c, .slice p_0.Open_A p_0.Open.length p_0.Open_c])] (l1 (cl 16 (z_commit_Valid F p_0 _ hy_4) hT ⟨(gi 3).a, trivial⟩ (rn 2 [] f0 [(18, B (!v_4))] (sb 18 (nt h_5) (rn 1 [(0, 2, 1, 0)] f0 [(19, .agg #[I p_1.Lo, I p_1.Hi])] (l1 (cl 20 (z_interval_Valid F p_1 _ hy_6) hT trivial (ra [] f0 [(22, B (!v_6))] (tN (fg (KLeaderL.ok p_0) 3 (fun _ _ h => h.f_Store) (fg (KLeaderL.ok p_0) 4 (fun _ _ h => h.f_Open) (fun _ _ S k e => ⟨!v_6, S, k.wk, e.sel [1, 0, 2, 3, 4], oi hG⟩)))))))))))))
  ·exact rg (rn 1 [(0, 3, 2, 0)] f0 [(15, .agg #[I p_0.Last, .slice p_0.Store_A p_0.Store.length p_0.Store_c, .slice p_0.Open_A p_0.Open.length p_0.Open_c])] (l1 (cl 16 (z_commit_Valid F p_0 _ hy_4) hT ⟨(gi 3).a, trivial⟩ (rn 2 [] f0 [(18, B (!v_4))] (sb 18 (nf h_5) (ra [] f0 [(22, B true)] (tN (fg (KLeaderL.ok p_0) 3 (fun _ _ h => h.f_Store) (fg (KLeaderL.ok p_0) 4 (fun _ _ h => h.f_Open) (fun _ _ S k e => ⟨true, S, k.wk, e.sel [1, 0, 2, 3, 4], oi hG⟩))))))))))
 ·rintro a w ⟨v_8, hJ⟩; refine hJ.go fun ho_ => ?_
  clear hJ; subst ho_; replace hG := hG_7; rcases ic hG with ⟨h_9, hG⟩ | ⟨h_9, hG⟩
  ·refine sb 22 (bt h_9) (ct (sq (rg (rn 1 [] f0 [(23, .agg #[I 0, .slice none 0 0, .slice none 0 0])] (l1 (sr 2 g_3 (ns 0 [I 0, .slice none 0 0, .slice none 0 0]) (ra [] f0 [(5, .slice none 0 0), (6, I 1)] (tN (kR (tR ?_)))))))))); obtain rfl := oi hG; exact rtn [(2, 0, 3)] ((⟨0, none, 0, ([] : List KVersion), none, 0, ([] : List KTxL)⟩ : KLeaderL), ⟨none, 0, ([] : List KTxL)⟩) ⟨rfl, rfl⟩ ⟨((Fd.two ((gn : Fd _ (RowC none 0 KVersion.cells tr ([] : List KVersion)))) ((gn : Fd _ (RowC none 0 KTxL.cells KTxL.ok ([] : List KTxL))))).m fun _ _ h => ⟨h.1, h.2⟩), gn, trivial⟩
  ·refine sb 22 (bf h_9) (cf (kS (tN (sq ?_)))); obtain ⟨v_10, hy_10, hG⟩ := bs hG; refine rg (rn 3 [(0, 3, 4, 0), (1, 1, 3, 0)] f0 [(24, .agg #[I p_0.Last, .slice p_0.Store_A p_0.Store.length p_0.Store_c, .slice p_0.Open_A p_0.Open.length p_0.Open_c]), (26, I p_1.Lo)] (l1 (cl 27 (z_commit_past F p_0 p_1.Lo _ hy_10) hT ⟨((Fd.two ((gd' (RowC p_0.Store_A p_0.Store_c KVersion.cells tr p_0.Store) 0)) ((gd' (RowC p_0.Open_A p_0.Open_c KTxL.cells KTxL.ok p_0.Open) 1))).m fun _ _ h => ⟨h.1, h.2⟩).a, trivial⟩ (ra [] f0 [(7, I v_10)] (tN (sq ?_)))))); obtain ⟨v_11, hy_11, hG⟩ := bs hG; refine rg (rn 2 [(1, 1, 4, 1)] f0 [(29, .slice p_0.Store_A p_0.Store.length p_0.Store_c)] (l1 (cln_KSapi_Version 30 p_0.Store_A p_0.Store_c p_0.Store (gd' (RowC p_0.Store_A p_0.Store_c KVersion.cells tr p_0.Store) 0).a (by first | simpa using (apG_some hy_11).1 | (have hh_ := (apG_some hy_11).1; rw [List.length_nil, Nat.zero_add] at hh_; exact hh_)) fun v_11_A v_11_c => ra [] f0 [(8, .slice v_11_A p_0.Store.length v_11_c)] (tN ?_)))); obtain ⟨o_170, hG, hG_170⟩ := bs hG; refine jn (fun K E a w => ∃ (v_171 : List KVersion) (v_172_A : Option Addr) (v_173_c : Nat), Js S0 w0 75 ([(8, .slice v_172_A v_171.length v_173_c)] ++ K) ([.dat (RowC v_172_A v_173_c KVersion.cells tr v_171)] ++ se E [1, 2, 3, 5]) (.inl v_171 = o_170) a w) ?_ ?_
   ·refine sq ?_; obtain ⟨v_12o, hy_12, hG⟩ := bs hG; refine rg (fpn (p := KTxL.p) false true inf30 (gd' (RowC p_0.Open_A p_0.Open_c KTxL.cells KTxL.ok p_0.Open) 2) hy_12 fun v_12 v_12_A v_12_c he_12 hp_12 => ?_); subst he_12
    try simp only [List.length_map, KLeaderL.n_Open] at hG
    refine ra [(1, 1, 6, 2), (1, 0, 0, 0)] (fc (hp_12 .i64 .i64) f0) (ns 34 [.slice v_12_A v_12.length v_12_c, I ((v_12.length : Nat) : Int), I 0]) (tN (bk ?_)); obtain ⟨e_117, hL, hG_117⟩ := bs hG; clear hG; obtain ⟨stp_117, hs_117, hL⟩ := iter_gen hL; refine lp (fun K E n_ a w => ∃ (v_113 : Int) (v_114 : List KVersion) (v_115_A : Option Addr) (v_116_c : Nat), Js S0 w0 75 ([(8, .slice v_115_A v_114.length v_116_c), (36, I v_113)] ++ K) ([.dat (RowC v_115_A v_116_c KVersion.cells tr v_114)] ++ se E [0, 2, 3, 4, 6]) (iter stp_117 n_ (v_113, v_114) = some e_117) a w) F ?_ ?_
    ·exact so (A := v_11_A) (c := v_11_c) 1 KVersion.cells tr p_0.Store tr_mv et (fun _ _ S k e => ⟨0, p_0.Store, v_11_A, v_11_c, S, k.wk, e.sel [1, 0, 2, 3, 4, 6], hL⟩)
    ·clear hL; rintro n_117 a w ⟨v_113, v_114, v_115_A, v_116_c, hJ⟩; refine hJ.go fun hL => ?_
     clear hJ; obtain ⟨m_117, o_117, rfl, hG, hO1_117, hO2_117⟩ := iter_step hL; clear hL; rw [hs_117] at hG; refine sq (rg (ra [] f0 [(37, B (decide (v_113 < ((v_12.length : Nat) : Int))))] (tN (sq ?_)))); rcases ic hG with ⟨h_118, hG⟩ | ⟨h_118, hG⟩
     ·try simp only [List.length_map, KLeaderL.n_Open] at h_118
      refine sb 37 (bt h_118) (ct (kS (tN ?_))); obtain ⟨o_161, hG, hG_161⟩ := bs hG; refine jn (fun K E a w => ∃ (v_162 : List KVersion) (v_163_A : Option Addr) (v_164_c : Nat), Js S0 w0 75 ([(8, .slice v_163_A v_162.length v_164_c)] ++ K) ([.dat (RowC v_163_A v_164_c KVersion.cells tr v_162)] ++ se E [1, 2, 3, 4, 5]) (.inl v_162 = o_161) a w) ?_ ?_
      ·refine bk (sq ?_); obtain ⟨v_119o, hy_119, hG⟩ := bs hG; refine rg (fxn (p := KTxL.p) inf30 (gd' (RowC v_12_A v_12_c KTxL.cells KTxL.ok v_12) 1) hy_119 fun v_119 b_120 o_121 he_119 hi_119 => ?_); subst he_119
       try simp only [List.length_map, KLeaderL.n_Open] at hG
       refine rn 2 [(0, 0, 0, 0), (0, 4, 0, 0)] (fc (hi_119 .i64) f0) [(39, .agg #[I v_119.ID, I v_119.Ts, .slice v_119.Reads_A v_119.Reads.length v_119.Reads_c, .slice v_119.Writes_A v_119.Writes.length v_119.Writes_c])] (l1 (nw 10 vp (KTxL.cells KTxL.z) 26 fun g_122 => l1 (sr 0 g_122 (ns 0 [I v_119.ID, I v_119.Ts, .slice v_119.Reads_A v_119.Reads.length v_119.Reads_c, .slice v_119.Writes_A v_119.Writes.length v_119.Writes_c]) (nl (tN (sq ?_)))))); obtain ⟨v_123o, hy_123, hG⟩ := bs hG; refine rg (rn 2 [(0, 4, 0, 0)] f0 [(41, .agg #[I v_119.ID, I v_119.Ts, .slice v_119.Reads_A v_119.Reads.length v_119.Reads_c, .slice v_119.Writes_A v_119.Writes.length v_119.Writes_c])] (l1 (cn 42 (z_commit_work_versions F (⟨v_119⟩ : Kcommit_workL) _ hy_123) hT (fun _ => (mr tr_mv m0)) ⟨(((gm (KTxL.ok v_119) 2 fun _ _ h => h)).m fun _ _ h => ⟨h⟩), trivial⟩ ?_))); rintro ⟨v_123_A, v_123_c, v_123⟩ hq_123; obtain rfl : v_123 = v_123o := hq_123.symm
       try simp only [List.length_map, KLeaderL.n_Open] at hG
       refine ra [] f0 [(43, I ((v_123.length : Nat) : Int)), (44, I 0)] (tN (bk ?_)); obtain ⟨e_148, hL, hG_148⟩ := bs hG; clear hG; obtain ⟨stp_148, hs_148, hL⟩ := iter_gen hL; refine lp (fun K E n_ a w => ∃ (v_144 : Int) (v_145 : List KVersion) (v_146_A : Option Addr) (v_147_c : Nat), Js S0 w0 75 ([(8, .slice v_146_A v_145.length v_147_c), (44, I v_144)] ++ K) ([.dat (RowC v_146_A v_147_c KVersion.cells tr v_145)] ++ se E [0, 5, 6, 7, 8, 9]) (iter stp_148 n_ (v_144, v_145) = some e_148) a w) F ?_ ?_
       ·exact fun _ _ S k e => ⟨0, v_114, v_115_A, v_116_c, S, k.wk, e.sel [4, 0, 5, 6, 7, 8, 9], hL⟩
       ·clear hL; rintro n_148 a w ⟨v_144, v_145, v_146_A, v_147_c, hJ⟩; refine hJ.go fun hL => ?_
        clear hJ; obtain ⟨m_148, o_148, rfl, hG, hO1_148, hO2_148⟩ := iter_step hL; clear hL; rw [hs_148] at hG; refine sq (rg (ra [] f0 [(45, B (decide (v_144 < ((v_123.length : Nat) : Int))))] (tN (sq ?_)))); rcases ic hG with ⟨h_149, hG⟩ | ⟨h_149, hG⟩
        ·try simp only [List.length_map, KLeaderL.n_Open] at h_149
         refine sb 45 (bt h_149) (ct (kS (tN (sq (bk (sq ?_)))))); obtain ⟨v_150, hy_150, hG⟩ := bs hG; refine rg (fx inf38 (gd' (RowC v_123_A v_123_c KVersion.cells tr v_123) 1) hy_150 fun b_151 o_152 hi_150 => rn 2 [(0, 0, 0, 0), (0, 4, 0, 0)] (fc (hi_150 .i64) f0) [(47, .agg #[I v_150.Key, I v_150.Ts, I v_150.Value, B v_150.Gone])] (l1 (nw 12 vp [I 0, I 0, I 0, B false] 61 fun g_153 => l1 (sr 0 g_153 (ns 0 [I v_150.Key, I v_150.Ts, I v_150.Value, B v_150.Gone]) (nl (tN (sq ?_))))))); obtain ⟨v_154o, v_155, hy_154, hG⟩ := b2 hG; refine rg (rn 2 [(1, 4, 0, 0)] f0 [(49, .slice v_146_A v_145.length v_147_c), (50, .agg #[I v_150.Key, I v_150.Ts, I v_150.Value, B v_150.Gone])] (l1 (cn 51 (z_versions_Put F v_146_A v_147_c v_145 v_150 _ hy_154) hT (fun _ => (mr tr_mv m0)) ⟨gi 2, trivial⟩ ?_))); rintro ⟨v_154_A, v_154_c, v_154⟩ hq_154; obtain rfl : v_154 = v_154o := hq_154.symm
         try simp only [List.length_map, KLeaderL.n_Open] at hG
         refine ra [] f0 [(13, .slice v_154_A v_154.length v_154_c), (14, I v_155)] (tN (sq (sq (rg (ra [] f0 [(55, B (!(v_155 == 0)))] (tN ?_)))))); rcases ic hG with ⟨h_156, hG⟩ | ⟨h_156, hG⟩
         ·exact sb 55 (nt h_156) (cf (kS (tN (rg (ra [] f0 [(8, .slice v_154_A v_154.length v_154_c)] (hN (tN (rg (ra [] f0 [(44, I (IntKind.i64.wrap (v_144 + 1)))] (tN (fun a w S hK hE => ⟨m_148, ⟨IntKind.i64.wrap (v_144 + 1), v_154, v_154_A, v_154_c, S, hK.wk, hE.sel [0, 4, 5, 6, 7, 8, 9], hO1_148 _ (oi hG).symm⟩, Nat.lt_succ_self _⟩)))))))))))
         ·refine sb 55 (nf h_156) (ct (sq (rg (rn 2 [] f0 [(56, .agg #[I 0, .slice none 0 0, .slice none 0 0]), (57, I v_155)] (l1 (sr 8 g_3 (ns 0 [I 0, .slice none 0 0, .slice none 0 0]) (ra [] f0 [(5, .slice none 0 0), (6, I v_155)] (tN (kR (tR (hR (tR (tR ?_))))))))))))); have he_ := hO2_148 _ (oi hG).symm; subst he_; replace hG := hG_148; refine hR (hR (tR ?_)); obtain rfl := oi hG; replace hG := hG_161; refine tR ?_; have he_ := hO2_117 _ (oi hG).symm; subst he_; replace hG := hG_117; refine hR (tR ?_); obtain rfl := oi hG; replace hG := hG_170; obtain rfl := oi hG; exact rtn [(8, 0, 3)] ((⟨0, none, 0, ([] : List KVersion), none, 0, ([] : List KTxL)⟩ : KLeaderL), ⟨none, 0, ([] : List KTxL)⟩) ⟨rfl, rfl⟩ ⟨((Fd.two ((gn : Fd _ (RowC none 0 KVersion.cells tr ([] : List KVersion)))) ((gn : Fd _ (RowC none 0 KTxL.cells KTxL.ok ([] : List KTxL))))).m fun _ _ h => ⟨h.1, h.2⟩), gn, trivial⟩
        ·try simp only [List.length_map, KLeaderL.n_Open] at h_149
         refine sb 45 (bf h_149) (cf (kX (tX (tX ?_)))); have he_ := hO2_148 _ (oi hG).symm; subst he_; replace hG := hG_148; exact hH (hN (tN (fun _ _ S k e => ⟨v_145, v_146_A, v_147_c, S, k.wk, e.sel [0, 2, 3, 4, 5, 6], oi hG⟩)))
      ·rintro a w ⟨v_162, v_163_A, v_164_c, hJ⟩; refine hJ.go fun ho_ => ?_
       clear hJ; subst ho_; replace hG := el hG_161; exact rg (ra [] f0 [(36, I (IntKind.i64.wrap (v_113 + 1)))] (tN (fun a w S hK hE => ⟨m_117, ⟨IntKind.i64.wrap (v_113 + 1), v_162, v_163_A, v_164_c, S, hK.wk, hE.sel [0, 1, 2, 3, 4, 5], hO1_117 _ (oi hG).symm⟩, Nat.lt_succ_self _⟩)))
     ·try simp only [List.length_map, KLeaderL.n_Open] at h_118
      refine sb 37 (bf h_118) (cf (kX (tX (tX ?_)))); have he_ := hO2_117 _ (oi hG).symm; subst he_; replace hG := hG_117; exact hH (tN (fun _ _ S k e => ⟨v_114, v_115_A, v_116_c, S, k.wk, e.sel [0, 2, 3, 4, 5], oi hG⟩))
   ·rintro a w ⟨v_171, v_172_A, v_173_c, hJ⟩; refine hJ.go fun ho_ => ?_
    clear hJ; subst ho_; replace hG := el hG_170; refine sq ?_; obtain ⟨v_175o, hy_175, hG⟩ := bs hG; replace hG := bs hG; obtain ⟨v_176o, hy_176, hG⟩ := hG; replace hG := bs hG; obtain ⟨v_177o, hy_177, hG⟩ := hG; replace hG := bs hG; obtain ⟨v_178o, hy_178, hG⟩ := hG; refine fpn (p := KTxL.p) true false inf30 (gd' (RowC p_0.Open_A p_0.Open_c KTxL.cells KTxL.ok p_0.Open) 2) hy_175 fun v_175 v_175_A v_175_c he_175 hp_175 => ?_
    subst he_175
    try simp only [List.length_map, KLeaderL.n_Open] at hG
    refine fpn (p := KTxL.p) false true inf30 (gd' (RowC p_0.Open_A p_0.Open_c KTxL.cells KTxL.ok p_0.Open) 3) hy_177 fun v_177 v_177_A v_177_c he_177 hp_177 => ?_
    subst he_177
    try simp only [List.length_map, KLeaderL.n_Open] at hG
    refine hb [0, 1, 2, 3, 4, 6] (ht [0, 1, 2, 3, 4, 6] [0, 1, 2, 3, 4, 5, 6, 9, 10, 11, 12] [(1, 1, 5, 0), (2, 1, 5, 2), (1, 0, 0, 0), (1, 1, 5, 2), (1, 0, 0, 0)] (fc (hp_175 .i64 .i64) (fc (hp_177 .i64 .i64) f0)) [(62, I p_0.Last), (63, .slice v_172_A v_171.length v_173_c), (67, .slice v_175_A v_175.length v_175_c), (73, .slice v_177_A v_177.length v_177_c)] (ho [7] ⟨h1 (cn 68 (z_commit_copies F v_175_A v_175_c v_175 _ hy_176) hT (fun _ => (mr KTxL.mv m0)) ⟨gi 1, trivial⟩ ?_), trivial⟩)); rintro ⟨v_176_A, v_176_c, v_176⟩ hq_176; obtain rfl : (v_176.map KTxL.p) = v_176o := hq_176.symm
    try simp only [List.length_map, KLeaderL.n_Open] at hG
    refine hk [1, 2, 3, 4, 5, 7] (ht [1, 2, 3, 4, 5, 7] [8] [] f0 [(69, .agg #[I p_0.Last, .slice v_172_A v_171.length v_173_c, .slice v_176_A v_176.length v_176_c])] (ho [13] ⟨h1 (cn 74 (z_commit_copies F v_177_A v_177_c v_177 _ hy_178) hT (fun _ => (mr KTxL.mv m0)) ⟨gi 1, trivial⟩ ?_), trivial⟩)); rintro ⟨v_178_A, v_178_c, v_178⟩ hq_178; obtain rfl : (v_178.map KTxL.p) = v_178o := hq_178.symm
    try simp only [List.length_map, KLeaderL.n_Open] at hG
    refine hk [2, 3, 4, 5, 6, 8] (ho [14] ⟨h1 (sr 7 g_3 (ns 0 [I p_0.Last, .slice v_172_A v_171.length v_173_c, .slice v_176_A v_176.length v_176_c]) (hk [2, 3, 4, 5, 6, 8] (ht [2, 3, 4, 5, 6, 8] [15, 16] [] f0 [(5, .slice v_178_A v_178.length v_178_c), (6, I 0)] (he (tN (kR ?_)))))), trivial⟩); obtain rfl := oi hG; exact rtn [(7, 0, 3)] ((⟨p_0.Last, v_172_A, v_173_c, v_171, v_176_A, v_176_c, v_176⟩ : KLeaderL), ⟨v_178_A, v_178_c, v_178⟩) ⟨rfl, rfl⟩ ⟨((Fd.two ((gd' (RowC v_172_A v_173_c KVersion.cells tr v_171) 4)) ((gd' (RowC v_176_A v_176_c KTxL.cells KTxL.ok v_176) 1))).m fun _ _ h => ⟨h.1, h.2⟩), gi 0, trivial⟩
end Go.Proofs.Ytlfkgbideknkhaa
namespace Go.Proofs.Ytlfkgbideknkhaa
open Go.RowKit Go.Maps
def G_commit_Stamp (F : Nat) (p_0 : KLeader) (p_1 : KTx) (p_2 : KInterval) : Option (KLeader × KTx × Int) :=
  Option.bind (Option.bind (G_commit_Valid F p_0) (fun v_6 =>
    ifB (v_6)
      (Option.bind (G_interval_Valid F p_2) (fun v_8 =>
      ifB (v_8)
        (Option.bind (G_commit_work_formed F (⟨p_1⟩ : Kcommit_work)) (fun v_10 =>
        ifB (v_10)
          (some (!(p_1.Ts == 0)))
          (some true)))
        (some true)))
      (some true)) : Option (Bool)) (fun (v_13 : Bool) => 
    ifB (v_13)
      (Option.bind (G_commit_Stamp_1 F 1) (un3 fun v_15 v_16 v_17 =>
      some (v_15, v_16, v_17)))
      (Option.bind (Option.bind (Option.bind (iter (σ := Int × (List (Int × Int))) (ρ := (List (Int × Int))) (un2 fun (v_34 : Int) (v_35 : (List (Int × Int))) => 
              (ifB (decide (v_34 < ((p_0.Store.length : Nat) : Int)))
                (Option.bind (ixI p_0.Store v_34) (fun v_38 =>
                Option.bind (some (mpS v_35 v_38.Key (max (mpG v_35 v_38.Key 0) v_38.Ts))) (fun v_42 =>
                some (.inl (IntKind.i64.wrap (v_34 + 1), v_42)))))
                (some (.inr v_35)) : Option ((Int × (List (Int × Int))) ⊕ (List (Int × Int))))) F (0, ([] : List (Int × Int)))) (fun (v_43 : (List (Int × Int))) => 
            some v_43) : Option ((List (Int × Int)))) (fun (v_45 : (List (Int × Int))) => 
          Option.bind (Option.bind (iter (σ := (List (Int × Int)) × Int) (ρ := (List (Int × Int))) (un2 fun (v_110 : (List (Int × Int))) (v_111 : Int) => 
                (ifB (decide (v_111 < ((p_0.Open.length : Nat) : Int)))
                  (Option.bind (Option.bind (ixI p_0.Open v_111) (fun v_114 =>
                    Option.bind (iter (σ := (List (Int × Int)) × Int) (ρ := (List (Int × Int))) (un2 fun (v_132 : (List (Int × Int))) (v_133 : Int) => 
                        (ifB (decide (v_133 < ((v_114.Writes.length : Nat) : Int)))
                          (Option.bind (ixI v_114.Writes v_133) (fun v_136 =>
                          Option.bind (some (mpS v_132 v_136.Key v_114.Ts)) (fun v_140 =>
                          some (.inl (v_140, IntKind.i64.wrap (v_133 + 1))))))
                          (some (.inr v_132)) : Option (((List (Int × Int)) × Int) ⊕ (List (Int × Int))))) F (v_110, 0)) (fun (v_141 : (List (Int × Int))) => 
                      some v_141)) : Option ((List (Int × Int)))) (fun (v_143 : (List (Int × Int))) => 
                    some (.inl (v_143, IntKind.i64.wrap (v_111 + 1)))))
                  (some (.inr v_110)) : Option (((List (Int × Int)) × Int) ⊕ (List (Int × Int))))) F (v_45, 0)) (fun (v_144 : (List (Int × Int))) => 
              some v_144) : Option ((List (Int × Int)))) (fun (v_146 : (List (Int × Int))) => 
            some v_146)) : Option ((List (Int × Int)))) (fun (v_148 : (List (Int × Int))) => 
        Option.bind (Option.bind (Option.bind (Option.bind (iter (σ := Int) (ρ := Unit ⊕ Int) (fun (v_297 : Int) => 
                  (ifB (decide (v_297 < ((p_1.Reads.length : Nat) : Int)))
                    (Option.bind (ixI p_1.Reads v_297) (fun v_300 =>
                    Option.bind (some () : Option (Unit)) (fun (_ : Unit) => 
                      ifB (((mpG v_148 v_300.Key 0) == v_300.Ts))
                        (some (.inl (IntKind.i64.wrap (v_297 + 1))))
                        (some (.inr (.inr v_297))))))
                    (some (.inr (.inl ()))) : Option (Int ⊕ (Unit ⊕ Int)))) F 0) (Sum.elim (fun (_ : Unit) => 
                some (.inl ())) (fun (v_307 : Int) => 
                some (.inr v_307))) : Option (Unit ⊕ Int)) (Sum.elim (fun (_ : Unit) => 
              some (-1)) (fun (v_309 : Int) => 
              some v_309)) : Option (Int)) (fun (v_310 : Int) => 
            some (decide (v_310 ≥ 0))) : Option (Bool)) (fun (v_342 : Bool) => 
          ifB (v_342)
            (Option.bind (G_commit_Stamp_1 F 60) (un3 fun v_407 v_408 v_409 =>
            some (v_407, v_408, v_409)))
            (Option.bind (ifB ((((p_0.Open.length : Nat) : Int) == 2000))
                (some true)
                (Option.bind (G_commit_size F p_0) (fun v_411 =>
                some (decide ((IntKind.i64.wrap (v_411 + ((p_1.Writes.length : Nat) : Int))) > 4000)))) : Option (Bool)) (fun (v_413 : Bool) => 
              ifB (v_413)
                (Option.bind (G_commit_Stamp_1 F 2) (un3 fun v_415 v_416 v_417 =>
                some (v_415, v_416, v_417)))
                (Option.bind (G_commit_copied F p_1) (fun v_418 =>
                ifB (decide ((max (IntKind.i64.wrap (p_0.Last + 1)) p_2.Hi) > 3000000000000000))
                  (Option.bind (G_commit_Stamp_1 F 3) (un3 fun v_420 v_421 v_422 =>
                  some (v_420, v_421, v_422)))
                  (Option.bind (apG 32 ([] : List KVersion) p_0.Store) (fun v_423 =>
                  Option.bind (Option.bind (Option.bind (iter (σ := (List KTx) × Int) (ρ := (List KTx)) (un2 fun (v_444 : (List KTx)) (v_447 : Int) => 
                          (ifB (decide (v_447 < ((p_0.Open.length : Nat) : Int)))
                            (Option.bind (ixI p_0.Open v_447) (fun v_450 =>
                            Option.bind (G_commit_copied F v_450) (fun v_454 =>
                            Option.bind (apG 64 v_444 ([v_454] : List KTx)) (fun v_456 =>
                            some (.inl (v_456, IntKind.i64.wrap (v_447 + 1)))))))
                            (some (.inr v_444)) : Option (((List KTx) × Int) ⊕ (List KTx)))) F (([] : List KTx), 0)) (fun (v_457 : (List KTx)) => 
                        some v_457) : Option ((List KTx))) (fun (v_461 : (List KTx)) => 
                      some v_461) : Option ((List KTx))) (fun (v_464 : (List KTx)) => 
                    Option.bind (G_commit_copied F (⟨v_418.ID, (max (IntKind.i64.wrap (p_0.Last + 1)) p_2.Hi), v_418.Reads, v_418.Writes⟩ : KTx)) (fun v_468 =>
                    Option.bind (apG 64 v_464 ([v_468] : List KTx)) (fun v_470 =>
                    some ((⟨(max (IntKind.i64.wrap (p_0.Last + 1)) p_2.Hi), p_0.Store, v_470⟩ : KLeader), (⟨v_418.ID, (max (IntKind.i64.wrap (p_0.Last + 1)) p_2.Hi), v_418.Reads, v_418.Writes⟩ : KTx), 0))))))))))))))
set_option maxRecDepth 100000 in
set_option maxHeartbeats 16000000 in
theorem z_commit_Stamp (F : Nat) (p_0 : KLeaderL) (p_1 : KTxL) (p_2 : KInterval) (r : KLeader × KTx × Int) (hG : G_commit_Stamp F p_0.p p_1.p p_2 = some r) :
  Cn Try.prog 23 [.agg #[I p_0.Last, .slice p_0.Store_A p_0.Store.length p_0.Store_c, .slice p_0.Open_A p_0.Open.length p_0.Open_c], .agg #[I p_1.ID, I p_1.Ts, .slice p_1.Reads_A p_1.Reads.length p_1.Reads_c, .slice p_1.Writes_A p_1.Writes.length p_1.Writes_c], .agg #[I p_2.Lo, I p_2.Hi]] [KLeaderL.ok p_0, KTxL.ok p_1] (fun q : KLeaderL × KTxL => r.1 = q.1.p ∧ r.2.1 = q.2.p) (fun q => .tuple #[.agg #[I q.1.Last, .slice q.1.Store_A q.1.Store.length q.1.Store_c, .slice q.1.Open_A q.1.Open.length q.1.Open_c], .agg #[I q.2.ID, I q.2.Ts, .slice q.2.Reads_A q.2.Reads.length q.2.Reads_c, .slice q.2.Writes_A q.2.Writes.length q.2.Writes_c], I r.2.2]) (fun q => [KLeaderL.ok q.1, KTxL.ok q.2]) := by
 unfold G_commit_Stamp at hG
 try simp only [List.length_map, KLeaderL.n_Open] at hG
 refine fin Try.func23 rfl rfl (mc KLeaderL.mv (mc KTxL.mv m0)) fun S0 w0 hT => sq (rg (l1 (nw 3 vp [I p_0.Last, .slice p_0.Store_A p_0.Store.length p_0.Store_c, .slice p_0.Open_A p_0.Open.length p_0.Open_c] 40 fun g_1 => l1 (nw 4 vp [I p_1.ID, I p_1.Ts, .slice p_1.Reads_A p_1.Reads.length p_1.Reads_c, .slice p_1.Writes_A p_1.Writes.length p_1.Writes_c] 26 fun g_2 => l1 (nw 5 vp [I p_2.Lo, I p_2.Hi] 50 fun g_3 => l1 (nw 6 vp [I 0, .slice none 0 0, .slice none 0 0] 40 fun g_4 => l1 (nw 7 vp (KTxL.cells KTxL.z) 26 fun g_5 => ra [] f0 [] (tN (sq (rg (ra [] f0 [(9, .func (.func 44) #[] #[])] (tN (sq ?_)))))))))))))
 obtain ⟨o_12, hG, hG_12⟩ := bs hG; refine jn (fun K E a w => ∃ v_13 : Bool, Js S0 w0 95 ([(29, B v_13)] ++ K) ([.dat (RowC p_0.Store_A p_0.Store_c KVersion.cells tr p_0.Store), .dat (RowC p_0.Open_A p_0.Open_c KTxL.cells KTxL.ok p_0.Open), .dat (RowC p_1.Reads_A p_1.Reads_c KSeen.cells tr p_1.Reads), .dat (RowC p_1.Writes_A p_1.Writes_c KWrite.cells tr p_1.Writes)] ++ se E [0, 1, 2, 3, 4]) (v_13 = o_12) a w) ?_ ?_
 ·obtain ⟨v_6, hy_6, hG⟩ := bs hG; rcases ic hG with ⟨h_7, hG⟩ | ⟨h_7, hG⟩
  ·obtain ⟨v_8, hy_8, hG⟩ := bs hG; rcases ic hG with ⟨h_9, hG⟩ | ⟨h_9, hG⟩
   ·obtain ⟨v_10, hy_10, hG⟩ := bs hG; rcases ic hG with ⟨h_11, hG⟩ | ⟨h_11, hG⟩
    ·exact rg (rn 1 [(0, 3, 4, 0)] f0 [(11, .agg #[I p_0.Last, .slice p_0.Store_A p_0.Store.length p_0.Store_c, .slice p_0.Open_A p_0.Open.length p_0.Open_c])] (l1 (cl 12 (z_commit_Valid F p_0 _ hy_6) hT ⟨(gi 5).a, trivial⟩ (rn 2 [] f0 [(14, B (!v_6))] (sb 14 (nt h_7) (rn 1 [(0, 2, 2, 0)] f0 [(15, .agg #[I p_2.Lo, I p_2.Hi])] (l1 (cl 16 (z_interval_Valid F p_2 _ hy_8) hT trivial (rn 3 [] f0 [(19, B (!v_8))] (sb 19 (nt h_9) (rn 2 [(0, 4, 3, 0)] f0 [(21, .agg #[I p_1.ID, I p_1.Ts, .slice p_1.Reads_A p_1.Reads.length p_1.Reads_c, .slice p_1.Writes_A p_1.Writes.length p_1.Writes_c])] (l1 (cl 22 (z_commit_work_formed F (⟨p_1⟩ : Kcommit_workL) _ hy_10) hT ⟨(((gm (KTxL.ok p_1) 6 fun _ _ h => h)).m fun _ _ h => ⟨h⟩).a, trivial⟩ (rn 3 [] f0 [(25, B (!v_10))] (sb 25 (nt h_11) (ra [(1, 1, 3, 1)] f0 [(29, B (!(p_1.Ts == 0)))] (tN (fg (KLeaderL.ok p_0) 5 (fun _ _ h => h.f_Store) (fg (KLeaderL.ok p_0) 6 (fun _ _ h => h.f_Open) (fg (KTxL.ok p_1) 8 (fun _ _ h => h.f_Reads) (fg (KTxL.ok p_1) 9 (fun _ _ h => h.f_Writes) (fun _ _ S k e => ⟨!(p_1.Ts == 0), S, k.wk, e.sel [3, 2, 1, 0, 4, 5, 6, 7, 8], oi hG⟩))))))))))))))))))))))
    ·exact rg (rn 1 [(0, 3, 4, 0)] f0 [(11, .agg #[I p_0.Last, .slice p_0.Store_A p_0.Store.length p_0.Store_c, .slice p_0.Open_A p_0.Open.length p_0.Open_c])] (l1 (cl 12 (z_commit_Valid F p_0 _ hy_6) hT ⟨(gi 5).a, trivial⟩ (rn 2 [] f0 [(14, B (!v_6))] (sb 14 (nt h_7) (rn 1 [(0, 2, 2, 0)] f0 [(15, .agg #[I p_2.Lo, I p_2.Hi])] (l1 (cl 16 (z_interval_Valid F p_2 _ hy_8) hT trivial (rn 3 [] f0 [(19, B (!v_8))] (sb 19 (nt h_9) (rn 2 [(0, 4, 3, 0)] f0 [(21, .agg #[I p_1.ID, I p_1.Ts, .slice p_1.Reads_A p_1.Reads.length p_1.Reads_c, .slice p_1.Writes_A p_1.Writes.length p_1.Writes_c])] (l1 (cl 22 (z_commit_work_formed F (⟨p_1⟩ : Kcommit_workL) _ hy_10) hT ⟨(((gm (KTxL.ok p_1) 6 fun _ _ h => h)).m fun _ _ h => ⟨h⟩).a, trivial⟩ (rn 3 [] f0 [(25, B (!v_10))] (sb 25 (nf h_11) (ra [] f0 [(29, B true)] (tN (fg (KLeaderL.ok p_0) 5 (fun _ _ h => h.f_Store) (fg (KLeaderL.ok p_0) 6 (fun _ _ h => h.f_Open) (fg (KTxL.ok p_1) 8 (fun _ _ h => h.f_Reads) (fg (KTxL.ok p_1) 9 (fun _ _ h => h.f_Writes) (fun _ _ S k e => ⟨true, S, k.wk, e.sel [3, 2, 1, 0, 4, 5, 6, 7, 8], oi hG⟩))))))))))))))))))))))
   ·exact rg (rn 1 [(0, 3, 4, 0)] f0 [(11, .agg #[I p_0.Last, .slice p_0.Store_A p_0.Store.length p_0.Store_c, .slice p_0.Open_A p_0.Open.length p_0.Open_c])] (l1 (cl 12 (z_commit_Valid F p_0 _ hy_6) hT ⟨(gi 5).a, trivial⟩ (rn 2 [] f0 [(14, B (!v_6))] (sb 14 (nt h_7) (rn 1 [(0, 2, 2, 0)] f0 [(15, .agg #[I p_2.Lo, I p_2.Hi])] (l1 (cl 16 (z_interval_Valid F p_2 _ hy_8) hT trivial (rn 3 [] f0 [(19, B (!v_8))] (sb 19 (nf h_9) (ra [] f0 [(29, B true)] (tN (fg (KLeaderL.ok p_0) 5 (fun _ _ h => h.f_Store) (fg (KLeaderL.ok p_0) 6 (fun _ _ h => h.f_Open) (fg (KTxL.ok p_1) 8 (fun _ _ h => h.f_Reads) (fg (KTxL.ok p_1) 9 (fun _ _ h => h.f_Writes) (fun _ _ S k e => ⟨true, S, k.wk, e.sel [3, 2, 1, 0, 4, 5, 6, 7, 8], oi hG⟩)))))))))))))))))
  ·exact rg (rn 1 [(0, 3, 4, 0)] f0 [(11, .agg #[I p_0.Last, .slice p_0.Store_A p_0.Store.length p_0.Store_c, .slice p_0.Open_A p_0.Open.length p_0.Open_c])] (l1 (cl 12 (z_commit_Valid F p_0 _ hy_6) hT ⟨(gi 5).a, trivial⟩ (rn 2 [] f0 [(14, B (!v_6))] (sb 14 (nf h_7) (ra [] f0 [(29, B true)] (tN (fg (KLeaderL.ok p_0) 5 (fun _ _ h => h.f_Store) (fg (KLeaderL.ok p_0) 6 (fun _ _ h => h.f_Open) (fg (KTxL.ok p_1) 8 (fun _ _ h => h.f_Reads) (fg (KTxL.ok p_1) 9 (fun _ _ h => h.f_Writes) (fun _ _ S k e => ⟨true, S, k.wk, e.sel [3, 2, 1, 0, 4, 5, 6, 7, 8], oi hG⟩))))))))))))
 ·rintro a w ⟨v_13, hJ⟩; refine hJ.go fun ho_ => ?_
  clear hJ; subst ho_; replace hG := hG_12; rcases ic hG with ⟨h_14, hG⟩ | ⟨h_14, hG⟩
  ·refine sb 29 (bt h_14) (ct (sq ?_)); obtain ⟨v_15o, v_16o, v_17, hy_15, hG⟩ := b3 hG; refine rg (rn 1 [] f0 [(30, .func (.func 44) #[] #[])] (l1 (cn 31 (z_commit_Stamp_1 F 1 _ hy_15) hT (fun _ => (mc KLeaderL.mv (mc KTxL.mv m0))) trivial ?_))); rintro ⟨v_15, v_16⟩ ⟨hq_15, hq_16⟩; obtain rfl : v_15.p = v_15o := hq_15.symm; obtain rfl : v_16.p = v_16o := hq_16.symm
   try simp only [List.length_map, KLeaderL.n_Open] at hG
   refine rn 3 [] f0 (ns 32 [.agg #[I v_15.Last, .slice v_15.Store_A v_15.Store.length v_15.Store_c, .slice v_15.Open_A v_15.Open.length v_15.Open_c], .agg #[I v_16.ID, I v_16.Ts, .slice v_16.Reads_A v_16.Reads.length v_16.Reads_c, .slice v_16.Writes_A v_16.Writes.length v_16.Writes_c], I v_17]) (l1 (sr 7 g_4 (ns 0 [I v_15.Last, .slice v_15.Store_A v_15.Store.length v_15.Store_c, .slice v_15.Open_A v_15.Open.length v_15.Open_c]) (l1 (sr 6 g_5 (ns 0 [I v_16.ID, I v_16.Ts, .slice v_16.Reads_A v_16.Reads.length v_16.Reads_c, .slice v_16.Writes_A v_16.Writes.length v_16.Writes_c]) (ra [] f0 [(8, I v_17)] (tN (kR (tR ?_)))))))); obtain rfl := oi hG; exact rtn [(7, 0, 3), (6, 0, 4)] (v_15, v_16) ⟨rfl, rfl⟩ ⟨(gi 0), (gi 1), trivial⟩
  ·refine sb 29 (bf h_14) (cf (kS (tN (sq ?_)))); obtain ⟨v_148o, hy_149, hG⟩ := bs hG; refine rg (rn 1 [(0, 3, 8, 0)] f0 [(35, .agg #[I p_0.Last, .slice p_0.Store_A p_0.Store.length p_0.Store_c, .slice p_0.Open_A p_0.Open.length p_0.Open_c])] (l1 (ci 36 (args := [.agg #[I p_0.Last, .slice p_0.Store_A p_0.Store.length p_0.Store_c, .slice p_0.Open_A p_0.Open.length p_0.Open_c]]) (fun E e w => ∃ (g_147 : Nat) (v_148 : List (Int × Int)), Rs S0 w0 (.map (some g_147)) ([.mp g_147 (mpM (Value.int .i64) v_148)] ++ se E [0, 1, 2, 3, 4, 5, 6, 7, 8]) (v_148 = v_148o) e w) Try.func46 rfl rfl ?_ ?_)))
   ·replace hG := hy_149
    try simp only [List.length_map, KLeaderL.n_Open] at hG
    refine sq (rg (l1 (nw 1 vp [I p_0.Last, .slice p_0.Store_A p_0.Store.length p_0.Store_c, .slice p_0.Open_A p_0.Open.length p_0.Open_c] 40 fun g_151 => ra [] f0 [] (tN (sq (rg (l1 (mm 10 fun g_152 => ra [] f0 [(3, .map (some g_152))] (tN ?_))))))))); replace hG := bs hG; obtain ⟨o_177, hG, hG_177⟩ := hG; refine jn (fun K E a w => ∃ v_178 : List (Int × Int), Js S0 w0 51 (K) ([.mp g_152 (mpM (Value.int .i64) v_178)] ++ se E [1, 2, 3, 4, 5, 6, 7, 8, 9, 10]) (v_178 = o_177) a w) ?_ ?_
    ·refine sq (rg (ra [(1, 1, 1, 1)] f0 (ns 12 [.slice p_0.Store_A p_0.Store.length p_0.Store_c, I ((p_0.Store.length : Nat) : Int), I 0]) (tN (bk ?_)))); obtain ⟨e_169, hL, hG_169⟩ := bs hG; clear hG; obtain ⟨stp_169, hs_169, hL⟩ := iter_gen hL; refine lp (fun K E n_ a w => ∃ (v_167 : Int) (v_168 : List (Int × Int)), Js S0 w0 51 ([(14, I v_167)] ++ K) ([.mp g_152 (mpM (Value.int .i64) v_168)] ++ se E [1, 2, 3, 4, 5, 6, 7, 8, 9, 10]) (iter stp_169 n_ (v_167, v_168) = some e_169) a w) F ?_ ?_
     ·exact fun _ _ S k e => ⟨0, ([] : List (Int × Int)), S, k.wk, e.sel [0, 1, 2, 3, 4, 5, 6, 7, 8, 9, 10], hL⟩
     ·clear hL; rintro n_169 a w ⟨v_167, v_168, hJ⟩; refine hJ.go fun hL => ?_
      clear hJ; obtain ⟨m_169, o_169, rfl, hG, hO1_169, hO2_169⟩ := iter_step hL; clear hL; rw [hs_169] at hG
      try simp only [List.length_map, KLeaderL.n_Open] at hG
      refine sq (rg (ra [] f0 [(15, B (decide (v_167 < ((p_0.Store.length : Nat) : Int))))] (tN (sq ?_)))); replace hG := ic hG; rcases hG with ⟨h_170, hG⟩ | ⟨h_170, hG⟩
      ·try simp only [List.length_map, KLeaderL.n_Open] at h_170
       refine sb 15 (bt h_170) (ct (kS (tN (sq (bk (sq ?_)))))); replace hG := bs hG; obtain ⟨v_171, hy_171, hG⟩ := hG; refine rg (fx inf38 (gd' (RowC p_0.Store_A p_0.Store_c KVersion.cells tr p_0.Store) 2) hy_171 fun b_172 o_173 hi_171 => rn 2 [(0, 0, 0, 0), (0, 4, 0, 0)] (fc (hi_171 .i64) f0) [(17, .agg #[I v_171.Key, I v_171.Ts, I v_171.Value, B v_171.Gone])] (l1 (nw 5 vp [I 0, I 0, I 0, B false] 61 fun g_174 => l1 (sr 0 g_174 (ns 0 [I v_171.Key, I v_171.Ts, I v_171.Value, B v_171.Gone]) (nl (tN ?_)))))); replace hG := bs hG; obtain ⟨v_175, hy_175, hG⟩ := hG; exact rg (rn 6 [(2, 1, 0, 0), (2, 1, 0, 0)] f0 [(18, .map (some g_152)), (20, I v_171.Key), (21, .map (some g_152)), (23, I v_171.Key)] (l1 (mo (f := (Value.int .i64)) 24 2 g_152 v_168 v_171.Key 0 Try.underlying91 Try.underlying3 (fun w => by kernel_rfl) (rn 3 [(1, 1, 0, 1)] f0 [(27, I (if v_171.Ts > (mpG v_168 v_171.Key 0) then v_171.Ts else (mpG v_168 v_171.Key 0)))] (sb 27 (v := I (if v_171.Ts > (mpG v_168 v_171.Key 0) then v_171.Ts else (mpG v_168 v_171.Key 0))) (v' := I (max (mpG v_168 v_171.Key 0) v_171.Ts)) (congrArg (Value.int .i64) (by omega)) (l1 (mur (f := (Value.int .i64)) 2 g_152 v_168 v_171.Key (max (mpG v_168 v_171.Key 0) v_171.Ts) hy_175 Try.underlying91 Try.underlying3 (nl (hN (tN (rg (ra [] f0 [(14, I (IntKind.i64.wrap (v_167 + 1)))] (tN (fun a w S hK hE => ⟨m_169, ⟨IntKind.i64.wrap (v_167 + 1), v_175, S, hK.wk, hE.sel [2, 3, 4, 5, 6, 7, 8, 9, 10, 11, 12], hO1_169 _ (oi hG).symm⟩, Nat.lt_succ_self _⟩))))))))))))))
      ·try simp only [List.length_map, KLeaderL.n_Open] at h_170
       refine sb 15 (bf h_170) (cf (kX (tX (tX ?_)))); have he_ := hO2_169 _ (oi hG).symm; subst he_; replace hG := hG_169
       try simp only [List.length_map, KLeaderL.n_Open] at hG
       exact hH (tN (fun _ _ S k e => ⟨v_168, S, k.wk, e.sel [0, 1, 2, 3, 4, 5, 6, 7, 8, 9, 10], oi hG⟩))
    ·rintro a w ⟨v_178, hJ⟩; refine hJ.go fun ho_ => ?_
     clear hJ; subst ho_; replace hG := hG_177
     try simp only [List.length_map, KLeaderL.n_Open] at hG
     replace hG := bs hG; obtain ⟨o_278, hG, hG_278⟩ := hG; refine jn (fun K E a w => ∃ v_279 : List (Int × Int), Js S0 w0 51 (K) ([.mp g_152 (mpM (Value.int .i64) v_279)] ++ se E [2, 3, 4, 5, 6, 7, 8, 9, 10]) (v_279 = o_278) a w) ?_ ?_
     ·refine sq (rg (ra [(1, 1, 1, 2)] f0 (ns 30 [.slice p_0.Open_A p_0.Open.length p_0.Open_c, I ((p_0.Open.length : Nat) : Int), I 0]) (tN (bk ?_)))); obtain ⟨e_245, hL, hG_245⟩ := bs hG; clear hG; obtain ⟨stp_245, hs_245, hL⟩ := iter_gen hL; refine lp (fun K E n_ a w => ∃ (v_243 : List (Int × Int)) (v_244 : Int), Js S0 w0 51 ([(32, I v_244)] ++ K) ([.mp g_152 (mpM (Value.int .i64) v_243)] ++ se E [2, 3, 4, 5, 6, 7, 8, 9, 10]) (iter stp_245 n_ (v_243, v_244) = some e_245) a w) F ?_ ?_
      ·exact fun _ _ S k e => ⟨v_178, 0, S, k.wk, e.sel [0, 2, 3, 4, 5, 6, 7, 8, 9, 10], hL⟩
      ·clear hL; rintro n_245 a w ⟨v_243, v_244, hJ⟩; refine hJ.go fun hL => ?_
       clear hJ; obtain ⟨m_245, o_245, rfl, hG, hO1_245, hO2_245⟩ := iter_step hL; clear hL; rw [hs_245] at hG
       try simp only [List.length_map, KLeaderL.n_Open] at hG
       refine sq (rg (ra [] f0 [(33, B (decide (v_244 < ((p_0.Open.length : Nat) : Int))))] (tN (sq ?_)))); replace hG := ic hG; rcases hG with ⟨h_246, hG⟩ | ⟨h_246, hG⟩
       ·try simp only [List.length_map, KLeaderL.n_Open] at h_246
        refine sb 33 (bt h_246) (ct (kS (tN ?_))); replace hG := bs hG; obtain ⟨o_275, hG, hG_275⟩ := hG; refine jn (fun K E a w => ∃ v_276 : List (Int × Int), Js S0 w0 51 (K) ([.mp g_152 (mpM (Value.int .i64) v_276)] ++ se E [1, 2, 3, 4, 5, 6, 7, 8, 9]) (v_276 = o_275) a w) ?_ ?_
        ·refine bk (sq ?_); replace hG := bs hG; obtain ⟨v_247o, hy_247, hG⟩ := hG; refine rg (fxn (p := KTxL.p) inf30 (gd' (RowC p_0.Open_A p_0.Open_c KTxL.cells KTxL.ok p_0.Open) 2) hy_247 fun v_247 b_248 o_249 he_247 hi_247 => ?_); subst he_247
         try simp only [List.length_map, KLeaderL.n_Open] at hG
         refine rn 2 [(0, 0, 0, 0), (0, 4, 0, 0)] (fc (hi_247 .i64) f0) [(35, .agg #[I v_247.ID, I v_247.Ts, .slice v_247.Reads_A v_247.Reads.length v_247.Reads_c, .slice v_247.Writes_A v_247.Writes.length v_247.Writes_c])] (l1 (nw 7 vp (KTxL.cells KTxL.z) 26 fun g_250 => l1 (sr 0 g_250 (ns 0 [I v_247.ID, I v_247.Ts, .slice v_247.Reads_A v_247.Reads.length v_247.Reads_c, .slice v_247.Writes_A v_247.Writes.length v_247.Writes_c]) (nl (tN (sq (rg (ra [(1, 1, 0, 3)] f0 (ns 37 [.slice v_247.Writes_A v_247.Writes.length v_247.Writes_c, I ((v_247.Writes.length : Nat) : Int), I 0]) (tN (bk ?_)))))))))); obtain ⟨e_267, hL, hG_267⟩ := bs hG; clear hG; obtain ⟨stp_267, hs_267, hL⟩ := iter_gen hL; refine lp (fun K E n_ a w => ∃ (v_265 : List (Int × Int)) (v_266 : Int), Js S0 w0 51 ([(39, I v_266)] ++ K) ([.mp g_152 (mpM (Value.int .i64) v_265), .dat (RowC v_247.Writes_A v_247.Writes_c KWrite.cells tr v_247.Writes), .dat (RowC v_247.Reads_A v_247.Reads_c KSeen.cells tr v_247.Reads)] ++ se E [0, 4, 5, 6, 7, 8, 9, 10, 11, 12]) (iter stp_267 n_ (v_265, v_266) = some e_267) a w) F ?_ ?_
         ·exact fg (KTxL.ok v_247) 2 (fun _ _ h => h.f_Writes) (fg (KTxL.ok v_247) 3 (fun _ _ h => h.f_Reads) (fun _ _ S k e => ⟨v_243, 0, S, k.wk, e.sel [5, 1, 0, 2, 6, 7, 8, 9, 10, 11, 12, 13, 14], hL⟩))
         ·clear hL; rintro n_267 a w ⟨v_265, v_266, hJ⟩; refine hJ.go fun hL => ?_
          clear hJ; obtain ⟨m_267, o_267, rfl, hG, hO1_267, hO2_267⟩ := iter_step hL; clear hL; rw [hs_267] at hG
          try simp only [List.length_map, KLeaderL.n_Open] at hG
          refine sq (rg (ra [] f0 [(40, B (decide (v_266 < ((v_247.Writes.length : Nat) : Int))))] (tN (sq ?_)))); replace hG := ic hG; rcases hG with ⟨h_268, hG⟩ | ⟨h_268, hG⟩
          ·try simp only [List.length_map, KLeaderL.n_Open] at h_268
           refine sb 40 (bt h_268) (ct (kS (tN (sq (bk (sq ?_)))))); replace hG := bs hG; obtain ⟨v_269, hy_269, hG⟩ := hG; refine rg (fx inf24 (gd' (RowC v_247.Writes_A v_247.Writes_c KWrite.cells tr v_247.Writes) 1) hy_269 fun b_270 o_271 hi_269 => rn 2 [(0, 0, 0, 0), (0, 3, 0, 0)] (fc (hi_269 .i64) f0) [(42, .agg #[I v_269.Key, I v_269.Value, B v_269.Gone])] (l1 (nw 9 vp [I 0, I 0, B false] 66 fun g_272 => l1 (sr 0 g_272 (ns 0 [I v_269.Key, I v_269.Value, B v_269.Gone]) (nl (tN ?_)))))); replace hG := bs hG; obtain ⟨v_273, hy_273, hG⟩ := hG; exact rg (rn 5 [(2, 1, 0, 0), (1, 1, 5, 1)] f0 [(43, .map (some g_152)), (45, I v_269.Key), (47, I v_247.Ts)] (l1 (mur (f := (Value.int .i64)) 2 g_152 v_265 v_269.Key v_247.Ts hy_273 Try.underlying91 Try.underlying3 (nl (hN (tN (rg (ra [] f0 [(39, I (IntKind.i64.wrap (v_266 + 1)))] (tN (fun a w S hK hE => ⟨m_267, ⟨v_273, IntKind.i64.wrap (v_266 + 1), S, hK.wk, hE.sel [2, 3, 4, 5, 6, 7, 8, 9, 10, 11, 12, 13, 14], hO1_267 _ (oi hG).symm⟩, Nat.lt_succ_self _⟩))))))))))
          ·try simp only [List.length_map, KLeaderL.n_Open] at h_268
           refine sb 40 (bf h_268) (cf (kX (tX (tX ?_)))); have he_ := hO2_267 _ (oi hG).symm; subst he_; replace hG := hG_267
           try simp only [List.length_map, KLeaderL.n_Open] at hG
           exact hH (hN (tN (fun _ _ S k e => ⟨v_265, S, k.wk, e.sel [0, 4, 5, 6, 7, 8, 9, 10, 11, 12], oi hG⟩)))
        ·rintro a w ⟨v_276, hJ⟩; refine hJ.go fun ho_ => ?_
         clear hJ; subst ho_; replace hG := hG_275
         try simp only [List.length_map, KLeaderL.n_Open] at hG
         exact rg (ra [] f0 [(32, I (IntKind.i64.wrap (v_244 + 1)))] (tN (fun a w S hK hE => ⟨m_245, ⟨v_276, IntKind.i64.wrap (v_244 + 1), S, hK.wk, hE.sel [0, 1, 2, 3, 4, 5, 6, 7, 8, 9], hO1_245 _ (oi hG).symm⟩, Nat.lt_succ_self _⟩)))
       ·try simp only [List.length_map, KLeaderL.n_Open] at h_246
        refine sb 33 (bf h_246) (cf (kX (tX (tX ?_)))); have he_ := hO2_245 _ (oi hG).symm; subst he_; replace hG := hG_245
        try simp only [List.length_map, KLeaderL.n_Open] at hG
        exact hH (tN (fun _ _ S k e => ⟨v_243, S, k.wk, e.sel [0, 1, 2, 3, 4, 5, 6, 7, 8, 9], oi hG⟩))
     ·rintro a w ⟨v_279, hJ⟩; refine hJ.go fun ho_ => ?_
      clear hJ; subst ho_; replace hG := hG_278
      try simp only [List.length_map, KLeaderL.n_Open] at hG
      exact sq (rg (ra [] f0 [(2, .map (some g_152))] (tN (kR (ri [] (.map (some g_152)) (fun a w S hK hE => ⟨g_152, v_279, rfl, ⟨S, hE.sel [0, 1, 2, 3, 4, 5, 6, 7, 8, 9]⟩, oi hG⟩))))))
   ·rintro e w ⟨g_147, v_148, hJ⟩; refine hJ.go fun ho_ => ?_
    clear hJ; subst ho_; refine l1 (nw 10 vp [.map none] 91 fun g_150 => l1 (sr 0 g_150 [(0, .map (some g_147))] (nl (tN (sq (sq ?_)))))); replace hG := bs hG; obtain ⟨v_342o, hy_343, hG⟩ := hG; refine rg (rn 3 [(1, 1, 9, 2)] f0 [(38, .slice p_1.Reads_A p_1.Reads.length p_1.Reads_c), (39, .func (.func 48) #[] #[Pt g_150 0])] (l1 (ci 40 (args := [.slice p_1.Reads_A p_1.Reads.length p_1.Reads_c, .func (.func 48) #[] #[Pt g_150 0]]) (fun E e w => ∃ v_342 : Bool, Rs S0 w0 (B v_342) (se E [0, 1, 2, 3, 4, 5, 6, 7, 8, 9, 10]) (v_342 = v_342o) e w) Try.func47 rfl rfl ?_ ?_)))
    ·replace hG := hy_343
     try simp only [List.length_map, KLeaderL.n_Open] at hG
     refine sq (rg (ra [] f0 [] (tN (sq ?_)))); replace hG := bs hG; obtain ⟨v_374o, hy_375, hG⟩ := hG; refine rg (rn 2 [] f0 [(5, .slice p_1.Reads_A p_1.Reads.length p_1.Reads_c), (6, .func (.func 48) #[] #[Pt g_150 0])] (l1 (ci 7 (args := [.slice p_1.Reads_A p_1.Reads.length p_1.Reads_c, .func (.func 48) #[] #[Pt g_150 0]]) (fun E e w => ∃ v_374 : Int, Rs S0 w0 (I v_374) (se E [0, 1, 2, 3, 4, 5, 6, 7, 8, 9, 10]) (v_374 = v_374o) e w) Try.func73 rfl rfl ?_ ?_)))
     ·replace hG := hy_375
      try simp only [List.length_map, KLeaderL.n_Open] at hG
      refine sq (rg (ra [] f0 [] (tN ?_))); replace hG := bs hG; obtain ⟨o_404, hG, hG_404⟩ := hG; refine jn (fun K E a w => Js S0 w0 19 (K) (se E [0, 1, 2, 3, 4, 5, 6, 7, 8, 9, 10]) (.inl () = o_404) a w) ?_ ?_
      ·refine sq (rg (ra [] f0 [(7, I ((p_1.Reads.length : Nat) : Int)), (8, I 0)] (tN (bk ?_)))); obtain ⟨e_394, hL, hG_394⟩ := bs hG; clear hG; obtain ⟨stp_394, hs_394, hL⟩ := iter_gen hL; refine lp (fun K E n_ a w => ∃ v_393 : Int, Js S0 w0 19 ([(8, I v_393)] ++ K) (se E [0, 1, 2, 3, 4, 5, 6, 7, 8, 9, 10]) (iter stp_394 n_ v_393 = some e_394) a w) F ?_ ?_
       ·exact fun _ _ S k e => ⟨0, S, k.wk, e.sel [0, 1, 2, 3, 4, 5, 6, 7, 8, 9, 10], hL⟩
       ·clear hL; rintro n_394 a w ⟨v_393, hJ⟩; refine hJ.go fun hL => ?_
        clear hJ; obtain ⟨m_394, o_394, rfl, hG, hO1_394, hO2_394⟩ := iter_step hL; clear hL; rw [hs_394] at hG; refine sq (rg (ra [] f0 [(9, B (decide (v_393 < ((p_1.Reads.length : Nat) : Int))))] (tN (sq ?_)))); replace hG := ic hG; rcases hG with ⟨h_395, hG⟩ | ⟨h_395, hG⟩
        ·try simp only [List.length_map, KLeaderL.n_Open] at h_395
         refine sb 9 (bt h_395) (ct (kS (tN (sq (bk (sq (rg (ra [] f0 [(5, I v_393)] (tN (sq ?_)))))))))); replace hG := bs hG; obtain ⟨v_396, hy_396, hG⟩ := hG; replace hG := bs hG; obtain ⟨⟨⟩, hy_400, hG⟩ := hG; refine rg (fx inf23 (gd' (RowC p_1.Reads_A p_1.Reads_c KSeen.cells tr p_1.Reads) 4) hy_396 fun b_397 o_398 hi_396 => rn 5 [(3, 0, 0, 0), (0, 2, 0, 0)] (fc (hi_396 .i64) f0) [(11, .func (.func 48) #[] #[Pt g_150 0]), (15, .agg #[I v_396.Key, I v_396.Ts])] (l1 (ci 16 (args := [.agg #[I v_396.Key, I v_396.Ts], Pt g_150 0]) (fun E e w => Rs S0 w0 (B (!((mpG v_148 v_396.Key 0) == v_396.Ts))) (se E [0, 1, 2, 3, 4, 5, 6, 7, 8, 9, 10, 11]) (() = ()) e w) Try.func48 rfl rfl ?_ ?_)))
         ·replace hG := hy_400
          try (simp only [List.length_map, KLeaderL.n_Open] at hG; replace hG : _ = _ := hG)
          exact sq (rg (l1 (nw 2 vp [I v_396.Key, I v_396.Ts] 95 fun g_401 => ra [] f0 [] (tN (sq (rg (rn 3 [(0, 1, 2, 0), (1, 1, 0, 0)] f0 [(4, .map (some g_147)), (6, I v_396.Key)] (l1 (mo (f := (Value.int .i64)) 7 3 g_147 v_148 v_396.Key 0 Try.underlying91 Try.underlying3 (fun w => by kernel_rfl) (ra [(1, 1, 0, 1)] f0 [(3, B (!((mpG v_148 v_396.Key 0) == v_396.Ts)))] (tN (kR (ri [] (B (!((mpG v_148 v_396.Key 0) == v_396.Ts))) (fun a w S hK hE => ⟨rfl, ⟨S, hE.sel [1, 2, 3, 4, 5, 6, 7, 8, 9, 10, 11, 12]⟩, oi hG⟩))))))))))))))
         ·rintro e w hJ; refine hJ.go fun ho_ => ?_
          clear hJ; refine nl (tN ?_); replace hG := ic hG; rcases hG with ⟨h_402, hG⟩ | ⟨h_402, hG⟩
          ·exact sb 16 (nt h_402) (cf (kS (hN (tN (rg (ra [] f0 [(8, I (IntKind.i64.wrap (v_393 + 1)))] (tN (fun a w S hK hE => ⟨m_394, ⟨IntKind.i64.wrap (v_393 + 1), S, hK.wk, hE.sel [1, 2, 3, 4, 5, 6, 7, 8, 9, 10, 11], hO1_394 _ (oi hG).symm⟩, Nat.lt_succ_self _⟩))))))))
          ·refine sb 16 (nf h_402) (ct (sq (rg (ra [] f0 [(4, I v_393)] (tN (kR (hR (tR (tR ?_))))))))); have he_ := hO2_394 _ (oi hG).symm; subst he_; replace hG := hG_394; refine hR (tR ?_); obtain rfl := oi hG; replace hG := hG_404; exact ri [] (I v_393) (fun a w S hK hE => ⟨v_393, rfl, ⟨S, hE.sel [1, 2, 3, 4, 5, 6, 7, 8, 9, 10, 11]⟩, oi hG⟩)
        ·try simp only [List.length_map, KLeaderL.n_Open] at h_395
         refine sb 9 (bf h_395) (cf (kX (tX (tX ?_)))); have he_ := hO2_394 _ (oi hG).symm; subst he_; replace hG := hG_394; exact hH (tN (fun _ _ S k e => ⟨S, k.wk, e.sel [0, 1, 2, 3, 4, 5, 6, 7, 8, 9, 10], oi hG⟩))
      ·rintro a w hJ; refine hJ.go fun ho_ => ?_
       clear hJ; subst ho_; replace hG := el hG_404; exact sq (rg (ra [] f0 [(4, I (-1))] (tN (kR (ri [] (I (-1)) (fun a w S hK hE => ⟨(-1), rfl, ⟨S, hE.sel [0, 1, 2, 3, 4, 5, 6, 7, 8, 9, 10]⟩, oi hG⟩))))))
     ·rintro e w ⟨v_374, hJ⟩; refine hJ.go fun ho_ => ?_
      clear hJ; subst ho_; exact ra [] f0 [(4, B (decide (v_374 ≥ 0)))] (tN (kR (ri [] (B (decide (v_374 ≥ 0))) (fun a w S hK hE => ⟨decide (v_374 ≥ 0), rfl, ⟨S, hE.sel [0, 1, 2, 3, 4, 5, 6, 7, 8, 9, 10]⟩, oi hG⟩))))
    ·rintro e w ⟨v_342, hJ⟩; refine hJ.go fun ho_ => ?_
     clear hJ; subst ho_; refine nl (tN ?_); replace hG := ic hG; rcases hG with ⟨h_406, hG⟩ | ⟨h_406, hG⟩
     ·refine sb 40 (bt h_406) (ct (sq ?_)); replace hG := b3 hG; obtain ⟨v_407o, v_408o, v_409, hy_407, hG⟩ := hG; refine rg (rn 1 [] f0 [(41, .func (.func 44) #[] #[])] (l1 (cn 42 (z_commit_Stamp_1 F 60 _ hy_407) hT (fun _ => (mc KLeaderL.mv (mc KTxL.mv m0))) trivial ?_))); rintro ⟨v_407, v_408⟩ ⟨hq_407, hq_408⟩; obtain rfl : v_407.p = v_407o := hq_407.symm; obtain rfl : v_408.p = v_408o := hq_408.symm
      try simp only [List.length_map, KLeaderL.n_Open] at hG
      refine rn 3 [] f0 (ns 43 [.agg #[I v_407.Last, .slice v_407.Store_A v_407.Store.length v_407.Store_c, .slice v_407.Open_A v_407.Open.length v_407.Open_c], .agg #[I v_408.ID, I v_408.Ts, .slice v_408.Reads_A v_408.Reads.length v_408.Reads_c, .slice v_408.Writes_A v_408.Writes.length v_408.Writes_c], I v_409]) (l1 (sr 9 g_4 (ns 0 [I v_407.Last, .slice v_407.Store_A v_407.Store.length v_407.Store_c, .slice v_407.Open_A v_407.Open.length v_407.Open_c]) (l1 (sr 8 g_5 (ns 0 [I v_408.ID, I v_408.Ts, .slice v_408.Reads_A v_408.Reads.length v_408.Reads_c, .slice v_408.Writes_A v_408.Writes.length v_408.Writes_c]) (ra [] f0 [(8, I v_409)] (tN (kR (tR ?_)))))))); obtain rfl := oi hG; exact rtn [(9, 0, 3), (8, 0, 4)] (v_407, v_408) ⟨rfl, rfl⟩ ⟨(gi 0), (gi 1), trivial⟩
     ·refine sb 40 (bf h_406) (cf (kS (tN (sq ?_)))); replace hG := bs hG; obtain ⟨o_412, hG, hG_412⟩ := hG; refine jn (fun K E a w => ∃ v_413 : Bool, Js S0 w0 95 ([(58, B v_413)] ++ K) (se E [2, 3, 4, 5, 6, 7, 8, 9, 10]) (v_413 = o_412) a w) ?_ ?_
      ·replace hG := ic hG; rcases hG with ⟨h_410, hG⟩ | ⟨h_410, hG⟩
       ·refine qb (qn 5 [(1, 1, 10, 2)] f0 [(50, B (((p_0.Open.length : Nat) : Int) == 2000))] ?_)
        try simp only [List.length_map, KLeaderL.n_Open] at h_410
        exact sb 50 (bt h_410) (qa [] f0 [(58, B true)] (tN (fun _ _ S k e => ⟨true, S, k.wk, e.sel [2, 3, 4, 5, 6, 7, 8, 9, 10], oi hG⟩)))
       ·replace hG := bs hG; obtain ⟨v_411, hy_411, hG⟩ := hG; refine qb (qn 5 [(1, 1, 10, 2)] f0 [(50, B (((p_0.Open.length : Nat) : Int) == 2000))] ?_)
        try simp only [List.length_map, KLeaderL.n_Open] at h_410
        exact sb 50 (bf h_410) (qn 1 [(0, 3, 10, 0)] f0 [(51, .agg #[I p_0.Last, .slice p_0.Store_A p_0.Store.length p_0.Store_c, .slice p_0.Open_A p_0.Open.length p_0.Open_c])] (qc 52 (z_commit_size F p_0 _ hy_411) hT ⟨((Fd.two ((gd' (RowC p_0.Store_A p_0.Store_c KVersion.cells tr p_0.Store) 2)) ((gd' (RowC p_0.Open_A p_0.Open_c KTxL.cells KTxL.ok p_0.Open) 3))).m fun _ _ h => ⟨h.1, h.2⟩).a, trivial⟩ (qa [(1, 1, 9, 3)] f0 [(58, B (decide ((IntKind.i64.wrap (v_411 + ((p_1.Writes.length : Nat) : Int))) > 4000)))] (tN (fun _ _ S k e => ⟨decide ((IntKind.i64.wrap (v_411 + ((p_1.Writes.length : Nat) : Int))) > 4000), S, k.wk, e.sel [2, 3, 4, 5, 6, 7, 8, 9, 10], oi hG⟩)))))
      ·rintro a w ⟨v_413, hJ⟩; refine hJ.go fun ho_ => ?_
       clear hJ; subst ho_; replace hG := hG_412; replace hG := ic hG; rcases hG with ⟨h_414, hG⟩ | ⟨h_414, hG⟩
       ·refine sb 58 (bt h_414) (ct (sq ?_)); replace hG := b3 hG; obtain ⟨v_415o, v_416o, v_417, hy_415, hG⟩ := hG; refine rg (rn 1 [] f0 [(59, .func (.func 44) #[] #[])] (l1 (cn 60 (z_commit_Stamp_1 F 2 _ hy_415) hT (fun _ => (mc KLeaderL.mv (mc KTxL.mv m0))) trivial ?_))); rintro ⟨v_415, v_416⟩ ⟨hq_415, hq_416⟩; obtain rfl : v_415.p = v_415o := hq_415.symm; obtain rfl : v_416.p = v_416o := hq_416.symm
        try simp only [List.length_map, KLeaderL.n_Open] at hG
        refine rn 3 [] f0 (ns 61 [.agg #[I v_415.Last, .slice v_415.Store_A v_415.Store.length v_415.Store_c, .slice v_415.Open_A v_415.Open.length v_415.Open_c], .agg #[I v_416.ID, I v_416.Ts, .slice v_416.Reads_A v_416.Reads.length v_416.Reads_c, .slice v_416.Writes_A v_416.Writes.length v_416.Writes_c], I v_417]) (l1 (sr 7 g_4 (ns 0 [I v_415.Last, .slice v_415.Store_A v_415.Store.length v_415.Store_c, .slice v_415.Open_A v_415.Open.length v_415.Open_c]) (l1 (sr 6 g_5 (ns 0 [I v_416.ID, I v_416.Ts, .slice v_416.Reads_A v_416.Reads.length v_416.Reads_c, .slice v_416.Writes_A v_416.Writes.length v_416.Writes_c]) (ra [] f0 [(8, I v_417)] (tN (kR (tR ?_)))))))); obtain rfl := oi hG; exact rtn [(7, 0, 3), (6, 0, 4)] (v_415, v_416) ⟨rfl, rfl⟩ ⟨(gi 0), (gi 1), trivial⟩
       ·refine sb 58 (bf h_414) (cf (kS (tN (sq ?_)))); replace hG := bs hG; obtain ⟨v_418o, hy_418, hG⟩ := hG; refine rg (rn 1 [(0, 4, 7, 0)] f0 [(64, .agg #[I p_1.ID, I p_1.Ts, .slice p_1.Reads_A p_1.Reads.length p_1.Reads_c, .slice p_1.Writes_A p_1.Writes.length p_1.Writes_c])] (l1 (cn 65 (z_commit_copied F p_1 _ hy_418) hT (fun _ => (mc KTxL.mv m0)) ⟨((Fd.two ((gd' (RowC p_1.Reads_A p_1.Reads_c KSeen.cells tr p_1.Reads) 2)) ((gd' (RowC p_1.Writes_A p_1.Writes_c KWrite.cells tr p_1.Writes) 3))).m fun _ _ h => ⟨h.1, h.2⟩), trivial⟩ ?_))); rintro v_418 hq_418; obtain rfl : v_418.p = v_418o := hq_418.symm
        try simp only [List.length_map, KLeaderL.n_Open] at hG
        refine l1 (sr 8 g_2 (ns 0 [I v_418.ID, I v_418.Ts, .slice v_418.Reads_A v_418.Reads.length v_418.Reads_c, .slice v_418.Writes_A v_418.Writes.length v_418.Writes_c]) (nl (tN (sq (rg (rn 6 [(1, 1, 9, 0), (2, 1, 7, 1)] f0 [(71, I (if p_2.Hi > (IntKind.i64.wrap (p_0.Last + 1)) then p_2.Hi else (IntKind.i64.wrap (p_0.Last + 1))))] (sb 71 (v := I (if p_2.Hi > (IntKind.i64.wrap (p_0.Last + 1)) then p_2.Hi else (IntKind.i64.wrap (p_0.Last + 1)))) (v' := I (max (IntKind.i64.wrap (p_0.Last + 1)) p_2.Hi)) (congrArg (Value.int .i64) (by omega)) (rn 1 [] f0 [(72, Pt g_2 1)] (l1 (sr 8 g_2 [(1, I (max (IntKind.i64.wrap (p_0.Last + 1)) p_2.Hi))] (nl (tN (sq (sq (rg (ra [(1, 1, 8, 1)] f0 [(75, B (decide ((max (IntKind.i64.wrap (p_0.Last + 1)) p_2.Hi) > 3000000000000000)))] (tN ?_))))))))))))))))); replace hG := ic hG; rcases hG with ⟨h_419, hG⟩ | ⟨h_419, hG⟩
        ·refine sb 75 (bt h_419) (ct (sq ?_)); replace hG := b3 hG; obtain ⟨v_420o, v_421o, v_422, hy_420, hG⟩ := hG; refine rg (rn 1 [] f0 [(76, .func (.func 44) #[] #[])] (l1 (cn 77 (z_commit_Stamp_1 F 3 _ hy_420) hT (fun _ => (mc KLeaderL.mv (mc KTxL.mv m0))) trivial ?_))); rintro ⟨v_420, v_421⟩ ⟨hq_420, hq_421⟩; obtain rfl : v_420.p = v_420o := hq_420.symm; obtain rfl : v_421.p = v_421o := hq_421.symm
         try simp only [List.length_map, KLeaderL.n_Open] at hG
         refine rn 3 [] f0 (ns 78 [.agg #[I v_420.Last, .slice v_420.Store_A v_420.Store.length v_420.Store_c, .slice v_420.Open_A v_420.Open.length v_420.Open_c], .agg #[I v_421.ID, I v_421.Ts, .slice v_421.Reads_A v_421.Reads.length v_421.Reads_c, .slice v_421.Writes_A v_421.Writes.length v_421.Writes_c], I v_422]) (l1 (sr 8 g_4 (ns 0 [I v_420.Last, .slice v_420.Store_A v_420.Store.length v_420.Store_c, .slice v_420.Open_A v_420.Open.length v_420.Open_c]) (l1 (sr 7 g_5 (ns 0 [I v_421.ID, I v_421.Ts, .slice v_421.Reads_A v_421.Reads.length v_421.Reads_c, .slice v_421.Writes_A v_421.Writes.length v_421.Writes_c]) (ra [] f0 [(8, I v_422)] (tN (kR (tR ?_)))))))); obtain rfl := oi hG; exact rtn [(8, 0, 3), (7, 0, 4)] (v_420, v_421) ⟨rfl, rfl⟩ ⟨(gi 0), (gi 1), trivial⟩
        ·refine sb 75 (bf h_419) (cf (kS (tN (sq ?_)))); replace hG := bs hG; obtain ⟨v_423, hy_423, hG⟩ := hG; replace hG := bs hG; obtain ⟨v_464o, hy_467, hG⟩ := hG; replace hG := bs hG; obtain ⟨v_468o, hy_468, hG⟩ := hG; replace hG := bs hG; obtain ⟨v_470o, hy_470, hG⟩ := hG; refine hb [1, 2, 3, 4, 7, 8, 9] (ht [1, 2, 3, 4, 7, 8, 9] [0, 1, 2, 3, 5, 6, 8, 13] [(1, 1, 5, 1), (1, 1, 6, 1), (1, 1, 6, 2), (0, 4, 5, 0), (0, 4, 5, 0)] f0 [(82, I (max (IntKind.i64.wrap (p_0.Last + 1)) p_2.Hi)), (84, .slice p_0.Store_A p_0.Store.length p_0.Store_c), (87, .slice p_0.Open_A p_0.Open.length p_0.Open_c), (89, .agg #[I v_418.ID, I (max (IntKind.i64.wrap (p_0.Last + 1)) p_2.Hi), .slice v_418.Reads_A v_418.Reads.length v_418.Reads_c, .slice v_418.Writes_A v_418.Writes.length v_418.Writes_c]), (94, .agg #[I v_418.ID, I (max (IntKind.i64.wrap (p_0.Last + 1)) p_2.Hi), .slice v_418.Reads_A v_418.Reads.length v_418.Reads_c, .slice v_418.Writes_A v_418.Writes.length v_418.Writes_c])] (ho [4] ⟨h1 (cln_KSapi_Version 85 p_0.Store_A p_0.Store_c p_0.Store (gd' (RowC p_0.Store_A p_0.Store_c KVersion.cells tr p_0.Store) 1).a (by first | simpa using (apG_some hy_423).1 | (have hh_ := (apG_some hy_423).1; rw [List.length_nil, Nat.zero_add] at hh_; exact hh_)) fun v_423_A v_423_c => hk [2, 3, 4, 5, 8, 9, 10] (ho [7] ⟨h1 (ci 88 (args := [.slice p_0.Open_A p_0.Open.length p_0.Open_c]) (fun E e w => ∃ (v_464 : List KTxL) (v_465_A : Option Addr) (v_466_c : Nat), Rs S0 w0 (.slice v_465_A v_464.length v_466_c) ([.dat (RowC v_418.Reads_A v_418.Reads_c KSeen.cells tr v_418.Reads), .dat (RowC v_418.Writes_A v_418.Writes_c KWrite.cells tr v_418.Writes), .own 26 4 (.slice v_465_A v_464.length v_466_c) v_464.length (v_464.flatMap KTxL.cells), .dat (Each KTxL.ok v_464)] ++ se E [0, 2, 3, 4, 5, 6, 7, 8, 9, 10]) ((v_464.map KTxL.p) = v_464o) e w) Try.func51 rfl rfl ?_ ?_), trivial⟩)), trivial⟩))
         ·replace hG := hy_467
          try simp only [List.length_map, KLeaderL.n_Open] at hG
          refine sq (rg (ra [] f0 [] (tN (sq (rg (ra [] f0 [(3, .slice none 0 0)] (tN ?_))))))); replace hG := bs hG; obtain ⟨o_507, hG, hG_507⟩ := hG; refine jn (fun K E a w => ∃ (v_508 : List KTxL) (v_509_A : Option Addr) (v_510_c : Nat), Js S0 w0 19 ([(3, .slice v_509_A v_508.length v_510_c)] ++ K) ([.dat (RowC v_418.Reads_A v_418.Reads_c KSeen.cells tr v_418.Reads), .dat (RowC v_418.Writes_A v_418.Writes_c KWrite.cells tr v_418.Writes), .own 26 4 (.slice v_509_A v_508.length v_510_c) v_508.length (v_508.flatMap KTxL.cells), .dat (Each KTxL.ok v_508)] ++ se E [0, 2, 3, 4, 5, 6, 7, 8, 9, 10]) ((v_508.map KTxL.p) = o_507) a w) ?_ ?_
          ·refine sq (rg (ra [] f0 (ns 6 [.slice p_0.Open_A p_0.Open.length p_0.Open_c, I ((p_0.Open.length : Nat) : Int), I 0]) (tN (bk ?_)))); obtain ⟨e_495, hL, hG_495⟩ := bs hG; clear hG; obtain ⟨stp_495, hs_495, hL⟩ := iter_gen hL; refine lp (fun K E n_ a w => ∃ (v_491 : List KTxL) (v_492_A : Option Addr) (v_493_c : Nat) (v_494 : Int), Js S0 w0 19 ([(3, .slice v_492_A v_491.length v_493_c), (8, I v_494)] ++ K) ([.dat (RowC v_418.Reads_A v_418.Reads_c KSeen.cells tr v_418.Reads), .dat (RowC v_418.Writes_A v_418.Writes_c KWrite.cells tr v_418.Writes), .own 26 4 (.slice v_492_A v_491.length v_493_c) v_491.length (v_491.flatMap KTxL.cells), .dat (Each KTxL.ok v_491)] ++ se E [0, 2, 3, 4, 5, 6, 7, 8, 9, 10]) (iter stp_495 n_ ((v_491.map KTxL.p), v_494) = some e_495) a w) F ?_ ?_
           ·exact fg (KTxL.ok v_418) 1 (fun _ _ h => h.f_Reads) (fg (KTxL.ok v_418) 2 (fun _ _ h => h.f_Writes) (on 26 4 (fm (Each KTxL.ok ([] : List KTxL)) e0 (fun _ _ S k e => ⟨([] : List KTxL), none, 0, 0, S, k.wk, e.sel [3, 2, 1, 0, 4, 6, 7, 8, 9, 10, 11, 12, 13, 14], hL⟩))))
           ·clear hL; rintro n_495 a w ⟨v_491, v_492_A, v_493_c, v_494, hJ⟩; refine hJ.go fun hL => ?_
            clear hJ; obtain ⟨m_495, o_495, rfl, hG, hO1_495, hO2_495⟩ := iter_step hL; clear hL; rw [hs_495] at hG
            try simp only [List.length_map, KLeaderL.n_Open] at hG
            refine sq (rg (ra [] f0 [(9, B (decide (v_494 < ((p_0.Open.length : Nat) : Int))))] (tN (sq ?_)))); replace hG := ic hG; rcases hG with ⟨h_496, hG⟩ | ⟨h_496, hG⟩
            ·try simp only [List.length_map, KLeaderL.n_Open] at h_496
             refine sb 9 (bt h_496) (ct (kS (tN (sq (bk (sq ?_)))))); replace hG := bs hG; obtain ⟨v_497o, hy_497, hG⟩ := hG; refine rg (fxn (p := KTxL.p) inf30 (gd' (RowC p_0.Open_A p_0.Open_c KTxL.cells KTxL.ok p_0.Open) 6) hy_497 fun v_497 b_498 o_499 he_497 hi_497 => ?_); subst he_497
             try simp only [List.length_map, KLeaderL.n_Open] at hG
             refine rn 2 [(0, 0, 0, 0), (0, 4, 0, 0)] (fc (hi_497 .i64) f0) [(11, .agg #[I v_497.ID, I v_497.Ts, .slice v_497.Reads_A v_497.Reads.length v_497.Reads_c, .slice v_497.Writes_A v_497.Writes.length v_497.Writes_c])] (l1 (nw 5 vp (KTxL.cells KTxL.z) 26 fun g_500 => l1 (sr 0 g_500 (ns 0 [I v_497.ID, I v_497.Ts, .slice v_497.Reads_A v_497.Reads.length v_497.Reads_c, .slice v_497.Writes_A v_497.Writes.length v_497.Writes_c]) (nl (tN ?_))))); replace hG := bs hG; obtain ⟨v_501o, hy_501, hG⟩ := hG; replace hG := bs hG; obtain ⟨v_503o, hy_503, hG⟩ := hG; refine rg (rn 2 [(1, 4, 0, 0)] f0 [(12, .slice v_492_A v_491.length v_493_c), (13, .agg #[I v_497.ID, I v_497.Ts, .slice v_497.Reads_A v_497.Reads.length v_497.Reads_c, .slice v_497.Writes_A v_497.Writes.length v_497.Writes_c])] (l1 (cn 14 (z_commit_copied F v_497 _ hy_501) hT (fun _ => (mc KTxL.mv m0)) ⟨(gi 2), trivial⟩ ?_))); rintro v_501 hq_501; obtain rfl : v_501.p = v_501o := hq_501.symm
             try simp only [List.length_map, KLeaderL.n_Open] at hG
             refine l1 (nw 15 (vs 1) [I v_501.ID, I v_501.Ts, .slice v_501.Reads_A v_501.Reads.length v_501.Reads_c, .slice v_501.Writes_A v_501.Writes.length v_501.Writes_c] 26 fun g_502 => l1 (apn (p := KTxL.p) (ok := KTxL.ok) 7 16 v_492_A v_493_c v_491 ([v_501] : List KTxL) inf30 (bA (f := KTxL.cells) (ok := tr) (l := ([v_501] : List KTxL)) g_502 0 et.a) (gd' (Each KTxL.ok v_491) 8) (ec (gi 1) e0) hy_503 KTxL.one fun v_503 v_503_A v_503_c he_503 _ => ?_)); subst he_503
             try simp only [List.length_map, KLeaderL.n_Open] at hG
             exact ra [] f0 [(3, .slice v_503_A v_503.length v_503_c)] (hN (tN (rg (ra [] f0 [(8, I (IntKind.i64.wrap (v_494 + 1)))] (tN (fun a w S hK hE => ⟨m_495, ⟨v_503, v_503_A, v_503_c, IntKind.i64.wrap (v_494 + 1), S, hK.wk, hE.sel [6, 7, 8, 0, 10, 11, 12, 13, 14, 15, 16, 17, 18, 19], hO1_495 _ (oi hG).symm⟩, Nat.lt_succ_self _⟩))))))
            ·try simp only [List.length_map, KLeaderL.n_Open] at h_496
             refine sb 9 (bf h_496) (cf (kX (tX (tX ?_)))); have he_ := hO2_495 _ (oi hG).symm; subst he_; replace hG := hG_495
             try simp only [List.length_map, KLeaderL.n_Open] at hG
             exact hH (tN (fun _ _ S k e => ⟨v_491, v_492_A, v_493_c, S, k.wk, e.sel [0, 1, 2, 3, 4, 5, 6, 7, 8, 9, 10, 11, 12, 13], oi hG⟩))
          ·rintro a w ⟨v_508, v_509_A, v_510_c, hJ⟩; refine hJ.go fun ho_ => ?_
           clear hJ; subst ho_; replace hG := hG_507
           try simp only [List.length_map, KLeaderL.n_Open] at hG
           exact sq (rg (ra [] f0 [(2, .slice v_509_A v_508.length v_510_c)] (tN (kR (ri [] (.slice v_509_A v_508.length v_510_c) (fun a w S hK hE => ⟨v_508, v_509_A, v_510_c, rfl, ⟨S, hE.sel [0, 1, 2, 3, 4, 5, 6, 7, 8, 9, 10, 11, 12, 13]⟩, oi hG⟩))))))
         ·rintro e w ⟨v_464, v_465_A, v_466_c, hJ⟩; refine hJ.go fun ho_ => ?_
          clear hJ; subst ho_; refine hk [5, 6, 7, 8, 11, 12, 13] (ho [9] ⟨h1 (cn 90 (z_commit_copied F (⟨v_418.ID, (max (IntKind.i64.wrap (p_0.Last + 1)) p_2.Hi), v_418.Reads_A, v_418.Reads_c, v_418.Reads, v_418.Writes_A, v_418.Writes_c, v_418.Writes⟩ : KTxL) _ hy_468) hT (fun _ => (mc KTxL.mv m0)) ⟨((Fd.two ((gd' (RowC v_418.Reads_A v_418.Reads_c KSeen.cells tr v_418.Reads) 0)) ((gd' (RowC v_418.Writes_A v_418.Writes_c KWrite.cells tr v_418.Writes) 1))).m fun _ _ h => ⟨h.1, h.2⟩), trivial⟩ ?_), trivial⟩); rintro v_468 hq_468; obtain rfl : v_468.p = v_468o := hq_468.symm
          try simp only [List.length_map, KLeaderL.n_Open] at hG
          refine hk [6, 7, 8, 9, 12, 13, 14] (ho [10] ⟨h1 (nw 91 (vs 1) [I v_468.ID, I v_468.Ts, .slice v_468.Reads_A v_468.Reads.length v_468.Reads_c, .slice v_468.Writes_A v_468.Writes.length v_468.Writes_c] 26 fun g_469 => hk [7, 8, 9, 10, 13, 14, 15] (ho [11] ⟨h1 (apn (p := KTxL.p) (ok := KTxL.ok) 4 92 v_465_A v_466_c v_464 ([v_468] : List KTxL) inf30 (bA (f := KTxL.cells) (ok := tr) (l := ([v_468] : List KTxL)) g_469 0 et.a) (gd' (Each KTxL.ok v_464) 5) (ec (gi 1) e0) hy_470 KTxL.one fun v_470 v_470_A v_470_c he_470 _ => ?_), trivial⟩)), trivial⟩); subst he_470
          try simp only [List.length_map, KLeaderL.n_Open] at hG
          refine hk [8, 9, 10, 11, 14, 15, 16] (ht [8, 9, 10, 11, 14, 15, 16] [12] [] f0 [(93, .agg #[I (max (IntKind.i64.wrap (p_0.Last + 1)) p_2.Hi), .slice v_423_A p_0.Store.length v_423_c, .slice v_470_A v_470.length v_470_c])] (ho [14] ⟨h1 (sr 13 g_4 (ns 0 [I (max (IntKind.i64.wrap (p_0.Last + 1)) p_2.Hi), .slice v_423_A p_0.Store.length v_423_c, .slice v_470_A v_470.length v_470_c]) (hk [8, 9, 10, 11, 14, 15, 16] (ho [15] ⟨h1 (sr 12 g_5 (ns 0 [I v_418.ID, I (max (IntKind.i64.wrap (p_0.Last + 1)) p_2.Hi), .slice v_418.Reads_A v_418.Reads.length v_418.Reads_c, .slice v_418.Writes_A v_418.Writes.length v_418.Writes_c]) (hk [8, 9, 10, 11, 14, 15, 16] (ht [8, 9, 10, 11, 14, 15, 16] [16] [] f0 [(8, I 0)] (he (tN (kR ?_)))))), trivial⟩))), trivial⟩)); obtain rfl := oi hG; exact so (A := v_423_A) (c := v_423_c) 7 KVersion.cells tr p_0.Store tr_mv et (so (A := v_470_A) (c := v_470_c) 5 KTxL.cells KTxL.ok v_470 KTxL.mv (gd' (Each KTxL.ok v_470) 0) (rtn [(13, 0, 3), (12, 0, 4)] ((⟨(max (IntKind.i64.wrap (p_0.Last + 1)) p_2.Hi), v_423_A, v_423_c, p_0.Store, v_470_A, v_470_c, v_470⟩ : KLeaderL), (⟨v_418.ID, (max (IntKind.i64.wrap (p_0.Last + 1)) p_2.Hi), v_418.Reads_A, v_418.Reads_c, v_418.Reads, v_418.Writes_A, v_418.Writes_c, v_418.Writes⟩ : KTxL)) ⟨rfl, rfl⟩ ⟨((Fd.two ((gd' (RowC v_423_A v_423_c KVersion.cells tr p_0.Store) 7)) ((gd' (RowC v_470_A v_470_c KTxL.cells KTxL.ok v_470) 5))).m fun _ _ h => ⟨h.1, h.2⟩), ((Fd.two ((gd' (RowC v_418.Reads_A v_418.Reads_c KSeen.cells tr v_418.Reads) 3)) ((gd' (RowC v_418.Writes_A v_418.Writes_c KWrite.cells tr v_418.Writes) 4))).m fun _ _ h => ⟨h.1, h.2⟩), trivial⟩))
def G_versions_last (F : Nat) (p_0 : List KVersion) (p_1 : Int) (p_2 : Int) : Option (KVersion) :=
  Option.bind (G_versions_upTo F p_0 p_1 p_2) (fun v_2 =>
  Option.bind (ifB (decide (v_2 > 0))
      (Option.bind (ixI p_0 (IntKind.i64.wrap (v_2 - 1))) (fun v_4 =>
      some (v_4.Key == p_1)))
      (some false) : Option (Bool)) (fun (v_8 : Bool) => 
    ifB (v_8)
      (Option.bind (ixI p_0 (IntKind.i64.wrap (v_2 - 1))) (fun v_10 =>
      some v_10))
      (some (⟨0, 0, 0, false⟩ : KVersion))))
set_option maxRecDepth 100000 in
set_option maxHeartbeats 16000000 in
theorem z_versions_last (F : Nat) (p_0_A : Option Addr) (p_0_c : Nat) (p_0 : List KVersion) (p_1 : Int) (p_2 : Int) (r : KVersion) (hG : G_versions_last F p_0 p_1 p_2 = some r) :
  Cf Try.prog 58 [.slice p_0_A p_0.length p_0_c, I p_1, I p_2] [RowC p_0_A p_0_c KVersion.cells tr p_0] (.agg #[I r.Key, I r.Ts, I r.Value, B r.Gone]) := by
 unfold G_versions_last at hG
 try simp only [List.length_map, KLeaderL.n_Open] at hG
 refine fi Try.func58 rfl rfl (mr tr_mv m0) fun S0 w0 hT => sq (rg (l1 (nw 6 vp [I 0, I 0, I 0, B false] 61 fun g_1 => nl (tN (sq (sq ?_))))))
 obtain ⟨v_2, hy_2, hG⟩ := bs hG; refine rg (rn 3 [] f0 (ns 8 [.slice p_0_A p_0.length p_0_c, I p_1, I p_2]) (l1 (cl 11 (z_versions_upTo F p_0_A p_0_c p_0 p_1 p_2 _ hy_2) hT ⟨ga 1, trivial⟩ (ra [] f0 [(7, I v_2)] (tN ?_))))); obtain ⟨o_7, hG, hG_7⟩ := bs hG; refine jn (fun K E a w => ∃ v_8 : Bool, Js S0 w0 30 ([(23, B v_8)] ++ K) (se E [0, 1]) (v_8 = o_7) a w) ?_ ?_
 ·rcases ic hG with ⟨h_3, hG⟩ | ⟨h_3, hG⟩
  ·obtain ⟨v_4, hy_4, hG⟩ := bs hG; exact rg (rn 3 [] f0 [(14, B (decide (v_2 > 0)))] (sb 14 (bt h_3) (fx inf38 (gd' (RowC p_0_A p_0_c KVersion.cells tr p_0) 1) hy_4 fun b_5 o_6 hi_4 => ra [(3, 0, 0, 0), (1, 1, 0, 0)] (fc (hi_4 .i64) f0) [(23, B (v_4.Key == p_1))] (tN (fun _ _ S k e => ⟨(v_4.Key == p_1), S, k.wk, e.sel [1, 2], oi hG⟩)))))
  ·exact rg (rn 3 [] f0 [(14, B (decide (v_2 > 0)))] (sb 14 (bf h_3) (ra [] f0 [(23, B false)] (tN (fun _ _ S k e => ⟨false, S, k.wk, e.sel [0, 1], oi hG⟩)))))
 ·rintro a w ⟨v_8, hJ⟩; refine hJ.go fun ho_ => ?_
  clear hJ; subst ho_; replace hG := hG_7; rcases ic hG with ⟨h_9, hG⟩ | ⟨h_9, hG⟩
  ·refine sb 23 (bt h_9) (ct (sq ?_)); obtain ⟨v_10, hy_10, hG⟩ := bs hG; refine rg (fx inf38 (gd' (RowC p_0_A p_0_c KVersion.cells tr p_0) 1) hy_10 fun b_11 o_12 hi_10 => rn 5 [(3, 0, 0, 0), (0, 4, 0, 0)] (fc (hi_10 .i64) f0) [(28, .agg #[I v_10.Key, I v_10.Ts, I v_10.Value, B v_10.Gone])] (l1 (sr 1 g_1 (ns 0 [I v_10.Key, I v_10.Ts, I v_10.Value, B v_10.Gone]) (nl (tN (kR (tR ?_))))))); obtain rfl := oi hG; exact rt [(1, 0, 4)]
  ·refine sb 23 (bf h_9) (cf (kS (tN (sq (rg (rn 1 [] f0 [(29, .agg #[I 0, I 0, I 0, B false])] (l1 (sr 0 g_1 (ns 0 [I 0, I 0, I 0, B false]) (nl (tN (kR ?_))))))))))); obtain rfl := oi hG; exact rt [(0, 0, 4)]
end Go.Proofs.Ytlfkgbideknkhaa
namespace Go.Proofs.Ytlfkgbideknkhaa
open Go.RowKit Go.Maps
def G_versions_At (F : Nat) (p_0 : List KVersion) (p_1 : Int) (p_2 : Int) : Option (KVersion × Bool × Int) :=
  Option.bind (Option.bind (G_versions_Valid F p_0) (fun v_2 =>
    ifB (v_2)
      (Option.bind (G_versions_isKey F p_1) (fun v_4 =>
      ifB (v_4)
        (Option.bind (G_versions_isStamp F p_2) (fun v_6 =>
        some (p_2, !v_6)))
        (some (p_2, true))))
      (some (p_2, true))) : Option ((Int × Bool))) (un2 fun (v_8 : Int) (v_9 : Bool) => 
    ifB (v_9)
      (some ((⟨0, 0, 0, false⟩ : KVersion), false, 1))
      (Option.bind (G_versions_last F p_0 p_1 v_8) (fun v_11 =>
      Option.bind (ifB (decide (v_11 = (⟨0, 0, 0, false⟩ : KVersion)))
          (some true)
          (some v_11.Gone) : Option (Bool)) (fun (v_15 : Bool) => 
        ifB (v_15)
          (some ((⟨0, 0, 0, false⟩ : KVersion), false, 0))
          (some (v_11, true, 0))))))
set_option maxRecDepth 100000 in
set_option maxHeartbeats 16000000 in
theorem z_versions_At (F : Nat) (p_0_A : Option Addr) (p_0_c : Nat) (p_0 : List KVersion) (p_1 : Int) (p_2 : Int) (r : KVersion × Bool × Int) (hG : G_versions_At F p_0 p_1 p_2 = some r) :
  Cf Try.prog 26 [.slice p_0_A p_0.length p_0_c, I p_1, I p_2] [RowC p_0_A p_0_c KVersion.cells tr p_0] (.tuple #[.agg #[I r.1.Key, I r.1.Ts, I r.1.Value, B r.1.Gone], B r.2.1, I r.2.2]) := by
 unfold G_versions_At at hG
 try simp only [List.length_map, KLeaderL.n_Open] at hG
 refine fi Try.func26 rfl rfl (mr tr_mv m0) fun S0 w0 hT => sq (rg (l1 (nw 6 vp [I 0, I 0, I 0, B false] 61 fun g_1 => ra [] f0 [] (tN (sq ?_)))))
 obtain ⟨o_7, hG, hG_7⟩ := bs hG; refine jn (fun K E a w => ∃ (v_8 : Int) (v_9 : Bool), Js S0 w0 37 ([(2, I v_8), (22, B v_9)] ++ K) (se E [0, 1]) ((v_8, v_9) = o_7) a w) ?_ ?_
 ·obtain ⟨v_2, hy_2, hG⟩ := bs hG; rcases ic hG with ⟨h_3, hG⟩ | ⟨h_3, hG⟩
  ·obtain ⟨v_4, hy_4, hG⟩ := bs hG; rcases ic hG with ⟨h_5, hG⟩ | ⟨h_5, hG⟩
   ·obtain ⟨v_6, hy_6, hG⟩ := bs hG; exact rg (rn 1 [] f0 [(10, .slice p_0_A p_0.length p_0_c)] (l1 (cl 11 (z_versions_Valid F p_0_A p_0_c p_0 _ hy_2) hT ⟨ga 1, trivial⟩ (rn 2 [] f0 [(13, B (!v_2))] (sb 13 (nt h_3) (rn 1 [] f0 [(14, I p_1)] (l1 (cl 15 (z_versions_isKey F p_1 _ hy_4) hT trivial (rn 3 [] f0 [(18, B (!v_4))] (sb 18 (nt h_5) (rn 1 [] f0 [(19, I p_2)] (l1 (cl 20 (z_versions_isStamp F p_2 _ hy_6) hT trivial (ra [] f0 [(22, B (!v_6))] (tN (fun _ _ S k e => ⟨p_2, !v_6, S, k.wk, e.sel [0, 1], oi hG⟩))))))))))))))))
   ·exact rg (rn 1 [] f0 [(10, .slice p_0_A p_0.length p_0_c)] (l1 (cl 11 (z_versions_Valid F p_0_A p_0_c p_0 _ hy_2) hT ⟨ga 1, trivial⟩ (rn 2 [] f0 [(13, B (!v_2))] (sb 13 (nt h_3) (rn 1 [] f0 [(14, I p_1)] (l1 (cl 15 (z_versions_isKey F p_1 _ hy_4) hT trivial (rn 3 [] f0 [(18, B (!v_4))] (sb 18 (nf h_5) (ra [] f0 [(22, B true)] (tN (fun _ _ S k e => ⟨p_2, true, S, k.wk, e.sel [0, 1], oi hG⟩)))))))))))))
  ·exact rg (rn 1 [] f0 [(10, .slice p_0_A p_0.length p_0_c)] (l1 (cl 11 (z_versions_Valid F p_0_A p_0_c p_0 _ hy_2) hT ⟨ga 1, trivial⟩ (rn 2 [] f0 [(13, B (!v_2))] (sb 13 (nf h_3) (ra [] f0 [(22, B true)] (tN (fun _ _ S k e => ⟨p_2, true, S, k.wk, e.sel [0, 1], oi hG⟩))))))))
 ·rintro a w ⟨v_8, v_9, hJ⟩; refine hJ.go fun ho_ => ?_
  clear hJ; subst ho_; replace hG := hG_7; rcases ic hG with ⟨h_10, hG⟩ | ⟨h_10, hG⟩
  ·refine sb 22 (bt h_10) (ct (sq (rg (rn 1 [] f0 [(23, .agg #[I 0, I 0, I 0, B false])] (l1 (sr 0 g_1 (ns 0 [I 0, I 0, I 0, B false]) (ra [] f0 [(7, B false), (8, I 1)] (tN (kR (tR ?_)))))))))); obtain rfl := oi hG; exact rt [(0, 0, 4)]
  ·refine sb 22 (bf h_10) (cf (kS (tN (sq ?_)))); obtain ⟨v_11, hy_11, hG⟩ := bs hG; refine rg (rn 3 [] f0 (ns 24 [.slice p_0_A p_0.length p_0_c, I p_1, I v_8]) (l1 (cl 27 (z_versions_last F p_0_A p_0_c p_0 p_1 v_8 _ hy_11) hT ⟨ga 1, trivial⟩ (l1 (nw 9 vp [I 0, I 0, I 0, B false] 61 fun g_12 => l1 (sr 0 g_12 (ns 0 [I v_11.Key, I v_11.Ts, I v_11.Value, B v_11.Gone]) (nl (tN (sq ?_))))))))); obtain ⟨o_14, hG, hG_14⟩ := bs hG; refine jn (fun K E a w => ∃ v_15 : Bool, Js S0 w0 37 ([(34, B v_15)] ++ K) (se E [0, 1]) (v_15 = o_14) a w) ?_ ?_
   ·rcases ic hG with ⟨h_13, hG⟩ | ⟨h_13, hG⟩
    ·exact rg (rn 4 [(0, 4, 0, 0), (1, 0, 0, 0)] (fc (eql_KVersion v_11 (⟨0, 0, 0, false⟩ : KVersion)) f0) [(31, B (decide (v_11 = (⟨0, 0, 0, false⟩ : KVersion))))] (sb 31 (bt h_13) (ra [] f0 [(34, B true)] (tN (fun _ _ S k e => ⟨true, S, k.wk, e.sel [0, 1], oi hG⟩)))))
    ·exact rg (rn 4 [(0, 4, 0, 0), (1, 0, 0, 0)] (fc (eql_KVersion v_11 (⟨0, 0, 0, false⟩ : KVersion)) f0) [(31, B (decide (v_11 = (⟨0, 0, 0, false⟩ : KVersion))))] (sb 31 (bf h_13) (ra [(1, 1, 0, 3)] f0 [(34, B v_11.Gone)] (tN (fun _ _ S k e => ⟨v_11.Gone, S, k.wk, e.sel [0, 1], oi hG⟩)))))
   ·rintro a w ⟨v_15, hJ⟩; refine hJ.go fun ho_ => ?_
    clear hJ; subst ho_; replace hG := hG_14; rcases ic hG with ⟨h_16, hG⟩ | ⟨h_16, hG⟩
    ·refine sb 34 (bt h_16) (ct (sq (rg (rn 1 [] f0 [(35, .agg #[I 0, I 0, I 0, B false])] (l1 (sr 1 g_1 (ns 0 [I 0, I 0, I 0, B false]) (ra [] f0 [(7, B false), (8, I 0)] (tN (kR (tR ?_)))))))))); obtain rfl := oi hG; exact rt [(1, 0, 4)]
    ·refine sb 34 (bf h_16) (cf (kS (tN (sq (rg (rn 1 [(0, 4, 0, 0)] f0 [(36, .agg #[I v_11.Key, I v_11.Ts, I v_11.Value, B v_11.Gone])] (l1 (sr 1 g_1 (ns 0 [I v_11.Key, I v_11.Ts, I v_11.Value, B v_11.Gone]) (ra [] f0 [(7, B true), (8, I 0)] (tN (kR ?_))))))))))); obtain rfl := oi hG; exact rt [(1, 0, 4)]
end Go.Proofs.Ytlfkgbideknkhaa
namespace Go.Proofs.Ytlfkgbideknkhaa
open Go.RowKit Go.Maps
section
variable {S0 S : Nat → Prop} {w0 w w' : World} {n : Nat} {K : List (Nat × Value)} {E E' : List Iz} {Q : Exit → Act → World → Prop} {o : Oper} {Kx X : Act → World → Prop}
theorem Ez.prm (h : Ez S0 w0 w S E) (hp : E.Perm E') : Ez S0 w0 w S E' := ⟨Es.b h, Es.e h, Es.lt h, fun y hy => Es.k h y ((hp.map Iz.ik).mem_iff.2 hy), ((hp.map Iz.ik).pairwise_iff (fun h => h.symm)).1 (Es.p h)⟩
theorem Ez.sub' (h : Ez S0 w0 w S E) (hp : E'.Sublist E) : Ez S0 w0 w S E' := Es.drop h (hp.map Iz.ik)
end
theorem jneed_bad (w : World) : Calls Try.prog 89 [B false].toArray w fun e w' => e = .panicked chE ∧ w' = w := by
 go_enter Try.func89, Try.ntmps89
 go_wp2
 exact ⟨rfl, rfl, rfl⟩
theorem jneed_ok : Cf Try.prog 89 [B true] [] (.tuple #[]) := z_journal_need 0 true () rfl
set_option maxRecDepth 100000 in
set_option maxHeartbeats 4000000 in
theorem next_c (S0 : Nat → Prop) (w0 w : World) (S : Nat → Prop) (E : List Iz) (g : Nat) (A : Option Addr) (c : Nat) (l : List Int) (hT : Tb w0)
  (hE : Ez S0 w0 w S (.blk g 127 [.slice A l.length c] :: .dat (RowC A c c_i64 tr l) :: E)) :
  Calls Try.prog 86 [Pt g 0].toArray w fun e w' =>
   (∃ v rest A' c' S, l = v :: rest ∧ e = .returned (I v) ∧ Ez S0 w0 w' S (.blk g 127 [.slice A' rest.length c'] :: .dat (RowC A' c' c_i64 tr rest) :: E)) ∨
   (l = [] ∧ e = .panicked chE ∧ ∃ x S, Ez S0 w0 w' S (.blk g 127 [x] :: E)) := by
 refine vc_enter Try.func86 rfl rfl (by kernel_rfl) fun a hK => ?_
 refine (?_ : Ge S0 w0 26 _ (.blk g 127 [.slice A l.length c] :: .dat (RowC A c c_i64 tr l) :: E) _) a w S hK hE; clear hK hE a w S; refine sq (rg (ra [] f0 [(2, I 0)] (tN (sq ?_)))); refine rg (rn 6 [(3, 1, 0, 0)] f0 [(9, B (decide (((l.length : Nat) : Int) > 0)))] ?_); cases l with
 | nil => exact sb 9 (bf (b := decide ((([] : List Int).length : Int) > 0)) rfl) (l1 (pn jneed_bad (fun a w S k e => ⟨k.d, .inr ⟨rfl, rfl, _, S, Ez.sub' e (.cons_cons _ (.cons _ (.refl _)))⟩⟩)))
 | cons v rest =>
  refine sb 9 (bt (b := decide (((v :: rest).length : Int) > 0)) (decide_eq_true (by simp only [List.length_cons]; omega))) (l1 (cl 10 jneed_ok hT trivial (nl (tN (sq ?_))))); have hy : ixI (v :: rest) 0 = some v := rfl; have hs : slI (v :: rest) 1 (((v :: rest).length : Nat) : Int) = some rest := by unfold slI; rw [if_pos (by simp; omega)]; simp
  refine rg (fx inf45 (gd' (RowC A c c_i64 tr (v :: rest)) 1) hy fun b o hi => ra [(3, 1, 1, 0), (0, 0, 0, 0), (0, 1, 0, 0)] (fc (hi .i64) f0) [(3, I v)] (tN (sq ?_))); refine rg (fp true false inf45 (gd' (RowC A c c_i64 tr (v :: rest)) 2) hs fun A' c' hi => rn 8 [(4, 1, 2, 0), (0, 0, 0, 0)] (fc (hi .i64 .i64) f0) [(22, .slice A' rest.length c'), (24, Pt g 0)] (l1 (sr 2 g [(0, .slice A' rest.length c')] (nl (tN (sq ?_)))))); refine rg (ra [] f0 [(2, I v)] (tN (kR ?_))); refine ri [] (I v) ?_; exact fun a w S k' e => .inl ⟨v, rest, A', c', S, rfl, rfl, Ez.prm (Ez.sub' e (.cons_cons _ (.cons _ (.cons_cons _ (.cons _ (.refl _)))))) (.swap _ _ _)⟩
def RdJ (f : FuncId) (p : Int → Prop) (rv : Int → Value) : Prop := ∀ (S0 : Nat → Prop) (w0 w : World) (S : Nat → Prop) (E : List Iz) (g : Nat) (A : Option Addr) (c : Nat) (l : List Int), Tb w0 →
  Ez S0 w0 w S (.blk g 127 [.slice A l.length c] :: .dat (RowC A c c_i64 tr l) :: E) → Calls Try.prog f [Pt g 0].toArray w fun e w' =>
      (∃ v rest A' c' S, l = v :: rest ∧ p v ∧ e = .returned (rv v) ∧ Ez S0 w0 w' S (.blk g 127 [.slice A' rest.length c'] :: .dat (RowC A' c' c_i64 tr rest) :: E)) ∨
      ((∀ v rest, l = v :: rest → ¬ p v) ∧ e = .panicked chE ∧ ∃ x S, Ez S0 w0 w' S (.blk g 127 [x] :: E))
section
variable {S0 S : Nat → Prop} {w0 w w' : World} {n : Nat} {K : List (Nat × Value)} {E : List Iz} {Q : Exit → Act → World → Prop} {o : Oper} {Kx X : Act → World → Prop}
theorem jI [DSc] {f : FuncId} {p : Int → Prop} {rv : Int → Value} (E' : List Iz) (d g : Nat) (A : Option Addr) (c : Nat) (l : List Int) (hc : RdJ f p rv) (hT : Tb w0)
  (hw : ∀ w S, Ez S0 w0 w S E → Ez S0 w0 w S (.blk g 127 [.slice A l.length c] :: .dat (RowC A c c_i64 tr l) :: E'))
  (hok : ∀ v rest A' c', l = v :: rest → p v → Ge S0 w0 n ((d, rv v) :: K) (.blk g 127 [.slice A' rest.length c'] :: .dat (RowC A' c' c_i64 tr rest) :: E') Kx)
  (hbad : (∀ v rest, l = v :: rest → ¬ p v) → ∀ x, Ge S0 w0 n K (.blk g 127 [x] :: E') (Q (.panic chE)))
  (he : ∀ J, sx Try.prog (execOp (rho K J) o) [] = some (.enter f #[Pt g 0], []) := by intro J; kernel_rfl) (hd : o.dst = some d := by kernel_rfl) (hn : Nat.blt d n = true := by kernel_rfl) :
  Ge S0 w0 n K E (oW Try.prog o Q Kx) := fun a w S hK hE => by
 unfold oW Oper.wp Oper.upon; rw [hK.eval, sx_run _ (he _) trivial, hd]; refine (hc S0 w0 w S E' g A c l hT (hw _ _ hE)).mono fun e w' hr => ?_
 rcases hr with ⟨v, rest, A', c', S', h1, h2, rfl, h4⟩ | ⟨h1, rfl, x, S', h4⟩
 ·exact hok v rest A' c' h1 h2 _ _ _ (hK.put hn _) h4
 ·exact hbad h1 x _ _ _ hK h4
end
theorem rd_next : RdJ 86 (fun _ => True) (fun v => I v) := fun S0 w0 w S E g A c l hT hE => (next_c S0 w0 w S E g A c l hT hE).mono fun e w' hr => by
 rcases hr with ⟨v, rest, A', c', S', h1, h2, h4⟩ | ⟨h1, h2, x, S', h4⟩
 ·exact .inl ⟨v, rest, A', c', S', h1, trivial, h2, h4⟩
 ·exact .inr ⟨fun v rest h => (by rw [h1] at h; cases h), h2, x, S', h4⟩
set_option maxRecDepth 100000 in
set_option maxHeartbeats 4000000 in
theorem rd_count : RdJ 87 (fun v => 0 ≤ v ∧ v ≤ 8) (fun v => I v) := fun S0 w0 w S E g A c l hT hE => by
 refine vc_enter Try.func87 rfl rfl (by kernel_rfl) fun a hK => ?_
 refine (?_ : Ge S0 w0 14 _ (.blk g 127 [.slice A l.length c] :: .dat (RowC A c c_i64 tr l) :: E) _) a w S hK hE; clear hK hE a w S; refine sq (rg (ra [] f0 [(2, I 0)] (tN (sq ?_)))); refine rg (rn 1 [] f0 [(4, Pt g 0)] (l1 (jI E 5 g A c l rd_next hT (fun _ _ h => h) (fun v rest A' c' hl _ => ?_) (fun h x => ?_))))
 ·refine ra [] f0 [(3, I v)] (tN (sq ?_)); have hn : ¬ (0 ≤ v ∧ v ≤ 8) → ∀ v rest, l = v :: rest → ¬ (0 ≤ v ∧ v ≤ 8) := fun h v' r' e => by rw [hl] at e; cases e; exact h
  refine rg (rn 3 [] f0 [(8, B (decide (0 ≤ v)))] ?_)
  by_cases h0 : 0 ≤ v
  ·refine sb 8 (bt (decide_eq_true h0)) (rn 3 [] f0 [(11, B (decide (v ≤ 8)))] ?_)
   by_cases h8 : v ≤ 8
   ·refine sb 11 (bt (decide_eq_true h8)) (l1 (cl 12 jneed_ok hT trivial (nl (tN (sq ?_))))); refine rg (ra [] f0 [(2, I v)] (tN (kR ?_))); refine ri [] (I v) ?_; exact fun a w S k' e => .inl ⟨v, rest, A', c', S, hl, ⟨h0, h8⟩, rfl, e⟩
   ·exact sb 11 (bf (decide_eq_false h8)) (l1 (pn jneed_bad (fun a w S k e => ⟨k.d, .inr ⟨hn fun h => h8 h.2, rfl, _, S, Ez.sub' e (.cons_cons _ (.cons _ (.refl _)))⟩⟩)))
  ·exact sb 8 (bf (decide_eq_false h0)) (rn 3 [] f0 [(11, B false)] (l1 (pn jneed_bad (fun a w S k e => ⟨k.d, .inr ⟨hn fun h => h0 h.1, rfl, _, S, Ez.sub' e (.cons_cons _ (.cons _ (.refl _)))⟩⟩))))
 ·exact fun a w S k e => ⟨k.d, .inr ⟨fun v rest hl => absurd trivial (h v rest hl), rfl, _, S, e⟩⟩
set_option maxRecDepth 100000 in
set_option maxHeartbeats 4000000 in
theorem rd_flag : RdJ 88 (fun v => v = 0 ∨ v = 1) (fun v => B (v == 1)) := fun S0 w0 w S E g A c l hT hE => by
 refine vc_enter Try.func88 rfl rfl (by kernel_rfl) fun a hK => ?_
 refine (?_ : Ge S0 w0 15 _ (.blk g 127 [.slice A l.length c] :: .dat (RowC A c c_i64 tr l) :: E) _) a w S hK hE; clear hK hE a w S; refine sq (rg (ra [] f0 [(2, B false)] (tN (sq ?_)))); refine rg (rn 1 [] f0 [(4, Pt g 0)] (l1 (jI E 5 g A c l rd_next hT (fun _ _ h => h) (fun v rest A' c' hl _ => ?_) (fun h x => ?_))))
 ·refine ra [] f0 [(3, I v)] (tN (sq ?_)); have hn : ¬ (v = 0 ∨ v = 1) → ∀ v rest, l = v :: rest → ¬ (v = 0 ∨ v = 1) := fun h v' r' e => by rw [hl] at e; cases e; exact h
  refine rg (rn 3 [] f0 [(8, B (v == 0))] ?_)
  by_cases h0 : v = 0
  ·refine sb 8 (bt (b := v == 0) (by simp [h0])) (rn 3 [] f0 [(11, B true)] (l1 (cl 12 jneed_ok hT trivial (nl (tN (sq ?_)))))); refine rg (ra [] f0 [(2, B (v == 1))] (tN (kR ?_))); refine ri [] (B (v == 1)) ?_; exact fun a w S k' e => .inl ⟨v, rest, A', c', S, hl, .inl h0, rfl, e⟩
  ·refine sb 8 (bf (b := v == 0) (by simp [h0])) (rn 3 [] f0 [(11, B (v == 1))] ?_)
   by_cases h8 : v = 1
   ·refine sb 11 (bt (b := v == 1) (by simp [h8])) (l1 (cl 12 jneed_ok hT trivial (nl (tN (sq ?_))))); refine rg (ra [] f0 [(2, B (v == 1))] (tN (kR ?_))); refine ri [] (B (v == 1)) ?_; exact fun a w S k' e => .inl ⟨v, rest, A', c', S, hl, .inr h8, rfl, e⟩
   ·exact sb 11 (bf (b := v == 1) (by simp [h8])) (l1 (pn jneed_bad (fun a w S k e => ⟨k.d, .inr ⟨hn fun h => h.elim h0 h8, rfl, _, S, Ez.sub' e (.cons_cons _ (.cons _ (.refl _)))⟩⟩)))
 ·exact fun a w S k e => ⟨k.d, .inr ⟨fun v rest hl => absurd trivial (h v rest hl), rfl, _, S, e⟩⟩
end Go.Proofs.Ytlfkgbideknkhaa
