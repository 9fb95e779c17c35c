/-
  Texts joined: Jr37, Vr37, Ri37, Vi37, Jl37, Z11, Z12, Z13, Z14, Z15, Z16, Za, Sb37, Sc37, Wa37, Wb37, Wc37, Wd37.
-/
import Derived.RangeFuncCalls
import Derived.OrdersIn
import Derived.RangeFuncLeaves
import Derived.Test.YtlfkgbideknkhaaProg
import Derived.Laws.BitsAllLaws
import Derived.Test.YtlfkgbideknkhaaJU51
import Derived.Test.YtlfkgbideknkhaaJU52
import Derived.Test.YtlfkgbideknkhaaJU53
set_option linter.unusedSimpArgs false
set_option linter.unusedVariables false
namespace Go.Proofs.Ytlfkgbideknkhaa
open Go.RowKit Go.Maps
section
variable {S0 S : Nat → Prop} {w0 w w' : World} {n : Nat} {K K' : List (Nat × Value)} {E E' : List Iz} {X : Act → World → Prop} {P : Program} {ops : Array Oper} {Q : Exit → Act → World → Prop} {o : Oper} {L : List Oper} {v v' : Value} {Kx : Act → World → Prop}
variable {lk : List Iz} {li : List Nat}
def okI (ops : Array Oper) (okd : Nat → Bool) : List Nat → Bool
 | [] => true
 | i :: is => (match (ops[i]?).bind (·.dst) with | some d => okd d | none => true) && okI ops okd is
theorem runh_goD [DSc] {J : Nat → Value} (okd : Nat → Bool) (hns : Region.noSelect ops = true) (hQ : ∀ (d : Nat), okd d = true → ∀ v c a w, Q (.panic c) (Act.put a (some d) v) w → Q (.panic c) a w) (hW : Wz S0 w0 lk w) :
  ∀ {is li : List Nat} {hs : List (Nat × Nat × Nat × Nat)} {fs : List Fct} {K : List (Nat × Value)} {x : List (Addr × Value)} {u : List Fct} {r} {a : Act}, okI ops okd is = true → runh P n ops E J is li hs fs K x u = some r → KnJ n K J a → (∀ w, Wz S0 w0 lk w → Obs w r.2.2.1) → AllF P r.2.2.2 → (∀ a', KnJ n r.2.1 J a' → wH P ops Q S0 w0 lk r.1 a' w) → wH P ops Q S0 w0 lk li a w := by
 intro is
 induction is with
 | nil => intro li hs fs K x u r a _ h hK _ _ hk; unfold runh at h; cases h; exact hk a hK
 | cons i is ih =>
  intro li hs fs K x u r a hok h hK ho hf hk; simp only [okI, Bool.and_eq_true] at hok; obtain ⟨hok1, hok2⟩ := hok; have fuel : ∀ l, l.length < ops.size → ops.size - l.length = (ops.size - (i :: l).length) + 1 := fun l hl => by rw [List.length_cons]; omega
  unfold runh at h
  split at h
  ·cases h
  ·next hfre =>
   obtain ⟨f1, f2, f3⟩ := fre_spec hfre
   split at h
   ·cases h
   ·next o ho' =>
    split at h
    ·next hd =>
     split at h
     ·next hg =>
      unfold wH; rw [fuel _ f3]; exact wpAnyH_take (v := undef) ho' hns f1 f2 (by rw [hd]; exact fun _ _ _ h => h) (.inr ⟨hK.k.wanted hg, rfl⟩) hW (by rw [hd]; exact ih hok2 h hK ho hf hk)
     ·cases h
    ·next d hd =>
     split at h
     ·cases h
     ·next hn =>
      split at h
      ·cases h
      ·next v hs' fs' ob us h1 =>
       obtain ⟨⟨x', hx⟩, ⟨u', hu⟩⟩ := runh_grow h; have hf' : AllF P us := by have h2 := hf; rw [hu] at h2; exact h2.right.left
       unfold wH; rw [fuel _ f3]; refine wpAnyH_take (v := v) ho' hns f1 f2 (fun c a w => by rw [hd]; exact hQ d (by rw [ho'] at hok1; simpa [hd] using hok1) _ c a w) ?_ hW (by rw [hd]; exact ih hok2 h (hK.put hn v) ho hf hk); rcases one_run h1 hK hf' with ⟨hw, hr⟩ | ⟨hw, e⟩
       ·refine .inl ⟨hw, fun W hWW => hr W ?_⟩; have h2 := ho W hWW; rw [hx] at h2; exact h2.right.left
       ·exact .inr ⟨hw, e⟩
theorem htD [DSc] (okd : Nat → Bool) (il is : List Nat) (hs : List (Nat × Nat × Nat × Nat)) {fs : List Fct} (hF : AllF P fs) (new : List (Nat × Value)) (h : Ge S0 w0 n (new ++ K) E (wH P ops Q S0 w0 lk (is.reverse ++ li)))
  (he : ∀ J, (runh P n ops lk J is li hs fs K [] []).map (fun r => (r.1, new.map fun p => look r.2.1 p.1, r.2.2.1, r.2.2.2)) = some (is.reverse ++ li, new.map fun p => some p.2, gvl lk hs [], rvf fs []) := by intro J; kernel_rfl) (hc : clashh new K ops is = true := by kernel_rfl) (hns : Region.noSelect ops = true := by kernel_rfl) (hQ : ∀ (d : Nat), okd d = true → ∀ v c a w, Q (.panic c) (Act.put a (some d) v) w → Q (.panic c) a w) (hokd : okI ops okd is = true := by kernel_rfl)
  (hw : selz E il = some lk := by kernel_rfl) (hn : ndB il = true := by kernel_rfl) : Ge S0 w0 n K E (wH P ops Q S0 w0 lk li) := fun a w S hK hE => by
 have h1 := he (fun t => a.tmps.getD t undef); rw [Option.map_eq_some_iff] at h1; obtain ⟨r, h1, h2⟩ := h1; simp only [Prod.mk.injEq] at h2; refine runh_goD okd hns hQ ⟨S, hE.sel il hw hn⟩ hokd h1 hK.toJ (fun w hw => ?_) (by rw [h2.2.2.2]; exact rvf_all hF trivial) (fun a' ha' => ?_)
 ·obtain ⟨S, hW⟩ := hw; rw [h2.2.2.1]; exact gvl_obs hW trivial
 ·rw [h2.1]; refine h a' w S ⟨ha'.k.d, ha'.k.s, fun i u hu => ha'.k.k i u ?_⟩ hE; rw [look_app] at hu
  split at hu
  ·next v hv => cases hu; exact look_map h2.2.1 i _ hv
  ·next hv =>
   have : hasK K i = true := by
    cases hk : hasK K i with
    | true => rfl
    | false => rw [hasK_none hk] at hu; cases hu
   rw [runh_keep h1 hc i hv this]; exact hu
end
theorem leaves_put {P : Program} {fn : Func} {R : Ending → World → Prop} {t t' : Array Value} (hr : results fn t = results fn t') : ∀ (ds : List Deferred) (u : FrameMode) (w : World), Leaves P fn t R ds u w → Leaves P fn t' R ds u w
 | [], u, w, h => by
  cases u with
  | returning => obtain ⟨v, h1, h2⟩ := h; exact ⟨v, hr ▸ h1, h2⟩
  | panicking c => exact h
  | run => exact h
 | d :: ds, u, w, h => by
  obtain ⟨h0, fv, cap, f, args, h1, h2, h3⟩ := h; refine ⟨h0, fv, cap, f, args, h1, h2, h3.mono fun e u' w' he => ?_⟩; cases e with
  | returned v => exact leaves_put hr ds _ _ he
  | panicked c => exact leaves_put hr ds _ _ he
  | outgrown => exact he
theorem read_put {R : Ending → World → Prop} (d : Nat) (h : (!Nat.beq d 2 && !Nat.beq d 3) = true) (v : Value) (c : List PanicEntry) (a : Act) (w : World) : bodyPostD Try.prog Try.f66 R (.panic c) (Act.put a (some d) v) w → bodyPostD Try.prog Try.f66 R (.panic c) a w := by
 have hne2 : d ≠ 2 := fun e => by subst e; cases h
 have hne3 : d ≠ 3 := fun e => by subst e; cases h
 have e : ∀ k, d ≠ k → (a.tmps.setIfInBounds d v).getD k undef = a.tmps.getD k undef := fun k hk => by
  simp [Array.getElem?_setIfInBounds_ne hk]
 refine leaves_put ?_ _ _ _
 show results _ (a.tmps.setIfInBounds d v) = results _ a.tmps
 simp only [results, Try.results66]; have e2 := e 2 hne2; have e3 := e 3 hne3
 simp_all
def rdSeen : Nat → List Int → Option (List KSeen × List Int)
 | 0, l => some ([], l)
 | k + 1, a :: b :: l => match rdSeen k l with
  | some (s, r) => some (⟨a, b⟩ :: s, r)
  | none => none
 | _ + 1, _ => none
def rdWr : Nat → List Int → Option (List KWrite × List Int)
  | 0, l => some ([], l)
  | k + 1, a :: b :: v :: l => if v = 0 ∨ v = 1 then match rdWr k l with
      | some (s, r) => some (⟨a, b, v == 1⟩ :: s, r)
      | none => none
    else none
  | _ + 1, _ => none
def fnW (x y : Int) (s : List KSeen) (u : List KWrite) : Option (List KWrite × List Int) → Option KTx
 | some (u', []) => some ⟨x, y, s, u ++ u'⟩
 | _ => none
def rdM (x y : Int) (s : List KSeen) : List Int → Option KTx
 | m :: l => if 0 ≤ m ∧ m ≤ 8 then fnW x y s [] (rdWr m.toNat l) else none
 | [] => none
def fnS (x y : Int) (s : List KSeen) : Option (List KSeen × List Int) → Option KTx
 | some (s', l) => rdM x y (s ++ s') l
 | none => none
def readT : List Int → Option KTx
 | x :: y :: n :: l => if 0 ≤ n ∧ n ≤ 8 then fnS x y [] (rdSeen n.toNat l) else none
 | _ => none
def readB (F : Nat) : Option KTx → Option (KTx × Bool)
 | none => some (⟨0, 0, [], []⟩, false)
 | some t => Option.bind (G_journal_formed F t) fun b => some (if b then (t, true) else (⟨0, 0, [], []⟩, false))
def G_journal_read (F : Nat) (l : List Int) : Option (KTx × Bool) := readB F (readT l)
theorem fnS_step (x y a b : Int) (s : List KSeen) (k : Nat) (r : List Int) : fnS x y s (rdSeen (k + 1) (a :: b :: r)) = fnS x y (s ++ [⟨a, b⟩]) (rdSeen k r) := by
  have e : rdSeen (k + 1) (a :: b :: r) = match rdSeen k r with
      | some (s, r) => some (⟨a, b⟩ :: s, r)
      | none => none := by conv => lhs; unfold rdSeen
  rw [e]
  cases rdSeen k r with
  | none => rfl
  | some q => simp [fnS]
theorem fnW_step (x y a b v : Int) (s : List KSeen) (u : List KWrite) (k : Nat) (r : List Int) (hv : v = 0 ∨ v = 1) : fnW x y s u (rdWr (k + 1) (a :: b :: v :: r)) = fnW x y s (u ++ [⟨a, b, v == 1⟩]) (rdWr k r) := by
  have e : rdWr (k + 1) (a :: b :: v :: r) = match rdWr k r with
      | some (s, r) => some (⟨a, b, v == 1⟩ :: s, r)
      | none => none := by conv => lhs; unfold rdWr; rw [if_pos hv]
  rw [e]
  cases rdWr k r with
  | none => rfl
  | some q =>
    obtain ⟨q1, q2⟩ := q
    cases q2 with
    | nil => simp [fnW]
    | cons _ _ => rfl
abbrev deR (g2 g3 : Nat) : Deferred := { target := .fn (.func 85) #[Pt g2 0, Pt g3 0], args := #[] }
abbrev dR (g2 g3 : Nat) : DSc := ⟨[deR g2 g3]⟩
def okR (d : Nat) : Bool := !Nat.beq d 2 && !Nat.beq d 3
theorem read_bad {S0 : Nat → Prop} {w0 : World} {K : List (Nat × Value)} {E : List Iz} {g2 g3 : Nat} {R : Ending → World → Prop} (hE2 : ∀ w S, Ez S0 w0 w S E → ∃ x0 x1 x2 x3 y E', Ez S0 w0 w S (.blk g2 26 [x0, x1, x2, x3] :: .blk g3 4 [y] :: E')) (hK2 : ∀ a, @Kn (dR g2 g3) 59 K a → @Kn (dR g2 g3) 59 [(2, Pt g2 0), (3, Pt g3 0)] a)
  (hR : ∀ S w E, Ez S0 w0 w S (.blk g2 26 [I 0, I 0, .slice none 0 0, .slice none 0 0] :: .blk g3 4 [B false] :: E) → R (.returned (.tuple #[.agg #[I 0, I 0, .slice none 0 0, .slice none 0 0], B false])) w) :
  @Ge (dR g2 g3) S0 w0 59 K E (bodyPostD Try.prog Try.f66 R (.panic chE)) := fun a w S hK hE => by
 letI : DSc := dR g2 g3
 obtain ⟨x0, x1, x2, x3, y, E', hE⟩ := hE2 w S hE; have hK' := hK2 a hK
 show Leaves _ _ _ _ a.defers _ _
 rw [hK'.d]; refine leaves_cons (f := 85) (args := #[Pt g2 0, Pt g3 0]) (by simp) (by simp [go_sem]) ?_; refine (read1_catch S0 w0 w S E' g2 g3 x0 x1 x2 x3 y hE).mono ?_; rintro e u' w' ⟨rfl, rfl, S', hE'⟩; exact ⟨_, res_run hK' hE' [(0, 0, 4), (1, 0, 1)], hR _ _ _ hE'⟩
theorem read_end {S0 : Nat → Prop} {w0 : World} {K : List (Nat × Value)} {E : List Iz} {g2 g3 : Nat} {x0 x1 x2 x3 y : Value} {R : Ending → World → Prop} (hK2 : ∀ a, @Kn (dR g2 g3) 59 K a → @Kn (dR g2 g3) 59 [(2, Pt g2 0), (3, Pt g3 0)] a)
  (hR : ∀ S w, Ez S0 w0 w S (.blk g2 26 [x0, x1, x2, x3] :: .blk g3 4 [y] :: E) → R (.returned (.tuple #[.agg #[x0, x1, x2, x3], y])) w) :
  @Ge (dR g2 g3) S0 w0 59 K (.blk g2 26 [x0, x1, x2, x3] :: .blk g3 4 [y] :: E) (bodyPostD Try.prog Try.f66 R .ret) := fun a w S hK hE => by
 letI : DSc := dR g2 g3
 have hK' := hK2 a hK
 show Leaves _ _ _ _ a.defers _ _
 rw [hK'.d]; refine leaves_cons (f := 85) (args := #[Pt g2 0, Pt g3 0]) (by simp) (by simp [go_sem]) ?_; refine (read1_idle _ _ w).mono ?_; rintro e u' w' ⟨rfl, rfl, rfl⟩; exact ⟨_, res_run hK' hE [(0, 0, 4), (1, 0, 1)], hR _ _ hE⟩
set_option maxRecDepth 100000 in
set_option maxHeartbeats 8000000 in
theorem z_journal_read (F : Nat) (A : Option Addr) (c : Nat) (l : List Int) (r : KTx × Bool) (hG : G_journal_read F l = some r) :
  Cn Try.prog 66 [.slice A l.length c] [RowC A c c_i64 tr l] (fun q : KTxL => r.1 = q.p) (fun q => .tuple #[.agg #[I q.ID, I q.Ts, .slice q.Reads_A q.Reads.length q.Reads_c, .slice q.Writes_A q.Writes.length q.Writes_c], B r.2]) (fun q => [KTxL.ok q]) := by
 unfold G_journal_read at hG; obtain ⟨tg, htg⟩ : ∃ tg, readT l = tg := ⟨_, rfl⟩; rw [htg] at hG; intro S0 w0 hS hT hH; refine vcD_enter Try.func66 rfl rfl (by kernel_rfl) fun a hK => ?_
 refine (?_ : Ge S0 w0 59 _ ([RowC A c c_i64 tr l].map .dat) _) a w0 S0 hK (hH.ez hS (mr tr_mv m0)); clear hK a hS hH; refine sq (rg (l1 (nw 2 vp [I 0, I 0, .slice none 0 0, .slice none 0 0] 26 fun g2 => l1 (nw 3 vp [B false] 4 fun g3 => nl (tN ?_))))); refine sq (rg (rn 1 [] f0 [(5, .func (.func 85) #[] #[Pt g2 0, Pt g3 0])] (df (deR g2 g3) ?_ (by intro J W; first | kernel_rfl | simp [execOp, resolve, go_sem, rho, look]))))
 letI : DSc := dR g2 g3
 refine nl (tN ?_); have bad0 : r = (⟨0, 0, [], []⟩, false) → ∀ K E, (∀ w S, Ez S0 w0 w S E → ∃ x0 x1 x2 x3 y E', Ez S0 w0 w S (.blk g2 26 [x0, x1, x2, x3] :: .blk g3 4 [y] :: E')) → (∀ a, Kn 59 K a → Kn 59 [(2, Pt g2 0), (3, Pt g3 0)] a) → Ge S0 w0 59 K E (bodyPostD Try.prog Try.f66 (fun e w' => ∃ x : KTxL, r.1 = x.p ∧ e = .returned (.tuple #[.agg #[I x.ID, I x.Ts, .slice x.Reads_A x.Reads.length x.Reads_c, .slice x.Writes_A x.Writes.length x.Writes_c], B r.2]) ∧ Below w0.heap.size w0 w' ∧ AllH (ext S0 w0 w') w' [KTxL.ok x]) (.panic chE)) := fun hn K E hw hk => by
  subst hn; exact read_bad hw hk fun S w E e => ⟨⟨0, 0, none, 0, [], none, 0, []⟩, rfl, rfl, Es.b e, ⟨⟨RowS.nil _ _ _, Nat.le_refl _, fun _ h => absurd h List.not_mem_nil⟩, ⟨RowS.nil _ _ _, Nat.le_refl _, fun _ h => absurd h List.not_mem_nil⟩⟩, trivial⟩
 have bad : tg = none → ∀ K E, (∀ w S, Ez S0 w0 w S E → ∃ x0 x1 x2 x3 y E', Ez S0 w0 w S (.blk g2 26 [x0, x1, x2, x3] :: .blk g3 4 [y] :: E')) → (∀ a, Kn 59 K a → Kn 59 [(2, Pt g2 0), (3, Pt g3 0)] a) → Ge S0 w0 59 K E (bodyPostD Try.prog Try.f66 (fun e w' => ∃ x : KTxL, r.1 = x.p ∧ e = .returned (.tuple #[.agg #[I x.ID, I x.Ts, .slice x.Reads_A x.Reads.length x.Reads_c, .slice x.Writes_A x.Writes.length x.Writes_c], B r.2]) ∧ Below w0.heap.size w0 w' ∧ AllH (ext S0 w0 w') w' [KTxL.ok x]) (.panic chE)) := fun hn => bad0 (by subst hn; exact (oi hG).symm)
 refine sq (rg (rn 2 [] f0 [(7, .agg #[.slice A l.length c])] (l1 (nw 8 vp [.slice A l.length c] 127 fun g9 => ra [] f0 [(4, Pt g9 0)] (tN ?_))))); refine sq (rg (rn 1 [] f0 [(9, Pt g9 0)] (l1 (jI [.blk g3 4 [B false], .blk g2 26 [I 0, I 0, .slice none 0 0, .slice none 0 0]] 10 g9 A c l rd_next hT (fun _ _ e => e.sel [0, 3, 1, 2]) (fun v1 l1' A1 c1 hl1 _ => ?_) (fun hb x => ?_)))))
 ·refine rn 1 [] f0 [(11, Pt g9 0)] (l1 (jI [.blk g3 4 [B false], .blk g2 26 [I 0, I 0, .slice none 0 0, .slice none 0 0]] 12 g9 A1 c1 l1' rd_next hT (fun _ _ e => e) (fun v2 l2' A2 c2 hl2 _ => ?_) (fun hb x => ?_)))
  ·refine rn 1 [] f0 [(13, Pt g2 0)] (l1 (sr 3 g2 [(0, I v1)] (rn 1 [] f0 [(14, Pt g2 1)] (l1 (sr 3 g2 [(1, I v2)] (nl (tN ?_))))))); refine jn (fun K E a w => ∃ (s : List KSeen) (A3 : Option Addr) (c3 : Nat) (rest : List Int) (Ar : Option Addr) (cr : Nat), Js S0 w0 59 [(4, Pt g9 0), (2, Pt g2 0), (3, Pt g3 0)] [.blk g2 26 [I v1, I v2, .slice A3 s.length c3, .slice none 0 0], .own 95 2 (.slice A3 s.length c3) s.length (s.flatMap KSeen.cells), .blk g9 127 [.slice Ar rest.length cr], .dat (RowC Ar cr c_i64 tr rest), .blk g3 4 [B false]] (tg = rdM v1 v2 s rest) a w) ?_ ?_
   ·refine sq (rg (rn 1 [] f0 [(15, Pt g9 0)] (l1 (jI [.blk g3 4 [B false], .blk g2 26 [I v1, I v2, .slice none 0 0, .slice none 0 0]] 16 g9 A2 c2 l2' rd_count hT (fun _ _ e => e) (fun n l3 A6 c6 hl3 hn => ?_) (fun hb x => ?_)))))
    ·have hn2 : tg = fnS v1 v2 [] (rdSeen n.toNat l3) := by rw [← htg, hl1, hl2, hl3]; exact if_pos hn
     refine ra [] f0 [(17, I 0)] (tN (bk ?_)); refine lp (fun K E m a w => ∃ (k : Nat) (s : List KSeen) (A3 : Option Addr) (c3 : Nat) (rest : List Int) (Ar : Option Addr) (cr : Nat), Js S0 w0 59 [(16, I n), (17, I (s.length : Nat)), (4, Pt g9 0), (2, Pt g2 0), (3, Pt g3 0)] [.blk g2 26 [I v1, I v2, .slice A3 s.length c3, .slice none 0 0], .own 95 2 (.slice A3 s.length c3) s.length (s.flatMap KSeen.cells), .blk g9 127 [.slice Ar rest.length cr], .dat (RowC Ar cr c_i64 tr rest), .blk g3 4 [B false]] (tg = fnS v1 v2 s (rdSeen k rest) ∧ (s.length : Int) + k = n ∧ m = k) a w) n.toNat ?_ ?_
     ·exact on 95 2 (fun a w S k e => ⟨n.toNat, [], none, 0, l3, A6, c6, S, k.wk, e.sel [4, 0, 1, 2, 3], hn2, by simp; omega, rfl⟩)
     ·rintro m a w ⟨k, s, A3, c3, rest, Ar, cr, hJ⟩; refine hJ.go fun ⟨hg, hk0, hm⟩ => ?_
      clear hJ; refine sq (rg (ra [] f0 [(18, B (decide (((s.length : Nat) : Int) < n)))] (tN (sq ?_))))
      by_cases hlt : ((s.length : Nat) : Int) < n
      ·refine sb 18 (bt (decide_eq_true hlt)) (ct (kS (tN (sq (bk ?_))))); obtain ⟨k, rfl⟩ : ∃ k', k = k' + 1 := ⟨k - 1, by omega⟩; have hwl : IntKind.i64.wrap (((s.length : Nat) : Int) + 1) = ((s.length : Nat) : Int) + 1 := by unfold IntKind.wrap; simp [IntKind.signed, IntKind.bits]; omega
       have hap : ∀ x, apG 16 s ([x] : List KSeen) = some (s ++ [x]) := fun x => by unfold apG; rw [if_pos (by simp; omega)]
       have hbad : rdSeen (k + 1) rest = none → tg = none := fun h => by rw [hg, h]; rfl
       have noS0 : (∀ v r, rest = v :: r → ¬ True) → rdSeen (k + 1) rest = none := fun h => by
        cases rest with
        | nil => rfl
        | cons x y => exact absurd trivial (h _ _ rfl)
       have noS1 : ∀ {a : Int} {r1 : List Int}, (∀ v r, r1 = v :: r → ¬ True) → rdSeen (k + 1) (a :: r1) = none := fun {a r1} h => by
        cases r1 with
        | nil => rfl
        | cons x y => exact absurd trivial (h _ _ rfl)
       refine hb [] (htD okR [] [0, 2, 4] [] f0 [(19, Pt g2 2), (21, Pt g9 0), (23, Pt g9 0)] (ho [1, 3] ⟨h1 (po 20 (.slice A3 s.length c3) [(0, 1, 0, 2)] f0 (hk [] (ho [3] ⟨h1 (jI [.blk g2 26 [I v1, I v2, .slice A3 s.length c3, .slice none 0 0], .own 95 2 (.slice A3 s.length c3) s.length (s.flatMap KSeen.cells), .blk g3 4 [B false]] 22 g9 Ar cr rest rd_next hT (fun _ _ e => e.sel [2, 3, 0, 1, 4]) (fun a r1 A4 c4 hr0 hp0 => hk [] (ho [5] ⟨h1 (jI [.blk g2 26 [I v1, I v2, .slice A3 s.length c3, .slice none 0 0], .own 95 2 (.slice A3 s.length c3) s.length (s.flatMap KSeen.cells), .blk g3 4 [B false]] 24 g9 A4 c4 r1 rd_next hT (fun _ _ e => e) (fun b r2 A5 c5 hr1 hp1 => hk [] (htD okR [] [6] [] f0 [(25, .agg #[I a, I b])] (ho [7] ⟨h1 (nw 26 (vs 1) [I a, I b] 95 fun g => hk [] (ho [8] ⟨h1 (ap 4 27 A3 c3 s ([(⟨a, b⟩ : KSeen)] : List KSeen) inf23 (bA (f := KSeen.cells) (ok := tr) (l := ([(⟨a, b⟩ : KSeen)] : List KSeen)) g 0 et.a) (hap _) KSeen.one fun A6 c6 _ => hk [] (ho [9] ⟨h1 (po 28 (Pt g2 2) [] f0 (hk [] (ho [10] ⟨h1 (sr 3 g2 [(2, .slice A6 (s ++ [(⟨a, b⟩ : KSeen)]).length c6)] (hk [] (he (hN (tN ?_))))), trivial⟩))), trivial⟩)), trivial⟩)), trivial⟩) (hQ := by intro d h v c a w; exact read_put d h v c a w))) (fun hb1 x => bad (hbad (by rw [hr0]; exact noS1 hb1)) _ _ (fun w S e => ⟨_, _, _, _, _, _, e.sel [1, 3, 0, 2] rfl⟩) fun a k => k.wk)), trivial⟩)) (fun hb0 x => bad (hbad (by exact noS0 hb0)) _ _ (fun w S e => ⟨_, _, _, _, _, _, e.sel [1, 3, 0, 2] rfl⟩) fun a k => k.wk)), trivial⟩))), h1 (jI [.blk g2 26 [I v1, I v2, .slice A3 s.length c3, .slice none 0 0], .own 95 2 (.slice A3 s.length c3) s.length (s.flatMap KSeen.cells), .blk g3 4 [B false]] 22 g9 Ar cr rest rd_next hT (fun _ _ e => e.sel [2, 3, 0, 1, 4]) (fun a r1 A4 c4 hr0 hp0 => hk [] (ho [1, 5] ⟨h1 (po 20 (.slice A3 s.length c3) [(0, 1, 2, 2)] f0 (hk [] (ho [5] ⟨h1 (jI [.blk g2 26 [I v1, I v2, .slice A3 s.length c3, .slice none 0 0], .own 95 2 (.slice A3 s.length c3) s.length (s.flatMap KSeen.cells), .blk g3 4 [B false]] 24 g9 A4 c4 r1 rd_next hT (fun _ _ e => e) (fun b r2 A5 c5 hr1 hp1 => hk [] (htD okR [] [6] [] f0 [(25, .agg #[I a, I b])] (ho [7] ⟨h1 (nw 26 (vs 1) [I a, I b] 95 fun g => hk [] (ho [8] ⟨h1 (ap 4 27 A3 c3 s ([(⟨a, b⟩ : KSeen)] : List KSeen) inf23 (bA (f := KSeen.cells) (ok := tr) (l := ([(⟨a, b⟩ : KSeen)] : List KSeen)) g 0 et.a) (hap _) KSeen.one fun A6 c6 _ => hk [] (ho [9] ⟨h1 (po 28 (Pt g2 2) [] f0 (hk [] (ho [10] ⟨h1 (sr 3 g2 [(2, .slice A6 (s ++ [(⟨a, b⟩ : KSeen)]).length c6)] (hk [] (he (hN (tN ?_))))), trivial⟩))), trivial⟩)), trivial⟩)), trivial⟩) (hQ := by intro d h v c a w; exact read_put d h v c a w))) (fun hb1 x => bad (hbad (by rw [hr0]; exact noS1 hb1)) _ _ (fun w S e => ⟨_, _, _, _, _, _, e.sel [1, 3, 0, 2] rfl⟩) fun a k => k.wk)), trivial⟩))), h1 (jI [.blk g2 26 [I v1, I v2, .slice A3 s.length c3, .slice none 0 0], .own 95 2 (.slice A3 s.length c3) s.length (s.flatMap KSeen.cells), .blk g3 4 [B false]] 24 g9 A4 c4 r1 rd_next hT (fun _ _ e => e) (fun b r2 A5 c5 hr1 hp1 => hk [] (htD okR [] [6] [] f0 [(25, .agg #[I a, I b])] (ho [1, 7] ⟨h1 (po 20 (.slice A3 s.length c3) [(0, 1, 2, 2)] f0 (hk [] (ho [7] ⟨h1 (nw 26 (vs 1) [I a, I b] 95 fun g => hk [] (ho [8] ⟨h1 (ap 4 27 A3 c3 s ([(⟨a, b⟩ : KSeen)] : List KSeen) inf23 (bA (f := KSeen.cells) (ok := tr) (l := ([(⟨a, b⟩ : KSeen)] : List KSeen)) g 0 et.a) (hap _) KSeen.one fun A6 c6 _ => hk [] (ho [9] ⟨h1 (po 28 (Pt g2 2) [] f0 (hk [] (ho [10] ⟨h1 (sr 3 g2 [(2, .slice A6 (s ++ [(⟨a, b⟩ : KSeen)]).length c6)] (hk [] (he (hN (tN ?_))))), trivial⟩))), trivial⟩)), trivial⟩)), trivial⟩))), h1 (nw 26 (vs 1) [I a, I b] 95 fun g => hk [] (ho [1] ⟨h1 (po 20 (.slice A3 s.length c3) [(0, 1, 3, 2)] f0 (hk [] (ho [8] ⟨h1 (ap 4 27 A3 c3 s ([(⟨a, b⟩ : KSeen)] : List KSeen) inf23 (bA (f := KSeen.cells) (ok := tr) (l := ([(⟨a, b⟩ : KSeen)] : List KSeen)) g 0 et.a) (hap _) KSeen.one fun A6 c6 _ => hk [] (ho [9] ⟨h1 (po 28 (Pt g2 2) [] f0 (hk [] (ho [10] ⟨h1 (sr 3 g2 [(2, .slice A6 (s ++ [(⟨a, b⟩ : KSeen)]).length c6)] (hk [] (he (hN (tN ?_))))), trivial⟩))), trivial⟩)), trivial⟩))), trivial⟩)), trivial⟩) (hQ := by intro d h v c a w; exact read_put d h v c a w))) (fun hb1 x => bad (hbad (by rw [hr0]; exact noS1 hb1)) _ _ (fun w S e => ⟨_, _, _, _, _, _, e.sel [1, 3, 0, 2] rfl⟩) fun a k => k.wk)), trivial⟩)) (fun hb0 x => bad (hbad (by exact noS0 hb0)) _ _ (fun w S e => ⟨_, _, _, _, _, _, e.sel [1, 3, 0, 2] rfl⟩) fun a k => k.wk)), trivial⟩) (hQ := by intro d h v c a w; exact read_put d h v c a w))
       all_goals
        refine rg (ra [] f0 [(17, I (IntKind.i64.wrap (((s.length : Nat) : Int) + 1)))] (tN ?_)); refine sb 17 (congrArg I (hwl.trans (by simp : ((s.length : Nat) : Int) + 1 = (((s ++ [(⟨a, b⟩ : KSeen)]).length : Nat) : Int)))) ?_; exact fun a' w S k' e => ⟨k, ⟨k, s ++ [⟨a, b⟩], A6, c6, r2, A5, c5, S, k'.wk, e.sel [3, 4, 1, 2, 5], by rw [hg, hr0, hr1]; exact fnS_step _ _ _ _ _ _ _, by simp; omega, rfl⟩, by omega⟩
      ·refine sb 18 (bf (decide_eq_false hlt)) (cf (kX (tX (tX ?_)))); obtain rfl : k = 0 := by omega
       refine hH (tN ?_); exact fun a w S k e => ⟨s, A3, c3, rest, Ar, cr, S, k.wk, e, by rw [hg]; simp [rdSeen, fnS]⟩
    ·refine bad ?_ _ _ (fun w S e => ⟨_, _, _, _, _, _, e.sel [2, 1, 0] rfl⟩) fun a k => k.wk
     rw [← htg, hl1, hl2]; cases l2' with
     | nil => rfl
     | cons n y => exact if_neg (hb _ _ rfl)
   ·rintro a w ⟨s, A3, c3, rest, Ar, cr, hJ⟩; refine hJ.go fun hg => ?_
    clear hJ; refine jn (fun K E a w => ∃ (u : List KWrite) (B3 : Option Addr) (d3 : Nat) (rest : List Int) (Ar : Option Addr) (cr : Nat), Js S0 w0 59 [(4, Pt g9 0), (2, Pt g2 0), (3, Pt g3 0)] [.blk g2 26 [I v1, I v2, .slice A3 s.length c3, .slice B3 u.length d3], .own 66 3 (.slice B3 u.length d3) u.length (u.flatMap KWrite.cells), .blk g9 127 [.slice Ar rest.length cr], .dat (RowC Ar cr c_i64 tr rest), .blk g3 4 [B false], .own 95 2 (.slice A3 s.length c3) s.length (s.flatMap KSeen.cells)] (tg = fnW v1 v2 s u (some ([], rest))) a w) ?_ ?_
    ·refine sq (rg (rn 1 [] f0 [(30, Pt g9 0)] (l1 (jI [.blk g2 26 [I v1, I v2, .slice A3 s.length c3, .slice none 0 0], .own 95 2 (.slice A3 s.length c3) s.length (s.flatMap KSeen.cells), .blk g3 4 [B false]] 31 g9 Ar cr rest rd_count hT (fun _ _ e => e.sel [2, 3, 0, 1, 4]) (fun n l3 A6 c6 hl3 hn => ?_) (fun hb x => ?_)))))
     ·have hn2 : tg = fnW v1 v2 s [] (rdWr n.toNat l3) := by rw [hg, hl3]; exact if_pos hn
      refine ra [] f0 [(32, I 0)] (tN (bk ?_)); refine lp (fun K E m a w => ∃ (k : Nat) (u : List KWrite) (B3 : Option Addr) (d3 : Nat) (rest : List Int) (Ar : Option Addr) (cr : Nat), Js S0 w0 59 [(31, I n), (32, I (u.length : Nat)), (4, Pt g9 0), (2, Pt g2 0), (3, Pt g3 0)] [.blk g2 26 [I v1, I v2, .slice A3 s.length c3, .slice B3 u.length d3], .own 66 3 (.slice B3 u.length d3) u.length (u.flatMap KWrite.cells), .blk g9 127 [.slice Ar rest.length cr], .dat (RowC Ar cr c_i64 tr rest), .blk g3 4 [B false], .own 95 2 (.slice A3 s.length c3) s.length (s.flatMap KSeen.cells)] (tg = fnW v1 v2 s u (rdWr k rest) ∧ (u.length : Int) + k = n ∧ m = k) a w) n.toNat ?_ ?_
      ·exact on 66 3 (fun a w S k e => ⟨n.toNat, [], none, 0, l3, A6, c6, S, k.wk, e.sel [3, 0, 1, 2, 5, 4], hn2, by simp; omega, rfl⟩)
      ·clear hg hl3 hn2; rintro m a w ⟨k, u, B3, d3, rest, Ar, cr, hJ⟩; refine hJ.go fun ⟨hg, hk0, hm⟩ => ?_
       clear hJ; refine sq (rg (ra [] f0 [(33, B (decide (((u.length : Nat) : Int) < n)))] (tN (sq ?_))))
       by_cases hlt : ((u.length : Nat) : Int) < n
       ·refine sb 33 (bt (decide_eq_true hlt)) (ct (kS (tN (sq (bk ?_))))); obtain ⟨k, rfl⟩ : ∃ k', k = k' + 1 := ⟨k - 1, by omega⟩; have hwl : IntKind.i64.wrap (((u.length : Nat) : Int) + 1) = ((u.length : Nat) : Int) + 1 := by unfold IntKind.wrap; simp [IntKind.signed, IntKind.bits]; omega
        have hap : ∀ x, apG 24 u ([x] : List KWrite) = some (u ++ [x]) := fun x => by unfold apG; rw [if_pos (by simp; omega)]
        have hbad : rdWr (k + 1) rest = none → tg = none := fun h => by rw [hg, h]; rfl
        have noW0 : (∀ v r, rest = v :: r → ¬ True) → rdWr (k + 1) rest = none := fun h => by
         cases rest with
         | nil => rfl
         | cons x y => exact absurd trivial (h _ _ rfl)
        have noW1 : ∀ {a : Int} {r1 : List Int}, (∀ v r, r1 = v :: r → ¬ True) → rdWr (k + 1) (a :: r1) = none := fun {a r1} h => by
         cases r1 with
         | nil => rfl
         | cons x y => exact absurd trivial (h _ _ rfl)
        have noW2 : ∀ {a b : Int} {r1 : List Int}, (∀ v r, r1 = v :: r → ¬ (v = 0 ∨ v = 1)) → rdWr (k + 1) (a :: b :: r1) = none := fun {a b r1} h => by
         cases r1 with
         | nil => rfl
         | cons x y => exact if_neg (h _ _ rfl)
        refine hb [] (htD okR [] [0, 2, 4, 6] [] f0 [(34, Pt g2 3), (36, Pt g9 0), (38, Pt g9 0), (40, Pt g9 0)] (ho [1, 3] ⟨h1 (po 35 (.slice B3 u.length d3) [(0, 1, 0, 3)] f0 (hk [] (ho [3] ⟨h1 (jI [.blk g2 26 [I v1, I v2, .slice A3 s.length c3, .slice B3 u.length d3], .own 66 3 (.slice B3 u.length d3) u.length (u.flatMap KWrite.cells), .blk g3 4 [B false], .own 95 2 (.slice A3 s.length c3) s.length (s.flatMap KSeen.cells)] 37 g9 Ar cr rest rd_next hT (fun _ _ e => e.sel [2, 3, 0, 1, 4, 5]) (fun a r1 A4 c4 hr0 hp0 => hk [] (ho [5] ⟨h1 (jI [.blk g2 26 [I v1, I v2, .slice A3 s.length c3, .slice B3 u.length d3], .own 66 3 (.slice B3 u.length d3) u.length (u.flatMap KWrite.cells), .blk g3 4 [B false], .own 95 2 (.slice A3 s.length c3) s.length (s.flatMap KSeen.cells)] 39 g9 A4 c4 r1 rd_next hT (fun _ _ e => e) (fun b r2 A5 c5 hr1 hp1 => hk [] (ho [7] ⟨h1 (jI [.blk g2 26 [I v1, I v2, .slice A3 s.length c3, .slice B3 u.length d3], .own 66 3 (.slice B3 u.length d3) u.length (u.flatMap KWrite.cells), .blk g3 4 [B false], .own 95 2 (.slice A3 s.length c3) s.length (s.flatMap KSeen.cells)] 41 g9 A5 c5 r2 rd_flag hT (fun _ _ e => e) (fun v r3 A7 c7 hr2 hp2 => hk [] (htD okR [] [8] [] f0 [(42, .agg #[I a, I b, B (v == 1)])] (ho [9] ⟨h1 (nw 43 (vs 1) [I a, I b, B (v == 1)] 66 fun g => hk [] (ho [10] ⟨h1 (ap 4 44 B3 d3 u ([(⟨a, b, v == 1⟩ : KWrite)] : List KWrite) inf24 (bA (f := KWrite.cells) (ok := tr) (l := ([(⟨a, b, v == 1⟩ : KWrite)] : List KWrite)) g 0 et.a) (hap _) KWrite.one fun A6 c6 _ => hk [] (ho [11] ⟨h1 (po 45 (Pt g2 3) [] f0 (hk [] (ho [12] ⟨h1 (sr 3 g2 [(3, .slice A6 (u ++ [(⟨a, b, v == 1⟩ : KWrite)]).length c6)] (hk [] (he (hN (tN ?_))))), trivial⟩))), trivial⟩)), trivial⟩)), trivial⟩) (hQ := by intro d h v c a w; exact read_put d h v c a w))) (fun hb2 x => bad (hbad (by rw [hr0, hr1]; exact noW2 hb2)) _ _ (fun w S e => ⟨_, _, _, _, _, _, e.sel [1, 3, 0, 2, 4] rfl⟩) fun a k => k.wk)), trivial⟩)) (fun hb1 x => bad (hbad (by rw [hr0]; exact noW1 hb1)) _ _ (fun w S e => ⟨_, _, _, _, _, _, e.sel [1, 3, 0, 2, 4] rfl⟩) fun a k => k.wk)), trivial⟩)) (fun hb0 x => bad (hbad (by exact noW0 hb0)) _ _ (fun w S e => ⟨_, _, _, _, _, _, e.sel [1, 3, 0, 2, 4] rfl⟩) fun a k => k.wk)), trivial⟩))), h1 (jI [.blk g2 26 [I v1, I v2, .slice A3 s.length c3, .slice B3 u.length d3], .own 66 3 (.slice B3 u.length d3) u.length (u.flatMap KWrite.cells), .blk g3 4 [B false], .own 95 2 (.slice A3 s.length c3) s.length (s.flatMap KSeen.cells)] 37 g9 Ar cr rest rd_next hT (fun _ _ e => e.sel [2, 3, 0, 1, 4, 5]) (fun a r1 A4 c4 hr0 hp0 => hk [] (ho [1, 5] ⟨h1 (po 35 (.slice B3 u.length d3) [(0, 1, 2, 3)] f0 (hk [] (ho [5] ⟨h1 (jI [.blk g2 26 [I v1, I v2, .slice A3 s.length c3, .slice B3 u.length d3], .own 66 3 (.slice B3 u.length d3) u.length (u.flatMap KWrite.cells), .blk g3 4 [B false], .own 95 2 (.slice A3 s.length c3) s.length (s.flatMap KSeen.cells)] 39 g9 A4 c4 r1 rd_next hT (fun _ _ e => e) (fun b r2 A5 c5 hr1 hp1 => hk [] (ho [7] ⟨h1 (jI [.blk g2 26 [I v1, I v2, .slice A3 s.length c3, .slice B3 u.length d3], .own 66 3 (.slice B3 u.length d3) u.length (u.flatMap KWrite.cells), .blk g3 4 [B false], .own 95 2 (.slice A3 s.length c3) s.length (s.flatMap KSeen.cells)] 41 g9 A5 c5 r2 rd_flag hT (fun _ _ e => e) (fun v r3 A7 c7 hr2 hp2 => hk [] (htD okR [] [8] [] f0 [(42, .agg #[I a, I b, B (v == 1)])] (ho [9] ⟨h1 (nw 43 (vs 1) [I a, I b, B (v == 1)] 66 fun g => hk [] (ho [10] ⟨h1 (ap 4 44 B3 d3 u ([(⟨a, b, v == 1⟩ : KWrite)] : List KWrite) inf24 (bA (f := KWrite.cells) (ok := tr) (l := ([(⟨a, b, v == 1⟩ : KWrite)] : List KWrite)) g 0 et.a) (hap _) KWrite.one fun A6 c6 _ => hk [] (ho [11] ⟨h1 (po 45 (Pt g2 3) [] f0 (hk [] (ho [12] ⟨h1 (sr 3 g2 [(3, .slice A6 (u ++ [(⟨a, b, v == 1⟩ : KWrite)]).length c6)] (hk [] (he (hN (tN ?_))))), trivial⟩))), trivial⟩)), trivial⟩)), trivial⟩) (hQ := by intro d h v c a w; exact read_put d h v c a w))) (fun hb2 x => bad (hbad (by rw [hr0, hr1]; exact noW2 hb2)) _ _ (fun w S e => ⟨_, _, _, _, _, _, e.sel [1, 3, 0, 2, 4] rfl⟩) fun a k => k.wk)), trivial⟩)) (fun hb1 x => bad (hbad (by rw [hr0]; exact noW1 hb1)) _ _ (fun w S e => ⟨_, _, _, _, _, _, e.sel [1, 3, 0, 2, 4] rfl⟩) fun a k => k.wk)), trivial⟩))), h1 (jI [.blk g2 26 [I v1, I v2, .slice A3 s.length c3, .slice B3 u.length d3], .own 66 3 (.slice B3 u.length d3) u.length (u.flatMap KWrite.cells), .blk g3 4 [B false], .own 95 2 (.slice A3 s.length c3) s.length (s.flatMap KSeen.cells)] 39 g9 A4 c4 r1 rd_next hT (fun _ _ e => e) (fun b r2 A5 c5 hr1 hp1 => hk [] (ho [1, 7] ⟨h1 (po 35 (.slice B3 u.length d3) [(0, 1, 2, 3)] f0 (hk [] (ho [7] ⟨h1 (jI [.blk g2 26 [I v1, I v2, .slice A3 s.length c3, .slice B3 u.length d3], .own 66 3 (.slice B3 u.length d3) u.length (u.flatMap KWrite.cells), .blk g3 4 [B false], .own 95 2 (.slice A3 s.length c3) s.length (s.flatMap KSeen.cells)] 41 g9 A5 c5 r2 rd_flag hT (fun _ _ e => e) (fun v r3 A7 c7 hr2 hp2 => hk [] (htD okR [] [8] [] f0 [(42, .agg #[I a, I b, B (v == 1)])] (ho [9] ⟨h1 (nw 43 (vs 1) [I a, I b, B (v == 1)] 66 fun g => hk [] (ho [10] ⟨h1 (ap 4 44 B3 d3 u ([(⟨a, b, v == 1⟩ : KWrite)] : List KWrite) inf24 (bA (f := KWrite.cells) (ok := tr) (l := ([(⟨a, b, v == 1⟩ : KWrite)] : List KWrite)) g 0 et.a) (hap _) KWrite.one fun A6 c6 _ => hk [] (ho [11] ⟨h1 (po 45 (Pt g2 3) [] f0 (hk [] (ho [12] ⟨h1 (sr 3 g2 [(3, .slice A6 (u ++ [(⟨a, b, v == 1⟩ : KWrite)]).length c6)] (hk [] (he (hN (tN ?_))))), trivial⟩))), trivial⟩)), trivial⟩)), trivial⟩) (hQ := by intro d h v c a w; exact read_put d h v c a w))) (fun hb2 x => bad (hbad (by rw [hr0, hr1]; exact noW2 hb2)) _ _ (fun w S e => ⟨_, _, _, _, _, _, e.sel [1, 3, 0, 2, 4] rfl⟩) fun a k => k.wk)), trivial⟩))), h1 (jI [.blk g2 26 [I v1, I v2, .slice A3 s.length c3, .slice B3 u.length d3], .own 66 3 (.slice B3 u.length d3) u.length (u.flatMap KWrite.cells), .blk g3 4 [B false], .own 95 2 (.slice A3 s.length c3) s.length (s.flatMap KSeen.cells)] 41 g9 A5 c5 r2 rd_flag hT (fun _ _ e => e) (fun v r3 A7 c7 hr2 hp2 => hk [] (htD okR [] [8] [] f0 [(42, .agg #[I a, I b, B (v == 1)])] (ho [1, 9] ⟨h1 (po 35 (.slice B3 u.length d3) [(0, 1, 2, 3)] f0 (hk [] (ho [9] ⟨h1 (nw 43 (vs 1) [I a, I b, B (v == 1)] 66 fun g => hk [] (ho [10] ⟨h1 (ap 4 44 B3 d3 u ([(⟨a, b, v == 1⟩ : KWrite)] : List KWrite) inf24 (bA (f := KWrite.cells) (ok := tr) (l := ([(⟨a, b, v == 1⟩ : KWrite)] : List KWrite)) g 0 et.a) (hap _) KWrite.one fun A6 c6 _ => hk [] (ho [11] ⟨h1 (po 45 (Pt g2 3) [] f0 (hk [] (ho [12] ⟨h1 (sr 3 g2 [(3, .slice A6 (u ++ [(⟨a, b, v == 1⟩ : KWrite)]).length c6)] (hk [] (he (hN (tN ?_))))), trivial⟩))), trivial⟩)), trivial⟩)), trivial⟩))), h1 (nw 43 (vs 1) [I a, I b, B (v == 1)] 66 fun g => hk [] (ho [1] ⟨h1 (po 35 (.slice B3 u.length d3) [(0, 1, 3, 3)] f0 (hk [] (ho [10] ⟨h1 (ap 4 44 B3 d3 u ([(⟨a, b, v == 1⟩ : KWrite)] : List KWrite) inf24 (bA (f := KWrite.cells) (ok := tr) (l := ([(⟨a, b, v == 1⟩ : KWrite)] : List KWrite)) g 0 et.a) (hap _) KWrite.one fun A6 c6 _ => hk [] (ho [11] ⟨h1 (po 45 (Pt g2 3) [] f0 (hk [] (ho [12] ⟨h1 (sr 3 g2 [(3, .slice A6 (u ++ [(⟨a, b, v == 1⟩ : KWrite)]).length c6)] (hk [] (he (hN (tN ?_))))), trivial⟩))), trivial⟩)), trivial⟩))), trivial⟩)), trivial⟩) (hQ := by intro d h v c a w; exact read_put d h v c a w))) (fun hb2 x => bad (hbad (by rw [hr0, hr1]; exact noW2 hb2)) _ _ (fun w S e => ⟨_, _, _, _, _, _, e.sel [1, 3, 0, 2, 4] rfl⟩) fun a k => k.wk)), trivial⟩)) (fun hb1 x => bad (hbad (by rw [hr0]; exact noW1 hb1)) _ _ (fun w S e => ⟨_, _, _, _, _, _, e.sel [1, 3, 0, 2, 4] rfl⟩) fun a k => k.wk)), trivial⟩)) (fun hb0 x => bad (hbad (by exact noW0 hb0)) _ _ (fun w S e => ⟨_, _, _, _, _, _, e.sel [1, 3, 0, 2, 4] rfl⟩) fun a k => k.wk)), trivial⟩) (hQ := by intro d h v c a w; exact read_put d h v c a w))
        all_goals
         refine rg (ra [] f0 [(32, I (IntKind.i64.wrap (((u.length : Nat) : Int) + 1)))] (tN ?_)); refine sb 32 (congrArg I (hwl.trans (by simp : ((u.length : Nat) : Int) + 1 = (((u ++ [(⟨a, b, v == 1⟩ : KWrite)]).length : Nat) : Int)))) ?_; exact fun a' w S k' e => ⟨k, ⟨k, u ++ [⟨a, b, v == 1⟩], A6, c6, r3, A7, c7, S, k'.wk, e.sel [3, 4, 1, 2, 5, 6], by rw [hg, hr0, hr1, hr2]; exact fnW_step _ _ _ _ _ _ _ _ _ hp2, by simp; omega, rfl⟩, by omega⟩
       ·refine sb 33 (bf (decide_eq_false hlt)) (cf (kX (tX (tX ?_)))); obtain rfl : k = 0 := by omega
        refine hH (tN ?_); exact fun a w S k e => ⟨u, B3, d3, rest, Ar, cr, S, k.wk, e, by rw [hg]; rfl⟩
     ·refine bad ?_ _ _ (fun w S e => ⟨_, _, _, _, _, _, e.sel [1, 3, 0, 2] rfl⟩) fun a k => k.wk
      rw [hg]; cases rest with
      | nil => rfl
      | cons n y => exact if_neg (hb _ _ rfl)
    ·clear hg; rintro a w ⟨u, B3, d3, rest, Ar, cr, hJ⟩; refine hJ.go fun hg => ?_
     clear hJ; refine so (A := B3) (c := d3) 1 KWrite.cells tr u tr_mv et ?_; refine so (A := A3) (c := c3) 5 KSeen.cells tr s tr_mv et ?_; refine pm (E' := [.blk g2 26 [I v1, I v2, .slice A3 s.length c3, .slice B3 u.length d3], .blk g3 4 [B false], .blk g9 127 [.slice Ar rest.length cr], .dat (RowC Ar cr c_i64 tr rest), .dat (RowC A3 c3 KSeen.cells tr s), .dat (RowC B3 d3 KWrite.cells tr u)]) [0, 4, 2, 3, 5, 1] ?_; refine sq (rg (rn 7 [(3, 1, 2, 0)] f0 [(53, B (((rest.length : Nat) : Int) == 0))] ?_)); have sel : ∀ w S, Ez S0 w0 w S [.blk g2 26 [I v1, I v2, .slice A3 s.length c3, .slice B3 u.length d3], .blk g3 4 [B false], .blk g9 127 [.slice Ar rest.length cr], .dat (RowC Ar cr c_i64 tr rest), .dat (RowC A3 c3 KSeen.cells tr s), .dat (RowC B3 d3 KWrite.cells tr u)] → ∃ x0 x1 x2 x3 y E', Ez S0 w0 w S (.blk g2 26 [x0, x1, x2, x3] :: .blk g3 4 [y] :: E') := fun w S e => ⟨_, _, _, _, _, _, e⟩
     by_cases hr : rest = []
     ·subst hr; have hg : tg = some ⟨v1, v2, s, u⟩ := by rw [hg]; simp [fnW]
      rw [hg] at hG; obtain ⟨bf, hbf, hG⟩ := bs hG; refine sb 53 (bt (b := ((([] : List Int).length : Nat) : Int) == 0) rfl) (rn 1 [(0, 4, 0, 0)] f0 [(54, .agg #[I v1, I v2, .slice A3 s.length c3, .slice B3 u.length d3])] ?_); refine fm (KTxL.ok ⟨v1, v2, A3, c3, s, B3, d3, u⟩) (fun a b c d h S' W h1 h2 => ⟨gd' (RowC A3 c3 KSeen.cells tr s) 4 rfl a b c d h S' W h1 h2, gd' (RowC B3 d3 KWrite.cells tr u) 5 rfl a b c d h S' W h1 h2⟩) ?_; refine l1 (cl 55 (z_journal_formed F ⟨v1, v2, A3, c3, s, B3, d3, u⟩ bf hbf) hT ⟨(gd' (KTxL.ok ⟨v1, v2, A3, c3, s, B3, d3, u⟩) 0).a, trivial⟩ (rn 1 [] f0 [(56, B bf)] ?_)); cases bf with
      | false => exact l1 (pn jneed_bad (bad0 (oi hG).symm _ _ (fun w S e => sel w S (Es.drop e (List.sublist_cons_self _ _))) fun a k => k.wk))
      | true =>
       obtain rfl := oi hG; refine l1 (cl 57 jneed_ok hT trivial (nl (tN (sq ?_)))); refine rg (rn 1 [(0, 4, 1, 0)] f0 [(58, .agg #[I v1, I v2, .slice A3 s.length c3, .slice B3 u.length d3])] (l1 (sr 1 g2 (ns 0 [I v1, I v2, .slice A3 s.length c3, .slice B3 u.length d3]) (l1 (sr 2 g3 [(0, B true)] (nl (tN (kR ?_)))))))); refine pm (E' := .blk g2 26 [I v1, I v2, .slice A3 s.length c3, .slice B3 u.length d3] :: .blk g3 4 [B true] :: [.dat (KTxL.ok ⟨v1, v2, A3, c3, s, B3, d3, u⟩)]) [1, 2, 0] ?_; exact read_end (fun a k => k.wk) fun S w e => ⟨⟨v1, v2, A3, c3, s, B3, d3, u⟩, rfl, rfl, Es.b e, KTxL.mv _ _ _ _ _ (Ez.get e (i := 2) rfl) (Es.sub e) (Ag.refl _ _), trivial⟩
     ·have hg : tg = none := by
       rw [hg]; cases rest with
       | nil => exact absurd rfl hr
       | cons x y => rfl
      refine sb 53 (bf (b := ((rest.length : Nat) : Int) == 0) (by cases rest with | nil => exact absurd rfl hr | cons x y => simp; omega)) (rn 3 [] f0 [(56, B false)] ?_); exact l1 (pn jneed_bad (bad hg _ _ sel fun a k => k.wk))
  ·exact bad (by rw [← htg, hl1]; cases l1' with | nil => rfl | cons a b => exact absurd trivial (hb _ _ rfl)) _ _ (fun w S e => ⟨_, _, _, _, _, _, e.sel [2, 1, 0] rfl⟩) fun a k => k.wk
 ·exact bad (by rw [← htg]; cases l with | nil => rfl | cons a b => exact absurd trivial (hb _ _ rfl)) _ _ (fun w S e => ⟨_, _, _, _, _, _, e.sel [2, 1, 0] rfl⟩) fun a k => k.wk
end Go.Proofs.Ytlfkgbideknkhaa
namespace Go.Proofs.Ytlfkgbideknkhaa
open Go.RowKit Go.Maps
section
variable {S0 S : Nat → Prop} {w0 w w' : World} {n : Nat} {K : List (Nat × Value)} {E : List Iz} {P : Program} {ops : Array Oper} {Q : Exit → Act → World → Prop} {o : Oper} {L : List Oper} {X : Act → World → Prop}
def wY (P : Program) (ops : Array Oper) (Q : Exit → Act → World → Prop) (L : List Oper) : Act → World → Prop := wpListIn Fence.wide 40 P ops Q L
theorem rgY [DSc] {id : Nat} (h : Ge S0 w0 n K E (wY P L.toArray Q L)) : Ge S0 w0 n K E ((Code.region id L.toArray false).wp P Q) := fun a w S hK hE => wpIn_wide.1 (wpIn_region_lit (h a w S hK hE))
theorem rnY [DSc] (m : Nat) (hs : List (Nat × Nat × Nat × Nat)) {fs : List Fct} (hF : AllF P fs) (new : List (Nat × Value)) (h : Ge S0 w0 n (new ++ K) E (wY P ops Q (L.drop m))) (he : Rck P n ops E K L m hs fs new := by intro J; kernel_rfl) (hc : clash new K m L = true := by kernel_rfl) :
  Ge S0 w0 n K E (wY P ops Q L) := fun a w S hK hE => by
 refine run_all (C := fun w' => w' = w) (W := fun L a => wY P ops Q L a w) (fun o L a v d hd hw hr hk => ?_) (fun o L a hw hk => ?_) hF he hc hK (fun w' e => ⟨S0, w0, S, e ▸ hE⟩) (fun a' ha' => h a' w S ha' hE)
 ·refine wpListIn_step fun Kx hx => ?_
  rw [if_pos hw]; refine ⟨fun _ _ => trivial, ?_⟩; rw [show o.semAt Fence.wide.round a.eval = execOp a.eval o from rfl, hr w rfl, Oper.uponIn_value, hd]; exact hx _ _ hk
 ·refine wpListIn_step fun Kx hx => ?_
  rw [if_neg (by rw [hw]; simp)]; exact ⟨fun _ _ => trivial, hx _ _ hk⟩
theorem raY [DSc] (hs : List (Nat × Nat × Nat × Nat)) {fs : List Fct} (hF : AllF P fs) (new : List (Nat × Value)) (h : Ge S0 w0 n (new ++ K) E (Q .normal)) (he : Rck P n ops E K L L.length hs fs new := by intro J; kernel_rfl) (hc : clash new K L.length L = true := by kernel_rfl) :
  Ge S0 w0 n K E (wY P ops Q L) := rnY L.length hs hF new (by rw [List.drop_length]; exact h) he hc
theorem yY [DSc] {Y : World → Prop} (d l : Nat) (args : List Value) (hY : ∀ w S, Ez S0 w0 w S E → YieldAt Fence.wide 39 P l args.toArray w fun e w' => e = .returned (.bool true) ∧ Y w')
  (h : ∀ w', Y w' → ∃ S E', Ez S0 w0 w' S E' ∧ Ge S0 w0 n ((d, .bool true) :: K) E' (wY P ops Q L)) (hg : gd ops K o = some true := by kernel_rfl)
  (he : ∀ J W, (execOp (rho K J) o).run P W = (Instr.yield l args.toArray).run P W) (hd : o.dst = some d := by kernel_rfl) (hn : Nat.blt d n = true := by kernel_rfl) :
  Ge S0 w0 n K E (wY P ops Q (o :: L)) := fun a w S hK hE => by
 refine wpListIn_step fun Kx hx => ?_
 rw [if_pos (hK.wanted hg)]; refine ⟨fun _ _ => trivial, ?_⟩; rw [show o.semAt Fence.wide.round a.eval = execOp a.eval o from rfl, hK.eval, he]; obtain ⟨fn, tmps, asg, body, h1, h2⟩ := hY w S hE; rw [h1, Oper.uponIn_round]; refine ⟨fun h => (by cases h), h2.mono ?_⟩; rintro e w' ⟨rfl, hY'⟩; obtain ⟨S', E', hE', hGe⟩ := h w' hY'; rw [hd]; exact hx _ _ (hGe _ _ _ (hK.put hn _) hE')
end
end Go.Proofs.Ytlfkgbideknkhaa
namespace Go.Proofs.Ytlfkgbideknkhaa
open Go.RowKit Go.Maps
def recG (F : Nat) : List (List Int) → Int → Option (List KTx)
 | [], _ => some []
 | f :: fs, last => Option.bind (G_journal_read F f) (un2 fun t ok => ifB (!ok || decide (t.Ts ≤ last)) (some []) (Option.bind (recG F fs t.Ts) fun r => some (t :: r)))
set_option maxRecDepth 100000 in
set_option maxHeartbeats 8000000 in
theorem records1_c (F : Nat) (S0 : Nat → Prop) (w0 w : World) (S : Nat → Prop) (E0 : List Iz) (JE : List KTx → List Iz → Prop) (N : Nat) (hT : Tb w0) (l Bs : Nat) (Af : Option Addr) (cF : Nat) (fs : List KSintL) (rs : List KTx) (hrs : recG F (fs.map KSintL.p) 0 = some rs) (hlen : fs.length < N) (hNb : N ≤ 4611686018427387904)
  (hJ0 : JE [] E0) (hE : Ez S0 w0 w S (.blk Bs 71 [.slice Af fs.length cF] :: .dat (RowC Af cF KSintL.cells KSintL.ok fs) :: E0))
  (hY : ∀ (pre : List KTx) (t : KTxL) (Ex E' : List Iz) (w : World) (S : Nat → Prop), JE pre E' → pre.length < N → (∃ r', pre ++ t.p :: r' = rs) → Ez S0 w0 w S (.dat (KTxL.ok t) :: (Ex ++ E')) →
   YieldAt Fence.wide 39 Try.prog l [(.agg #[I t.ID, I t.Ts, .slice t.Reads_A t.Reads.length t.Reads_c, .slice t.Writes_A t.Writes.length t.Writes_c] : Value)].toArray w fun e w' => e = .returned (.bool true) ∧ ∃ S E'', JE (pre ++ [t.p]) E'' ∧ Ez S0 w0 w' S (Ex ++ E'')) :
  Calls Try.prog 65 [.func (.yield l) #[] #[], Pt Bs 0].toArray w fun e w' => (∃ v, e = .returned v) ∧ ∃ S E'', JE rs E'' ∧ Ez S0 w0 w' S E'' := by
 refine vc_enter Try.func65 rfl rfl (by kernel_rfl) fun a hK => ?_
 refine (?_ : Ge S0 w0 36 _ (.blk Bs 71 [.slice Af fs.length cF] :: .dat (RowC Af cF KSintL.cells KSintL.ok fs) :: E0) _) a w S hK hE; clear hK hE a w S; refine sq (rg (ra [] f0 [(3, I 0)] (tN (sq ?_)))); refine rg (ra [(0, 1, 0, 0)] f0 [(8, .slice Af fs.length cF), (9, I ((fs.length : Nat) : Int)), (10, I 0)] (tN (bk ?_))); refine lp (fun K E m a w => ∃ (i : Nat) (last : Int) (pre post : List KTx) (E' : List Iz), Js S0 w0 36 [(3, I last), (8, .slice Af fs.length cF), (9, I ((fs.length : Nat) : Int)), (10, I (i : Nat)), (0, .func (.yield l) #[] #[]), (1, Pt Bs 0)] (.blk Bs 71 [.slice Af fs.length cF] :: .dat (RowC Af cF KSintL.cells KSintL.ok fs) :: E') (JE pre E' ∧ recG F ((fs.drop i).map KSintL.p) last = some post ∧ pre ++ post = rs ∧ pre.length = i ∧ i ≤ fs.length ∧ m + i = fs.length) a w) fs.length ?_ ?_
 ·exact fun a w S k e => ⟨0, 0, [], rs, E0, S, k.wk, e, hJ0, hrs, rfl, rfl, Nat.zero_le _, by omega⟩
 ·rintro m a w ⟨i, last, pre, post, E', hJ⟩; refine hJ.go fun ⟨hje, hpo, hpp, hpi, hi, hm⟩ => ?_
  clear hJ; refine sq (rg (ra [] f0 [(11, B (decide (((i : Nat) : Int) < ((fs.length : Nat) : Int))))] (tN (sq ?_))))
  by_cases hlt : i < fs.length
  ·refine sb 11 (bt (b := decide (((i : Nat) : Int) < ((fs.length : Nat) : Int))) (decide_eq_true (by omega))) (ct (kS (tN (sq (bk (sq ?_)))))); have hdr : fs.drop i = fs[i] :: fs.drop (i + 1) := List.drop_eq_getElem_cons hlt; rw [hdr, List.map_cons] at hpo; have hy : ixI (fs.map KSintL.p) ((i : Nat) : Int) = some (fs[i]).p := by unfold ixI; rw [if_pos (by omega)]; simp [hlt]
   obtain ⟨x, hx⟩ : ∃ x, (fs[i]).p = x := ⟨_, rfl⟩; rw [hx] at hpo hy; refine rg (fxn (p := KSintL.p) inf71 (gd' (RowC Af cF KSintL.cells KSintL.ok fs) 1) hy fun v b o he hi2 => ra [(0, 0, 0, 0), (0, 1, 0, 0)] (fc (hi2 .i64) f0) [(5, .slice v.A v.l.length v.c)] (tN (sq ?_))); subst he; obtain ⟨t0, ok, hrd, hpo⟩ := b2 hpo; refine rg (rn 1 [] f0 [(15, .slice v.A v.l.length v.c)] (l1 (cn 16 (z_journal_read F v.A v.c v.l _ hrd) hT (fun _ => (mc KTxL.mv m0)) ⟨gm (KSintL.ok v) 1 fun _ _ h => h.f_l, trivial⟩ ?_))); rintro t ht; obtain rfl : t0 = t.p := ht; refine rn 3 [] f0 [(17, .agg #[I t.ID, I t.Ts, .slice t.Reads_A t.Reads.length t.Reads_c, .slice t.Writes_A t.Writes.length t.Writes_c]), (18, B ok)] (l1 (nw 6 vp [I 0, I 0, .slice none 0 0, .slice none 0 0] 26 fun g6 => l1 (sr 0 g6 (ns 0 [I t.ID, I t.Ts, .slice t.Reads_A t.Reads.length t.Reads_c, .slice t.Writes_A t.Writes.length t.Writes_c]) (ra [] f0 [(7, B ok)] (tN (sq ?_)))))); have hfin : ∀ K E2, post = [] → (∀ w S, Ez S0 w0 w S E2 → Ez S0 w0 w S E') → Ge S0 w0 36 K E2 (bodyPost Try.prog Try.f65 (fun e w' => (∃ v, e = .returned v) ∧ ∃ S E'', JE rs E'' ∧ Ez S0 w0 w' S E'') .ret) := fun K E2 hp hs => by
    subst hp; rw [List.append_nil] at hpp; subst hpp; exact ri [] (.tuple #[]) (fun a w S k e => ⟨⟨_, rfl⟩, S, E', hje, hs w S e⟩)
   have hsub : ∀ w S, Ez S0 w0 w S (.blk g6 26 [I t.ID, I t.Ts, .slice t.Reads_A t.Reads.length t.Reads_c, .slice t.Writes_A t.Writes.length t.Writes_c] :: .dat (KTxL.ok t) :: .rc b o [.slice v.A v.l.length v.c] :: .dat (KSintL.ok v) :: .blk Bs 71 [.slice Af fs.length cF] :: .dat (RowC Af cF KSintL.cells KSintL.ok fs) :: E') → Ez S0 w0 w S E' := fun w S e => Ez.sub' e (.cons _ (.cons _ (.cons _ (.cons _ (.cons _ (.cons _ (.refl _)))))))
   rcases ic hpo with ⟨h5, hpo2⟩ | ⟨h5, hpo2⟩
   ·have hp0 := (oi hpo2).symm; cases ok with
    | false =>
     refine sq (rg (ra [] f0 [(32, B true)] (tN (ct (kR ?_)))))
     repeat (first | refine tR ?_ | refine hR ?_)
     exact hfin _ _ hp0 hsub
    | true =>
     refine sq (rg (rn 8 [(4, 1, 0, 1)] f0 [(26, B (decide (t.Ts ≤ last)))] (sb 26 (bt (b := decide (t.Ts ≤ last)) (decide_eq_true (p := t.Ts ≤ last) (show t.p.Ts ≤ last from by simpa using h5))) (ra [] f0 [(32, B true)] (tN (ct (kR ?_)))))))
     repeat (first | refine tR ?_ | refine hR ?_)
     exact hfin _ _ hp0 hsub
   ·have hok : ok = true ∧ last < t.p.Ts := by simpa using h5
    obtain ⟨rfl, hts⟩ := hok; obtain ⟨r', hr', hpo3⟩ := bs hpo2; have hp0 : post = t.p :: r' := (oi hpo3).symm; subst hp0
    change Ge S0 w0 36 _ (.blk g6 26 [I t.ID, I t.Ts, .slice t.Reads_A t.Reads.length t.Reads_c, .slice t.Writes_A t.Writes.length t.Writes_c] :: .dat (KTxL.ok t) :: .rc b o [.slice v.A v.l.length v.c] :: .dat (KSintL.ok v) :: .blk Bs 71 [.slice Af fs.length cF] :: .dat (RowC Af cF KSintL.cells KSintL.ok fs) :: E') _
    refine sq (rgY (rnY 8 [(4, 1, 0, 1)] f0 [(26, B (decide (t.Ts ≤ last)))] (sb 26 (bf (b := decide (t.Ts ≤ last)) (decide_eq_false (p := t.Ts ≤ last) (show ¬ t.p.Ts ≤ last by omega))) (rnY 3 [(2, 4, 0, 0)] f0 [(27, B false), (28, .func (.yield l) #[] #[]), (29, .agg #[I t.ID, I t.Ts, .slice t.Reads_A t.Reads.length t.Reads_c, .slice t.Writes_A t.Writes.length t.Writes_c])] ?_)))); refine yY (Y := fun w' => ∃ S E'', JE (pre ++ [t.p]) E'' ∧ Ez S0 w0 w' S ([.blk g6 26 [I t.ID, I t.Ts, .slice t.Reads_A t.Reads.length t.Reads_c, .slice t.Writes_A t.Writes.length t.Writes_c], .rc b o [.slice v.A v.l.length v.c], .dat (KSintL.ok v), .blk Bs 71 [.slice Af fs.length cF], .dat (RowC Af cF KSintL.cells KSintL.ok fs)] ++ E'')) 30 l [.agg #[I t.ID, I t.Ts, .slice t.Reads_A t.Reads.length t.Reads_c, .slice t.Writes_A t.Writes.length t.Writes_c]] (fun w S e => hY pre t _ E' w S hje (by omega) ⟨r', hpp⟩ (Ez.prm e (.swap _ _ _))) ?_ (he := by intro J W; simp [execOp, resolve, invoke, go_sem, rho, look]); rintro w' ⟨S', E'', hj2, hE2⟩; refine ⟨S', _, hE2, ?_⟩; have hwl : IntKind.i64.wrap (((i : Nat) : Int) + 1) = ((i + 1 : Nat) : Int) := by unfold IntKind.wrap; simp [IntKind.signed, IntKind.bits]; omega
    refine raY [] f0 [(32, B false)] (tN (cf (kS (tN ?_)))); refine rg (ra [(1, 1, 0, 1)] f0 [(3, I t.Ts)] (hN (tN ?_))); refine rg (ra [] f0 [(10, I (IntKind.i64.wrap (((i : Nat) : Int) + 1)))] (tN ?_)); refine sb 10 (congrArg I hwl) ?_; exact fun a w S k e => ⟨m - 1, ⟨i + 1, t.Ts, pre ++ [t.p], r', E'', S, k.wk, Ez.sub' e (.cons _ (.cons _ (.cons _ (.refl _)))), hj2, hr', by rw [List.append_assoc]; exact hpp, by simp [hpi], hlt, by omega⟩, by omega⟩
  ·have hdr : fs.drop i = [] := List.drop_eq_nil_of_le (by omega); rw [hdr] at hpo; have hp0 : post = [] := (oi hpo).symm; subst hp0; rw [List.append_nil] at hpp; subst hpp; refine sb 11 (bf (b := decide (((i : Nat) : Int) < ((fs.length : Nat) : Int))) (decide_eq_false (by omega))) (cf (kX (tX (tX ?_)))); refine hH (fall ?_); exact ri [] (.tuple #[]) (fun a w S k e => ⟨⟨_, rfl⟩, S, E', hje, Ez.sub' e (.cons _ (.cons _ (.refl _)))⟩)
end Go.Proofs.Ytlfkgbideknkhaa
namespace Go.Proofs.Ytlfkgbideknkhaa
open Go.RowKit Go.Maps
abbrev Gi (l : Nat) : Fence := Fence.wide.inRound l
section
variable {S0 S : Nat → Prop} {w0 w w' : World} {n : Nat} {K : List (Nat × Value)} {E : List Iz} {P : Program} {ops : Array Oper} {Q : Exit → Act → World → Prop} {o : Oper} {L : List Oper} {X : Act → World → Prop} {a : Act} {l k : Nat} {x y c : Code} {id : Nat}
theorem upon_in {Kx : Act → World → Prop} : ∀ {r : Result Next}, o.upon P a Kx Q r → o.uponIn (Gi l) k P a Kx Q r
 | .ok (.value _) _, h => h
 | .ok .skip _, h => h
 | .ok (.defer _) _, h => h
 | .ok (.enter _ _) _, h => ⟨fun h => (by cases h), CallsIn.inRound l (callsIn_wide.2 h)⟩
 | .ok (.row _ _) _, h => ⟨fun h => (by cases h), fun c cs _ => let ⟨v, w', r, s⟩ := h c cs; ⟨v, w', r, stepsIn_wide.2 s⟩⟩
 | .halt (.panic _) _, h => h
def nodB (o : Oper) : Bool := match o.op with | .defer _ => false | _ => true
theorem nodB_ne (h : nodB o = true) : ∀ c, o.op ≠ .defer c := fun c e => by unfold nodB at h; rw [e] at h; cases h
theorem wpOps_in (hlo : ¬ LetsOut Q) (hnd : ∀ (i : Nat) (o : Oper), ops[i]? = some o → nodB o = true) : ∀ (is : List Nat) (a : Act) (w : World), wpOps P ops Q is a w → wpOpsIn (Gi l) k P ops Q is a w
 | [], _, _, h => h
 | i :: is, a, w, h => by
  unfold wpOps at h; unfold wpOpsIn; cases ho : ops[i]? with
  | none => rw [ho] at h; exact wpOps_in hlo hnd is a w h
  | some o =>
   rw [ho] at h; simp only at h ⊢
   split
   ·next hw =>
    rw [if_pos hw] at h; rcases h with h | ⟨_, h⟩
    ·refine ⟨fun _ _ => trivial, ?_⟩; rw [Oper.semAt_eq _ _ _ (nodB_ne (hnd i o ho))]; exact upon_in (Oper.wp_mono (fun a w => wpOps_in hlo hnd is a w) h)
    ·exact absurd h hlo
   ·next hw =>
    rw [if_neg hw] at h; exact ⟨fun _ _ => trivial, wpOps_in hlo hnd is _ w h⟩
theorem sqI [DSc] (h : Ge S0 w0 n K E (x.wpIn (Gi l) k P (Exit.then (y.wpIn (Gi l) k P Q) Q))) : Ge S0 w0 n K E ((Code.seq x y).wpIn (Gi l) k P Q) := fun a w S hK hE => wpIn_seq (h a w S hK hE)
theorem bkI [DSc] (h : Ge S0 w0 n K E (c.wpIn (Gi l) k P (Exit.inBlock id Q))) : Ge S0 w0 n K E ((Code.block id c).wpIn (Gi l) k P Q) := fun a w S hK hE => wpIn_block (h a w S hK hE)
theorem kSI [DSc] (h : Ge S0 w0 n K E (Q .normal)) : Ge S0 w0 n K E (Code.skip.wpIn (Gi l) k P Q) := fun a w S hK hE => wpIn_skip (h a w S hK hE)
theorem nodL (hnd : L.all nodB = true) : ∀ (i : Nat) (o : Oper), L.toArray[i]? = some o → nodB o = true := fun i o h => List.all_eq_true.1 hnd o (List.mem_of_getElem? (by simpa using h))
theorem rgI [DSc] (h : Ge S0 w0 n K E (wpList P L.toArray Q L)) (hlo : ¬ LetsOut Q) (hnd : L.all nodB = true := by kernel_rfl) : Ge S0 w0 n K E ((Code.region id L.toArray false).wpIn (Gi l) k P Q) := fun a w S hK hE => by
 refine wpIn_region (wpOps_in hlo (nodL hnd) _ _ _ ?_); have h1 := h a w S hK hE; rw [List.range_eq_range', show L.toArray.size = L.length by simp, wpOps_eq_wpList L 0 (by simp)]; exact h1
theorem hbI [DSc] (il : List Nat) (h : Ge S0 w0 n K E (wH P L.toArray Q S0 w0 (se E il) [])) (hlo : ¬ LetsOut Q) (hm : P.follows .mixedOrders = true := by kernel_rfl) (hnd : L.all nodB = true := by kernel_rfl) : Ge S0 w0 n K E ((Code.region id L.toArray true).wpIn (Gi l) k P Q) := fun a w S hK hE => by
 refine wpIn_region_draw fun t => ?_
 simp only [Region.schedule, hm, Bool.true_or, if_true]; have h2 : Ez S0 w0 w.drew S E := Es.drew hE; exact wpOps_in hlo (nodL hnd) _ _ _ (wpAny_sound L.toArray.size t _ a _ (wpAny_of_held _ _ _ _ (h a _ S hK h2)))
theorem cfI [DSc] {t : Operand} (h : Ge S0 w0 n K E (y.wpIn (Gi l) k P Q)) (hc : ∀ J, rho K J t = .bool false := by intro J; kernel_rfl) : Ge S0 w0 n K E ((Code.cond t x y).wpIn (Gi l) k P Q) := fun a w S hK hE => wpIn_cond_false (by rw [hK.eval]; exact hc _) (h a w S hK hE)
theorem Ez.obj (h : Ez S0 w0 w S E) (o : Obj) : Ez S0 w0 (w.alloc o) S (.ob w.heap.size o :: E) := by
 have hb : Below w.heap.size w (w.alloc o) := (Below.refl _ _).alloc (Nat.le_refl _) _; have h' := Es.same h hb; refine ⟨h'.b, h'.e, h'.lt, fun y hy => ?_, List.pairwise_cons.2 ⟨fun y hy g hg hg' => ?_, Es.p h⟩⟩
 ·rcases List.mem_cons.1 hy with rfl | hy
  ·exact ⟨(Es.b h).size, fun hs => Nat.lt_irrefl _ (Es.lt h _ hs), World.alloc_heap_new w o⟩
  ·exact h'.k y hy
 ·have hg : w.heap.size = g := by simpa [Iz.ik, Ik.at] using hg
  subst hg; have := ((Es.k h y hy).lt hg').2; omega
theorem Ez.putOb {g : Nat} {ob ob' : Obj} (h : Ez S0 w0 w S E) (i : Nat) (hi : E[i]? = some (.ob g ob)) : Ez S0 w0 (w.putObj g ob') S (E.set i (.ob g ob')) := by
 have hi' := Ez.at h hi
 have hok := Es.k h _ (List.mem_of_getElem? hi'); have hlt := (Array.getElem?_eq_some_iff.1 hok.2.2).1; have h1 := Es.put (w' := w.putObj g ob') (y := .ob g ob') h i hi' ((Es.b h).grown (grownBy_putObj' w g ob') (Es.b h).size (fun k e => by cases e; exact hok.1)) (fun _ h => h) (fun _ h => .inl h) (by simp) ⟨hok.1, hok.2.1, World.putObj_heap_same hlt⟩ (fun _ h => .inl h) (fun k _ hne => World.putObj_heap_other (fun e => hne (by simp [Iz.ik, Ik.at, e])))
 show Es S0 w0 _ S ((E.set i (.ob g ob')).map Iz.ik)
 rw [List.map_set]; exact h1
end
end Go.Proofs.Ytlfkgbideknkhaa
namespace Go.Proofs.Ytlfkgbideknkhaa
open Go.RowKit Go.Maps Go.Shelf
theorem post_M {F : Fence} {n : Nat} {P : Program} {fn : Func} {R : Ending → World → Prop} {a : Act} {w : World} (h : bodyPost P fn R .ret a w) : bodyPostM F n P fn R .ret a w := by
 obtain ⟨hd, v, hr, hR⟩ := h
 show LeavesInM F n P fn a.tmps R a.defers .returning w
 rw [hd]
 show LeavesIn F n P fn a.tmps R [] .returning w
 unfold LeavesIn
 first | exact .inl ⟨_, _, rfl, hr, hR⟩ | exact ⟨_, hr, hR⟩ | exact .inl ⟨v, hr, hR⟩ | trace_state
theorem fiM {P : Program} {f : FuncId} {fn : Func} {c : Code} {args : List Value} {n' : Nat} {R : Ending → World → Prop} {w : World} (hf : P.funcs[f]? = some fn) (hb : fn.body = some c) (hn : fn.ntmps = n') (hs : Nat.ble args.length n' = true)
  (h : ∀ a, Kn n' (argK args 0) a → c.wp P (bodyPostM Fence.wide 40 P fn R) a w) : Calls P f args.toArray w R := by
 refine (callsIn_wide (n := 40)).1 ?_; refine callsIn_of_wp_marks hf hb trivial ?_ rfl; refine wpIn_wide.2 ?_; refine h _ ⟨rfl, ?_, fun i v hv => ?_⟩
 ·have : args.length ≤ n' := Nat.le_of_ble_eq_true hs
  simp [hn]; omega
 ·obtain ⟨_, h2⟩ := argK_look args 0 i v hv; have hi : i < args.length := by
   have := (List.getElem?_eq_some_iff.1 h2).1; omega
  have : (args.toArray ++ Array.replicate (fn.ntmps - args.toArray.size) undef)[i]? = args[i]? := by
   rw [Array.getElem?_append_left (by simpa using hi)]; simp
  rw [this]
  simpa using h2
section
variable {S0 S : Nat → Prop} {w0 w w' : World} {n : Nat} {K : List (Nat × Value)} {E : List Iz} {P : Program}
theorem goM {F : Fence} {k : Nat} {fn : Func} {R : Ending → World → Prop} (h : Ge S0 w0 n K E (bodyPost P fn R .ret)) : Ge S0 w0 n K E (bodyPostM F k P fn R .ret) := fun a w S hK hE => post_M (h a w S hK hE)
theorem finM {f : FuncId} {fn : Func} {c : Code} {args : List Value} {Hs : List Pr} {β : Type} {q : β → Prop} {vf : β → Value} {ok : β → List Pr} (hf : P.funcs[f]? = some fn) (hb : fn.body = some c) (hn : fn.ntmps = n) (m : Mvs Hs)
  (h : ∀ S0 w0, Tb w0 → Ge S0 w0 n (argK args 0) (Hs.map .dat) (c.wp P (bodyPostM Fence.wide 40 P fn fun e w' => ∃ x, q x ∧ e = .returned (vf x) ∧ Below w0.heap.size w0 w' ∧ AllH (ext S0 w0 w') w' (ok x)))) (hs : Nat.ble args.length n = true := by kernel_rfl) : Cn P f args Hs q vf ok :=
 fun S0 w0 hS hT hH => fiM hf hb hn hs fun a hK => h S0 w0 hT a w0 S0 hK (hH.ez hS m)
end
def offG (F : Nat) : List KTx → Int → Option Int
 | [], off => some off
 | t :: ts, off => Option.bind (G_journal_ints F t) fun is => Option.bind (G_codec_Frame F is) (un2 fun bs e => ifB (e == 0) (offG F ts (IntKind.i64.wrap (off + ((bs.length : Nat) : Int)))) none)
theorem offG_step {F : Nat} {t : KTx} {r : List KTx} : ∀ {pre : List KTx} {o0 o off : Int}, offG F (pre ++ t :: r) o0 = some off → offG F pre o0 = some o → ∃ is bs, G_journal_ints F t = some is ∧ G_codec_Frame F is = some (bs, 0) ∧ offG F (pre ++ [t]) o0 = some (IntKind.i64.wrap (o + ((bs.length : Nat) : Int)))
 | [], o0, o, off, h, h0 => by
  obtain rfl := oi h0; have h' := h; rw [List.nil_append] at h'; unfold offG at h'; obtain ⟨is, h1, h'⟩ := bs h'; obtain ⟨b, e, h2, h'⟩ := b2 h'; rcases ic h' with ⟨h3, h'⟩ | ⟨h3, h'⟩
  ·obtain rfl : e = 0 := by simpa using h3
   refine ⟨is, b, h1, h2, ?_⟩; rw [List.nil_append, offG, h1, Option.bind_some, h2]; rfl
  ·cases h'
 | x :: pre, o0, o, off, h, h0 => by
  rw [List.cons_append, offG] at h; rw [offG] at h0; obtain ⟨is, h1, h'⟩ := bs h; obtain ⟨b, e, h2, h'⟩ := b2 h'; rw [h1, Option.bind_some, h2] at h0; rcases ic h' with ⟨h3, h'⟩ | ⟨h3, h'⟩
  ·obtain rfl : e = 0 := by simpa using h3
   obtain ⟨is2, bs2, k1, k2, k3⟩ := offG_step h' h0; refine ⟨is2, bs2, k1, k2, ?_⟩; rw [List.cons_append, offG, h1, Option.bind_some, h2]; exact k3
  ·cases h'
def G_journal_Load (F : Nat) (b : List Int) : Option (List KTx × Int × Int) :=
 Option.bind (G_codec_Frames F b) (un3 fun fr _ e => ifB (!(e == 0)) (some (([] : List KTx), 0, e))
  (ifB (decide (fr.length ≤ 1000000)) (Option.bind (recG F fr 0) fun ts => Option.bind (offG F ts 0) fun off => some (ts, off, 0)) none))
set_option maxRecDepth 100000 in
set_option maxHeartbeats 8000000 in
theorem z_journal_Load (F : Nat) (A : Option Addr) (c : Nat) (b : List Int) (r : List KTx × Int × Int) (hG : G_journal_Load F b = some r) :
  Cn Try.prog 14 [.slice A b.length c] [RowC A c c_u8 tr b] (fun q : KSapi_TxL => r.1 = q.l.map KTxL.p) (fun q => .tuple #[.slice q.A q.l.length q.c, I r.2.1, I r.2.2]) (fun q => [RowC q.A q.c KTxL.cells KTxL.ok q.l]) := by
 unfold G_journal_Load at hG; refine finM Try.func14 rfl rfl (mr tr_mv m0) fun S0 w0 hT => ?_
 refine sq (rg (l1 (nw 2 vp [.slice none 0 0] 30 fun g2 => l1 (nw 3 vp [I 0] 3 fun g3 => l1 (nw 4 vp [I 0] 31 fun g4 => nl (tN (sq ?_))))))); obtain ⟨fr0, n, e, hfr, hG⟩ := b3 hG; refine rg (rn 1 [] f0 [(14, .slice A b.length c)] (l1 (cn 15 (z_codec_Frames F A c b _ hfr) hT (fun _ => (mr KSintL.mv m0)) ⟨gi 3, trivial⟩ ?_))); rintro ⟨fA, fc', fr⟩ hq; obtain rfl : fr.map KSintL.p = fr0 := hq.symm; refine ra [] f0 [(5, .slice fA fr.length fc'), (6, I n), (7, I e)] (tN (sq (sq (rg (ra [] f0 [(20, B (!(e == 0)))] (tN ?_)))))); rcases ic hG with ⟨he0, hG1⟩ | ⟨he0, hG1⟩
 ·refine sb 20 (bt he0) (ct (sq (rg ?_))); refine rn 1 [] f0 [(21, I e)] (l1 (sr 3 g2 [(0, .slice none 0 0)] (l1 (sr 2 g3 [(0, I 0)] (l1 (sr 1 g4 [(0, I e)] (nl (tN (kR (tR (goM ?_))))))))))); obtain rfl := oi hG1; exact rtn [(3, 0, 1), (2, 0, 1), (1, 0, 1)] ⟨none, 0, ([] : List KTxL)⟩ rfl ⟨gn, trivial⟩
 ·obtain rfl : e = 0 := by simpa using he0
  rcases ic hG1 with ⟨h2, hG2⟩ | ⟨_, hG2⟩
  ·have hfl : fr.length ≤ 1000000 := by simpa using h2
   obtain ⟨ts, hts, hG3⟩ := bs hG2; obtain ⟨off, hoff, hG4⟩ := bs hG3; obtain rfl := oi hG4; refine sb 20 (bf he0) (cf (kS (tN (sq ?_)))); refine rg (l1 (nw 8 vp [.slice none 0 0] 30 fun g8 => nl (tN (sq ?_)))); refine rg (l1 (nw 9 vp [I 0] 3 fun g9 => l1 (sr 0 g9 [(0, I 0)] (nl (tN (sq ?_)))))); refine sq (rg (rn 1 [] f0 [(22, .slice fA fr.length fc')] (l1 ?_))); refine ci 23 (fun E e w => ∃ gB S, e = .returned (.func (.func 65) #[] #[Pt gB 0]) ∧ Ez S0 w0 w S (.blk gB 71 [.slice fA fr.length fc'] :: E)) Try.func33 rfl rfl (args := [.slice fA fr.length fc']) ?_ ?_
   ·refine sq (rg (l1 (nw 1 vp [.slice fA fr.length fc'] 71 fun gB => ra [] f0 [] (tN (sq (rg (ra [] f0 [(2, .func (.func 65) #[] #[Pt gB 0])] (tN (kR (ri [] (.func (.func 65) #[] #[Pt gB 0]) ?_)))))))))); exact fun a w S k e => ⟨gB, S, rfl, e⟩
   ·rintro e w ⟨gB, S, rfl, hE⟩; refine ⟨_, rfl, S, _, _, rfl, hE, ?_⟩; clear hE; refine nl (tN (bk ?_)); intro a w S hK hE; refine (wpIn_wide (n := 40)).1 ?_; refine range_once rfl (by omega) (gf := 65) (lb := #[Pt gB 0]) (by rw [hK.eval]; kernel_rfl) trivial (enters_of Try.func65 (by kernel_rfl) rfl) ?_; intro fn r hfn hr; have hE2 := Ez.obj (Ez.obj hE (.deferred (some []))) (.loop r); rw [World.size_alloc] at hE2; obtain ⟨D, hD⟩ : ∃ D, D = w.heap.size := ⟨_, rfl⟩; rw [← hD] at hE2 ⊢; generalize ((w.alloc (.deferred (some []))).alloc (.loop r)) = V at hE2 ⊢
    change Ez S0 w0 V S (.ob (D + 1) (.loop r) :: .ob D (.deferred (some [])) :: .blk gB 71 [.slice fA fr.length fc'] :: .blk g9 3 [I 0] :: .blk g8 30 [.slice none 0 0] :: .dat (RowC fA fc' KSintL.cells KSintL.ok fr) :: .blk g4 31 [I 0] :: .blk g3 3 [I 0] :: .blk g2 30 [.slice none 0 0] :: [.dat (RowC A c c_u8 tr b)]) at hE2
    obtain ⟨JE, hJE⟩ : ∃ JE : List KTx → List Iz → Prop, ∀ pre E', JE pre E' ↔ ∃ (A' : Option Addr) (c' : Nat) (q : List KTxL) (o : Int), q.map KTxL.p = pre ∧ offG F pre 0 = some o ∧ E' = [.blk g8 30 [.slice A' q.length c'], .own 26 4 (.slice A' q.length c') q.length (q.flatMap KTxL.cells), .dat (Each KTxL.ok q), .blk g9 3 [I o], .ob (D + 1) (.loop r), .ob D (.deferred (some [])), .blk g4 31 [I 0], .blk g3 3 [I 0], .blk g2 30 [.slice none 0 0], .dat (RowC A c c_u8 tr b)] := ⟨_, fun _ _ => Iff.rfl⟩; have hJ0 := (hJE [] _).2 ⟨none, 0, [], 0, rfl, rfl, rfl⟩; have hE3 : Ez S0 w0 V S (.blk gB 71 [.slice fA fr.length fc'] :: .dat (RowC fA fc' KSintL.cells KSintL.ok fr) :: [.blk g8 30 [.slice none 0 0], .own 26 4 (.slice none 0 0) 0 [], .dat (Each KTxL.ok []), .blk g9 3 [I 0], .ob (D + 1) (.loop r), .ob D (.deferred (some [])), .blk g4 31 [I 0], .blk g3 3 [I 0], .blk g2 30 [.slice none 0 0], .dat (RowC A c c_u8 tr b)]) := by
     have h4 := Es.dat (Es.own0 hE2 26 4) (p := Each KTxL.ok []) (fun S' W _ _ y hy => absurd hy List.not_mem_nil)
     change Ez S0 w0 V S (.dat (Each KTxL.ok []) :: .own 26 4 (.slice none 0 0) 0 [] :: .ob (D + 1) (.loop r) :: .ob D (.deferred (some [])) :: .blk gB 71 [.slice fA fr.length fc'] :: .blk g9 3 [I 0] :: .blk g8 30 [.slice none 0 0] :: .dat (RowC fA fc' KSintL.cells KSintL.ok fr) :: .blk g4 31 [I 0] :: .blk g3 3 [I 0] :: .blk g2 30 [.slice none 0 0] :: [.dat (RowC A c c_u8 tr b)]) at h4
     exact h4.sel [4, 7, 6, 1, 0, 5, 2, 3, 8, 9, 10, 11]
    refine ((callsIn_wide (n := 40 - 1)).2 (records1_c F S0 w0 V S _ JE 1000001 hT (D + 1) gB fA fc' fr ts hts (by omega) (by omega) hJ0 hE3 ?_)).mono ?_
    ·-- a round
     intro pre t Ex E' V1 S1 hj hlen hpre hE4; obtain ⟨A', c', q, o, hq2, hof, rfl⟩ := (hJE _ _).1 hj; have hE5 := Ez.prm hE4 (List.perm_append_comm (l₁ := Iz.dat (KTxL.ok t) :: Ex)); clear hE4; have o1 : V1.heap[D + 1]? = some (.loop r) := (Es.k hE5 _ (List.mem_of_getElem? (Ez.at hE5 (i := 4) rfl))).2.2; have hy := run_yield (P := Try.prog) (args := #[.agg #[I t.ID, I t.Ts, .slice t.Reads_A t.Reads.length t.Reads_c, .slice t.Writes_A t.Writes.length t.Writes_c]]) o1 (by rw [hr]; rfl); rw [show r.fn = fn by rw [hr], show r.tmps = a.tmps by rw [hr], show r.params = #[24] by rw [hr], show r.assign = _ by rw [hr], show r.body = _ by rw [hr]] at hy; refine ⟨fn, (a.put (some 24) (.agg #[I t.ID, I t.Ts, .slice t.Reads_A t.Reads.length t.Reads_c, .slice t.Writes_A t.Writes.length t.Writes_c])).tmps, _, _, hy.trans (congrArg (fun x => Result.ok (Next.round (D + 1) fn x _ _) V1) (by simp [Act.put])), roundIn_of_wpIn hfn ?_⟩; have hKp := hK.put (d := 24) rfl (.agg #[I t.ID, I t.Ts, .slice t.Reads_A t.Reads.length t.Reads_c, .slice t.Writes_A t.Writes.length t.Writes_c]); refine (?_ : @Ge DS0 S0 w0 44 [(24, .agg #[I t.ID, I t.Ts, .slice t.Reads_A t.Reads.length t.Reads_c, .slice t.Writes_A t.Writes.length t.Writes_c]), (2, Pt g2 0), (3, Pt g3 0), (4, Pt g4 0), (8, Pt g8 0), (9, Pt g9 0)] _ _) _ V1 S1 (@Kn.mk DS0 44 _ _ rfl hKp.s (Kn.wk (K' := [(24, .agg #[I t.ID, I t.Ts, .slice t.Reads_A t.Reads.length t.Reads_c, .slice t.Writes_A t.Writes.length t.Writes_c]), (2, Pt g2 0), (3, Pt g3 0), (4, Pt g4 0), (8, Pt g8 0), (9, Pt g9 0)]) hKp).k) hE5; refine rgI (l1 (nw 10 vp [I 0, I 0, .slice none 0 0, .slice none 0 0] 26 fun g10 => l1 (sr 0 g10 (ns 0 [I t.ID, I t.Ts, .slice t.Reads_A t.Reads.length t.Reads_c, .slice t.Writes_A t.Writes.length t.Writes_c]) (nl (tN ?_))))) (fun ⟨_, _, h⟩ => h); intro a1 w1 S2 k1 e1; have o2 : w1.heap[D + 1]? = some (.loop r) := (Es.k e1 _ (List.mem_of_getElem? (Ez.at e1 (i := 5) rfl))).2.2; refine ⟨_, run_beginRound o2 (by rw [hr]), ?_⟩; have e2 := Ez.putOb (ob' := .loop { r with state := .busy }) e1 5 rfl; refine (?_ : @Ge DS0 S0 w0 44 _ _ _) a1 _ S2 k1 e2; clear k1 e1 e2 o2 hE5; obtain ⟨r', hpre⟩ := hpre; rw [← hpre] at hoff; obtain ⟨is, bs', hi1, hf1, ho2⟩ := offG_step hoff hof; refine bkI (sqI ?_); refine rgI (rn 1 [(0, 4, 0, 0)] f0 [(26, .agg #[I t.ID, I t.Ts, .slice t.Reads_A t.Reads.length t.Reads_c, .slice t.Writes_A t.Writes.length t.Writes_c])] (l1 (cgn 27 (z_journal_ints F t is hi1) hT (fun _ => (mr tr_mv m0)) ⟨ga 11, trivial⟩ ?_))) (fun ⟨_, _, h⟩ => h); rintro ⟨iA, ic', il⟩ hqi; obtain rfl : il = is := hqi.symm; refine l1 (cgn 28 (z_codec_Frame F iA ic' il _ hf1) hT (fun _ => (mr tr_mv m0)) ⟨ga 1, trivial⟩ ?_); rintro ⟨uA, bc, bl⟩ hqb; obtain rfl : bl = bs' := hqb.symm; refine ra [] f0 [(11, .slice uA bl.length bc), (12, I 0)] (tN (sqI (sqI ?_))); refine rgI (ra [] f0 [(32, B false)] (tN (cfI (kSI (tN ?_))))) (fun ⟨_, _, h⟩ => h); have hyv : apG 64 (q.map KTxL.p) (([t] : List KTxL).map KTxL.p) = some (pre ++ [t.p]) := by
      rw [hq2]; exact if_pos (by simp only [List.length_map, List.length_cons, List.length_nil]; omega)
     have hlast : ∀ (K : List (Nat × Value)) (g36 : Nat) (v : List KTxL) (A2 : Option Addr) (c2 : Nat), v.map KTxL.p = pre ++ [t.p] → @Ge DS0 S0 w0 44 K (.dat (Each KTxL.ok v) :: .blk g36 26 [I t.ID, I t.Ts, .slice t.Reads_A t.Reads.length t.Reads_c, .slice t.Writes_A t.Writes.length t.Writes_c] :: .dat (Nw w0.heap.size (RowC uA bc c_u8 tr bl)) :: .dat (RowC uA bc c_u8 tr bl) :: .dat (Nw w0.heap.size (RowC iA ic' c_i64 tr il)) :: .dat (RowC iA ic' c_i64 tr il) :: .blk g10 26 [I t.ID, I t.Ts, .slice t.Reads_A t.Reads.length t.Reads_c, .slice t.Writes_A t.Writes.length t.Writes_c] :: .blk g8 30 [.slice A2 v.length c2] :: .own 26 4 (.slice A2 v.length c2) v.length (v.flatMap KTxL.cells) :: .dat (Each KTxL.ok q) :: .blk g9 3 [I (IntKind.i64.wrap (o + ((bl.length : Nat) : Int)))] :: .ob (D + 1) (.loop { r with state := .busy }) :: .ob D (.deferred (some [])) :: .blk g4 31 [I 0] :: .blk g3 3 [I 0] :: .blk g2 30 [.slice none 0 0] :: .dat (RowC A c c_u8 tr b) :: .dat (KTxL.ok t) :: Ex) (roundPost Try.prog (D + 1) (fun e w' => e = .returned (.bool true) ∧ ∃ S E'', JE (pre ++ [t.p]) E'' ∧ Ez S0 w0 w' S (Ex ++ E'')) .normal) := by
      intro K g36 v A2 c2 hv a5 w5 S5 k5 e5; have o5 : w5.heap[D + 1]? = some (.loop { r with state := .busy }) := (Es.k e5 _ (List.mem_of_getElem? (Ez.at e5 (i := 11) rfl))).2.2; have hre : ({ ({ r with state := .busy } : Loop) with state := .ready, pending := none } : Loop) = r := by rw [hr]
      have hend := run_endRound (P := Try.prog) none o5; rw [show (Option.isNone (none : Option Code)) = true from rfl, if_pos rfl, hre] at hend; have e6 := Ez.putOb (ob' := .loop r) e5 11 rfl; refine ⟨_, _, hend, rfl, S5, _, (hJE _ _).2 ⟨A2, c2, v, _, hv, ho2, rfl⟩, ?_⟩; refine Ez.prm (E := [.blk g8 30 [.slice A2 v.length c2], .own 26 4 (.slice A2 v.length c2) v.length (v.flatMap KTxL.cells), .dat (Each KTxL.ok v), .blk g9 3 [I (IntKind.i64.wrap (o + ((bl.length : Nat) : Int)))], .ob (D + 1) (.loop r), .ob D (.deferred (some [])), .blk g4 31 [I 0], .blk g3 3 [I 0], .blk g2 30 [.slice none 0 0], .dat (RowC A c c_u8 tr b)] ++ Ex) ?_ List.perm_append_comm; refine Ez.prm (E := .dat (Each KTxL.ok v) :: .blk g8 30 [.slice A2 v.length c2] :: .own 26 4 (.slice A2 v.length c2) v.length (v.flatMap KTxL.cells) :: _) ?_ ((List.Perm.swap _ _ _).trans (.cons _ (.swap _ _ _))); exact Ez.sub' e6 (.cons_cons _ (.cons _ (.cons _ (.cons _ (.cons _ (.cons _ (.cons _ (.cons_cons _ (.cons_cons _ (.cons _ (.cons_cons _ (.cons_cons _ (.cons_cons _ (.cons_cons _ (.cons_cons _ (.cons_cons _ (.cons_cons _ (.cons _ (.refl _)))))))))))))))))))
     refine hbI [4] (ht [4] [1, 5, 6] [(0, 4, 0, 0)] f0 [(35, .agg #[I t.ID, I t.Ts, .slice t.Reads_A t.Reads.length t.Reads_c, .slice t.Writes_A t.Writes.length t.Writes_c]), (40, I ((bl.length : Nat) : Int))] (ho [0, 2, 4] ⟨h1 (po 34 (.slice A' q.length c') [(0, 1, 5, 0)] f0 (hk [4] (ho [2, 4] ⟨h1 (nw 36 (vs 1) [I t.ID, I t.Ts, .slice t.Reads_A t.Reads.length t.Reads_c, .slice t.Writes_A t.Writes.length t.Writes_c] 26 fun g36 => hk [5] (ho [3, 4] ⟨h1 (apn (p := KTxL.p) (ok := KTxL.ok) 7 37 A' c' q ([t] : List KTxL) inf30 (bA (f := KTxL.cells) (ok := tr) (l := ([t] : List KTxL)) g36 0 et.a) (gd' (Each KTxL.ok q) 8) (ec (gi 16) e0) hyv KTxL.one fun v A2 c2 hv _ => hk [6] (ho [4, 8] ⟨h1 (po 38 (I o) [(0, 1, 10, 0)] f0 (hk [6] (ht [6] [7] [] f0 [(41, I (IntKind.i64.wrap (o + ((bl.length : Nat) : Int))))] (ho [8] ⟨h1 (sr 7 g8 [(0, .slice A2 v.length c2)] (hk [6] (ho [9] ⟨h1 (sr 10 g9 [(0, I (IntKind.i64.wrap (o + ((bl.length : Nat) : Int))))] (hk [6] (he (hN (hlast _ _ _ _ _ hv))))), trivial⟩))), trivial⟩)))), h1 (sr 7 g8 [(0, .slice A2 v.length c2)] (hk [6] (ho [4] ⟨h1 (po 38 (I o) [(0, 1, 10, 0)] f0 (hk [6] (ht [6] [7] [] f0 [(41, I (IntKind.i64.wrap (o + ((bl.length : Nat) : Int))))] (ho [9] ⟨h1 (sr 10 g9 [(0, I (IntKind.i64.wrap (o + ((bl.length : Nat) : Int))))] (hk [6] (he (hN (hlast _ _ _ _ _ hv))))), trivial⟩)))), trivial⟩))), trivial⟩)), h1 (po 38 (I o) [(0, 1, 9, 0)] f0 (hk [5] (ht [5] [7] [] f0 [(41, I (IntKind.i64.wrap (o + ((bl.length : Nat) : Int))))] (ho [3] ⟨h1 (apn (p := KTxL.p) (ok := KTxL.ok) 7 37 A' c' q ([t] : List KTxL) inf30 (bA (f := KTxL.cells) (ok := tr) (l := ([t] : List KTxL)) g36 0 et.a) (gd' (Each KTxL.ok q) 8) (ec (gi 16) e0) hyv KTxL.one fun v A2 c2 hv _ => hk [6] (ho [8] ⟨h1 (sr 7 g8 [(0, .slice A2 v.length c2)] (hk [6] (ho [9] ⟨h1 (sr 10 g9 [(0, I (IntKind.i64.wrap (o + ((bl.length : Nat) : Int))))] (hk [6] (he (hN (hlast _ _ _ _ _ hv))))), trivial⟩))), trivial⟩)), trivial⟩)))), trivial⟩)), h1 (po 38 (I o) [(0, 1, 8, 0)] f0 (hk [4] (ht [4] [7] [] f0 [(41, I (IntKind.i64.wrap (o + ((bl.length : Nat) : Int))))] (ho [2] ⟨h1 (nw 36 (vs 1) [I t.ID, I t.Ts, .slice t.Reads_A t.Reads.length t.Reads_c, .slice t.Writes_A t.Writes.length t.Writes_c] 26 fun g36 => hk [5] (ho [3] ⟨h1 (apn (p := KTxL.p) (ok := KTxL.ok) 7 37 A' c' q ([t] : List KTxL) inf30 (bA (f := KTxL.cells) (ok := tr) (l := ([t] : List KTxL)) g36 0 et.a) (gd' (Each KTxL.ok q) 8) (ec (gi 16) e0) hyv KTxL.one fun v A2 c2 hv _ => hk [6] (ho [8] ⟨h1 (sr 7 g8 [(0, .slice A2 v.length c2)] (hk [6] (ho [9] ⟨h1 (sr 10 g9 [(0, I (IntKind.i64.wrap (o + ((bl.length : Nat) : Int))))] (hk [6] (he (hN (hlast _ _ _ _ _ hv))))), trivial⟩))), trivial⟩)), trivial⟩)), trivial⟩)))), trivial⟩))), h1 (nw 36 (vs 1) [I t.ID, I t.Ts, .slice t.Reads_A t.Reads.length t.Reads_c, .slice t.Writes_A t.Writes.length t.Writes_c] 26 fun g36 => hk [5] (ho [0, 4] ⟨h1 (po 34 (.slice A' q.length c') [(0, 1, 6, 0)] f0 (hk [5] (ho [3, 4] ⟨h1 (apn (p := KTxL.p) (ok := KTxL.ok) 7 37 A' c' q ([t] : List KTxL) inf30 (bA (f := KTxL.cells) (ok := tr) (l := ([t] : List KTxL)) g36 0 et.a) (gd' (Each KTxL.ok q) 8) (ec (gi 16) e0) hyv KTxL.one fun v A2 c2 hv _ => hk [6] (ho [4, 8] ⟨h1 (po 38 (I o) [(0, 1, 10, 0)] f0 (hk [6] (ht [6] [7] [] f0 [(41, I (IntKind.i64.wrap (o + ((bl.length : Nat) : Int))))] (ho [8] ⟨h1 (sr 7 g8 [(0, .slice A2 v.length c2)] (hk [6] (ho [9] ⟨h1 (sr 10 g9 [(0, I (IntKind.i64.wrap (o + ((bl.length : Nat) : Int))))] (hk [6] (he (hN (hlast _ _ _ _ _ hv))))), trivial⟩))), trivial⟩)))), h1 (sr 7 g8 [(0, .slice A2 v.length c2)] (hk [6] (ho [4] ⟨h1 (po 38 (I o) [(0, 1, 10, 0)] f0 (hk [6] (ht [6] [7] [] f0 [(41, I (IntKind.i64.wrap (o + ((bl.length : Nat) : Int))))] (ho [9] ⟨h1 (sr 10 g9 [(0, I (IntKind.i64.wrap (o + ((bl.length : Nat) : Int))))] (hk [6] (he (hN (hlast _ _ _ _ _ hv))))), trivial⟩)))), trivial⟩))), trivial⟩)), h1 (po 38 (I o) [(0, 1, 9, 0)] f0 (hk [5] (ht [5] [7] [] f0 [(41, I (IntKind.i64.wrap (o + ((bl.length : Nat) : Int))))] (ho [3] ⟨h1 (apn (p := KTxL.p) (ok := KTxL.ok) 7 37 A' c' q ([t] : List KTxL) inf30 (bA (f := KTxL.cells) (ok := tr) (l := ([t] : List KTxL)) g36 0 et.a) (gd' (Each KTxL.ok q) 8) (ec (gi 16) e0) hyv KTxL.one fun v A2 c2 hv _ => hk [6] (ho [8] ⟨h1 (sr 7 g8 [(0, .slice A2 v.length c2)] (hk [6] (ho [9] ⟨h1 (sr 10 g9 [(0, I (IntKind.i64.wrap (o + ((bl.length : Nat) : Int))))] (hk [6] (he (hN (hlast _ _ _ _ _ hv))))), trivial⟩))), trivial⟩)), trivial⟩)))), trivial⟩))), h1 (po 38 (I o) [(0, 1, 9, 0)] f0 (hk [5] (ht [5] [7] [] f0 [(41, I (IntKind.i64.wrap (o + ((bl.length : Nat) : Int))))] (ho [0] ⟨h1 (po 34 (.slice A' q.length c') [(0, 1, 6, 0)] f0 (hk [5] (ho [3] ⟨h1 (apn (p := KTxL.p) (ok := KTxL.ok) 7 37 A' c' q ([t] : List KTxL) inf30 (bA (f := KTxL.cells) (ok := tr) (l := ([t] : List KTxL)) g36 0 et.a) (gd' (Each KTxL.ok q) 8) (ec (gi 16) e0) hyv KTxL.one fun v A2 c2 hv _ => hk [6] (ho [8] ⟨h1 (sr 7 g8 [(0, .slice A2 v.length c2)] (hk [6] (ho [9] ⟨h1 (sr 10 g9 [(0, I (IntKind.i64.wrap (o + ((bl.length : Nat) : Int))))] (hk [6] (he (hN (hlast _ _ _ _ _ hv))))), trivial⟩))), trivial⟩)), trivial⟩))), trivial⟩)))), trivial⟩)), h1 (po 38 (I o) [(0, 1, 8, 0)] f0 (hk [4] (ht [4] [7] [] f0 [(41, I (IntKind.i64.wrap (o + ((bl.length : Nat) : Int))))] (ho [0, 2] ⟨h1 (po 34 (.slice A' q.length c') [(0, 1, 5, 0)] f0 (hk [4] (ho [2] ⟨h1 (nw 36 (vs 1) [I t.ID, I t.Ts, .slice t.Reads_A t.Reads.length t.Reads_c, .slice t.Writes_A t.Writes.length t.Writes_c] 26 fun g36 => hk [5] (ho [3] ⟨h1 (apn (p := KTxL.p) (ok := KTxL.ok) 7 37 A' c' q ([t] : List KTxL) inf30 (bA (f := KTxL.cells) (ok := tr) (l := ([t] : List KTxL)) g36 0 et.a) (gd' (Each KTxL.ok q) 8) (ec (gi 16) e0) hyv KTxL.one fun v A2 c2 hv _ => hk [6] (ho [8] ⟨h1 (sr 7 g8 [(0, .slice A2 v.length c2)] (hk [6] (ho [9] ⟨h1 (sr 10 g9 [(0, I (IntKind.i64.wrap (o + ((bl.length : Nat) : Int))))] (hk [6] (he (hN (hlast _ _ _ _ _ hv))))), trivial⟩))), trivial⟩)), trivial⟩)), trivial⟩))), h1 (nw 36 (vs 1) [I t.ID, I t.Ts, .slice t.Reads_A t.Reads.length t.Reads_c, .slice t.Writes_A t.Writes.length t.Writes_c] 26 fun g36 => hk [5] (ho [0] ⟨h1 (po 34 (.slice A' q.length c') [(0, 1, 6, 0)] f0 (hk [5] (ho [3] ⟨h1 (apn (p := KTxL.p) (ok := KTxL.ok) 7 37 A' c' q ([t] : List KTxL) inf30 (bA (f := KTxL.cells) (ok := tr) (l := ([t] : List KTxL)) g36 0 et.a) (gd' (Each KTxL.ok q) 8) (ec (gi 16) e0) hyv KTxL.one fun v A2 c2 hv _ => hk [6] (ho [8] ⟨h1 (sr 7 g8 [(0, .slice A2 v.length c2)] (hk [6] (ho [9] ⟨h1 (sr 10 g9 [(0, I (IntKind.i64.wrap (o + ((bl.length : Nat) : Int))))] (hk [6] (he (hN (hlast _ _ _ _ _ hv))))), trivial⟩))), trivial⟩)), trivial⟩))), trivial⟩)), trivial⟩)))), trivial⟩)) (fun ⟨_, _, h⟩ => h)
    ·-- behind the range
     rintro e2 W ⟨⟨v, rfl⟩, S2, E2, hj, hE4⟩; obtain ⟨A', c', q, o, hq2, hof, rfl⟩ := (hJE _ _).1 hj; have o1 : W.heap[D + 1]? = some (.loop r) := (Es.k hE4 _ (List.mem_of_getElem? (Ez.at hE4 (i := 4) rfl))).2.2; have hrs : r.state ≠ .busy := by rw [hr]; simp
     have hrp : r.pending = none := by rw [hr]
     refine ⟨none, W.putObj (D + 1) (.loop { r with state := .exhausted }), (run_endLoop (P := Try.prog) o1 hrs).trans (congrArg (fun p => Result.ok p _) hrp), ?_⟩; have hE5 := Ez.putOb (ob' := .loop { r with state := .exhausted }) hE4 4 rfl; clear hE4 o1; have hoff : off = o := by
      rw [hoff] at hof; exact (oi hof)
     subst hoff
     dsimp only
     refine (?_ : @Ge ⟨[{ target := .collected D, args := #[] }]⟩ S0 w0 44 [(2, Pt g2 0), (3, Pt g3 0), (4, Pt g4 0), (8, Pt g8 0), (9, Pt g9 0)] _ _) ({ a with defers := [{ target := .collected D, args := #[] }] ++ a.defers } : Act) _ S2 (@Kn.mk ⟨[{ target := .collected D, args := #[] }]⟩ 44 _ _ (by show [_] ++ a.defers = _; rw [hK.d]; rfl) hK.s (Kn.wk (K' := [(2, Pt g2 0), (3, Pt g3 0), (4, Pt g4 0), (8, Pt g8 0), (9, Pt g9 0)]) hK).k) hE5
     letI : DSc := ⟨[{ target := .collected D, args := #[] }]⟩
     refine so (A := A') (c := c') 1 KTxL.cells KTxL.ok q KTxL.mv (gd' (Each KTxL.ok q) 2) ?_; refine hN (tN (sq ?_)); refine hb [] (ho [0, 1] ⟨h1 (po 42 (.slice A' q.length c') [(0, 1, 0, 0)] f0 (hk [] (ho [1, 2] ⟨h1 (po 43 (I off) [(0, 1, 3, 0)] f0 (hk [] (ho [2] ⟨h1 (sr 8 g2 [(0, .slice A' q.length c')] (hk [] (ho [3] ⟨h1 (sr 7 g3 [(0, I off)] (hk [] (ho [4] ⟨h1 (sr 6 g4 [(0, I 0)] (hk [] (he (tN (kR ?_))))), trivial⟩))), trivial⟩))), trivial⟩))), h1 (sr 8 g2 [(0, .slice A' q.length c')] (hk [] (ho [1] ⟨h1 (po 43 (I off) [(0, 1, 3, 0)] f0 (hk [] (ho [3] ⟨h1 (sr 7 g3 [(0, I off)] (hk [] (ho [4] ⟨h1 (sr 6 g4 [(0, I 0)] (hk [] (he (tN (kR ?_))))), trivial⟩))), trivial⟩))), trivial⟩))), trivial⟩))), h1 (po 43 (I off) [(0, 1, 3, 0)] f0 (hk [] (ho [0] ⟨h1 (po 42 (.slice A' q.length c') [(0, 1, 0, 0)] f0 (hk [] (ho [2] ⟨h1 (sr 8 g2 [(0, .slice A' q.length c')] (hk [] (ho [3] ⟨h1 (sr 7 g3 [(0, I off)] (hk [] (ho [4] ⟨h1 (sr 6 g4 [(0, I 0)] (hk [] (he (tN (kR ?_))))), trivial⟩))), trivial⟩))), trivial⟩))), trivial⟩))), trivial⟩)
     all_goals
      intro a2 w2 S3 k5 e5
      show LeavesInM Fence.wide 40 Try.prog _ a2.tmps _ a2.defers .returning w2
      rw [show a2.defers = [{ target := .collected D, args := #[] }] from k5.d]; have o5 : w2.heap[D]? = some (.deferred (some [])) := (Es.k e5 _ (List.mem_of_getElem? (Ez.at e5 (i := 5) rfl))).2.2; have e6 := Ez.putOb (ob' := .deferred none) e5 5 rfl; refine ⟨by simp, .inl ⟨D, _, rfl, run_takeDeferred o5, ?_⟩⟩; refine ⟨.tuple #[.slice A' q.length c', I off, I 0], res_run k5 e6 [(8, 0, 1), (7, 0, 1), (6, 0, 1)], ⟨A', c', q⟩, hq2.symm, rfl, Es.b e6, RowC.to KTxL.mv (Ez.get e6 (i := 1) rfl) (Es.sub e6) (Ag.refl _ _), trivial⟩
  ·cases hG2
end Go.Proofs.Ytlfkgbideknkhaa
namespace Go.Proofs.Ytlfkgbideknkhaa
open Go.RowKit Go.Maps
def G_journal_Append (F : Nat) (p_0 : List Int) (p_1 : KTx) : Option ((List Int) × Int) :=
  Option.bind (G_journal_Load F p_0) (un3 fun v_2 v_3 v_4 =>
  ifB ((v_4 == 0))
    (Option.bind (G_journal_formed F p_1) (fun v_6 =>
    ifB (v_6)
      (ifB ((v_3 == ((p_0.length : Nat) : Int)))
        (Option.bind (ifB (decide (((v_2.length : Nat) : Int) > 0))
            (Option.bind (ixI v_2 (IntKind.i64.wrap (((v_2.length : Nat) : Int) - 1))) (fun v_10 =>
            some (decide (v_10.Ts ≥ p_1.Ts))))
            (some false) : Option (Bool)) (fun (v_14 : Bool) => 
          ifB (v_14)
            (some (([] : List Int), 30))
            (Option.bind (G_journal_ints F p_1) (fun v_16 =>
            Option.bind (G_codec_Frame F v_16) (un2 fun v_17 v_18 =>
            ifB ((v_18 == 0))
              (ifB (decide ((IntKind.i64.wrap (((p_0.length : Nat) : Int) + ((v_17.length : Nat) : Int))) > 100000))
                (some (([] : List Int), 2))
                (Option.bind (G_slices_Concat_byte_byte F ([p_0, v_17] : List (List Int))) (fun v_22 =>
                some (v_22, 0))))
              (some (([] : List Int), v_18)))))))
        (some (([] : List Int), 6)))
      (some (([] : List Int), 1))))
    (some (([] : List Int), v_4)))
set_option maxRecDepth 100000 in
set_option maxHeartbeats 16000000 in
theorem z_journal_Append (F : Nat) (p_0_A : Option Addr) (p_0_c : Nat) (p_0 : List Int) (p_1 : KTxL) (r : (List Int) × Int) (hG : G_journal_Append F p_0 p_1.p = some r) :
  Cg Try.prog 11 [.slice p_0_A p_0.length p_0_c, .agg #[I p_1.ID, I p_1.Ts, .slice p_1.Reads_A p_1.Reads.length p_1.Reads_c, .slice p_1.Writes_A p_1.Writes.length p_1.Writes_c]] [RowC p_0_A p_0_c c_u8 tr p_0, KTxL.ok p_1] (fun q : KSuint8L => r.1 = q.l) (fun q => .tuple #[.slice q.A q.l.length q.c, I r.2]) (fun q => [RowC q.A q.c c_u8 tr q.l]) := by
 unfold G_journal_Append at hG
 try simp only [List.length_map, KLeaderL.n_Open] at hG
 refine fing Try.func11 rfl rfl (mr tr_mv (mc KTxL.mv m0)) fun S0 w0 hT => sq (rg (l1 (nw 3 vp [I p_1.ID, I p_1.Ts, .slice p_1.Reads_A p_1.Reads.length p_1.Reads_c, .slice p_1.Writes_A p_1.Writes.length p_1.Writes_c] 26 fun g_1 => ra [] f0 [] (tN (sq ?_)))))
 obtain ⟨v_2o, v_3, v_4, hy_2, hG⟩ := b3 hG; refine rg (rn 1 [] f0 [(11, .slice p_0_A p_0.length p_0_c)] (l1 (cn 12 (z_journal_Load F p_0_A p_0_c p_0 _ hy_2) hT (fun _ => (mr KTxL.mv m0)) ⟨gi 1, trivial⟩ ?_))); rintro ⟨v_2_A, v_2_c, v_2⟩ hq_2; obtain rfl : (v_2.map KTxL.p) = v_2o := hq_2.symm
 try simp only [List.length_map, KLeaderL.n_Open] at hG
 refine ra [] f0 (ns 6 [.slice v_2_A v_2.length v_2_c, I v_3, I v_4]) (tN (sq (bk (sq (rg (ra [] f0 [(16, B (!(v_4 == 0)))] (tN ?_))))))); rcases ic hG with ⟨h_5, hG⟩ | ⟨h_5, hG⟩
 ·refine sb 16 (nt h_5) (cf (sq ?_)); obtain ⟨v_6, hy_6, hG⟩ := bs hG; refine rg (rn 1 [(0, 4, 1, 0)] f0 [(21, .agg #[I p_1.ID, I p_1.Ts, .slice p_1.Reads_A p_1.Reads.length p_1.Reads_c, .slice p_1.Writes_A p_1.Writes.length p_1.Writes_c])] (l1 (cl 22 (z_journal_formed F p_1 _ hy_6) hT ⟨(gi 3).a, trivial⟩ (ra [] f0 [(20, B (!v_6))] (tN ?_))))); rcases ic hG with ⟨h_7, hG⟩ | ⟨h_7, hG⟩
  ·refine sb 20 (nt h_7) (cf (sq (rg (ra [] f0 [(24, B (!(v_3 == ((p_0.length : Nat) : Int))))] (tN ?_))))); rcases ic hG with ⟨h_8, hG⟩ | ⟨h_8, hG⟩
   ·try simp only [List.length_map, KLeaderL.n_Open] at h_8
    refine sb 24 (nt h_8) (cf ?_); obtain ⟨o_13, hG, hG_13⟩ := bs hG; refine jn (fun K E a w => ∃ v_14 : Bool, Js S0 w0 64 ([(29, B v_14)] ++ K) ([.dat (RowC p_1.Reads_A p_1.Reads_c KSeen.cells tr p_1.Reads), .dat (RowC p_1.Writes_A p_1.Writes_c KWrite.cells tr p_1.Writes)] ++ se E [1, 2]) (v_14 = o_13) a w) ?_ ?_
    ·rcases ic hG with ⟨h_9, hG⟩ | ⟨h_9, hG⟩
     ·obtain ⟨v_10o, hy_10, hG⟩ := bs hG; refine qb (qn 4 [] f0 [(33, B (decide (((v_2.length : Nat) : Int) > 0)))] ?_)
      try simp only [List.length_map, KLeaderL.n_Open] at h_9
      refine sb 33 (bt h_9) (fxn (p := KTxL.p) inf30 (gd' (RowC v_2_A v_2_c KTxL.cells KTxL.ok v_2) 0) hy_10 fun v_10 b_11 o_12 he_10 hi_10 => ?_); subst he_10
      try simp only [List.length_map, KLeaderL.n_Open] at hG
      exact qa [(4, 0, 0, 0), (1, 1, 0, 1), (1, 1, 3, 1)] (fc (hi_10 .i64) f0) [(29, B (decide (v_10.Ts ≥ p_1.Ts)))] (tN (fg (KTxL.ok p_1) 5 (fun _ _ h => h.f_Reads) (fg (KTxL.ok p_1) 6 (fun _ _ h => h.f_Writes) (fun _ _ S k e => ⟨decide (v_10.Ts ≥ p_1.Ts), S, k.wk, e.sel [1, 0, 5, 6], oi hG⟩))))
     ·refine qb (qn 4 [] f0 [(33, B (decide (((v_2.length : Nat) : Int) > 0)))] ?_)
      try simp only [List.length_map, KLeaderL.n_Open] at h_9
      exact sb 33 (bf h_9) (qa [] f0 [(29, B false)] (tN (fg (KTxL.ok p_1) 3 (fun _ _ h => h.f_Reads) (fg (KTxL.ok p_1) 4 (fun _ _ h => h.f_Writes) (fun _ _ S k e => ⟨false, S, k.wk, e.sel [1, 0, 3, 4], oi hG⟩)))))
    ·rintro a w ⟨v_14, hJ⟩; refine hJ.go fun ho_ => ?_
     clear hJ; subst ho_; replace hG := hG_13; rcases ic hG with ⟨h_15, hG⟩ | ⟨h_15, hG⟩
     ·refine sb 29 (bt h_15) (ct (sq (rg (ra [] f0 [(4, .slice none 0 0), (5, I 30)] (tN (kR (hR (tR ?_)))))))); obtain rfl := oi hG; exact rtg [] ⟨none, 0, ([] : List Int)⟩ rfl ⟨frN, trivial⟩
     ·refine sb 29 (bf h_15) (cf (kS (hN (tN (sq ?_))))); obtain ⟨v_16o, hy_16, hG⟩ := bs hG; replace hG := b2 hG; obtain ⟨v_17o, v_18, hy_17, hG⟩ := hG; refine rg (rn 1 [(0, 4, 2, 0)] f0 [(46, .agg #[I p_1.ID, I p_1.Ts, .slice p_1.Reads_A p_1.Reads.length p_1.Reads_c, .slice p_1.Writes_A p_1.Writes.length p_1.Writes_c])] (l1 (cgn 47 (z_journal_ints F p_1 _ hy_16) hT (fun _ => (mr tr_mv m0)) ⟨((Fd.two ((gd' (RowC p_1.Reads_A p_1.Reads_c KSeen.cells tr p_1.Reads) 0)) ((gd' (RowC p_1.Writes_A p_1.Writes_c KWrite.cells tr p_1.Writes) 1))).m fun _ _ h => ⟨h.1, h.2⟩).a, trivial⟩ ?_))); rintro ⟨v_16_A, v_16_c, v_16⟩ hq_16; obtain rfl : v_16 = v_16o := hq_16.symm
      try simp only [List.length_map, KLeaderL.n_Open] at hG
      refine l1 (cgn 48 (z_codec_Frame F v_16_A v_16_c v_16 _ hy_17) hT (fun _ => (mr tr_mv m0)) ⟨ga 1, trivial⟩ ?_); rintro ⟨v_17_A, v_17_c, v_17⟩ hq_17; obtain rfl : v_17 = v_17o := hq_17.symm
      try simp only [List.length_map, KLeaderL.n_Open] at hG
      refine ra [] f0 [(9, .slice v_17_A v_17.length v_17_c), (8, I v_18)] (tN (sq (sq (rg (ra [] f0 [(52, B (!(v_18 == 0)))] (tN ?_)))))); rcases ic hG with ⟨h_19, hG⟩ | ⟨h_19, hG⟩
      ·refine sb 52 (nt h_19) (cf (kS (tN (sq (sq (rg (ra [] f0 [(59, B (decide ((IntKind.i64.wrap (((p_0.length : Nat) : Int) + ((v_17.length : Nat) : Int))) > 100000)))] (tN ?_)))))))); rcases ic hG with ⟨h_20, hG⟩ | ⟨h_20, hG⟩
       ·try simp only [List.length_map, KLeaderL.n_Open] at h_20
        refine sb 59 (bt h_20) (ct (sq (rg (ra [] f0 [(4, .slice none 0 0), (5, I 2)] (tN (kR (tR ?_))))))); obtain rfl := oi hG; exact rtg [] ⟨none, 0, ([] : List Int)⟩ rfl ⟨frN, trivial⟩
       ·try simp only [List.length_map, KLeaderL.n_Open] at h_20
        refine sb 59 (bf h_20) (cf (kS (tN (sq ?_)))); obtain ⟨v_22o, hy_22, hG⟩ := bs hG; refine rg (rn 2 [] f0 [(60, .slice p_0_A p_0.length p_0_c), (61, .slice v_17_A v_17.length v_17_c)] (l1 (nw 62 (vs 2) [.slice p_0_A p_0.length p_0_c, .slice v_17_A v_17.length v_17_c] 22 fun g_21 => l1 (cgn 63 (z_slices_Concat_byte_byte F (some ⟨g_21, 0, none⟩) 2 ([(⟨p_0_A, p_0_c, p_0⟩ : KSuint8L), (⟨v_17_A, v_17_c, v_17⟩ : KSuint8L)] : List KSuint8L) _ hy_22) hT (fun _ => (mr tr_mv m0)) ⟨ba 0 (ec (((gd' (RowC p_0_A p_0_c c_u8 tr p_0) 8)).m fun _ _ h => ⟨h⟩) (ec (((gd' (RowC v_17_A v_17_c c_u8 tr v_17) 2)).m fun _ _ h => ⟨h⟩) e0)).a, trivial⟩ ?_)))); rintro ⟨v_22_A, v_22_c, v_22⟩ hq_22; obtain rfl : v_22 = v_22o := hq_22.symm
        try simp only [List.length_map, KLeaderL.n_Open] at hG
        refine ra [] f0 [(4, .slice v_22_A v_22.length v_22_c), (5, I 0)] (tN (kR ?_)); obtain rfl := oi hG; exact rtg [] ⟨v_22_A, v_22_c, v_22⟩ rfl ⟨frD tr_mv 0, trivial⟩
      ·refine sb 52 (nf h_19) (ct (sq (rg (ra [] f0 [(4, .slice none 0 0), (5, I v_18)] (tN (kR (tR ?_))))))); obtain rfl := oi hG; exact rtg [] ⟨none, 0, ([] : List Int)⟩ rfl ⟨frN, trivial⟩
   ·try simp only [List.length_map, KLeaderL.n_Open] at h_8
    refine sb 24 (nf h_8) (ct (sq (rg (ra [] f0 [(4, .slice none 0 0), (5, I 6)] (tN (kR (hR (tR ?_)))))))); obtain rfl := oi hG; exact rtg [] ⟨none, 0, ([] : List Int)⟩ rfl ⟨frN, trivial⟩
  ·refine sb 20 (nf h_7) (ct (sq (rg (ra [] f0 [(4, .slice none 0 0), (5, I 1)] (tN (kR (hR (tR ?_)))))))); obtain rfl := oi hG; exact rtg [] ⟨none, 0, ([] : List Int)⟩ rfl ⟨frN, trivial⟩
 ·refine sb 16 (nf h_5) (ct (sq (rg (ra [] f0 [(4, .slice none 0 0), (5, I v_4)] (tN (kR (hR (tR ?_)))))))); obtain rfl := oi hG; exact rtg [] ⟨none, 0, ([] : List Int)⟩ rfl ⟨frN, trivial⟩
def G_journal_Recover (F : Nat) (p_0 : List Int) : Option (KLeader × Int × Int) :=
  Option.bind (G_journal_Load F p_0) (un3 fun v_2 v_3 v_4 =>
  ifB ((v_4 == 0))
    (Option.bind (Option.bind (iter (σ := Int × Int × (List KVersion)) (ρ := (Int × (List KVersion)) ⊕ Int) (un3 fun (v_106 : Int) (v_107 : Int) (v_108 : (List KVersion)) => 
          (ifB (decide (v_106 < ((v_2.length : Nat) : Int)))
            (Option.bind (ixI v_2 v_106) (fun v_113 =>
            Option.bind (Option.bind (iter (σ := Int × (List KVersion)) (ρ := (List KVersion) ⊕ Int) (un2 fun (v_137 : Int) (v_138 : (List KVersion)) => 
                  (ifB (decide (v_137 < ((v_113.Writes.length : Nat) : Int)))
                    (Option.bind (ixI v_113.Writes v_137) (fun v_143 =>
                    Option.bind (G_versions_Put F v_138 (⟨v_143.Key, v_113.Ts, v_143.Value, v_143.Gone⟩ : KVersion)) (un2 fun v_147 v_148 =>
                    ifB ((v_148 == 0))
                      (some (.inl (IntKind.i64.wrap (v_137 + 1), v_147)))
                      (some (.inr (.inr v_148))))))
                    (some (.inr (.inl v_138))) : Option ((Int × (List KVersion)) ⊕ ((List KVersion) ⊕ Int)))) F (0, v_108)) (Sum.elim (fun (v_150 : (List KVersion)) => 
                some (.inl v_150)) (fun (v_153 : Int) => 
                some (.inr v_153))) : Option ((List KVersion) ⊕ Int)) (Sum.elim (fun (v_155 : (List KVersion)) => 
              some (.inl (IntKind.i64.wrap (v_106 + 1), v_113.Ts, v_155))) (fun (v_158 : Int) => 
              some (.inr (.inr v_158))))))
            (some (.inr (.inl (v_107, v_108)))) : Option ((Int × Int × (List KVersion)) ⊕ ((Int × (List KVersion)) ⊕ Int)))) F (0, 0, ([] : List KVersion))) (Sum.elim (un2 fun (v_159 : Int) (v_160 : (List KVersion)) => 
        some (.inl (v_159, v_160))) (fun (v_163 : Int) => 
        some (.inr v_163))) : Option ((Int × (List KVersion)) ⊕ Int)) (Sum.elim (un2 fun (v_165 : Int) (v_166 : (List KVersion)) => 
      some ((⟨v_165, v_166, ([] : List KTx)⟩ : KLeader), v_3, 0)) (fun (v_169 : Int) => 
      some ((⟨0, ([] : List KVersion), ([] : List KTx)⟩ : KLeader), 0, v_169))))
    (some ((⟨0, ([] : List KVersion), ([] : List KTx)⟩ : KLeader), 0, v_4)))
set_option maxRecDepth 100000 in
set_option maxHeartbeats 16000000 in
theorem z_journal_Recover (F : Nat) (p_0_A : Option Addr) (p_0_c : Nat) (p_0 : List Int) (r : KLeader × Int × Int) (hG : G_journal_Recover F p_0 = some r) :
  Cn Try.prog 17 [.slice p_0_A p_0.length p_0_c] [RowC p_0_A p_0_c c_u8 tr p_0] (fun q : KLeaderL => r.1 = q.p) (fun q => .tuple #[.agg #[I q.Last, .slice q.Store_A q.Store.length q.Store_c, .slice q.Open_A q.Open.length q.Open_c], I r.2.1, I r.2.2]) (fun q => [KLeaderL.ok q]) := by
 unfold G_journal_Recover at hG
 try simp only [List.length_map, KLeaderL.n_Open] at hG
 refine fin Try.func17 rfl rfl (mr tr_mv m0) fun S0 w0 hT => sq (rg (l1 (nw 2 vp [I 0, .slice none 0 0, .slice none 0 0] 40 fun g_1 => ra [] f0 [] (tN (sq ?_)))))
 obtain ⟨v_2o, v_3, v_4, hy_2, hG⟩ := b3 hG; refine rg (rn 1 [] f0 [(16, .slice p_0_A p_0.length p_0_c)] (l1 (cn 17 (z_journal_Load F p_0_A p_0_c p_0 _ hy_2) hT (fun _ => (mr KTxL.mv m0)) ⟨gi 1, trivial⟩ ?_))); rintro ⟨v_2_A, v_2_c, v_2⟩ hq_2; obtain rfl : (v_2.map KTxL.p) = v_2o := hq_2.symm
 try simp only [List.length_map, KLeaderL.n_Open] at hG
 refine ra [] f0 (ns 5 [.slice v_2_A v_2.length v_2_c, I v_3, I v_4]) (tN (sq (sq (rg (ra [] f0 [(22, B (!(v_4 == 0)))] (tN ?_)))))); rcases ic hG with ⟨h_5, hG⟩ | ⟨h_5, hG⟩
 ·refine sb 22 (nt h_5) (cf (kS (tN (sq (rg (l1 (nw 8 vp [I 0, .slice none 0 0, .slice none 0 0] 40 fun g_6 => nl (tN ?_)))))))); obtain ⟨o_164, hG, hG_164⟩ := bs hG; refine jn (fun K E a w => ∃ (v_165 : Int) (v_166 : List KVersion) (v_167_A : Option Addr) (v_168_c : Nat), Js S0 w0 66 (K) ([.blk g_6 40 [I v_165, .slice v_167_A v_166.length v_168_c, .slice none 0 0], .dat (RowC v_167_A v_168_c KVersion.cells tr v_166)] ++ se E [2]) (.inl (v_165, v_166) = o_164) a w) ?_ ?_
  ·refine sq (rg (ra [] f0 (ns 25 [.slice v_2_A v_2.length v_2_c, I ((v_2.length : Nat) : Int), I 0]) (tN (bk ?_)))); obtain ⟨e_111, hL, hG_111⟩ := bs hG; clear hG; obtain ⟨stp_111, hs_111, hL⟩ := iter_gen hL; refine lp (fun K E n_ a w => ∃ (v_106 v_107 : Int) (v_108 : List KVersion) (v_109_A : Option Addr) (v_110_c : Nat), Js S0 w0 66 ([(27, I v_106)] ++ K) ([.blk g_6 40 [I v_107, .slice v_109_A v_108.length v_110_c, .slice none 0 0], .dat (RowC v_109_A v_110_c KVersion.cells tr v_108)] ++ se E [1, 2]) (iter stp_111 n_ (v_106, v_107, v_108) = some e_111) a w) F ?_ ?_
   ·exact fm (RowC none 0 KVersion.cells tr ([] : List KVersion)) gn (fun _ _ S k e => ⟨0, 0, ([] : List KVersion), none, 0, S, k.wk, e.sel [1, 0, 2, 3], hL⟩)
   ·clear hL; rintro n_111 a w ⟨v_106, v_107, v_108, v_109_A, v_110_c, hJ⟩; refine hJ.go fun hL => ?_
    clear hJ; obtain ⟨m_111, o_111, rfl, hG, hO1_111, hO2_111⟩ := iter_step hL; clear hL; rw [hs_111] at hG; refine sq (rg (ra [] f0 [(28, B (decide (v_106 < ((v_2.length : Nat) : Int))))] (tN (sq ?_)))); rcases ic hG with ⟨h_112, hG⟩ | ⟨h_112, hG⟩
    ·try simp only [List.length_map, KLeaderL.n_Open] at h_112
     refine sb 28 (bt h_112) (ct (kS (tN (sq (bk (sq ?_)))))); obtain ⟨v_113o, hy_113, hG⟩ := bs hG; refine rg (fxn (p := KTxL.p) inf30 (gd' (RowC v_2_A v_2_c KTxL.cells KTxL.ok v_2) 2) hy_113 fun v_113 b_114 o_115 he_113 hi_113 => ?_); subst he_113
     try simp only [List.length_map, KLeaderL.n_Open] at hG
     refine rn 2 [(0, 0, 0, 0), (0, 4, 0, 0)] (fc (hi_113 .i64) f0) [(30, .agg #[I v_113.ID, I v_113.Ts, .slice v_113.Reads_A v_113.Reads.length v_113.Reads_c, .slice v_113.Writes_A v_113.Writes.length v_113.Writes_c])] (l1 (nw 10 vp (KTxL.cells KTxL.z) 26 fun g_116 => l1 (sr 0 g_116 (ns 0 [I v_113.ID, I v_113.Ts, .slice v_113.Reads_A v_113.Reads.length v_113.Reads_c, .slice v_113.Writes_A v_113.Writes.length v_113.Writes_c]) (nl (tN ?_))))); obtain ⟨o_154, hG, hG_154⟩ := bs hG; refine jn (fun K E a w => ∃ (v_155 : List KVersion) (v_156_A : Option Addr) (v_157_c : Nat), Js S0 w0 66 (K) ([.dat (RowC v_113.Reads_A v_113.Reads_c KSeen.cells tr v_113.Reads), .dat (RowC v_113.Writes_A v_113.Writes_c KWrite.cells tr v_113.Writes), .blk g_6 40 [I v_107, .slice v_156_A v_155.length v_157_c, .slice none 0 0], .dat (RowC v_156_A v_157_c KVersion.cells tr v_155)] ++ se E [0, 5, 6]) (.inl v_155 = o_154) a w) ?_ ?_
     ·refine sq (rg (ra [(1, 1, 0, 3)] f0 (ns 32 [.slice v_113.Writes_A v_113.Writes.length v_113.Writes_c, I ((v_113.Writes.length : Nat) : Int), I 0]) (tN (bk ?_)))); obtain ⟨e_141, hL, hG_141⟩ := bs hG; clear hG; obtain ⟨stp_141, hs_141, hL⟩ := iter_gen hL; refine lp (fun K E n_ a w => ∃ (v_137 : Int) (v_138 : List KVersion) (v_139_A : Option Addr) (v_140_c : Nat), Js S0 w0 66 ([(34, I v_137)] ++ K) ([.dat (RowC v_113.Reads_A v_113.Reads_c KSeen.cells tr v_113.Reads), .dat (RowC v_113.Writes_A v_113.Writes_c KWrite.cells tr v_113.Writes), .blk g_6 40 [I v_107, .slice v_139_A v_138.length v_140_c, .slice none 0 0], .dat (RowC v_139_A v_140_c KVersion.cells tr v_138)] ++ se E [0, 5, 6]) (iter stp_141 n_ (v_137, v_138) = some e_141) a w) F ?_ ?_
      ·exact fg (KTxL.ok v_113) 2 (fun _ _ h => h.f_Reads) (fg (KTxL.ok v_113) 3 (fun _ _ h => h.f_Writes) (fun _ _ S k e => ⟨0, v_108, v_109_A, v_110_c, S, k.wk, e.sel [1, 0, 5, 6, 2, 7, 8], hL⟩))
      ·clear hL; rintro n_141 a w ⟨v_137, v_138, v_139_A, v_140_c, hJ⟩; refine hJ.go fun hL => ?_
       clear hJ; obtain ⟨m_141, o_141, rfl, hG, hO1_141, hO2_141⟩ := iter_step hL; clear hL; rw [hs_141] at hG; refine sq (rg (ra [] f0 [(35, B (decide (v_137 < ((v_113.Writes.length : Nat) : Int))))] (tN (sq ?_)))); rcases ic hG with ⟨h_142, hG⟩ | ⟨h_142, hG⟩
       ·try simp only [List.length_map, KLeaderL.n_Open] at h_142
        refine sb 35 (bt h_142) (ct (kS (tN (sq (bk (sq ?_)))))); obtain ⟨v_143, hy_143, hG⟩ := bs hG; refine rg (fx inf24 (gd' (RowC v_113.Writes_A v_113.Writes_c KWrite.cells tr v_113.Writes) 1) hy_143 fun b_144 o_145 hi_143 => rn 2 [(0, 0, 0, 0), (0, 3, 0, 0)] (fc (hi_143 .i64) f0) [(37, .agg #[I v_143.Key, I v_143.Value, B v_143.Gone])] (l1 (nw 12 vp [I 0, I 0, B false] 66 fun g_146 => l1 (sr 0 g_146 (ns 0 [I v_143.Key, I v_143.Value, B v_143.Gone]) (nl (tN (sq ?_))))))); obtain ⟨v_147o, v_148, hy_147, hG⟩ := b2 hG; refine rg (rn 11 [(1, 1, 4, 1), (1, 1, 0, 0), (1, 1, 6, 1), (1, 1, 0, 1), (1, 1, 0, 2)] f0 [(40, .slice v_139_A v_138.length v_140_c), (49, .agg #[I v_143.Key, I v_113.Ts, I v_143.Value, B v_143.Gone])] (l1 (cn 50 (z_versions_Put F v_139_A v_140_c v_138 (⟨v_143.Key, v_113.Ts, v_143.Value, v_143.Gone⟩ : KVersion) _ hy_147) hT (fun _ => (mr tr_mv m0)) ⟨gi 5, trivial⟩ ?_))); rintro ⟨v_147_A, v_147_c, v_147⟩ hq_147; obtain rfl : v_147 = v_147o := hq_147.symm
        try simp only [List.length_map, KLeaderL.n_Open] at hG
        refine ra [] f0 [(13, .slice v_147_A v_147.length v_147_c), (14, I v_148)] (tN (sq (sq (rg (ra [] f0 [(54, B (!(v_148 == 0)))] (tN ?_)))))); rcases ic hG with ⟨h_149, hG⟩ | ⟨h_149, hG⟩
        ·exact sb 54 (nt h_149) (cf (kS (tN (rg (rn 2 [] f0 [(57, .slice v_147_A v_147.length v_147_c), (58, Pt g_6 1)] (l1 (sr 5 g_6 [(1, .slice v_147_A v_147.length v_147_c)] (nl (hN (tN (rg (ra [] f0 [(34, I (IntKind.i64.wrap (v_137 + 1)))] (tN (fun a w S hK hE => ⟨m_141, ⟨IntKind.i64.wrap (v_137 + 1), v_147, v_147_A, v_147_c, S, hK.wk, hE.sel [3, 4, 5, 0, 7, 8, 9], hO1_141 _ (oi hG).symm⟩, Nat.lt_succ_self _⟩))))))))))))))
        ·refine sb 54 (nf h_149) (ct (sq (rg (rn 2 [] f0 [(55, .agg #[I 0, .slice none 0 0, .slice none 0 0]), (56, I v_148)] (l1 (sr 9 g_1 (ns 0 [I 0, .slice none 0 0, .slice none 0 0]) (ra [] f0 [(3, I 0), (4, I v_148)] (tN (kR (tR (hR (tR (tR ?_))))))))))))); have he_ := hO2_141 _ (oi hG).symm; subst he_; replace hG := hG_141; refine hR (tR ?_); obtain rfl := oi hG; replace hG := hG_154; refine hR (tR (tR ?_)); have he_ := hO2_111 _ (oi hG).symm; subst he_; replace hG := hG_111; refine hR (tR ?_); obtain rfl := oi hG; replace hG := hG_164; obtain rfl := oi hG; exact rtn [(9, 0, 3)] (⟨0, none, 0, ([] : List KVersion), none, 0, ([] : List KTxL)⟩ : KLeaderL) rfl ⟨((Fd.two ((gn : Fd _ (RowC none 0 KVersion.cells tr ([] : List KVersion)))) ((gn : Fd _ (RowC none 0 KTxL.cells KTxL.ok ([] : List KTxL))))).m fun _ _ h => ⟨h.1, h.2⟩), trivial⟩
       ·try simp only [List.length_map, KLeaderL.n_Open] at h_142
        refine sb 35 (bf h_142) (cf (kX (tX (tX ?_)))); have he_ := hO2_141 _ (oi hG).symm; subst he_; replace hG := hG_141; exact hH (tN (fun _ _ S k e => ⟨v_138, v_139_A, v_140_c, S, k.wk, e.sel [0, 1, 2, 3, 4, 5, 6], oi hG⟩))
     ·rintro a w ⟨v_155, v_156_A, v_157_c, hJ⟩; refine hJ.go fun ho_ => ?_
      clear hJ; subst ho_; replace hG := el hG_154; exact rg (rn 3 [(1, 1, 4, 1)] f0 [(61, I v_113.Ts), (62, Pt g_6 0)] (l1 (sr 2 g_6 [(0, I v_113.Ts)] (nl (hN (tN (rg (ra [] f0 [(27, I (IntKind.i64.wrap (v_106 + 1)))] (tN (fun a w S hK hE => ⟨m_111, ⟨IntKind.i64.wrap (v_106 + 1), v_113.Ts, v_155, v_156_A, v_157_c, S, hK.wk, hE.sel [2, 3, 5, 6], hO1_111 _ (oi hG).symm⟩, Nat.lt_succ_self _⟩))))))))))
    ·try simp only [List.length_map, KLeaderL.n_Open] at h_112
     refine sb 28 (bf h_112) (cf (kX (tX (tX ?_)))); have he_ := hO2_111 _ (oi hG).symm; subst he_; replace hG := hG_111; exact hH (tN (fun _ _ S k e => ⟨v_107, v_108, v_109_A, v_110_c, S, k.wk, e.sel [0, 1, 3], oi hG⟩))
  ·rintro a w ⟨v_165, v_166, v_167_A, v_168_c, hJ⟩; refine hJ.go fun ho_ => ?_
   clear hJ; subst ho_; replace hG := el hG_164; refine sq (rg (rn 2 [(0, 3, 0, 0)] f0 [(64, .agg #[I v_165, .slice v_167_A v_166.length v_168_c, .slice none 0 0]), (65, I v_3)] (l1 (sr 2 g_1 (ns 0 [I v_165, .slice v_167_A v_166.length v_168_c, .slice none 0 0]) (ra [] f0 [(3, I v_3), (4, I 0)] (tN (kR ?_))))))); obtain rfl := oi hG; exact rtn [(2, 0, 3)] (⟨v_165, v_167_A, v_168_c, v_166, none, 0, ([] : List KTxL)⟩ : KLeaderL) rfl ⟨((Fd.two ((gd' (RowC v_167_A v_168_c KVersion.cells tr v_166) 1)) ((gn : Fd _ (RowC none 0 KTxL.cells KTxL.ok ([] : List KTxL))))).m fun _ _ h => ⟨h.1, h.2⟩), trivial⟩
 ·refine sb 22 (nf h_5) (ct (sq (rg (rn 2 [] f0 [(23, .agg #[I 0, .slice none 0 0, .slice none 0 0]), (24, I v_4)] (l1 (sr 1 g_1 (ns 0 [I 0, .slice none 0 0, .slice none 0 0]) (ra [] f0 [(3, I 0), (4, I v_4)] (tN (kR (tR ?_)))))))))); obtain rfl := oi hG; exact rtn [(1, 0, 3)] (⟨0, none, 0, ([] : List KVersion), none, 0, ([] : List KTxL)⟩ : KLeaderL) rfl ⟨((Fd.two ((gn : Fd _ (RowC none 0 KVersion.cells tr ([] : List KVersion)))) ((gn : Fd _ (RowC none 0 KTxL.cells KTxL.ok ([] : List KTxL))))).m fun _ _ h => ⟨h.1, h.2⟩), trivial⟩
end Go.Proofs.Ytlfkgbideknkhaa
namespace Go.Proofs.Ytlfkgbideknkhaa
open Go.RowKit Go.Maps
end Go.Proofs.Ytlfkgbideknkhaa
namespace Go.Proofs.Ytlfkgbideknkhaa
open Go.RowKit Go.Maps
def G_regulatorlaw37_head (F : Nat)  : Option (Bool) :=
  Option.bind (G_journal_Append F ([] : List Int) (⟨1, 110, ([] : List KSeen), ([(⟨5, 7, false⟩ : KWrite)] : List KWrite)⟩ : KTx)) (un2 fun v_3 v_4 =>
  Option.bind (G_journal_Append F v_3 (⟨1, 111, ([] : List KSeen), ([(⟨5, 7, false⟩ : KWrite)] : List KWrite)⟩ : KTx)) (un2 fun v_6 v_7 =>
  Option.bind (G_journal_Append F v_3 (⟨1, 110, ([] : List KSeen), ([(⟨5, 7, false⟩ : KWrite)] : List KWrite)⟩ : KTx)) (un2 fun v_8 v_9 =>
  Option.bind (G_journal_Load F v_6) (un3 fun v_10 v_11 v_12 =>
  Option.bind (slI v_3 0 (max (IntKind.i64.wrap (((v_3.length : Nat) : Int) - 1)) 0)) (fun v_13 =>
  Option.bind (G_journal_Load F v_13) (un3 fun v_14 v_15 v_16 =>
  Option.bind (G_journal_Recover F v_6) (un3 fun v_17 v_18 v_19 =>
  Option.bind (Option.bind (apG 1 ([] : List Int) v_3) (fun v_22 =>
    Option.bind (apG 1 v_22 ([9] : List Int)) (fun v_24 =>
    Option.bind (G_journal_Append F v_24 (⟨1, 111, ([] : List KSeen), ([(⟨5, 7, false⟩ : KWrite)] : List KWrite)⟩ : KTx)) (un2 fun v_25 v_26 =>
    some v_26))) : Option (Int)) (fun (v_28 : Int) => 
    Option.bind (ifB ((v_4 == 0))
        (ifB ((v_7 == 0))
          (ifB ((v_9 == 30))
            (ifB ((v_12 == 0))
              (ifB ((v_16 == 0))
                (ifB ((v_19 == 0))
                  (some (v_28 == 6))
                  (some false))
                (some false))
              (some false))
            (some false))
          (some false))
        (some false) : Option (Bool)) (fun (v_36 : Bool) => 
      Option.bind (ifB (v_36)
          (ifB ((((v_3.length : Nat) : Int) == 20))
            (ifB ((((v_6.length : Nat) : Int) == 40))
              (ifB ((v_11 == 40))
                (ifB ((v_18 == 40))
                  (ifB ((v_15 == 0))
                    (ifB ((((v_14.length : Nat) : Int) == 0))
                      (Option.bind (G_regulatorref34_SameTxs F v_10 ([(⟨1, 110, ([] : List KSeen), ([(⟨5, 7, false⟩ : KWrite)] : List KWrite)⟩ : KTx), (⟨1, 111, ([] : List KSeen), ([(⟨5, 7, false⟩ : KWrite)] : List KWrite)⟩ : KTx)] : List KTx)) (fun v_45 =>
                      some v_45))
                      (some false))
                    (some false))
                  (some false))
                (some false))
              (some false))
            (some false))
          (some false) : Option (Bool)) (fun (v_47 : Bool) => 
        Option.bind (ifB (v_47)
            (ifB ((v_17.Last == 111))
              (ifB ((((v_17.Open.length : Nat) : Int) == 0))
                (ifB ((((v_17.Store.length : Nat) : Int) == 2))
                  (Option.bind (ixI v_17.Store 1) (fun v_52 =>
                  some (decide (v_52 = (⟨5, 111, 7, false⟩ : KVersion)))))
                  (some false))
                (some false))
              (some false))
            (some false) : Option (Bool)) (fun (v_56 : Bool) => 
          some v_56)))))))))))
set_option maxRecDepth 100000 in
set_option maxHeartbeats 16000000 in
theorem z_regulatorlaw37_head (F : Nat)  (r : Bool) (hG : G_regulatorlaw37_head F  = some r) :
  Cf Try.prog 8 [] [] (B r) := by
 unfold G_regulatorlaw37_head at hG; refine fi Try.func8 rfl rfl m0 fun S0 w0 hT => sq (rg (ra [] f0 [] (tN (sq (rg (rn 1 [] f0 [(21, .agg #[I 5, I 7, B false])] (l1 (nw 22 (vs 1) [I 5, I 7, B false] 66 fun g_1 => rn 1 [] f0 [(23, .agg #[I 1, I 110, .slice none 0 0, Sb g_1 1 1])] (l1 (nw 1 vp (KTxL.cells KTxL.z) 26 fun g_2 => l1 (sr 0 g_2 (ns 0 [I 1, I 110, .slice none 0 0, Sb g_1 1 1]) (nl (tN (sq ?_))))))))))))))
 obtain ⟨v_3o, v_4, hy_3, hG⟩ := b2 hG; refine rg (rn 1 [(0, 4, 0, 0)] f0 [(25, .agg #[I 1, I 110, .slice none 0 0, Sb g_1 1 1])] (l1 (cg 26 (z_journal_Append F none 0 ([] : List Int) (⟨1, 110, none, 0, ([] : List KSeen), (some ⟨g_1, 0, none⟩), 1, ([(⟨5, 7, false⟩ : KWrite)] : List KWrite)⟩ : KTxL) _ hy_3) hT (fun _ => (mr tr_mv m0)) ⟨gn.a, Fa.m (Fa.two ((gn : Fd _ (RowC none 0 KSeen.cells tr ([] : List KSeen))).a) (bA (f := KWrite.cells) (ok := tr) (l := ([(⟨5, 7, false⟩ : KWrite)] : List KWrite)) g_1 1 (et.a))) fun _ _ h => ⟨h.1, h.2⟩, trivial⟩ ?_))); rintro ⟨v_3_A, v_3_c, v_3⟩ hq_3; obtain rfl : v_3 = v_3o := hq_3.symm
 try simp only [List.length_map, KLeaderL.n_Open] at hG
 refine ra [] f0 [(2, .slice v_3_A v_3.length v_3_c), (3, I v_4)] (tN (sq (rg (rn 1 [(0, 4, 1, 0)] f0 [(29, .agg #[I 1, I 110, .slice none 0 0, Sb g_1 1 1])] (l1 (nw 4 vp (KTxL.cells KTxL.z) 26 fun g_5 => l1 (sr 0 g_5 (ns 0 [I 1, I 110, .slice none 0 0, Sb g_1 1 1]) (nl (tN (sq (rg (rn 1 [] f0 [(30, Pt g_5 1)] (l1 (sr 0 g_5 [(1, I 111)] (nl (tN (sq ?_))))))))))))))))); obtain ⟨v_6o, v_7, hy_6, hG⟩ := b2 hG; refine rg (rn 2 [(1, 4, 0, 0)] f0 [(32, .slice v_3_A v_3.length v_3_c), (33, .agg #[I 1, I 111, .slice none 0 0, Sb g_1 1 1])] (l1 (cg 34 (z_journal_Append F v_3_A v_3_c v_3 (⟨1, 111, none, 0, ([] : List KSeen), (some ⟨g_1, 0, none⟩), 1, ([(⟨5, 7, false⟩ : KWrite)] : List KWrite)⟩ : KTxL) _ hy_6) hT (fun _ => (mr tr_mv m0)) ⟨ga 1, Fa.m (Fa.two ((gn : Fd _ (RowC none 0 KSeen.cells tr ([] : List KSeen))).a) (bA (f := KWrite.cells) (ok := tr) (l := ([(⟨5, 7, false⟩ : KWrite)] : List KWrite)) g_1 3 (et.a))) fun _ _ h => ⟨h.1, h.2⟩, trivial⟩ ?_))); rintro ⟨v_6_A, v_6_c, v_6⟩ hq_6; obtain rfl : v_6 = v_6o := hq_6.symm
 try simp only [List.length_map, KLeaderL.n_Open] at hG
 refine ra [] f0 [(5, .slice v_6_A v_6.length v_6_c), (6, I v_7)] (tN (sq ?_)); obtain ⟨v_8o, v_9, hy_8, hG⟩ := b2 hG; refine rg (rn 2 [(1, 4, 3, 0)] f0 [(38, .slice v_3_A v_3.length v_3_c), (39, .agg #[I 1, I 110, .slice none 0 0, Sb g_1 1 1])] (l1 (cg 40 (z_journal_Append F v_3_A v_3_c v_3 (⟨1, 110, none, 0, ([] : List KSeen), (some ⟨g_1, 0, none⟩), 1, ([(⟨5, 7, false⟩ : KWrite)] : List KWrite)⟩ : KTxL) _ hy_8) hT (fun _ => (mr tr_mv m0)) ⟨ga 2, Fa.m (Fa.two ((gn : Fd _ (RowC none 0 KSeen.cells tr ([] : List KSeen))).a) (bA (f := KWrite.cells) (ok := tr) (l := ([(⟨5, 7, false⟩ : KWrite)] : List KWrite)) g_1 4 (et.a))) fun _ _ h => ⟨h.1, h.2⟩, trivial⟩ ?_))); rintro ⟨v_8_A, v_8_c, v_8⟩ hq_8; obtain rfl : v_8 = v_8o := hq_8.symm
 try simp only [List.length_map, KLeaderL.n_Open] at hG
 refine ra [] f0 [(8, I v_9)] (tN (sq ?_)); obtain ⟨v_10o, v_11, v_12, hy_10, hG⟩ := b3 hG; refine rg (rn 1 [] f0 [(44, .slice v_6_A v_6.length v_6_c)] (l1 (cn 45 (z_journal_Load F v_6_A v_6_c v_6 _ hy_10) hT (fun _ => (mr KTxL.mv m0)) ⟨gi 1, trivial⟩ ?_))); rintro ⟨v_10_A, v_10_c, v_10⟩ hq_10; obtain rfl : (v_10.map KTxL.p) = v_10o := hq_10.symm
 try simp only [List.length_map, KLeaderL.n_Open] at hG
 refine ra [] f0 (ns 9 [.slice v_10_A v_10.length v_10_c, I v_11, I v_12]) (tN (sq ?_)); obtain ⟨v_13, hy_13, hG⟩ := bs hG; obtain ⟨v_14o, v_15, v_16, hy_14, hG⟩ := b3 hG; refine rg (rn 5 [] f0 [(50, .slice v_3_A v_3.length v_3_c), (54, I (if 0 > (IntKind.i64.wrap (((v_3.length : Nat) : Int) - 1)) then 0 else (IntKind.i64.wrap (((v_3.length : Nat) : Int) - 1))))] (sb 54 (v := I (if 0 > (IntKind.i64.wrap (((v_3.length : Nat) : Int) - 1)) then 0 else (IntKind.i64.wrap (((v_3.length : Nat) : Int) - 1)))) (v' := I (max (IntKind.i64.wrap (((v_3.length : Nat) : Int) - 1)) 0)) (congrArg (Value.int .i64) (by omega)) (fp false true inf22 (gd' (RowC v_3_A v_3_c c_u8 tr v_3) 4) hy_13 fun v_13_A v_13_c hp_13 => rn 1 [(0, 0, 0, 0)] (fc (hp_13 .i64 .i64) f0) [(55, .slice v_13_A v_13.length v_13_c)] (l1 (cn 56 (z_journal_Load F v_13_A v_13_c v_13 _ hy_14) hT (fun _ => (mr KTxL.mv m0)) ⟨gi 0, trivial⟩ ?_))))); rintro ⟨v_14_A, v_14_c, v_14⟩ hq_14; obtain rfl : (v_14.map KTxL.p) = v_14o := hq_14.symm
 try simp only [List.length_map, KLeaderL.n_Open] at hG
 refine ra [] f0 (ns 12 [.slice v_14_A v_14.length v_14_c, I v_15, I v_16]) (tN (sq ?_)); obtain ⟨v_17o, v_18, v_19, hy_17, hG⟩ := b3 hG; refine rg (rn 1 [] f0 [(61, .slice v_6_A v_6.length v_6_c)] (l1 (cn 62 (z_journal_Recover F v_6_A v_6_c v_6 _ hy_17) hT (fun _ => (mc KLeaderL.mv m0)) ⟨gi 4, trivial⟩ ?_))); rintro v_17 hq_17; obtain rfl : v_17.p = v_17o := hq_17.symm
 try simp only [List.length_map, KLeaderL.n_Open] at hG
 refine rn 4 [] f0 (ns 63 [.agg #[I v_17.Last, .slice v_17.Store_A v_17.Store.length v_17.Store_c, .slice v_17.Open_A v_17.Open.length v_17.Open_c], I v_18, I v_19]) (l1 (nw 15 vp [I 0, .slice none 0 0, .slice none 0 0] 40 fun g_20 => l1 (sr 0 g_20 (ns 0 [I v_17.Last, .slice v_17.Store_A v_17.Store.length v_17.Store_c, .slice v_17.Open_A v_17.Open.length v_17.Open_c]) (ra [] f0 [(16, I v_18), (17, I v_19)] (tN ?_))))); obtain ⟨o_27, hG, hG_27⟩ := bs hG; refine jn (fun K E a w => ∃ v_28 : Int, Js S0 w0 163 ([(19, I v_28)] ++ K) ([.dat (RowC v_17.Store_A v_17.Store_c KVersion.cells tr v_17.Store), .dat (RowC v_17.Open_A v_17.Open_c KTxL.cells KTxL.ok v_17.Open)] ++ se E [0, 2, 4, 6, 7, 8, 9, 10]) (v_28 = o_27) a w) ?_ ?_
 ·obtain ⟨v_22, hy_22, hG⟩ := bs hG; obtain ⟨v_24, hy_24, hG⟩ := bs hG; obtain ⟨v_25o, v_26, hy_25, hG⟩ := b2 hG; refine hb [0, 1, 2, 3, 4, 5, 6, 7, 8, 9, 10] (ht [0, 1, 2, 3, 4, 5, 6, 7, 8, 9, 10] [1, 5] [(1, 4, 7, 0)] f0 [(68, .slice v_3_A v_3.length v_3_c), (72, .agg #[I 1, I 111, .slice none 0 0, Sb g_1 1 1])] (ho [0, 3] ⟨?_, ?_, trivial⟩))
  ·refine h1 (nw 67 (vs 0) [] 5 fun g_21 => hk [1, 2, 3, 4, 5, 6, 7, 8, 9, 10, 11] (ho [2, 3] ⟨?_, ?_, trivial⟩))
   ·refine bo 0 1 0 g_21 5 [] (h1 (ap 0 69 (some ⟨g_21, 0, none⟩) 0 ([] : List Int) v_3 inf22 ((gd' (RowC v_3_A v_3_c c_u8 tr v_3) 9).a) hy_22 one_u8 fun v_22_A v_22_c _ => hk [1, 2, 3, 4, 5, 6, 7, 8, 9, 10, 11] (ho [3] ⟨h1 (nw 70 (vs 1) [Y 9] 5 fun g_23 => hk [2, 3, 4, 5, 6, 7, 8, 9, 10, 11, 12] (ho [4] ⟨h1 (ap 1 71 v_22_A v_22_c v_22 ([9] : List Int) inf22 (bA (f := c_u8) (ok := tr) (l := ([9] : List Int)) g_23 0 et.a) hy_24 one_u8 fun v_24_A v_24_c _ => hk [2, 3, 4, 5, 6, 7, 8, 9, 10, 11, 12] (ho [6] ⟨h1 (cg 73 (z_journal_Append F v_24_A v_24_c v_24 (⟨1, 111, none, 0, ([] : List KSeen), (some ⟨g_1, 0, none⟩), 1, ([(⟨5, 7, false⟩ : KWrite)] : List KWrite)⟩ : KTxL) _ hy_25) hT (fun _ => (mr tr_mv m0)) ⟨oa 1 et.a, Fa.m (Fa.two ((gn : Fd _ (RowC none 0 KSeen.cells tr ([] : List KSeen))).a) (bA (f := KWrite.cells) (ok := tr) (l := ([(⟨5, 7, false⟩ : KWrite)] : List KWrite)) g_1 12 (et.a))) fun _ _ h => ⟨h.1, h.2⟩, trivial⟩ ?_), trivial⟩)), trivial⟩)), trivial⟩))); rintro ⟨v_25_A, v_25_c, v_25⟩ hq_25; obtain rfl : v_25 = v_25o := hq_25.symm
    try simp only [List.length_map, KLeaderL.n_Open] at hG
    exact hk [3, 4, 5, 6, 7, 8, 9, 10, 11, 12, 13] (ht [3, 4, 5, 6, 7, 8, 9, 10, 11, 12, 13] [7, 8, 9, 10, 11] [] f0 [(19, I v_26)] (he (tN (fg (KLeaderL.ok v_17) 4 (fun _ _ h => h.f_Store) (fg (KLeaderL.ok v_17) 5 (fun _ _ h => h.f_Open) (fun _ _ S k e => ⟨v_26, S, k.wk, e.sel [1, 0, 5, 7, 9, 11, 12, 13, 14, 15], oi hG⟩))))))
   ·refine h1 (nw 70 (vs 1) [Y 9] 5 fun g_23 => hk [2, 3, 4, 5, 6, 7, 8, 9, 10, 11, 12] (ho [2] ⟨bo 1 1 0 g_21 5 [] (h1 (ap 1 69 (some ⟨g_21, 0, none⟩) 0 ([] : List Int) v_3 inf22 ((gd' (RowC v_3_A v_3_c c_u8 tr v_3) 10).a) hy_22 one_u8 fun v_22_A v_22_c _ => hk [2, 3, 4, 5, 6, 7, 8, 9, 10, 11, 12] (ho [4] ⟨h1 (ap 1 71 v_22_A v_22_c v_22 ([9] : List Int) inf22 (bA (f := c_u8) (ok := tr) (l := ([9] : List Int)) g_23 0 et.a) hy_24 one_u8 fun v_24_A v_24_c _ => hk [2, 3, 4, 5, 6, 7, 8, 9, 10, 11, 12] (ho [6] ⟨h1 (cg 73 (z_journal_Append F v_24_A v_24_c v_24 (⟨1, 111, none, 0, ([] : List KSeen), (some ⟨g_1, 0, none⟩), 1, ([(⟨5, 7, false⟩ : KWrite)] : List KWrite)⟩ : KTxL) _ hy_25) hT (fun _ => (mr tr_mv m0)) ⟨oa 1 et.a, Fa.m (Fa.two ((gn : Fd _ (RowC none 0 KSeen.cells tr ([] : List KSeen))).a) (bA (f := KWrite.cells) (ok := tr) (l := ([(⟨5, 7, false⟩ : KWrite)] : List KWrite)) g_1 12 (et.a))) fun _ _ h => ⟨h.1, h.2⟩, trivial⟩ ?_), trivial⟩)), trivial⟩))), trivial⟩)); rintro ⟨v_25_A, v_25_c, v_25⟩ hq_25; obtain rfl : v_25 = v_25o := hq_25.symm
    try simp only [List.length_map, KLeaderL.n_Open] at hG
    exact hk [3, 4, 5, 6, 7, 8, 9, 10, 11, 12, 13] (ht [3, 4, 5, 6, 7, 8, 9, 10, 11, 12, 13] [7, 8, 9, 10, 11] [] f0 [(19, I v_26)] (he (tN (fg (KLeaderL.ok v_17) 4 (fun _ _ h => h.f_Store) (fg (KLeaderL.ok v_17) 5 (fun _ _ h => h.f_Open) (fun _ _ S k e => ⟨v_26, S, k.wk, e.sel [1, 0, 5, 7, 9, 11, 12, 13, 14, 15], oi hG⟩))))))
  ·refine h1 (nw 70 (vs 1) [Y 9] 5 fun g_23 => hk [1, 2, 3, 4, 5, 6, 7, 8, 9, 10, 11] (ho [0] ⟨h1 (nw 67 (vs 0) [] 5 fun g_21 => hk [2, 3, 4, 5, 6, 7, 8, 9, 10, 11, 12] (ho [2] ⟨bo 0 1 0 g_21 5 [] (h1 (ap 0 69 (some ⟨g_21, 0, none⟩) 0 ([] : List Int) v_3 inf22 ((gd' (RowC v_3_A v_3_c c_u8 tr v_3) 10).a) hy_22 one_u8 fun v_22_A v_22_c _ => hk [2, 3, 4, 5, 6, 7, 8, 9, 10, 11, 12] (ho [4] ⟨h1 (ap 0 71 v_22_A v_22_c v_22 ([9] : List Int) inf22 (bA (f := c_u8) (ok := tr) (l := ([9] : List Int)) g_23 1 et.a) hy_24 one_u8 fun v_24_A v_24_c _ => hk [2, 3, 4, 5, 6, 7, 8, 9, 10, 11, 12] (ho [6] ⟨h1 (cg 73 (z_journal_Append F v_24_A v_24_c v_24 (⟨1, 111, none, 0, ([] : List KSeen), (some ⟨g_1, 0, none⟩), 1, ([(⟨5, 7, false⟩ : KWrite)] : List KWrite)⟩ : KTxL) _ hy_25) hT (fun _ => (mr tr_mv m0)) ⟨oa 0 et.a, Fa.m (Fa.two ((gn : Fd _ (RowC none 0 KSeen.cells tr ([] : List KSeen))).a) (bA (f := KWrite.cells) (ok := tr) (l := ([(⟨5, 7, false⟩ : KWrite)] : List KWrite)) g_1 12 (et.a))) fun _ _ h => ⟨h.1, h.2⟩, trivial⟩ ?_), trivial⟩)), trivial⟩))), trivial⟩)), trivial⟩)); rintro ⟨v_25_A, v_25_c, v_25⟩ hq_25; obtain rfl : v_25 = v_25o := hq_25.symm
   try simp only [List.length_map, KLeaderL.n_Open] at hG
   exact hk [3, 4, 5, 6, 7, 8, 9, 10, 11, 12, 13] (ht [3, 4, 5, 6, 7, 8, 9, 10, 11, 12, 13] [7, 8, 9, 10, 11] [] f0 [(19, I v_26)] (he (tN (fg (KLeaderL.ok v_17) 4 (fun _ _ h => h.f_Store) (fg (KLeaderL.ok v_17) 5 (fun _ _ h => h.f_Open) (fun _ _ S k e => ⟨v_26, S, k.wk, e.sel [1, 0, 5, 7, 9, 11, 12, 13, 14, 15], oi hG⟩))))))
 ·rintro a w ⟨v_28, hJ⟩; refine hJ.go fun ho_ => ?_
  clear hJ; subst ho_; replace hG := hG_27; obtain ⟨o_35, hG, hG_35⟩ := bs hG; refine jn (fun K E a w => ∃ v_36 : Bool, Js S0 w0 163 ([(20, B v_36)] ++ K) (se E [0, 1, 2, 3, 4, 5, 6, 7, 8, 9]) (v_36 = o_35) a w) ?_ ?_
  ·rcases ic hG with ⟨h_29, hG⟩ | ⟨h_29, hG⟩
   ·rcases ic hG with ⟨h_30, hG⟩ | ⟨h_30, hG⟩
    ·rcases ic hG with ⟨h_31, hG⟩ | ⟨h_31, hG⟩
     ·rcases ic hG with ⟨h_32, hG⟩ | ⟨h_32, hG⟩
      ·rcases ic hG with ⟨h_33, hG⟩ | ⟨h_33, hG⟩
       ·rcases ic hG with ⟨h_34, hG⟩ | ⟨h_34, hG⟩
        ·exact rg (rn 3 [] f0 [(78, B (v_4 == 0))] (sb 78 (bt h_29) (rn 4 [] f0 [(82, B (v_7 == 0))] (sb 82 (bt h_30) (rn 4 [] f0 [(86, B (v_9 == 30))] (sb 86 (bt h_31) (rn 4 [] f0 [(90, B (v_12 == 0))] (sb 90 (bt h_32) (rn 4 [] f0 [(94, B (v_16 == 0))] (sb 94 (bt h_33) (rn 4 [] f0 [(98, B (v_19 == 0))] (sb 98 (bt h_34) (ra [] f0 [(20, B (v_28 == 6))] (tN (fun _ _ S k e => ⟨(v_28 == 6), S, k.wk, e.sel [0, 1, 2, 3, 4, 5, 6, 7, 8, 9], oi hG⟩)))))))))))))))
        ·exact rg (rn 3 [] f0 [(78, B (v_4 == 0))] (sb 78 (bt h_29) (rn 4 [] f0 [(82, B (v_7 == 0))] (sb 82 (bt h_30) (rn 4 [] f0 [(86, B (v_9 == 30))] (sb 86 (bt h_31) (rn 4 [] f0 [(90, B (v_12 == 0))] (sb 90 (bt h_32) (rn 4 [] f0 [(94, B (v_16 == 0))] (sb 94 (bt h_33) (rn 4 [] f0 [(98, B (v_19 == 0))] (sb 98 (bf h_34) (ra [] f0 [(20, B false)] (tN (fun _ _ S k e => ⟨false, S, k.wk, e.sel [0, 1, 2, 3, 4, 5, 6, 7, 8, 9], oi hG⟩)))))))))))))))
       ·exact rg (rn 3 [] f0 [(78, B (v_4 == 0))] (sb 78 (bt h_29) (rn 4 [] f0 [(82, B (v_7 == 0))] (sb 82 (bt h_30) (rn 4 [] f0 [(86, B (v_9 == 30))] (sb 86 (bt h_31) (rn 4 [] f0 [(90, B (v_12 == 0))] (sb 90 (bt h_32) (rn 4 [] f0 [(94, B (v_16 == 0))] (sb 94 (bf h_33) (ra [] f0 [(20, B false)] (tN (fun _ _ S k e => ⟨false, S, k.wk, e.sel [0, 1, 2, 3, 4, 5, 6, 7, 8, 9], oi hG⟩)))))))))))))
      ·exact rg (rn 3 [] f0 [(78, B (v_4 == 0))] (sb 78 (bt h_29) (rn 4 [] f0 [(82, B (v_7 == 0))] (sb 82 (bt h_30) (rn 4 [] f0 [(86, B (v_9 == 30))] (sb 86 (bt h_31) (rn 4 [] f0 [(90, B (v_12 == 0))] (sb 90 (bf h_32) (ra [] f0 [(20, B false)] (tN (fun _ _ S k e => ⟨false, S, k.wk, e.sel [0, 1, 2, 3, 4, 5, 6, 7, 8, 9], oi hG⟩)))))))))))
     ·exact rg (rn 3 [] f0 [(78, B (v_4 == 0))] (sb 78 (bt h_29) (rn 4 [] f0 [(82, B (v_7 == 0))] (sb 82 (bt h_30) (rn 4 [] f0 [(86, B (v_9 == 30))] (sb 86 (bf h_31) (ra [] f0 [(20, B false)] (tN (fun _ _ S k e => ⟨false, S, k.wk, e.sel [0, 1, 2, 3, 4, 5, 6, 7, 8, 9], oi hG⟩)))))))))
    ·exact rg (rn 3 [] f0 [(78, B (v_4 == 0))] (sb 78 (bt h_29) (rn 4 [] f0 [(82, B (v_7 == 0))] (sb 82 (bf h_30) (ra [] f0 [(20, B false)] (tN (fun _ _ S k e => ⟨false, S, k.wk, e.sel [0, 1, 2, 3, 4, 5, 6, 7, 8, 9], oi hG⟩)))))))
   ·exact rg (rn 3 [] f0 [(78, B (v_4 == 0))] (sb 78 (bf h_29) (ra [] f0 [(20, B false)] (tN (fun _ _ S k e => ⟨false, S, k.wk, e.sel [0, 1, 2, 3, 4, 5, 6, 7, 8, 9], oi hG⟩)))))
  ·rintro a w ⟨v_36, hJ⟩; refine hJ.go fun ho_ => ?_
   clear hJ; subst ho_; replace hG := hG_35; obtain ⟨o_46, hG, hG_46⟩ := bs hG; refine jn (fun K E a w => ∃ v_47 : Bool, Js S0 w0 163 ([(20, B v_47)] ++ K) (se E [0, 1, 2]) (v_47 = o_46) a w) ?_ ?_
   ·rcases ic hG with ⟨h_37, hG⟩ | ⟨h_37, hG⟩
    ·rcases ic hG with ⟨h_38, hG⟩ | ⟨h_38, hG⟩
     ·rcases ic hG with ⟨h_39, hG⟩ | ⟨h_39, hG⟩
      ·rcases ic hG with ⟨h_40, hG⟩ | ⟨h_40, hG⟩
       ·rcases ic hG with ⟨h_41, hG⟩ | ⟨h_41, hG⟩
        ·rcases ic hG with ⟨h_42, hG⟩ | ⟨h_42, hG⟩
         ·rcases ic hG with ⟨h_43, hG⟩ | ⟨h_43, hG⟩
          ·obtain ⟨v_45, hy_45, hG⟩ := bs hG; refine rg (rn 2 [] f0 [(103, B v_36)] (sb 103 (bt h_37) (rn 5 [] f0 [(108, B (((v_3.length : Nat) : Int) == 20))] ?_)))
           try simp only [List.length_map, KLeaderL.n_Open] at h_38
           refine sb 108 (bt h_38) (rn 5 [] f0 [(113, B (((v_6.length : Nat) : Int) == 40))] ?_)
           try simp only [List.length_map, KLeaderL.n_Open] at h_39
           refine sb 113 (bt h_39) (rn 4 [] f0 [(117, B (v_11 == 40))] (sb 117 (bt h_40) (rn 4 [] f0 [(121, B (v_18 == 40))] (sb 121 (bt h_41) (rn 4 [] f0 [(125, B (v_15 == 0))] (sb 125 (bt h_42) (rn 5 [] f0 [(130, B (((v_14.length : Nat) : Int) == 0))] ?_)))))))
           try simp only [List.length_map, KLeaderL.n_Open] at h_43
           exact sb 130 (bt h_43) (rn 3 [(1, 4, 8, 0), (0, 4, 6, 0)] f0 (ns 131 [.slice v_10_A v_10.length v_10_c, .agg #[I 1, I 110, .slice none 0 0, Sb g_1 1 1], .agg #[I 1, I 111, .slice none 0 0, Sb g_1 1 1]]) (l1 (nw 134 (vs 2) [I 1, I 110, .slice none 0 0, Sb g_1 1 1, I 1, I 111, .slice none 0 0, Sb g_1 1 1] 26 fun g_44 => sB 10 g_1 KWrite.cells tr ([(⟨5, 7, false⟩ : KWrite)] : List KWrite) tr_mv et (l1 (cl 135 (z_regulatorref34_SameTxs F v_10_A v_10_c v_10 (some ⟨g_44, 0, none⟩) 2 ([(⟨1, 110, none, 0, ([] : List KSeen), (some ⟨g_1, 0, none⟩), 1, ([(⟨5, 7, false⟩ : KWrite)] : List KWrite)⟩ : KTxL), (⟨1, 111, none, 0, ([] : List KSeen), (some ⟨g_1, 0, none⟩), 1, ([(⟨5, 7, false⟩ : KWrite)] : List KWrite)⟩ : KTxL)] : List KTxL) _ hy_45) hT ⟨ga 5, ba 0 (ec ((Fd.two ((gn : Fd _ (RowC none 0 KSeen.cells tr ([] : List KSeen)))) ((gd' (RowC (some ⟨g_1, 0, none⟩) 1 KWrite.cells tr ([(⟨5, 7, false⟩ : KWrite)] : List KWrite)) 10))).m fun _ _ h => ⟨h.1, h.2⟩) (ec ((Fd.two ((gn : Fd _ (RowC none 0 KSeen.cells tr ([] : List KSeen)))) ((gd' (RowC (some ⟨g_1, 0, none⟩) 1 KWrite.cells tr ([(⟨5, 7, false⟩ : KWrite)] : List KWrite)) 10))).m fun _ _ h => ⟨h.1, h.2⟩) e0)).a, trivial⟩ (ra [] f0 [(20, B v_45)] (tN (fun _ _ S k e => ⟨v_45, S, k.wk, e.sel [1, 2, 3], oi hG⟩))))))))
          ·refine rg (rn 2 [] f0 [(103, B v_36)] (sb 103 (bt h_37) (rn 5 [] f0 [(108, B (((v_3.length : Nat) : Int) == 20))] ?_)))
           try simp only [List.length_map, KLeaderL.n_Open] at h_38
           refine sb 108 (bt h_38) (rn 5 [] f0 [(113, B (((v_6.length : Nat) : Int) == 40))] ?_)
           try simp only [List.length_map, KLeaderL.n_Open] at h_39
           refine sb 113 (bt h_39) (rn 4 [] f0 [(117, B (v_11 == 40))] (sb 117 (bt h_40) (rn 4 [] f0 [(121, B (v_18 == 40))] (sb 121 (bt h_41) (rn 4 [] f0 [(125, B (v_15 == 0))] (sb 125 (bt h_42) (rn 5 [] f0 [(130, B (((v_14.length : Nat) : Int) == 0))] ?_)))))))
           try simp only [List.length_map, KLeaderL.n_Open] at h_43
           exact sb 130 (bf h_43) (ra [] f0 [(20, B false)] (tN (fun _ _ S k e => ⟨false, S, k.wk, e.sel [0, 1, 2], oi hG⟩)))
         ·refine rg (rn 2 [] f0 [(103, B v_36)] (sb 103 (bt h_37) (rn 5 [] f0 [(108, B (((v_3.length : Nat) : Int) == 20))] ?_)))
          try simp only [List.length_map, KLeaderL.n_Open] at h_38
          refine sb 108 (bt h_38) (rn 5 [] f0 [(113, B (((v_6.length : Nat) : Int) == 40))] ?_)
          try simp only [List.length_map, KLeaderL.n_Open] at h_39
          exact sb 113 (bt h_39) (rn 4 [] f0 [(117, B (v_11 == 40))] (sb 117 (bt h_40) (rn 4 [] f0 [(121, B (v_18 == 40))] (sb 121 (bt h_41) (rn 4 [] f0 [(125, B (v_15 == 0))] (sb 125 (bf h_42) (ra [] f0 [(20, B false)] (tN (fun _ _ S k e => ⟨false, S, k.wk, e.sel [0, 1, 2], oi hG⟩)))))))))
        ·refine rg (rn 2 [] f0 [(103, B v_36)] (sb 103 (bt h_37) (rn 5 [] f0 [(108, B (((v_3.length : Nat) : Int) == 20))] ?_)))
         try simp only [List.length_map, KLeaderL.n_Open] at h_38
         refine sb 108 (bt h_38) (rn 5 [] f0 [(113, B (((v_6.length : Nat) : Int) == 40))] ?_)
         try simp only [List.length_map, KLeaderL.n_Open] at h_39
         exact sb 113 (bt h_39) (rn 4 [] f0 [(117, B (v_11 == 40))] (sb 117 (bt h_40) (rn 4 [] f0 [(121, B (v_18 == 40))] (sb 121 (bf h_41) (ra [] f0 [(20, B false)] (tN (fun _ _ S k e => ⟨false, S, k.wk, e.sel [0, 1, 2], oi hG⟩)))))))
       ·refine rg (rn 2 [] f0 [(103, B v_36)] (sb 103 (bt h_37) (rn 5 [] f0 [(108, B (((v_3.length : Nat) : Int) == 20))] ?_)))
        try simp only [List.length_map, KLeaderL.n_Open] at h_38
        refine sb 108 (bt h_38) (rn 5 [] f0 [(113, B (((v_6.length : Nat) : Int) == 40))] ?_)
        try simp only [List.length_map, KLeaderL.n_Open] at h_39
        exact sb 113 (bt h_39) (rn 4 [] f0 [(117, B (v_11 == 40))] (sb 117 (bf h_40) (ra [] f0 [(20, B false)] (tN (fun _ _ S k e => ⟨false, S, k.wk, e.sel [0, 1, 2], oi hG⟩)))))
      ·refine rg (rn 2 [] f0 [(103, B v_36)] (sb 103 (bt h_37) (rn 5 [] f0 [(108, B (((v_3.length : Nat) : Int) == 20))] ?_)))
       try simp only [List.length_map, KLeaderL.n_Open] at h_38
       refine sb 108 (bt h_38) (rn 5 [] f0 [(113, B (((v_6.length : Nat) : Int) == 40))] ?_)
       try simp only [List.length_map, KLeaderL.n_Open] at h_39
       exact sb 113 (bf h_39) (ra [] f0 [(20, B false)] (tN (fun _ _ S k e => ⟨false, S, k.wk, e.sel [0, 1, 2], oi hG⟩)))
     ·refine rg (rn 2 [] f0 [(103, B v_36)] (sb 103 (bt h_37) (rn 5 [] f0 [(108, B (((v_3.length : Nat) : Int) == 20))] ?_)))
      try simp only [List.length_map, KLeaderL.n_Open] at h_38
      exact sb 108 (bf h_38) (ra [] f0 [(20, B false)] (tN (fun _ _ S k e => ⟨false, S, k.wk, e.sel [0, 1, 2], oi hG⟩)))
    ·exact rg (rn 2 [] f0 [(103, B v_36)] (sb 103 (bf h_37) (ra [] f0 [(20, B false)] (tN (fun _ _ S k e => ⟨false, S, k.wk, e.sel [0, 1, 2], oi hG⟩)))))
   ·rintro a w ⟨v_47, hJ⟩; refine hJ.go fun ho_ => ?_
    clear hJ; subst ho_; replace hG := hG_46; obtain ⟨o_55, hG, hG_55⟩ := bs hG; refine jn (fun K E a w => ∃ v_56 : Bool, Js S0 w0 163 ([(0, B v_56)] ++ K) (se E []) (v_56 = o_55) a w) ?_ ?_
    ·rcases ic hG with ⟨h_48, hG⟩ | ⟨h_48, hG⟩
     ·rcases ic hG with ⟨h_49, hG⟩ | ⟨h_49, hG⟩
      ·rcases ic hG with ⟨h_50, hG⟩ | ⟨h_50, hG⟩
       ·rcases ic hG with ⟨h_51, hG⟩ | ⟨h_51, hG⟩
        ·obtain ⟨v_52, hy_52, hG⟩ := bs hG; refine rg (rn 2 [] f0 [(138, B v_47)] (sb 138 (bt h_48) (rn 5 [(1, 1, 2, 0)] f0 [(143, B (v_17.Last == 111))] (sb 143 (bt h_49) (rn 6 [(1, 1, 2, 2)] f0 [(149, B (((v_17.Open.length : Nat) : Int) == 0))] ?_)))))
         try simp only [List.length_map, KLeaderL.n_Open] at h_50
         refine sb 149 (bt h_50) (rn 6 [(1, 1, 2, 1)] f0 [(155, B (((v_17.Store.length : Nat) : Int) == 2))] ?_)
         try simp only [List.length_map, KLeaderL.n_Open] at h_51
         exact sb 155 (bt h_51) (fx inf38 (gd' (RowC v_17.Store_A v_17.Store_c KVersion.cells tr v_17.Store) 0) hy_52 fun b_53 o_54 hi_52 => ra [(1, 1, 3, 1), (0, 0, 0, 0), (0, 4, 0, 0), (1, 0, 0, 0)] (fc (hi_52 .i64) (fc (eql_KVersion v_52 (⟨5, 111, 7, false⟩ : KVersion)) f0)) [(0, B (decide (v_52 = (⟨5, 111, 7, false⟩ : KVersion))))] (tN (fun _ _ S k e => ⟨decide (v_52 = (⟨5, 111, 7, false⟩ : KVersion)), S, k.wk, e.sel [], oi hG⟩)))
        ·refine rg (rn 2 [] f0 [(138, B v_47)] (sb 138 (bt h_48) (rn 5 [(1, 1, 2, 0)] f0 [(143, B (v_17.Last == 111))] (sb 143 (bt h_49) (rn 6 [(1, 1, 2, 2)] f0 [(149, B (((v_17.Open.length : Nat) : Int) == 0))] ?_)))))
         try simp only [List.length_map, KLeaderL.n_Open] at h_50
         refine sb 149 (bt h_50) (rn 6 [(1, 1, 2, 1)] f0 [(155, B (((v_17.Store.length : Nat) : Int) == 2))] ?_)
         try simp only [List.length_map, KLeaderL.n_Open] at h_51
         exact sb 155 (bf h_51) (ra [] f0 [(0, B false)] (tN (fun _ _ S k e => ⟨false, S, k.wk, e.sel [], oi hG⟩)))
       ·refine rg (rn 2 [] f0 [(138, B v_47)] (sb 138 (bt h_48) (rn 5 [(1, 1, 2, 0)] f0 [(143, B (v_17.Last == 111))] (sb 143 (bt h_49) (rn 6 [(1, 1, 2, 2)] f0 [(149, B (((v_17.Open.length : Nat) : Int) == 0))] ?_)))))
        try simp only [List.length_map, KLeaderL.n_Open] at h_50
        exact sb 149 (bf h_50) (ra [] f0 [(0, B false)] (tN (fun _ _ S k e => ⟨false, S, k.wk, e.sel [], oi hG⟩)))
      ·exact rg (rn 2 [] f0 [(138, B v_47)] (sb 138 (bt h_48) (rn 5 [(1, 1, 2, 0)] f0 [(143, B (v_17.Last == 111))] (sb 143 (bf h_49) (ra [] f0 [(0, B false)] (tN (fun _ _ S k e => ⟨false, S, k.wk, e.sel [], oi hG⟩)))))))
     ·exact rg (rn 2 [] f0 [(138, B v_47)] (sb 138 (bf h_48) (ra [] f0 [(0, B false)] (tN (fun _ _ S k e => ⟨false, S, k.wk, e.sel [], oi hG⟩)))))
    ·rintro a w ⟨v_56, hJ⟩; refine hJ.go fun ho_ => ?_
     clear hJ; subst ho_; replace hG := hG_55; refine kR ?_; obtain rfl := oi hG; exact rt []
end Go.Proofs.Ytlfkgbideknkhaa
namespace Go.Proofs.Ytlfkgbideknkhaa
open Go.RowKit Go.Maps
def G_regulatorlaw37_JournalRecovers (F : Nat) (p_0 : List KTx) (p_1 : List Int) (p_2 : Int) (p_3 : Int) : Option (Bool) :=
  Option.bind (G_regulatorlaw37_head F ) (fun v_1 =>
  Option.bind (G_regulatorref34_FewTxs F p_0) (fun v_2 =>
  ifB (v_2)
    (Option.bind (Option.bind (iter (σ := Int × (List KVersion) × (List KTx) × (List Int) × Int) (ρ := (Int × (List KVersion) × (List KTx) × (List Int)) ⊕ Bool) (un5 fun (v_66 : Int) (v_67 : (List KVersion)) (v_70 : (List KTx)) (v_73 : (List Int)) (v_76 : Int) => 
          (ifB (decide (v_76 < ((p_0.length : Nat) : Int)))
            (Option.bind (ixI p_0 v_76) (fun v_79 =>
            Option.bind (G_regulatorref34_Tx F (⟨v_79.ID, 0, ([] : List KSeen), v_79.Writes⟩ : KTx)) (fun v_83 =>
            ifB (v_83)
              (Option.bind (ifB (decide (v_76 < ((p_1.length : Nat) : Int)))
                  (Option.bind (ixI p_1 v_76) (fun v_87 =>
                  some (IntKind.i64.wrap v_87)))
                  (some 0) : Option (Int)) (fun (v_91 : Int) => 
                Option.bind (G_commit_Stamp F (⟨v_66, v_67, v_70⟩ : KLeader) (⟨v_79.ID, 0, ([] : List KSeen), v_79.Writes⟩ : KTx) (⟨0, v_91⟩ : KInterval)) (un3 fun v_92 v_93 v_94 =>
                Option.bind (G_journal_Append F v_73 v_93) (un2 fun v_97 v_98 =>
                Option.bind (ifB ((v_94 == 0))
                    (some (!(v_98 == 0)))
                    (some true) : Option (Bool)) (fun (v_101 : Bool) => 
                  ifB (v_101)
                    (some (.inr (.inr false)))
                    (some (.inl (v_92.Last, v_92.Store, v_92.Open, v_97, IntKind.i64.wrap (v_76 + 1)))))))))
              (some (.inr (.inr v_1))))))
            (some (.inr (.inl (v_66, v_67, v_70, v_73)))) : Option ((Int × (List KVersion) × (List KTx) × (List Int) × Int) ⊕ ((Int × (List KVersion) × (List KTx) × (List Int)) ⊕ Bool)))) F (0, ([] : List KVersion), ([] : List KTx), ([] : List Int), 0)) (Sum.elim (un4 fun (v_103 : Int) (v_104 : (List KVersion)) (v_107 : (List KTx)) (v_110 : (List Int)) => 
        some (.inl (v_103, v_104, v_107, v_110))) (fun (v_113 : Bool) => 
        some (.inr v_113))) : Option ((Int × (List KVersion) × (List KTx) × (List Int)) ⊕ Bool)) (Sum.elim (un4 fun (v_115 : Int) (v_116 : (List KVersion)) (v_119 : (List KTx)) (v_122 : (List Int)) => 
      Option.bind (G_commit_Show F (⟨v_115, v_116, v_119⟩ : KLeader) (⟨3000000000000000, 3000000000000000⟩ : KInterval)) (un3 fun v_126 v_127 v_128 =>
      Option.bind (G_journal_Recover F v_122) (un3 fun v_129 v_130 v_131 =>
      Option.bind (ifB ((v_128 == 0))
          (ifB ((v_131 == 0))
            (ifB ((v_130 == ((v_122.length : Nat) : Int)))
              (Option.bind (G_regulatorref34_Same F v_126 v_129) (fun v_136 =>
              some (!v_136)))
              (some true))
            (some true))
          (some true) : Option (Bool)) (fun (v_138 : Bool) => 
        ifB (v_138)
          (some false)
          (Option.bind (G_versions_At F v_126.Store p_2 p_3) (un3 fun v_140 v_141 v_142 =>
          Option.bind (G_versions_At F v_129.Store p_2 p_3) (un3 fun v_144 v_145 v_146 =>
          Option.bind (ifB (v_1)
              (ifB (decide (v_140 = v_144))
                (ifB ((v_141 == v_145))
                  (some (v_142 == v_146))
                  (some false))
                (some false))
              (some false) : Option (Bool)) (fun (v_152 : Bool) => 
            some v_152)))))))) (fun (v_125 : Bool) => 
      some v_125)))
    (some v_1)))
set_option maxRecDepth 100000 in
set_option maxHeartbeats 16000000 in
theorem z_regulatorlaw37_JournalRecovers (F : Nat) (p_0_A : Option Addr) (p_0_c : Nat) (p_0 : List KTxL) (p_1_A : Option Addr) (p_1_c : Nat) (p_1 : List Int) (p_2 : Int) (p_3 : Int) (r : Bool) (hG : G_regulatorlaw37_JournalRecovers F (p_0.map KTxL.p) p_1 p_2 p_3 = some r) :
  Cf Try.prog 7 [.slice p_0_A p_0.length p_0_c, .slice p_1_A p_1.length p_1_c, I p_2, I p_3] [RowC p_0_A p_0_c KTxL.cells KTxL.ok p_0, RowC p_1_A p_1_c c_u32 tr p_1] (B r) := by
 unfold G_regulatorlaw37_JournalRecovers at hG
 try simp only [List.length_map, KLeaderL.n_Open] at hG
 refine fi Try.func7 rfl rfl (mr KTxL.mv (mr tr_mv m0)) fun S0 w0 hT => sq (rg (ra [] f0 [] (tN (sq ?_))))
 obtain ⟨v_1, hy_1, hG⟩ := bs hG; refine rg (l1 (cl 31 (z_regulatorlaw37_head F  _ hy_1) hT trivial (ra [] f0 [(9, B v_1)] (tN (sq (sq ?_)))))); obtain ⟨v_2, hy_2, hG⟩ := bs hG; refine rg (rn 1 [] f0 [(32, .slice p_0_A p_0.length p_0_c)] (l1 (cl 33 (z_regulatorref34_FewTxs F p_0_A p_0_c p_0 _ hy_2) hT ⟨ga 0, trivial⟩ (ra [] f0 [(34, B (!v_2))] (tN ?_))))); rcases ic hG with ⟨h_3, hG⟩ | ⟨h_3, hG⟩
 ·refine sb 34 (nt h_3) (cf (kS (tN (sq (rg (l1 (nw 10 vp [I 0, .slice none 0 0, .slice none 0 0] 40 fun g_4 => nl (tN (sq (rg (ra [] f0 [(11, .slice none 0 0)] (tN ?_)))))))))))); obtain ⟨o_114, hG, hG_114⟩ := bs hG; refine jn (fun K E a w => ∃ (v_115 : Int) (v_116 : List KVersion) (v_117_A : Option Addr) (v_118_c : Nat) (v_119 : List KTxL) (v_120_A : Option Addr) (v_121_c : Nat) (v_122 : List Int) (v_123_A : Option Addr) (v_124_c : Nat), Js S0 w0 148 ([(11, .slice v_123_A v_122.length v_124_c)] ++ K) ([.blk g_4 40 [I v_115, .slice v_117_A v_116.length v_118_c, .slice v_120_A v_119.length v_121_c], .dat (RowC v_117_A v_118_c KVersion.cells tr v_116), .dat (RowC v_120_A v_121_c KTxL.cells KTxL.ok v_119), .dat (RowC v_123_A v_124_c c_u8 tr v_122)]) (.inl (v_115, v_116, (v_119.map KTxL.p), v_122) = o_114) a w) ?_ ?_
  ·refine sq (rg (ra [] f0 (ns 36 [.slice p_0_A p_0.length p_0_c, I ((p_0.length : Nat) : Int), I 0]) (tN (bk ?_)))); obtain ⟨e_77, hL, hG_77⟩ := bs hG; clear hG; obtain ⟨stp_77, hs_77, hL⟩ := iter_gen hL; refine lp (fun K E n_ a w => ∃ (v_66 : Int) (v_67 : List KVersion) (v_68_A : Option Addr) (v_69_c : Nat) (v_70 : List KTxL) (v_71_A : Option Addr) (v_72_c : Nat) (v_73 : List Int) (v_74_A : Option Addr) (v_75_c : Nat) (v_76 : Int), Js S0 w0 148 ([(11, .slice v_74_A v_73.length v_75_c), (38, I v_76)] ++ K) ([.blk g_4 40 [I v_66, .slice v_68_A v_67.length v_69_c, .slice v_71_A v_70.length v_72_c], .dat (RowC v_68_A v_69_c KVersion.cells tr v_67), .dat (RowC v_71_A v_72_c KTxL.cells KTxL.ok v_70), .dat (RowC v_74_A v_75_c c_u8 tr v_73)] ++ se E [1, 2]) (iter stp_77 n_ (v_66, v_67, (v_70.map KTxL.p), v_73, v_76) = some e_77) a w) F ?_ ?_
   ·exact fm (RowC none 0 KVersion.cells tr ([] : List KVersion)) gn (fm (RowC none 0 KTxL.cells KTxL.ok ([] : List KTxL)) gn (fm (RowC none 0 c_u8 tr ([] : List Int)) gn (fun _ _ S k e => ⟨0, ([] : List KVersion), none, 0, ([] : List KTxL), none, 0, ([] : List Int), none, 0, 0, S, k.wk, e.sel [3, 2, 1, 0, 4, 5], hL⟩)))
   ·clear hL; rintro n_77 a w ⟨v_66, v_67, v_68_A, v_69_c, v_70, v_71_A, v_72_c, v_73, v_74_A, v_75_c, v_76, hJ⟩; refine hJ.go fun hL => ?_
    clear hJ; obtain ⟨m_77, o_77, rfl, hG, hO1_77, hO2_77⟩ := iter_step hL; clear hL; rw [hs_77] at hG
    try simp only [List.length_map, KLeaderL.n_Open] at hG
    refine sq (rg (ra [] f0 [(39, B (decide (v_76 < ((p_0.length : Nat) : Int))))] (tN (sq ?_)))); rcases ic hG with ⟨h_78, hG⟩ | ⟨h_78, hG⟩
    ·try simp only [List.length_map, KLeaderL.n_Open] at h_78
     refine sb 39 (bt h_78) (ct (kS (tN (sq (bk (sq ?_)))))); obtain ⟨v_79o, hy_79, hG⟩ := bs hG; refine rg (fxn (p := KTxL.p) inf30 (gd' (RowC p_0_A p_0_c KTxL.cells KTxL.ok p_0) 4) hy_79 fun v_79 b_80 o_81 he_79 hi_79 => ?_); subst he_79
     try simp only [List.length_map, KLeaderL.n_Open] at hG
     refine rn 3 [(1, 0, 0, 0), (0, 4, 0, 0)] (fc (hi_79 .i64) f0) [(40, I v_76), (42, .agg #[I v_79.ID, I v_79.Ts, .slice v_79.Reads_A v_79.Reads.length v_79.Reads_c, .slice v_79.Writes_A v_79.Writes.length v_79.Writes_c])] (l1 (nw 13 vp (KTxL.cells KTxL.z) 26 fun g_82 => rn 1 [] f0 [(12, I v_76)] (l1 (sr 0 g_82 (ns 0 [I v_79.ID, I v_79.Ts, .slice v_79.Reads_A v_79.Reads.length v_79.Reads_c, .slice v_79.Writes_A v_79.Writes.length v_79.Writes_c]) (nl (tN (sq (rg (rn 1 [] f0 [(43, Pt g_82 1)] (l1 (sr 0 g_82 [(1, I 0)] (rn 1 [] f0 [(44, Pt g_82 2)] (l1 (sr 0 g_82 [(2, .slice none 0 0)] (nl (tN (sq (sq ?_)))))))))))))))))); obtain ⟨v_83, hy_83, hG⟩ := bs hG; refine rg (rn 1 [(0, 4, 0, 0)] f0 [(45, .agg #[I v_79.ID, I 0, .slice none 0 0, .slice v_79.Writes_A v_79.Writes.length v_79.Writes_c])] (l1 (cl 46 (z_regulatorref34_Tx F (⟨v_79.ID, 0, none, 0, ([] : List KSeen), v_79.Writes_A, v_79.Writes_c, v_79.Writes⟩ : KTxL) _ hy_83) hT ⟨((Fd.two ((gn : Fd _ (RowC none 0 KSeen.cells tr ([] : List KSeen)))) ((gm (KTxL.ok v_79) 2 fun _ _ h => h.f_Writes))).m fun _ _ h => ⟨h.1, h.2⟩).a, trivial⟩ (ra [] f0 [(47, B (!v_83))] (tN ?_))))); rcases ic hG with ⟨h_84, hG⟩ | ⟨h_84, hG⟩
     ·refine sb 47 (nt h_84) (cf (kS (tN (sq (rg (rn 1 [] f0 [(49, .agg #[I 0, I 0])] (l1 (nw 14 vp [I 0, I 0] 50 fun g_85 => l1 (sr 0 g_85 [(0, I 0), (1, I 0)] (nl (tN ?_))))))))))); obtain ⟨o_90, hG, hG_90⟩ := bs hG; refine jn (fun K E a w => ∃ v_91 : Int, Js S0 w0 148 (K) ([.dat (RowC v_79.Writes_A v_79.Writes_c KWrite.cells tr v_79.Writes), .blk g_85 50 [I 0, I v_91]] ++ se E [1, 4, 5, 6, 7, 8, 9]) (v_91 = o_90) a w) ?_ ?_
      ·refine sq (rg (ra [] f0 [(53, B (decide (v_76 < ((p_1.length : Nat) : Int))))] (tN ?_))); rcases ic hG with ⟨h_86, hG⟩ | ⟨h_86, hG⟩
       ·try simp only [List.length_map, KLeaderL.n_Open] at h_86
        refine sb 53 (bt h_86) (ct ?_); obtain ⟨v_87, hy_87, hG⟩ := bs hG; exact rg (fx inf57 (gd' (RowC p_1_A p_1_c c_u32 tr p_1) 9) hy_87 fun b_88 o_89 hi_87 => rn 6 [(2, 0, 0, 0), (0, 1, 0, 0)] (fc (hi_87 .i64) f0) [(58, I (IntKind.i64.wrap v_87)), (59, Pt g_85 1)] (l1 (sr 1 g_85 [(1, I (IntKind.i64.wrap v_87))] (nl (tN (fg (KTxL.ok v_79) 4 (fun _ _ h => h.f_Writes) (fun _ _ S k e => ⟨IntKind.i64.wrap v_87, S, k.wk, e.sel [0, 2, 3, 6, 7, 8, 9, 10, 11], oi hG⟩)))))))
       ·try simp only [List.length_map, KLeaderL.n_Open] at h_86
        exact sb 53 (bf h_86) (cf (kS (tN (fg (KTxL.ok v_79) 3 (fun _ _ h => h.f_Writes) (fun _ _ S k e => ⟨0, S, k.wk, e.sel [0, 1, 2, 5, 6, 7, 8, 9, 10], oi hG⟩)))))
      ·rintro a w ⟨v_91, hJ⟩; refine hJ.go fun ho_ => ?_
       clear hJ; subst ho_; replace hG := hG_90; refine sq ?_; obtain ⟨v_92o, v_93o, v_94, hy_92, hG⟩ := b3 hG; refine rg (rn 3 [(0, 3, 3, 0), (0, 4, 2, 0), (0, 2, 1, 0)] f0 (ns 61 [.agg #[I v_66, .slice v_68_A v_67.length v_69_c, .slice v_71_A v_70.length v_72_c], .agg #[I v_79.ID, I 0, .slice none 0 0, .slice v_79.Writes_A v_79.Writes.length v_79.Writes_c], .agg #[I 0, I v_91]]) (l1 (cn 64 (z_commit_Stamp F (⟨v_66, v_68_A, v_69_c, v_67, v_71_A, v_72_c, v_70⟩ : KLeaderL) (⟨v_79.ID, 0, none, 0, ([] : List KSeen), v_79.Writes_A, v_79.Writes_c, v_79.Writes⟩ : KTxL) (⟨0, v_91⟩ : KInterval) _ hy_92) hT (fun _ => (mc KLeaderL.mv (mc KTxL.mv m0))) ⟨((Fd.two ((gd' (RowC v_68_A v_69_c KVersion.cells tr v_67) 4)) ((gd' (RowC v_71_A v_72_c KTxL.cells KTxL.ok v_70) 5))).m fun _ _ h => ⟨h.1, h.2⟩), ((Fd.two ((gn : Fd _ (RowC none 0 KSeen.cells tr ([] : List KSeen)))) ((gd' (RowC v_79.Writes_A v_79.Writes_c KWrite.cells tr v_79.Writes) 0))).m fun _ _ h => ⟨h.1, h.2⟩), trivial⟩ ?_))); rintro ⟨v_92, v_93⟩ ⟨hq_92, hq_93⟩; obtain rfl : v_92.p = v_92o := hq_92.symm; obtain rfl : v_93.p = v_93o := hq_93.symm
       try simp only [List.length_map, KLeaderL.n_Open] at hG
       refine rn 4 [] f0 (ns 65 [.agg #[I v_92.Last, .slice v_92.Store_A v_92.Store.length v_92.Store_c, .slice v_92.Open_A v_92.Open.length v_92.Open_c], .agg #[I v_93.ID, I v_93.Ts, .slice v_93.Reads_A v_93.Reads.length v_93.Reads_c, .slice v_93.Writes_A v_93.Writes.length v_93.Writes_c], I v_94]) (l1 (nw 15 vp [I 0, .slice none 0 0, .slice none 0 0] 40 fun g_95 => l1 (nw 16 vp (KTxL.cells KTxL.z) 26 fun g_96 => l1 (sr 1 g_95 (ns 0 [I v_92.Last, .slice v_92.Store_A v_92.Store.length v_92.Store_c, .slice v_92.Open_A v_92.Open.length v_92.Open_c]) (l1 (sr 0 g_96 (ns 0 [I v_93.ID, I v_93.Ts, .slice v_93.Reads_A v_93.Reads.length v_93.Reads_c, .slice v_93.Writes_A v_93.Writes.length v_93.Writes_c]) (ra [] f0 [(17, I v_94)] (tN (sq ?_))))))))); obtain ⟨v_97o, v_98, hy_97, hG⟩ := b2 hG; refine rg (rn 2 [(1, 4, 0, 0)] f0 [(69, .slice v_74_A v_73.length v_75_c), (70, .agg #[I v_93.ID, I v_93.Ts, .slice v_93.Reads_A v_93.Reads.length v_93.Reads_c, .slice v_93.Writes_A v_93.Writes.length v_93.Writes_c])] (l1 (cg 71 (z_journal_Append F v_74_A v_75_c v_73 v_93 _ hy_97) hT (fun _ => (mr tr_mv m0)) ⟨ga 10, (gi 3).a, trivial⟩ ?_))); rintro ⟨v_97_A, v_97_c, v_97⟩ hq_97; obtain rfl : v_97 = v_97o := hq_97.symm
       try simp only [List.length_map, KLeaderL.n_Open] at hG
       refine ra [] f0 [(18, .slice v_97_A v_97.length v_97_c), (19, I v_98)] (tN (sq ?_)); obtain ⟨o_100, hG, hG_100⟩ := bs hG; refine jn (fun K E a w => ∃ v_101 : Bool, Js S0 w0 148 ([(79, B v_101)] ++ K) ([.dat (RowC v_92.Store_A v_92.Store_c KVersion.cells tr v_92.Store), .dat (RowC v_92.Open_A v_92.Open_c KTxL.cells KTxL.ok v_92.Open)] ++ se E [0, 2, 8, 9, 10, 12, 13]) (v_101 = o_100) a w) ?_ ?_
       ·rcases ic hG with ⟨h_99, hG⟩ | ⟨h_99, hG⟩
        ·exact rg (rn 3 [] f0 [(76, B (!(v_94 == 0)))] (sb 76 (nt h_99) (ra [] f0 [(79, B (!(v_98 == 0)))] (tN (fg (KLeaderL.ok v_92) 3 (fun _ _ h => h.f_Store) (fg (KLeaderL.ok v_92) 4 (fun _ _ h => h.f_Open) (fun _ _ S k e => ⟨!(v_98 == 0), S, k.wk, e.sel [1, 0, 2, 4, 10, 11, 12, 14, 15], oi hG⟩)))))))
        ·exact rg (rn 3 [] f0 [(76, B (!(v_94 == 0)))] (sb 76 (nf h_99) (ra [] f0 [(79, B true)] (tN (fg (KLeaderL.ok v_92) 3 (fun _ _ h => h.f_Store) (fg (KLeaderL.ok v_92) 4 (fun _ _ h => h.f_Open) (fun _ _ S k e => ⟨true, S, k.wk, e.sel [1, 0, 2, 4, 10, 11, 12, 14, 15], oi hG⟩)))))))
       ·rintro a w ⟨v_101, hJ⟩; refine hJ.go fun ho_ => ?_
        clear hJ; subst ho_; replace hG := hG_100; rcases ic hG with ⟨h_102, hG⟩ | ⟨h_102, hG⟩
        ·refine sb 79 (bt h_102) (ct (sq (rg (ra [] f0 [(8, B false)] (tN (kR (tR (hR (tR (tR ?_)))))))))); have he_ := hO2_77 _ (oi hG).symm; subst he_; replace hG := hG_77
         try simp only [List.length_map, KLeaderL.n_Open] at hG
         refine hR (tR ?_); obtain rfl := oi hG; replace hG := hG_114; obtain rfl := oi hG; exact rt []
        ·exact sb 79 (bf h_102) (cf (kS (tN (rg (rn 2 [(0, 3, 3, 0)] f0 [(80, .agg #[I v_92.Last, .slice v_92.Store_A v_92.Store.length v_92.Store_c, .slice v_92.Open_A v_92.Open.length v_92.Open_c]), (81, .slice v_97_A v_97.length v_97_c)] (l1 (sr 4 g_4 (ns 0 [I v_92.Last, .slice v_92.Store_A v_92.Store.length v_92.Store_c, .slice v_92.Open_A v_92.Open.length v_92.Open_c]) (ra [] f0 [(11, .slice v_97_A v_97.length v_97_c)] (hN (tN (rg (ra [] f0 [(38, I (IntKind.i64.wrap (v_76 + 1)))] (tN (fun a w S hK hE => ⟨m_77, ⟨v_92.Last, v_92.Store, v_92.Store_A, v_92.Store_c, v_92.Open, v_92.Open_A, v_92.Open_c, v_97, v_97_A, v_97_c, IntKind.i64.wrap (v_76 + 1), S, hK.wk, hE.sel [4, 0, 1, 2, 7, 8], hO1_77 _ (oi hG).symm⟩, Nat.lt_succ_self _⟩))))))))))))))
     ·refine sb 47 (nf h_84) (ct (sq (rg (ra [] f0 [(8, B v_1)] (tN (kR (tR (hR (tR (tR ?_)))))))))); have he_ := hO2_77 _ (oi hG).symm; subst he_; replace hG := hG_77
      try simp only [List.length_map, KLeaderL.n_Open] at hG
      refine hR (tR ?_); obtain rfl := oi hG; replace hG := hG_114; obtain rfl := oi hG; exact rt []
    ·try simp only [List.length_map, KLeaderL.n_Open] at h_78
     refine sb 39 (bf h_78) (cf (kX (tX (tX ?_)))); have he_ := hO2_77 _ (oi hG).symm; subst he_; replace hG := hG_77
     try simp only [List.length_map, KLeaderL.n_Open] at hG
     exact hH (tN (fun _ _ S k e => ⟨v_66, v_67, v_68_A, v_69_c, v_70, v_71_A, v_72_c, v_73, v_74_A, v_75_c, S, k.wk, e.sel [0, 1, 2, 3], oi hG⟩))
  ·rintro a w ⟨v_115, v_116, v_117_A, v_118_c, v_119, v_120_A, v_121_c, v_122, v_123_A, v_124_c, hJ⟩; refine hJ.go fun ho_ => ?_
   clear hJ; subst ho_; replace hG := el hG_114
   try simp only [List.length_map, KLeaderL.n_Open] at hG
   refine sq ?_; obtain ⟨v_126o, v_127o, v_128, hy_126, hG⟩ := b3 hG; refine rg (rn 2 [(0, 3, 0, 0)] f0 [(84, .agg #[I v_115, .slice v_117_A v_116.length v_118_c, .slice v_120_A v_119.length v_121_c]), (85, .agg #[I 3000000000000000, I 3000000000000000])] (l1 (cn 86 (z_commit_Show F (⟨v_115, v_117_A, v_118_c, v_116, v_120_A, v_121_c, v_119⟩ : KLeaderL) (⟨3000000000000000, 3000000000000000⟩ : KInterval) _ hy_126) hT (fun _ => (mc KLeaderL.mv (mr KTxL.mv m0))) ⟨((Fd.two ((gd' (RowC v_117_A v_118_c KVersion.cells tr v_116) 1)) ((gd' (RowC v_120_A v_121_c KTxL.cells KTxL.ok v_119) 2))).m fun _ _ h => ⟨h.1, h.2⟩), trivial⟩ ?_))); rintro ⟨v_126, ⟨v_127_A, v_127_c, v_127⟩⟩ ⟨hq_126, hq_127⟩; obtain rfl : v_126.p = v_126o := hq_126.symm; obtain rfl : (v_127.map KTxL.p) = v_127o := hq_127.symm
   try simp only [List.length_map, KLeaderL.n_Open] at hG
   refine rn 4 [] f0 (ns 87 [.agg #[I v_126.Last, .slice v_126.Store_A v_126.Store.length v_126.Store_c, .slice v_126.Open_A v_126.Open.length v_126.Open_c], .slice v_127_A v_127.length v_127_c, I v_128]) (l1 (sr 2 g_4 (ns 0 [I v_126.Last, .slice v_126.Store_A v_126.Store.length v_126.Store_c, .slice v_126.Open_A v_126.Open.length v_126.Open_c]) (ra [] f0 [(21, I v_128)] (tN (sq ?_))))); obtain ⟨v_129o, v_130, v_131, hy_129, hG⟩ := b3 hG; refine rg (rn 1 [] f0 [(91, .slice v_123_A v_122.length v_124_c)] (l1 (cn 92 (z_journal_Recover F v_123_A v_124_c v_122 _ hy_129) hT (fun _ => (mc KLeaderL.mv m0)) ⟨gi 5, trivial⟩ ?_))); rintro v_129 hq_129; obtain rfl : v_129.p = v_129o := hq_129.symm
   try simp only [List.length_map, KLeaderL.n_Open] at hG
   refine rn 4 [] f0 (ns 93 [.agg #[I v_129.Last, .slice v_129.Store_A v_129.Store.length v_129.Store_c, .slice v_129.Open_A v_129.Open.length v_129.Open_c], I v_130, I v_131]) (l1 (nw 22 vp [I 0, .slice none 0 0, .slice none 0 0] 40 fun g_132 => l1 (sr 0 g_132 (ns 0 [I v_129.Last, .slice v_129.Store_A v_129.Store.length v_129.Store_c, .slice v_129.Open_A v_129.Open.length v_129.Open_c]) (ra [] f0 [(23, I v_130), (24, I v_131)] (tN (sq ?_)))))); obtain ⟨o_137, hG, hG_137⟩ := bs hG; refine jn (fun K E a w => ∃ v_138 : Bool, Js S0 w0 148 ([(113, B v_138)] ++ K) ([.dat (RowC v_126.Store_A v_126.Store_c KVersion.cells tr v_126.Store), .dat (RowC v_126.Open_A v_126.Open_c KTxL.cells KTxL.ok v_126.Open), .dat (RowC v_129.Store_A v_129.Store_c KVersion.cells tr v_129.Store), .dat (RowC v_129.Open_A v_129.Open_c KTxL.cells KTxL.ok v_129.Open)] ++ se E [0, 4]) (v_138 = o_137) a w) ?_ ?_
   ·rcases ic hG with ⟨h_133, hG⟩ | ⟨h_133, hG⟩
    ·rcases ic hG with ⟨h_134, hG⟩ | ⟨h_134, hG⟩
     ·rcases ic hG with ⟨h_135, hG⟩ | ⟨h_135, hG⟩
      ·obtain ⟨v_136, hy_136, hG⟩ := bs hG; refine rg (rn 3 [] f0 [(98, B (!(v_128 == 0)))] (sb 98 (nt h_133) (rn 4 [] f0 [(102, B (!(v_131 == 0)))] (sb 102 (nt h_134) (rn 6 [] f0 [(108, B (!(v_130 == ((v_122.length : Nat) : Int))))] ?_)))))
       try simp only [List.length_map, KLeaderL.n_Open] at h_135
       exact sb 108 (nt h_135) (rn 2 [(0, 3, 4, 0), (0, 3, 0, 0)] f0 [(109, .agg #[I v_126.Last, .slice v_126.Store_A v_126.Store.length v_126.Store_c, .slice v_126.Open_A v_126.Open.length v_126.Open_c]), (110, .agg #[I v_129.Last, .slice v_129.Store_A v_129.Store.length v_129.Store_c, .slice v_129.Open_A v_129.Open.length v_129.Open_c])] (l1 (cl 111 (z_regulatorref34_Same F v_126 v_129 _ hy_136) hT ⟨(gi 2).a, (gi 1).a, trivial⟩ (ra [] f0 [(113, B (!v_136))] (tN (fg (KLeaderL.ok v_126) 2 (fun _ _ h => h.f_Store) (fg (KLeaderL.ok v_126) 3 (fun _ _ h => h.f_Open) (fg (KLeaderL.ok v_129) 3 (fun _ _ h => h.f_Store) (fg (KLeaderL.ok v_129) 4 (fun _ _ h => h.f_Open) (fun _ _ S k e => ⟨!v_136, S, k.wk, e.sel [3, 2, 1, 0, 4, 8], oi hG⟩))))))))))
      ·refine rg (rn 3 [] f0 [(98, B (!(v_128 == 0)))] (sb 98 (nt h_133) (rn 4 [] f0 [(102, B (!(v_131 == 0)))] (sb 102 (nt h_134) (rn 6 [] f0 [(108, B (!(v_130 == ((v_122.length : Nat) : Int))))] ?_)))))
       try simp only [List.length_map, KLeaderL.n_Open] at h_135
       exact sb 108 (nf h_135) (ra [] f0 [(113, B true)] (tN (fg (KLeaderL.ok v_126) 2 (fun _ _ h => h.f_Store) (fg (KLeaderL.ok v_126) 3 (fun _ _ h => h.f_Open) (fg (KLeaderL.ok v_129) 3 (fun _ _ h => h.f_Store) (fg (KLeaderL.ok v_129) 4 (fun _ _ h => h.f_Open) (fun _ _ S k e => ⟨true, S, k.wk, e.sel [3, 2, 1, 0, 4, 8], oi hG⟩)))))))
     ·exact rg (rn 3 [] f0 [(98, B (!(v_128 == 0)))] (sb 98 (nt h_133) (rn 4 [] f0 [(102, B (!(v_131 == 0)))] (sb 102 (nf h_134) (ra [] f0 [(113, B true)] (tN (fg (KLeaderL.ok v_126) 2 (fun _ _ h => h.f_Store) (fg (KLeaderL.ok v_126) 3 (fun _ _ h => h.f_Open) (fg (KLeaderL.ok v_129) 3 (fun _ _ h => h.f_Store) (fg (KLeaderL.ok v_129) 4 (fun _ _ h => h.f_Open) (fun _ _ S k e => ⟨true, S, k.wk, e.sel [3, 2, 1, 0, 4, 8], oi hG⟩)))))))))))
    ·exact rg (rn 3 [] f0 [(98, B (!(v_128 == 0)))] (sb 98 (nf h_133) (ra [] f0 [(113, B true)] (tN (fg (KLeaderL.ok v_126) 2 (fun _ _ h => h.f_Store) (fg (KLeaderL.ok v_126) 3 (fun _ _ h => h.f_Open) (fg (KLeaderL.ok v_129) 3 (fun _ _ h => h.f_Store) (fg (KLeaderL.ok v_129) 4 (fun _ _ h => h.f_Open) (fun _ _ S k e => ⟨true, S, k.wk, e.sel [3, 2, 1, 0, 4, 8], oi hG⟩)))))))))
   ·rintro a w ⟨v_138, hJ⟩; refine hJ.go fun ho_ => ?_
    clear hJ; subst ho_; replace hG := hG_137; rcases ic hG with ⟨h_139, hG⟩ | ⟨h_139, hG⟩
    ·refine sb 113 (bt h_139) (ct (sq (rg (ra [] f0 [(8, B false)] (tN (kR (tR ?_))))))); obtain rfl := oi hG; exact rt []
    ·refine sb 113 (bf h_139) (cf (kS (tN (sq ?_)))); obtain ⟨v_140, v_141, v_142, hy_140, hG⟩ := b3 hG; refine rg (rn 4 [(1, 1, 5, 1)] f0 (ns 116 [.slice v_126.Store_A v_126.Store.length v_126.Store_c, I p_2, I p_3]) (l1 (cl 119 (z_versions_At F v_126.Store_A v_126.Store_c v_126.Store p_2 p_3 _ hy_140) hT ⟨ga 0, trivial⟩ (rn 4 [] f0 (ns 120 [.agg #[I v_140.Key, I v_140.Ts, I v_140.Value, B v_140.Gone], B v_141, I v_142]) (l1 (nw 25 vp [I 0, I 0, I 0, B false] 61 fun g_143 => l1 (sr 0 g_143 (ns 0 [I v_140.Key, I v_140.Ts, I v_140.Value, B v_140.Gone]) (ra [] f0 [(26, B v_141), (27, I v_142)] (tN (sq ?_)))))))))); obtain ⟨v_144, v_145, v_146, hy_144, hG⟩ := b3 hG; refine rg (rn 4 [(1, 1, 5, 1)] f0 (ns 125 [.slice v_129.Store_A v_129.Store.length v_129.Store_c, I p_2, I p_3]) (l1 (cl 128 (z_versions_At F v_129.Store_A v_129.Store_c v_129.Store p_2 p_3 _ hy_144) hT ⟨ga 3, trivial⟩ (rn 4 [] f0 (ns 129 [.agg #[I v_144.Key, I v_144.Ts, I v_144.Value, B v_144.Gone], B v_145, I v_146]) (l1 (nw 28 vp [I 0, I 0, I 0, B false] 61 fun g_147 => l1 (sr 0 g_147 (ns 0 [I v_144.Key, I v_144.Ts, I v_144.Value, B v_144.Gone]) (ra [] f0 [(29, B v_145), (30, I v_146)] (tN ?_))))))))); obtain ⟨o_151, hG, hG_151⟩ := bs hG; refine jn (fun K E a w => ∃ v_152 : Bool, Js S0 w0 148 ([(8, B v_152)] ++ K) (se E []) (v_152 = o_151) a w) ?_ ?_
     ·rcases ic hG with ⟨h_148, hG⟩ | ⟨h_148, hG⟩
      ·rcases ic hG with ⟨h_149, hG⟩ | ⟨h_149, hG⟩
       ·rcases ic hG with ⟨h_150, hG⟩ | ⟨h_150, hG⟩
        ·exact rg (rn 2 [] f0 [(133, B v_1)] (sb 133 (bt h_148) (rn 5 [(0, 4, 1, 0), (0, 4, 0, 0), (0, 0, 0, 0)] (fc (eql_KVersion v_140 v_144) f0) [(138, B (decide (v_140 = v_144)))] (sb 138 (bt h_149) (rn 5 [] f0 [(143, B (v_141 == v_145))] (sb 143 (bt h_150) (ra [] f0 [(8, B (v_142 == v_146))] (tN (fun _ _ S k e => ⟨(v_142 == v_146), S, k.wk, e.sel [], oi hG⟩)))))))))
        ·exact rg (rn 2 [] f0 [(133, B v_1)] (sb 133 (bt h_148) (rn 5 [(0, 4, 1, 0), (0, 4, 0, 0), (0, 0, 0, 0)] (fc (eql_KVersion v_140 v_144) f0) [(138, B (decide (v_140 = v_144)))] (sb 138 (bt h_149) (rn 5 [] f0 [(143, B (v_141 == v_145))] (sb 143 (bf h_150) (ra [] f0 [(8, B false)] (tN (fun _ _ S k e => ⟨false, S, k.wk, e.sel [], oi hG⟩)))))))))
       ·exact rg (rn 2 [] f0 [(133, B v_1)] (sb 133 (bt h_148) (rn 5 [(0, 4, 1, 0), (0, 4, 0, 0), (0, 0, 0, 0)] (fc (eql_KVersion v_140 v_144) f0) [(138, B (decide (v_140 = v_144)))] (sb 138 (bf h_149) (ra [] f0 [(8, B false)] (tN (fun _ _ S k e => ⟨false, S, k.wk, e.sel [], oi hG⟩)))))))
      ·exact rg (rn 2 [] f0 [(133, B v_1)] (sb 133 (bf h_148) (ra [] f0 [(8, B false)] (tN (fun _ _ S k e => ⟨false, S, k.wk, e.sel [], oi hG⟩)))))
     ·rintro a w ⟨v_152, hJ⟩; refine hJ.go fun ho_ => ?_
      clear hJ; subst ho_; replace hG := hG_151; refine kR ?_; obtain rfl := oi hG; exact rt []
 ·refine sb 34 (nf h_3) (ct (sq (rg (ra [] f0 [(8, B v_1)] (tN (kR (tR ?_))))))); obtain rfl := oi hG; exact rt []
end Go.Proofs.Ytlfkgbideknkhaa
namespace Go.Proofs.Ytlfkgbideknkhaa
open Go.RowKit Go.Maps
end Go.Proofs.Ytlfkgbideknkhaa
namespace Go.Proofs.Ytlfkgbideknkhaa
open Go.RowKit Go.Maps
end Go.Proofs.Ytlfkgbideknkhaa
namespace Go.Proofs.Ytlfkgbideknkhaa
open Go.RowKit Go.Maps
end Go.Proofs.Ytlfkgbideknkhaa
namespace Go.Proofs.Ytlfkgbideknkhaa
theorem risF_iff : ∀ {l : List Int} {a : Int}, risF a l = true ↔ (a :: l).Pairwise (· < ·)
 | [], a => by simp [risF]
 | k :: ks, a => by
  unfold risF; rw [Bool.and_eq_true, decide_eq_true_eq, risF_iff, List.pairwise_cons (a := a)]; constructor
  ·rintro ⟨h1, h2⟩; refine ⟨fun x hx => ?_, h2⟩; rcases List.mem_cons.1 hx with rfl | hx
   ·exact h1
   ·exact Int.lt_trans h1 ((List.pairwise_cons.1 h2).1 x hx)
  ·rintro ⟨h1, h2⟩; exact ⟨h1 k List.mem_cons_self, h2⟩
theorem risF_take {l : List Int} {a : Int} (h : risF a l = true) (n : Nat) : risF a (l.take n) = true := by
 rw [risF_iff] at h ⊢; exact h.sublist (List.Sublist.cons_cons a (List.take_sublist n l))
def seenB (s : KSeen) : Bool := decide (s.Key ≤ 1000) && (decide (0 ≤ s.Ts) && decide (s.Ts ≤ 3000000000000000))
def writB (w : KWrite) : Bool := decide (w.Key ≤ 1000) && decide (0 ≤ w.Value) && decide (w.Value ≤ 1000000) && (!w.Gone || w.Value == 0)
def txS (t : KTx) : Bool :=
 decide (1 ≤ t.ID) && decide (t.ID ≤ 1000000) && decide (1 ≤ t.Ts) && decide (t.Ts ≤ 3000000000000000) && decide (t.Reads.length ≤ 8) && decide (t.Writes.length ≤ 8) &&
  t.Reads.all seenB && t.Writes.all writB && risF 0 (t.Reads.map (·.Key)) && risF 0 (t.Writes.map (·.Key))
def logS (l : List KTx) : Bool := l.all txS && risF 0 (l.map (·.Ts))
theorem logS_take {l : List KTx} (h : logS l = true) (n : Nat) : logS (l.take n) = true := by
 unfold logS at h ⊢; rw [Bool.and_eq_true] at h ⊢; refine ⟨List.all_eq_true.2 fun x hx => List.all_eq_true.1 h.1 x (List.mem_of_mem_take hx), ?_⟩; rw [List.map_take]; exact risF_take h.2 n
def vsOf (l : List KTx) : List Ver := l.flatMap fun t => t.Writes.map fun w => ⟨w.Key, t.Ts, w.Value, w.Gone⟩
structure Txs (t : KTx) : Prop where
 id : 1 ≤ t.ID ∧ t.ID ≤ 1000000
 ts : 1 ≤ t.Ts ∧ t.Ts ≤ 3000000000000000
 few : t.Reads.length ≤ 8 ∧ t.Writes.length ≤ 8
 rd : ∀ s ∈ t.Reads, seenB s = true
 wr : ∀ w ∈ t.Writes, writB w = true
 ru : (t.Reads.map (·.Key)).Pairwise (· < ·)
 wu : (t.Writes.map (·.Key)).Pairwise (· < ·)
 rp : ∀ s ∈ t.Reads, 0 < s.Key
 wp : ∀ w ∈ t.Writes, 0 < w.Key
theorem txs_iff (t : KTx) : txS t = true ↔ Txs t := by
 unfold txS; simp only [Bool.and_eq_true, decide_eq_true_eq, List.all_eq_true, risF_iff, List.pairwise_cons, List.mem_map]; constructor
 ·rintro ⟨⟨⟨⟨⟨⟨⟨⟨⟨h1, h2⟩, h3⟩, h4⟩, h5⟩, h6⟩, h7⟩, h8⟩, h9, h10⟩, h11, h12⟩; exact ⟨⟨h1, h2⟩, ⟨h3, h4⟩, ⟨h5, h6⟩, h7, h8, h10, h12, fun s hs => h9 s.Key ⟨s, hs, rfl⟩, fun w hw => h11 w.Key ⟨w, hw, rfl⟩⟩
 ·intro h; refine ⟨⟨⟨⟨⟨⟨⟨⟨⟨h.id.1, h.id.2⟩, h.ts.1⟩, h.ts.2⟩, h.few.1⟩, h.few.2⟩, h.rd⟩, h.wr⟩, ?_, h.ru⟩, ?_, h.wu⟩
  ·rintro x ⟨s, hs, rfl⟩; exact h.rp s hs
  ·rintro x ⟨w, hw, rfl⟩; exact h.wp w hw
theorem logS_iff (l : List KTx) : logS l = true ↔ (∀ t ∈ l, Txs t) ∧ l.Pairwise (fun a b => a.Ts < b.Ts) := by
 unfold logS; simp only [Bool.and_eq_true, List.all_eq_true, risF_iff, List.pairwise_cons, txs_iff, List.pairwise_map]; exact ⟨fun h => ⟨h.1, h.2.2⟩, fun h => ⟨h.1, fun x hx => by obtain ⟨t, ht, rfl⟩ := List.mem_map.1 hx; have := (h.1 t ht).ts.1; omega, h.2⟩⟩
theorem vs_wf {t : KTx} (h : Txs t) {w : KWrite} (hw : w ∈ t.Writes) : wfB ⟨w.Key, t.Ts, w.Value, w.Gone⟩ = true := by
 have h1 := h.wr w hw; have h2 := h.wp w hw; have h3 := h.ts; unfold writB at h1; simp only [Bool.and_eq_true, Bool.or_eq_true, decide_eq_true_eq] at h1; rw [wfB_eq]; unfold keyB stampB; simp only [Bool.and_eq_true, Bool.or_eq_true, decide_eq_true_eq]; exact ⟨⟨⟨⟨⟨by omega, by omega⟩, by omega, by omega⟩, by omega⟩, by omega⟩, h1.2⟩
theorem ins_of {l : List KTx} (h : logS l = true) : Ins (vsOf l) := by
 obtain ⟨h1, h2⟩ := (logS_iff l).1 h; refine ⟨fun v hv => ?_, ?_⟩
 ·obtain ⟨t, ht, hv⟩ := List.mem_flatMap.1 hv; obtain ⟨w, hw, rfl⟩ := List.mem_map.1 hv; exact vs_wf (h1 t ht) hw
 ·unfold vsOf; rw [List.pairwise_flatMap]; refine ⟨fun t ht => ?_, h2.imp fun {a b} hab x hx y hy _ => ?_⟩
  ·rw [List.pairwise_map]; have := (h1 t ht).wu; rw [List.pairwise_map] at this; exact this.imp fun {a b} hab e => by simp only at e; omega
  ·obtain ⟨w, _, rfl⟩ := List.mem_map.1 hx; obtain ⟨u, _, rfl⟩ := List.mem_map.1 hy; exact hab
theorem vs_len {l : List KTx} (h : logS l = true) : (vsOf l).length ≤ l.length * 8 := by
 have h1 := ((logS_iff l).1 h).1; clear h; unfold vsOf
 induction l with
 | nil => simp
 | cons t l ih =>
  rw [List.flatMap_cons, List.length_append, List.length_map, List.length_cons]; have i1 := ih fun x hx => h1 x (List.mem_cons_of_mem _ hx)
  have i2 := (h1 t List.mem_cons_self).few.2; exact Nat.le_trans (Nat.add_le_add i2 i1) (by omega)
theorem vs_app (a b : List KTx) : vsOf (a ++ b) = vsOf a ++ vsOf b := by unfold vsOf; rw [List.flatMap_append]
structure FewT (t : KTx) : Prop where
 r : t.Reads.length ≤ 20
 w : t.Writes.length ≤ 20
theorem leq (n m : Nat) : (((n : Nat) : Int) == ((m : Nat) : Int)) = decide (n = m) := by rw [Bool.eq_iff_iff]; simp; omega
theorem iff_bool {a b : Bool} (h : a = true ↔ b = true) : a = b := Bool.eq_iff_iff.2 h
theorem tx_ext (a b : KTx) : decide (a = b) = (decide (a.ID = b.ID) && (decide (a.Ts = b.Ts) && (decide (a.Reads = b.Reads) && decide (a.Writes = b.Writes)))) := by
 refine iff_bool ?_; simp only [Bool.and_eq_true, decide_eq_true_eq]; constructor
 ·rintro rfl; exact ⟨rfl, rfl, rfl, rfl⟩
 ·rintro ⟨h1, h2, h3, h4⟩; cases a; cases b; simp only at h1 h2 h3 h4; subst h1 h2 h3 h4; rfl
theorem beq_dec (a b : Int) : (a == b) = decide (a = b) := iff_bool (by simp)
theorem key_r (F : Nat) (n : Int) : G_regulatorref33_Key F n = some (decide (1 ≤ n) && decide (n ≤ 1000)) := by
 unfold G_regulatorref33_Key; show Option.bind (ifB (decide (1 ≤ n)) _ _) _ = _; cases decide (1 ≤ n) <;> rfl
theorem ris_ix {α : Type} (key : α → Int) (l : List α) : risF 0 (l.map key) = frL (fun k x => decide (1 ≤ key x) && (k == 0 || decide (((l.map key).getD (k - 1) 0) < key x))) l 0 := by
 refine iff_bool ?_; rw [risF_iff, frL_iff, List.pairwise_cons]; constructor
 ·rintro ⟨h1, h2⟩ j hj; simp only [Nat.zero_add, Bool.and_eq_true, Bool.or_eq_true, decide_eq_true_eq, beq_iff_eq]; have := h1 (key l[j]) (List.mem_map_of_mem (List.getElem_mem hj)); refine ⟨by omega, ?_⟩
  by_cases h0 : j = 0
  ·exact .inl h0
  ·refine .inr ?_; have h3 := List.pairwise_iff_getElem.1 h2 (j - 1) j (by simp; omega) (by simpa using hj) (by omega); rw [List.getD, List.getElem?_eq_getElem (by simp; omega), Option.getD_some]
   simpa using h3
 ·intro h; have hst : ∀ j (hj : j + 1 < (l.map key).length), (l.map key)[j]'(by omega) < (l.map key)[j + 1] := fun j hj => by
   have := h (j + 1) (by simpa using hj); simp only [Nat.zero_add, Bool.and_eq_true, Bool.or_eq_true, decide_eq_true_eq, beq_iff_eq] at this; have h3 := this.2.resolve_left (by omega); rw [Nat.add_sub_cancel, List.getD, List.getElem?_eq_getElem (by omega), Option.getD_some] at h3
   simpa using h3
  refine ⟨fun x hx => ?_, ?_⟩
  ·obtain ⟨y, hy, rfl⟩ := List.mem_map.1 hx; obtain ⟨j, hj, rfl⟩ := List.getElem_of_mem hy; have := h j hj; simp only [Nat.zero_add, Bool.and_eq_true, decide_eq_true_eq] at this; omega
  ·have key2 : ∀ (d i : Nat) (hj : i + d + 1 < (l.map key).length), (l.map key)[i]'(by omega) < (l.map key)[i + d + 1] := by
    intro d
    induction d with
    | zero => intro i hj; exact hst i hj
    | succ d ih =>
     intro i hj; have h1 := ih i (by omega); have h2 := hst (i + d + 1) (by omega); exact Int.lt_trans h1 h2
   rw [List.pairwise_iff_getElem]; intro i j hi hj hij; have := key2 (j - i - 1) i (by omega)
   simpa [show i + (j - i - 1) + 1 = j by omega] using this
theorem frL_and {α : Type} {p q : Nat → α → Bool} : ∀ {l : List α} {k : Nat}, frL (fun j x => p j x && q j x) l k = (frL p l k && frL q l k)
 | [], _ => rfl
 | x :: l, k => by
  rw [frL, frL, frL, frL_and]; cases p k x <;> cases q k x <;> cases frL p l (k + 1) <;> simp
theorem frL_all {α : Type} {p : α → Bool} : ∀ {l : List α} {k : Nat}, frL (fun _ x => p x) l k = l.all p
 | [], _ => rfl
 | x :: l, k => by rw [frL, List.all_cons, frL_all]
theorem getD_map {α : Type} (key : α → Int) {l : List α} {k : Nat} (h : k < l.length) : (l.map key).getD k 0 = key l[k] := by
 rw [List.getD, List.getElem?_eq_getElem (by simpa using h), Option.getD_some, List.getElem_map]
theorem same33_r (a b : List KVersion) {F : Nat} (hF : a.length < F) (hb : a.length ≤ 5000) : G_regulatorref33_Same F a b = some (decide (a = b)) := by
 unfold G_regulatorref33_Same
 by_cases hl : a.length = b.length
 ·rw [leq, decide_eq_true hl, ifB_t, iter_eqL a b hl (.inl ()) (.inr ()) ?_ ?_ hF]
  ·cases decide (a = b) <;> rfl
  ·simp only [ltn, ifB_f]
  ·intro k h1 h2; simp only [ltl h1, ifB_t, ixI_get h1, ixI_get h2, ob_some, w64_1 h1 (by omega)]; cases decide (a[k] = b[k]) <;> rfl
 ·rw [leq, decide_eq_false hl, ifB_f, decide_eq_false (fun e => hl (congrArg List.length e))]
end Go.Proofs.Ytlfkgbideknkhaa
namespace Go.Proofs.Ytlfkgbideknkhaa
def txF (t : KTx) : Bool :=
 decide (1 ≤ t.ID) && decide (t.ID ≤ 1000000) && decide (0 ≤ t.Ts) && decide (t.Ts ≤ 3000000000000000) && decide (t.Reads.length ≤ 8) && decide (t.Writes.length ≤ 8) &&
  t.Reads.all seenB && t.Writes.all writB && risF 0 (t.Reads.map (·.Key)) && risF 0 (t.Writes.map (·.Key))
theorem txS_F (t : KTx) : txS t = (txF t && decide (1 ≤ t.Ts)) := by
 unfold txS txF
 by_cases h : 1 ≤ t.Ts
 ·rw [decide_eq_true h, decide_eq_true (show 0 ≤ t.Ts by omega)]; simp
 ·rw [decide_eq_false h, Bool.and_false]; simp
theorem btw_p (F : Nat) (n a b : Int) : G_commit_between F n a b = some (decide (a ≤ n) && decide (n ≤ b)) := by
 unfold G_commit_between; cases decide (a ≤ n) <;> rfl
theorem win_p (F : Nat) (n a b : Int) : G_versions_within F n a b = some (decide (a ≤ n) && decide (n ≤ b)) := by
 unfold G_versions_within; cases decide (a ≤ n) <;> rfl
theorem iv_p (F : Nat) (i : KInterval) : G_interval_Valid F i = some (decide (0 ≤ i.Lo) && decide (i.Lo ≤ i.Hi) && decide (i.Hi ≤ 3000000000000000)) := by
 unfold G_interval_Valid; cases decide (0 ≤ i.Lo) <;> cases decide (i.Lo ≤ i.Hi) <;> rfl
theorem wr34_r (l : List KWrite) (hl : l.length ≤ 60) {F : Nat} (hF : 64 ≤ F) : G_regulatorref34_writes F l = some (l.all writB && risF 0 (l.map (·.Key)) && decide (l.length ≤ 8)) := by
 unfold G_regulatorref34_writes; rw [iter_chkU l (fun k x => writB x && (decide (1 ≤ x.Key) && (k == 0 || decide ((l.map (·.Key)).getD (k - 1) 0 < x.Key)))) (.inl ()) (.inr ()) ?_ ?_ (by omega)]
 ·rw [frL_and, frL_all, ← ris_ix (fun x : KWrite => x.Key) l, deq (p := ((l.length : Nat) : Int) ≤ 8) (q := l.length ≤ 8) (by omega)]; cases l.all writB <;> cases risF 0 (l.map (·.Key)) <;> simp [ob_some]
 ·simp only [ltn, ifB_f]
 ·intro k h; simp only [ltl h, ifB_t, ixI_get h, ob_some, w64_1 h (by omega), key_r]; have hp : ∀ h0 : 0 < k, ixI l (IntKind.i64.wrap ((k : Int) - 1)) = some (l[k - 1]'(by omega)) := fun h0 => by rw [w64_p h0 (by omega)]; exact ixI_get (by omega)
  unfold writB; rw [dnot (p := l[k].Value < 0) (q := 0 ≤ l[k].Value) (by omega), dnot (p := l[k].Value > 1000000) (q := l[k].Value ≤ 1000000) (by omega)]
  by_cases h0 : 0 < k
  ·rw [decide_eq_true (p := (k : Int) > 0) (by omega), ifB_t, hp h0, ob_some, getD_map (fun x : KWrite => x.Key) (by omega), dnot (p := l[k].Key ≤ l[k - 1].Key) (q := l[k - 1].Key < l[k].Key) (by omega), show (k == 0) = false by simpa using (by omega : k ≠ 0)]; cases decide (1 ≤ l[k].Key) <;> cases decide (l[k].Key ≤ 1000) <;> cases decide (0 ≤ l[k].Value) <;> cases decide (l[k].Value ≤ 1000000) <;> cases l[k].Gone <;> cases (l[k].Value == 0) <;> cases decide (l[k - 1].Key < l[k].Key) <;> rfl
  ·rw [decide_eq_false (p := (k : Int) > 0) (by omega), ifB_f, show (k == 0) = true by simpa using (by omega : k = 0)]; cases decide (1 ≤ l[k].Key) <;> cases decide (l[k].Key ≤ 1000) <;> cases decide (0 ≤ l[k].Value) <;> cases decide (l[k].Value ≤ 1000000) <;> cases l[k].Gone <;> cases (l[k].Value == 0) <;> rfl
theorem formed_p (t : KTx) (h : FewT t) {F : Nat} (hF : 64 ≤ F) : G_commit_work_formed F ⟨t⟩ = some (txF t) := by
 have hr := h.r; have hw := h.w; unfold G_commit_work_formed
 dsimp only
 rw [iter_chkU t.Reads (fun k x => seenB x && (decide (1 ≤ x.Key) && (k == 0 || decide ((t.Reads.map (·.Key)).getD (k - 1) 0 < x.Key)))) (.inl ()) (.inr ()) ?_ ?_ (by omega),
  iter_chkU t.Writes (fun k x => writB x && (decide (1 ≤ x.Key) && (k == 0 || decide ((t.Writes.map (·.Key)).getD (k - 1) 0 < x.Key)))) (.inl ()) (.inr ()) ?_ ?_ (by omega)]
 ·rw [frL_and, frL_all, ← ris_ix (fun x : KSeen => x.Key) t.Reads, frL_and, frL_all, ← ris_ix (fun x : KWrite => x.Key) t.Writes, deq (p := ((t.Reads.length : Nat) : Int) ≤ 8) (q := t.Reads.length ≤ 8) (by omega), deq (p := ((t.Writes.length : Nat) : Int) ≤ 8) (q := t.Writes.length ≤ 8) (by omega), btw_p, btw_p]; unfold txF; simp only [ob_some]; cases decide (1 ≤ t.ID) <;> cases decide (t.ID ≤ 1000000) <;> cases decide (0 ≤ t.Ts) <;> cases decide (t.Ts ≤ 3000000000000000) <;> cases decide (t.Reads.length ≤ 8) <;> cases decide (t.Writes.length ≤ 8) <;> cases t.Reads.all seenB <;> cases t.Writes.all writB <;> cases risF 0 (t.Reads.map (·.Key)) <;> cases risF 0 (t.Writes.map (·.Key)) <;> rfl
 ·simp only [ltn, ifB_f]
 ·intro k h; simp only [ltl h, ifB_t, ixI_get h, ob_some, w64_1 h (by omega), btw_p]; have hp : ∀ h0 : 0 < k, ixI t.Writes (IntKind.i64.wrap ((k : Int) - 1)) = some (t.Writes[k - 1]'(by omega)) := fun h0 => by rw [w64_p h0 (by omega)]; exact ixI_get (by omega)
  unfold writB
  by_cases h0 : 0 < k
  ·rw [decide_eq_true (p := (k : Int) > 0) (by omega), ifB_t, hp h0, ob_some, getD_map (fun x : KWrite => x.Key) (by omega), dnot (p := t.Writes[k].Key ≤ t.Writes[k - 1].Key) (q := t.Writes[k - 1].Key < t.Writes[k].Key) (by omega), show (k == 0) = false by simpa using (by omega : k ≠ 0)]; cases decide (1 ≤ t.Writes[k].Key) <;> cases decide (t.Writes[k].Key ≤ 1000) <;> cases decide (0 ≤ t.Writes[k].Value) <;> cases decide (t.Writes[k].Value ≤ 1000000) <;> cases t.Writes[k].Gone <;> cases (t.Writes[k].Value == 0) <;> cases decide (t.Writes[k - 1].Key < t.Writes[k].Key) <;> rfl
  ·rw [decide_eq_false (p := (k : Int) > 0) (by omega), ifB_f, show (k == 0) = true by simpa using (by omega : k = 0)]; cases decide (1 ≤ t.Writes[k].Key) <;> cases decide (t.Writes[k].Key ≤ 1000) <;> cases decide (0 ≤ t.Writes[k].Value) <;> cases decide (t.Writes[k].Value ≤ 1000000) <;> cases t.Writes[k].Gone <;> cases (t.Writes[k].Value == 0) <;> rfl
 ·simp only [ltn, ifB_f]
 ·intro k h; simp only [ltl h, ifB_t, ixI_get h, ob_some, w64_1 h (by omega), btw_p]; have hp : ∀ h0 : 0 < k, ixI t.Reads (IntKind.i64.wrap ((k : Int) - 1)) = some (t.Reads[k - 1]'(by omega)) := fun h0 => by rw [w64_p h0 (by omega)]; exact ixI_get (by omega)
  unfold seenB
  by_cases h0 : 0 < k
  ·rw [decide_eq_true (p := (k : Int) > 0) (by omega), ifB_t, hp h0, ob_some, getD_map (fun x : KSeen => x.Key) (by omega), dnot (p := t.Reads[k].Key ≤ t.Reads[k - 1].Key) (q := t.Reads[k - 1].Key < t.Reads[k].Key) (by omega), show (k == 0) = false by simpa using (by omega : k ≠ 0)]; cases decide (1 ≤ t.Reads[k].Key) <;> cases decide (t.Reads[k].Key ≤ 1000) <;> cases decide (0 ≤ t.Reads[k].Ts) <;> cases decide (t.Reads[k].Ts ≤ 3000000000000000) <;> cases decide (t.Reads[k - 1].Key < t.Reads[k].Key) <;> rfl
  ·rw [decide_eq_false (p := (k : Int) > 0) (by omega), ifB_f, show (k == 0) = true by simpa using (by omega : k = 0)]; cases decide (1 ≤ t.Reads[k].Key) <;> cases decide (t.Reads[k].Key ≤ 1000) <;> cases decide (0 ≤ t.Reads[k].Ts) <;> cases decide (t.Reads[k].Ts ≤ 3000000000000000) <;> rfl
theorem sTx_r (a b : KTx) (h : FewT a) {F : Nat} (hF : 64 ≤ F) : G_regulatorref34_SameTx F a b = some (decide (a = b)) := by
 have hr := h.r; have hw := h.w; unfold G_regulatorref34_SameTx; rw [tx_ext, ← beq_dec, ← beq_dec, leq, leq]
 by_cases h1 : a.Reads.length = b.Reads.length
 ·by_cases h2 : a.Writes.length = b.Writes.length
  ·rw [decide_eq_true h1, decide_eq_true h2, iter_eqL a.Reads b.Reads h1 (.inl ()) (.inr ()) ?_ ?_ (by omega), iter_eqL a.Writes b.Writes h2 (.inl ()) (.inr ()) ?_ ?_ (by omega)]
   ·cases (a.ID == b.ID) <;> cases (a.Ts == b.Ts) <;> cases decide (a.Reads = b.Reads) <;> cases decide (a.Writes = b.Writes) <;> rfl
   ·simp only [ltn, ifB_f]
   ·intro k h1 h2; simp only [ltl h1, ifB_t, ixI_get h1, ixI_get h2, ob_some, w64_1 h1 (by omega)]; cases decide (a.Writes[k] = b.Writes[k]) <;> rfl
   ·simp only [ltn, ifB_f]
   ·intro k h1 h2; simp only [ltl h1, ifB_t, ixI_get h1, ixI_get h2, ob_some, w64_1 h1 (by omega)]; cases decide (a.Reads[k] = b.Reads[k]) <;> rfl
  ·rw [decide_eq_false h2, show decide (a.Writes = b.Writes) = false from decide_eq_false (fun e => h2 (congrArg List.length e))]; cases (a.ID == b.ID) <;> cases (a.Ts == b.Ts) <;> cases decide (a.Reads = b.Reads) <;> cases decide (a.Reads.length = b.Reads.length) <;> rfl
 ·rw [decide_eq_false h1, show decide (a.Reads = b.Reads) = false from decide_eq_false (fun e => h1 (congrArg List.length e))]; cases (a.ID == b.ID) <;> cases (a.Ts == b.Ts) <;> rfl
theorem sTxs_r (a b : List KTx) (hl : a.length ≤ 5000) (h : ∀ t ∈ a, FewT t) {F : Nat} (hF : 5001 ≤ F) : G_regulatorref34_SameTxs F a b = some (decide (a = b)) := by
 unfold G_regulatorref34_SameTxs
 by_cases hl2 : a.length = b.length
 ·rw [leq, decide_eq_true hl2, ifB_t, iter_eqL a b hl2 (.inl ()) (.inr ()) ?_ ?_ (by omega)]
  ·cases decide (a = b) <;> rfl
  ·simp only [ltn, ifB_f]
  ·intro k h1 h2; simp only [ltl h1, ifB_t, ixI_get h1, ixI_get h2, ob_some, w64_1 h1 (by omega), sTx_r _ _ (h _ (List.getElem_mem h1)) (show 64 ≤ F by omega)]; cases decide (a[k] = b[k]) <;> rfl
 ·rw [leq, decide_eq_false hl2, ifB_f, decide_eq_false (fun e => hl2 (congrArg List.length e))]
def fewTB (t : KTx) : Bool := decide (t.Reads.length ≤ 20) && decide (t.Writes.length ≤ 20)
theorem fewT_iff {t : KTx} : fewTB t = true ↔ FewT t := by
 unfold fewTB; simp only [Bool.and_eq_true, decide_eq_true_eq]; exact ⟨fun h => ⟨h.1, h.2⟩, fun h => ⟨h.r, h.w⟩⟩
theorem fewTxs_r (l : List KTx) {F : Nat} (hF : l.length < F) (hl : l.length ≤ 9223372036854775807) : G_regulatorref34_FewTxs F l = some (l.all fewTB && decide (l.length ≤ 30)) := by
 unfold G_regulatorref34_FewTxs; rw [iter_allL l fewTB (.inl ()) (.inr ()) ?_ ?_ hF]
 ·rw [deq (p := ((l.length : Nat) : Int) ≤ 30) (q := l.length ≤ 30) (by omega)]; cases l.all fewTB <;> rfl
 ·simp only [ltn, ifB_f]
 ·intro k h; simp only [ltl h, ifB_t, ixI_get h, ob_some, w64_1 h (by omega)]; unfold fewTB; rw [dnot (p := ((l[k].Reads.length : Nat) : Int) > 20) (q := l[k].Reads.length ≤ 20) (by omega), dnot (p := ((l[k].Writes.length : Nat) : Int) > 20) (q := l[k].Writes.length ≤ 20) (by omega)]; cases decide (l[k].Reads.length ≤ 20) <;> cases decide (l[k].Writes.length ≤ 20) <;> rfl
theorem same34_r (a b : KLeader) (hs : a.Store.length ≤ 5000) (hl : a.Open.length ≤ 5000) (h : ∀ t ∈ a.Open, FewT t) {F : Nat} (hF : 5001 ≤ F) : G_regulatorref34_Same F a b = some (decide (a = b)) := by
 unfold G_regulatorref34_Same; rw [same33_r _ _ (by omega) hs, sTxs_r _ _ hl h hF, beq_dec]; have e : decide (a = b) = (decide (a.Last = b.Last) && (decide (a.Store = b.Store) && decide (a.Open = b.Open))) := by
  refine iff_bool ?_; simp only [Bool.and_eq_true, decide_eq_true_eq]; constructor
  ·rintro rfl; exact ⟨rfl, rfl, rfl⟩
  ·rintro ⟨h1, h2, h3⟩; cases a; cases b; simp only at h1 h2 h3; subst h1 h2 h3; rfl
 rw [e]; simp only [ob_some]; cases decide (a.Last = b.Last) <;> cases decide (a.Store = b.Store) <;> rfl
end Go.Proofs.Ytlfkgbideknkhaa
namespace Go.Proofs.Ytlfkgbideknkhaa
open Go.RowKit
def By (b : List Int) : Prop := ∀ x ∈ b, 0 ≤ x ∧ x < 256
theorem By.nil : By [] := fun _ h => absurd h List.not_mem_nil
theorem By.app {a b : List Int} (h : By a) (h' : By b) : By (a ++ b) := fun x hx => (List.mem_append.1 hx).elim (h x) (h' x)
theorem By.l {a b : List Int} (h : By (a ++ b)) : By a := fun x hx => h x (List.mem_append_left _ hx)
theorem By.r {a b : List Int} (h : By (a ++ b)) : By b := fun x hx => h x (List.mem_append_right _ hx)
theorem By.take {a : List Int} (h : By a) (n : Nat) : By (a.take n) := fun x hx => h x (List.mem_of_mem_take hx)
theorem By.drop {a : List Int} (h : By a) (n : Nat) : By (a.drop n) := fun x hx => h x (List.mem_of_mem_drop hx)
theorem By.cons {x : Int} {b : List Int} (hx : 0 ≤ x ∧ x < 256) (h : By b) : By (x :: b) := fun y hy => by
 rcases List.mem_cons.1 hy with rfl | hy
 ·exact hx
 ·exact h y hy
def rdA : Nat → Nat → Nat → List Int → Option (Nat × List Int)
 | 0, _, _, _ => none
 | _ + 1, _, _, [] => none
 | f + 1, k, u, c :: bs => match (decide (k < 9) || decide (c < 2)) && ((k == 0) || decide (c > 0)) with
  | false => none
  | true => match decide (c < 128) with
   | true => some (u + c.toNat % 128 * 128 ^ k, bs)
   | false => rdA f (k + 1) (u + c.toNat % 128 * 128 ^ k) bs
theorem p128 (k : Nat) : (128 : Nat) ^ k = 2 ^ (7 * k) := by rw [Nat.pow_mul]
theorem p128_le {k : Nat} (h : k ≤ 9) : (128 : Nat) ^ k ≤ 9223372036854775808 := by
 have := Nat.pow_le_pow_right (n := 128) (by omega) h; have e : (128 : Nat) ^ 9 = 9223372036854775808 := by decide
 omega
theorem sh_eq (c k : Nat) (hc : c < 256) (hk : k ≤ 9) (hs : c % 128 * 128 ^ k < 18446744073709551616) : shI (c : Int) (k : Int) = ((c % 128 * 128 ^ k : Nat) : Int) := by
 unfold shI; have e1 : bits .and .u8 (c : Int) 127 = ((c % 128 : Nat) : Int) := by
  rw [show (127 : Int) = ((127 : Nat) : Int) from rfl, u8_and_nat c 127 hc (by omega)]
  congr 1
  exact Nat.and_two_pow_sub_one_eq_mod c 7
 have e2 : min (IntKind.i64.wrap (7 * (k : Int))).toNat IntKind.u64.bits = 7 * k := by
  have h1 : IntKind.i64.wrap (7 * (k : Int)) = ((7 * k : Nat) : Int) := by rw [IntKind.wrap_i64]; omega
  have : IntKind.u64.bits = 64 := rfl; rw [h1, Int.toNat_natCast]; omega
 rw [e1, e2, IntKind.wrap_u64, IntKind.wrap_u64, p128]; rw [p128] at hs; have e3 : ((c % 128 : Nat) : Int) % 18446744073709551616 = ((c % 128 : Nat) : Int) := by omega
 rw [e3]; have e4 : ((c % 128 : Nat) : Int) * 2 ^ (7 * k) = ((c % 128 * 2 ^ (7 * k) : Nat) : Int) := by push_cast; rfl
 rw [e4]; omega
theorem or_eq (c k u : Nat) (hc : c < 256) (hk : k ≤ 9) (hu : u < 128 ^ k) (hs : u + c % 128 * 128 ^ k < 18446744073709551616) : bits .or .u64 (u : Int) (shI (c : Int) (k : Int)) = ((u + c % 128 * 128 ^ k : Nat) : Int) := by
 rw [sh_eq c k hc hk (by omega), u64_or_nat _ _ (by omega) (by omega), Nat.or_comm, nat_join (7 * k) _ _ (by rw [p128]; exact Nat.mul_mod_left _ _) (by rw [← p128]; exact hu), Nat.add_comm]
theorem x64_nat (a : Nat) (ha : a < 9223372036854775808) (b : Int) : bits .xor .i64 (a : Int) b = IntKind.i64.wrap ((a ^^^ (BitVec.ofInt 64 b).toNat : Nat) : Int) := by
 show IntKind.i64.wrap ((BitVec.ofInt 64 (a : Int) ^^^ BitVec.ofInt 64 b).toNat : Int) = _
 have h2 : (BitVec.ofInt 64 (a : Int)).toNat = a := by
  rw [BitVec.ofInt_natCast, BitVec.toNat_ofNat]; exact Nat.mod_eq_of_lt (by omega)
 rw [BitVec.toNat_xor, h2]
def unz (u : Nat) : Int := if u % 2 = 1 then -1 - ((u / 2 : Nat) : Int) else ((u / 2 : Nat) : Int)
theorem dec_eq (u : Nat) (hu : u < 18446744073709551616) : decI (u : Int) = unz u := by
 unfold decI; have e0 : Int.fdiv (u : Int) (2 ^ 1) = ((u / 2 : Nat) : Int) := by
  rw [Int.fdiv_eq_ediv_of_nonneg _ (by decide)]; simp
 have e1 : bits .and .u64 (u : Int) 1 = ((u % 2 : Nat) : Int) := by
  rw [show (1 : Int) = ((1 : Nat) : Int) from rfl, u64_and_nat u 1 hu (by omega), nat_mask1]
 have e2 : IntKind.i64.wrap ((u / 2 : Nat) : Int) = ((u / 2 : Nat) : Int) := by rw [IntKind.wrap_i64]; omega
 rw [e0, e1, e2]; unfold unz; rcases Nat.mod_two_eq_zero_or_one u with h | h
 ·rw [h, if_neg (by omega), show IntKind.i64.wrap (0 - IntKind.i64.wrap ((0 : Nat) : Int)) = 0 from by decide, x64_nat _ (by omega), show (BitVec.ofInt 64 0).toNat = 0 from by decide, Nat.xor_zero, IntKind.wrap_i64]; omega
 ·rw [h, if_pos rfl, show IntKind.i64.wrap (0 - IntKind.i64.wrap ((1 : Nat) : Int)) = -1 from by decide, x64_nat _ (by omega), show (BitVec.ofInt 64 (-1)).toNat = 18446744073709551615 from by decide, xor_ones (by omega), IntKind.wrap_i64]; omega
theorem rdV_A : ∀ (f k u : Nat) (bs : List Int), f + k = 10 → u < 128 ^ k → By bs → rdV f (k : Int) (u : Int) bs = (rdA f k u bs).map (fun p => (unz p.1, p.2))
 | 0, _, _, _, _, _, _ => rfl
 | _ + 1, _, _, [], _, _, _ => rfl
 | f + 1, k, u, c :: bs, hf, hu, hb => by
  obtain ⟨h0, h1⟩ := hb c List.mem_cons_self; obtain ⟨n, rfl⟩ : ∃ n : Nat, c = (n : Int) := ⟨c.toNat, by omega⟩; have hp : 0 < 128 ^ k := Nat.pow_pos (by omega); unfold rdV rdA; rw [show decide ((k : Int) < 9) = decide (k < 9) from decide_eq_decide.2 (by omega), show ((k : Int) == 0) = (k == 0) from by rw [Bool.eq_iff_iff]; simp]; cases hc : (decide (k < 9) || decide ((n : Int) < 2)) && (k == 0 || decide ((n : Int) > 0)) with
  | false => rfl
  | true =>
   simp only [Bool.and_eq_true, Bool.or_eq_true, decide_eq_true_eq] at hc; have hk9 : k ≤ 9 := by omega
   have hlt : u + n % 128 * 128 ^ k < 128 ^ k * (n % 128 + 1) := by rw [Nat.mul_add, Nat.mul_comm (n % 128)]; omega
   have hs : u + n % 128 * 128 ^ k < 18446744073709551616 := by
    rcases hc.1 with h | h
    ·have h2 : (128 : Nat) ^ k * (n % 128 + 1) ≤ 128 ^ k * 128 := Nat.mul_le_mul_left _ (by omega); have h3 := p128_le (k := k + 1) (by omega); rw [Nat.pow_succ] at h3; omega
    ·have h2 : (128 : Nat) ^ k * (n % 128 + 1) ≤ 128 ^ k * 2 := Nat.mul_le_mul_left _ (by omega); have h3 := p128_le hk9; omega
   simp only [or_eq n k u (by omega) hk9 hu hs, Int.toNat_natCast]; cases hd : decide ((n : Int) < 128) with
   | true => simp only [Option.map_some, dec_eq _ hs]
   | false =>
    have hd' : ¬ (n : Int) < 128 := of_decide_eq_false hd; have := rdV_A f (k + 1) (u + n % 128 * 128 ^ k) bs (by omega) (by
     have h2 : (128 : Nat) ^ k * (n % 128 + 1) ≤ 128 ^ k * 128 := Nat.mul_le_mul_left _ (by omega); rw [Nat.pow_succ]; omega) (fun x hx => hb x (List.mem_cons_of_mem _ hx))
    simpa using this
def digA : Nat → Nat → List Int
 | 0, _ => []
 | k + 1, u => if 128 ≤ u then ((u % 128 + 128 : Nat) : Int) :: digA k (u / 128) else [(u : Int)]
theorem dig_A : ∀ (k u : Nat), digN k (u : Int) = digA k u
 | 0, _ => rfl
 | k + 1, u => by
  unfold digN digA
  by_cases h : 128 ≤ u
  ·rw [if_pos (by omega), if_pos h]; have e1 : bits .or .u8 ((u : Int) % 256) 128 = ((u % 128 + 128 : Nat) : Int) := by
    rw [show (u : Int) % 256 = ((u % 256 : Nat) : Int) by omega, show (128 : Int) = ((128 : Nat) : Int) from rfl, u8_or_nat _ _ (by omega) (by omega)]
    congr 1
    have e : u % 256 = u % 256 / 128 * 128 + u % 128 := by omega
    rcases Nat.lt_or_ge (u % 256) 128 with h | h
    ·rw [Nat.or_comm, show (128 : Nat) = 1 * 2 ^ 7 from rfl, nat_join 7 _ _ (by omega) (by omega)]; omega
    ·have e2 : u % 256 = 128 ||| u % 128 := by
      rw [show (128 : Nat) ||| u % 128 = 128 + u % 128 from nat_join 7 128 _ (by omega) (by omega)]; omega
     rw [e2, Nat.or_comm, ← Nat.or_assoc, Nat.or_self, nat_join 7 128 _ (by omega) (by omega)]; omega
   rw [e1, show (u : Int) / 128 = ((u / 128 : Nat) : Int) by omega, dig_A k (u / 128)]
  ·rw [if_neg (by omega), if_neg h]
theorem digA_by : ∀ {k u : Nat}, u < 256 * 128 ^ k → By (digA k u)
 | 0, _, _ => By.nil
 | k + 1, u, h => by
  unfold digA
  split
  ·refine By.cons (by omega) (digA_by ?_); rw [Nat.pow_succ] at h; have : u / 128 * 128 ≤ u := Nat.div_mul_le_self _ _; omega
  ·exact By.cons (by omega) By.nil
theorem rd_back : ∀ (f k u v : Nat) (rest : List Int), f + k = 10 → v * 128 ^ k < 18446744073709551616 → (k = 0 ∨ 0 < v) → rdA f k u (digA f v ++ rest) = some (u + v * 128 ^ k, rest)
 | 0, k, u, v, rest, hf, hv, h0 => by
  obtain rfl : k = 10 := by omega
  have e : (128 : Nat) ^ 10 = 1180591620717411303424 := by decide
  omega
 | f + 1, k, u, v, rest, hf, hv, h0 => by
  unfold digA; have e9 : (128 : Nat) ^ 9 = 9223372036854775808 := by decide
  by_cases h : 128 ≤ v
  ·rw [if_pos h]; have hk : k < 9 := by
    refine Classical.byContradiction fun hn => ?_
    obtain rfl : k = 9 := by omega
    omega
   show rdA (f + 1) k u (((v % 128 + 128 : Nat) : Int) :: (digA f (v / 128) ++ rest)) = _
   unfold rdA; rw [decide_eq_true hk, show decide (((v % 128 + 128 : Nat) : Int) > 0) = true from decide_eq_true (by omega), Bool.true_or, Bool.or_true, Bool.true_and, show decide (((v % 128 + 128 : Nat) : Int) < 128) = false from decide_eq_false (by omega)]; simp only [Int.toNat_natCast, Nat.add_mod_right, Nat.mod_mod]; have hm : v * 128 ^ k = v % 128 * 128 ^ k + v / 128 * 128 ^ (k + 1) := by
    rw [Nat.pow_succ, Nat.mul_comm (128 ^ k) 128, ← Nat.mul_assoc, ← Nat.add_mul]
    congr 1; omega
   rw [rd_back f (k + 1) _ (v / 128) rest (by omega) (by omega) (.inr (by omega))]
   congr 2; omega
  ·rw [if_neg h]
   show rdA (f + 1) k u ((v : Int) :: rest) = _
   unfold rdA; have h1 : (decide (k < 9) || decide ((v : Int) < 2)) = true := by
    rcases Nat.lt_or_ge k 9 with h | h
    ·simp [h]
    ·obtain rfl : k = 9 := by omega
     have : (v : Int) < 2 := by omega
     simp [this]
   have h2 : (k == 0 || decide ((v : Int) > 0)) = true := by
    rcases h0 with rfl | h0
    ·rfl
    ·rw [decide_eq_true (show (v : Int) > 0 by omega), Bool.or_true]
   rw [h1, h2, Bool.true_and, show decide ((v : Int) < 128) = true from decide_eq_true (by omega)]; simp only [Int.toNat_natCast]; rw [Nat.mod_eq_of_lt (by omega)]
theorem rd_only : ∀ {f k u : Nat} {bs rest : List Int} {n : Nat}, f + k = 10 → By bs → rdA f k u bs = some (n, rest) → ∃ v : Nat, bs = digA f v ++ rest ∧ n = u + v * 128 ^ k ∧ v * 128 ^ k < 18446744073709551616 ∧ (k = 0 ∨ 0 < v)
 | 0, _, _, _, _, _, _, _, h => by cases h
 | _ + 1, _, _, [], _, _, _, _, h => by cases h
 | f + 1, k, u, c :: bs, rest, n, hf, hb, h => by
  obtain ⟨h0, h1⟩ := hb c List.mem_cons_self; obtain ⟨m, rfl⟩ : ∃ n : Nat, c = (n : Int) := ⟨c.toNat, by omega⟩; have e9 : (128 : Nat) ^ 9 = 9223372036854775808 := by decide
  unfold rdA at h
  split at h
  ·cases h
  ·next hc =>
   simp only [Bool.and_eq_true, Bool.or_eq_true, decide_eq_true_eq, beq_iff_eq] at hc; have hk9 := p128_le (k := k) (by omega)
   split at h
   ·next hd =>
    have hd' : (m : Int) < 128 := of_decide_eq_true hd; simp only [Int.toNat_natCast, Option.some.injEq, Prod.mk.injEq] at h; obtain ⟨rfl, rfl⟩ := h; refine ⟨m, ?_, by rw [Nat.mod_eq_of_lt (by omega)], ?_, by omega⟩
    ·unfold digA; rw [if_neg (by omega)]; rfl
    ·rcases hc.1 with h | h
     ·have h2 : m * 128 ^ k ≤ 127 * 128 ^ k := Nat.mul_le_mul_right _ (by omega); have h3 := p128_le (k := k + 1) (by omega); rw [Nat.pow_succ] at h3; omega
     ·have h2 : m * 128 ^ k ≤ 1 * 128 ^ k := Nat.mul_le_mul_right _ (by omega); omega
   ·next hd =>
    have hd' : ¬ (m : Int) < 128 := of_decide_eq_false hd; have hk : k < 9 := by omega
    simp only [Int.toNat_natCast] at h; obtain ⟨v, h2, h3, h4, h5⟩ := rd_only (by omega) (fun x hx => hb x (List.mem_cons_of_mem _ hx)) h; have hv : 0 < v := by omega
    have hm : (m % 128 + v * 128) * 128 ^ k = m % 128 * 128 ^ k + v * 128 ^ (k + 1) := by
     rw [Nat.pow_succ, Nat.mul_comm (128 ^ k) 128, ← Nat.mul_assoc, ← Nat.add_mul]
    refine ⟨m % 128 + v * 128, ?_, by rw [h3, hm]; omega, ?_, .inr (by omega)⟩
    ·unfold digA; rw [if_pos (by omega), show (m % 128 + v * 128) / 128 = v by omega, h2, show (m % 128 + v * 128) % 128 + 128 = m by omega]; rfl
    ·rw [hm]; obtain ⟨q, hq⟩ : ∃ q, q * 128 ^ (k + 1) = 18446744073709551616 := ⟨2 * 128 ^ (8 - k), by
      rw [Nat.mul_assoc, ← Nat.pow_add, show 8 - k + (k + 1) = 9 by omega, e9]⟩
     have hvq : v + 1 ≤ q := by
      refine Classical.byContradiction fun hn => ?_
      have := Nat.mul_le_mul_right (128 ^ (k + 1)) (show q ≤ v by omega); omega
     have h6 := Nat.mul_le_mul_right (128 ^ (k + 1)) hvq; rw [hq, Nat.add_mul, Nat.one_mul] at h6; have h7 : m % 128 * 128 ^ k + 128 ^ k ≤ 128 ^ (k + 1) := by
      have : (m % 128 + 1) * 128 ^ k ≤ 128 * 128 ^ k := Nat.mul_le_mul_right _ (by omega); rw [Nat.add_mul, Nat.one_mul] at this; rw [Nat.pow_succ, Nat.mul_comm (128 ^ k)]; exact this
     have h8 : 0 < 128 ^ k := Nat.pow_pos (by omega); omega
end Go.Proofs.Ytlfkgbideknkhaa
namespace Go.Proofs.Ytlfkgbideknkhaa
open Go.RowKit
def In (n : Int) : Prop := -9223372036854775808 ≤ n ∧ n ≤ 9223372036854775807
theorem unz_zig (n : Int) : unz (zig n).toNat = n := by
 unfold unz zig
 split
 ·rw [if_pos (by omega)]; omega
 ·rw [if_neg (by omega)]; omega
theorem zig_unz (u : Nat) : zig (unz u) = (u : Int) := by
 unfold unz
 split <;> unfold zig <;> split <;> omega
theorem unz_in {u : Nat} (h : u < 18446744073709551616) : In (unz u) := by
 unfold unz In
 split <;> omega
theorem zig_nat {n : Int} (h : In n) : ((zig n).toNat : Int) = zig n ∧ (zig n).toNat < 18446744073709551616 := by
 have := zig_lt h.1 h.2; omega
def encI (n : Int) : List Int := digN 10 (zig n)
theorem enc_A {n : Int} (h : In n) : encI n = digA 10 (zig n).toNat := by
 unfold encI; rw [← dig_A, (zig_nat h).1]
theorem digA_len : ∀ (k u : Nat), (digA k u).length ≤ k
 | 0, _ => Nat.le_refl _
 | k + 1, u => by
  unfold digA
  split
  ·have := digA_len k (u / 128); simp only [List.length_cons]; omega
  ·simp
theorem encI_len {n : Int} (h : In n) : (encI n).length ≤ 10 := by rw [enc_A h]; exact digA_len _ _
theorem encI_by {n : Int} (h : In n) : By (encI n) := by
 rw [enc_A h]; refine digA_by ?_; have := (zig_nat h).2; have e : (128 : Nat) ^ 10 = 1180591620717411303424 := by decide
 omega
theorem rdV_back {n : Int} {rest : List Int} (h : In n) (hb : By rest) : rdV 10 0 0 (encI n ++ rest) = some (n, rest) := by
 have h1 := rdV_A 10 0 0 (encI n ++ rest) rfl (by decide) ((encI_by h).app hb); have h2 := rd_back 10 0 0 (zig n).toNat rest rfl (by have := (zig_nat h).2; simpa using this) (.inl rfl); rw [← enc_A h] at h2; refine h1.trans ?_; rw [h2]; simp only [Option.map_some, Nat.pow_zero, Nat.mul_one, Nat.zero_add, unz_zig]
theorem rdV_only {n : Int} {bs rest : List Int} (hb : By bs) (h : rdV 10 0 0 bs = some (n, rest)) : In n ∧ bs = encI n ++ rest := by
 have h1 := rdV_A 10 0 0 bs rfl (by decide) hb; rw [show ((0 : Nat) : Int) = 0 from rfl] at h1; rw [h1] at h; cases hr : rdA 10 0 0 bs with
 | none => rw [hr] at h; cases h
 | some p =>
  obtain ⟨m, r⟩ := p; rw [hr] at h; simp only [Option.map_some, Option.some.injEq, Prod.mk.injEq] at h; obtain ⟨rfl, rfl⟩ := h; obtain ⟨v, e1, e2, e3, _⟩ := rd_only rfl hb hr; simp only [Nat.pow_zero, Nat.mul_one, Nat.zero_add] at e2 e3; subst e2; have hi := unz_in e3; refine ⟨hi, ?_⟩; rw [enc_A hi, zig_unz]; exact e1
theorem encs_by : ∀ {l : List Int}, (∀ n ∈ l, In n) → By (l.flatMap encI)
 | [], _ => By.nil
 | n :: l, h => by
  rw [List.flatMap_cons]; exact (encI_by (h n List.mem_cons_self)).app (encs_by fun m hm => h m (List.mem_cons_of_mem _ hm))
theorem encs_len : ∀ {l : List Int}, (∀ n ∈ l, In n) → (l.flatMap encI).length ≤ 10 * l.length
 | [], _ => Nat.le_refl _
 | n :: l, h => by
  rw [List.flatMap_cons, List.length_append, List.length_cons]; have h1 := encI_len (h n List.mem_cons_self); have h2 := encs_len fun m hm => h m (List.mem_cons_of_mem _ hm)
  omega
theorem rdN_back : ∀ {l rest : List Int}, (∀ n ∈ l, In n) → By rest → rdN l.length (l.flatMap encI ++ rest) = some (l, rest)
 | [], _, _, _ => rfl
 | n :: l, rest, h, hb => by
  have h' : ∀ m ∈ l, In m := fun m hm => h m (List.mem_cons_of_mem _ hm)
  rw [List.flatMap_cons, List.append_assoc, List.length_cons, rdN, rdV_back (h n List.mem_cons_self) ((encs_by h').app hb)]; simp only [rdN_back h' hb]
theorem rdN_only : ∀ {k : Nat} {b l r : List Int}, By b → rdN k b = some (l, r) → l.length = k ∧ (∀ n ∈ l, In n) ∧ b = l.flatMap encI ++ r
 | 0, b, l, r, _, h => by
  simp only [rdN, Option.some.injEq, Prod.mk.injEq] at h; obtain ⟨rfl, rfl⟩ := h; exact ⟨rfl, fun _ h => absurd h List.not_mem_nil, rfl⟩
 | k + 1, b, l, r, hb, h => by
  rw [rdN] at h
  split at h
  ·cases h
  ·next n r1 h1 =>
   obtain ⟨hi, rfl⟩ := rdV_only hb h1
   split at h
   ·cases h
   ·next l2 r2 h2 =>
    simp only [Option.some.injEq, Prod.mk.injEq] at h; obtain ⟨rfl, rfl⟩ := h; obtain ⟨e1, e2, e3⟩ := rdN_only hb.r h2; refine ⟨by rw [List.length_cons, e1], fun m hm => ?_, by rw [e3, List.flatMap_cons, List.append_assoc]⟩; rcases List.mem_cons.1 hm with rfl | hm
    ·exact hi
    ·exact e2 m hm
structure OkL (l : List Int) : Prop where
 n : l.length ≤ 1000
 i : ∀ n ∈ l, In n
def encL (l : List Int) : List Int := encI (l.length : Int) ++ l.flatMap encI
theorem lenIn {α : Type} {l : List α} (h : l.length ≤ 1000) : In (l.length : Int) := ⟨by omega, by omega⟩
theorem encL_by {l : List Int} (h : OkL l) : By (encL l) := (encI_by (lenIn h.n)).app (encs_by h.i)
theorem encL_len {l : List Int} (h : OkL l) : (encL l).length ≤ 10010 := by
 unfold encL; rw [List.length_append]; have h1 := encI_len (lenIn h.n); have h2 := encs_len h.i; have := h.n; omega
theorem get_back {l : List Int} (h : OkL l) : getS (encL l) = (l, 0) := by
 unfold getS encL; rw [rdV_back (lenIn h.n) (encs_by h.i)]; have h1 := rdN_back (rest := []) h.i By.nil; rw [List.append_nil] at h1; have hn := h.n; simp only [Int.toNat_natCast]; rw [if_pos (by omega), h1]; rfl
theorem get_only {b l : List Int} (hb : By b) (h : getS b = (l, 0)) : OkL l ∧ b = encL l := by
 unfold getS at h
 split at h
 ·cases h
 ·next n rest h1 =>
  split at h
  ·next hn =>
   obtain ⟨hi, rfl⟩ := rdV_only hb h1; unfold fnG at h
   split at h
   ·next l2 h2 =>
    simp only [List.nil_append, Prod.mk.injEq, and_true] at h; subst h; obtain ⟨e1, e2, e3⟩ := rdN_only hb.r h2; refine ⟨⟨by omega, e2⟩, ?_⟩; unfold encL; rw [e3, List.append_nil, e1, show ((n.toNat : Nat) : Int) = n by omega]
   ·cases h
  ·cases h
theorem get_cases (b : List Int) : getS b = ([], 7) ∨ ∃ l, getS b = (l, 0) := by
 unfold getS
 split
 ·exact .inl rfl
 ·split
  ·unfold fnG
   split
   ·exact .inr ⟨_, rfl⟩
   ·exact .inl rfl
  ·exact .inl rfl
theorem put1_p (F : Nat) {l : List Int} {n : Int} (h : In n) (hl : l.length ≤ 100000000) : G_codec_put F l n = some (l ++ encI n) := if_pos ⟨h, by omega⟩
theorem foldl_fl {α : Type} (f : α → List Int) : ∀ (l : List α) (b : List Int), l.foldl (fun b x => b ++ f x) b = b ++ l.flatMap f
 | [], b => by simp
 | x :: l, b => by rw [List.foldl_cons, foldl_fl, List.flatMap_cons, List.append_assoc]
theorem put_p {l : List Int} (h : OkL l) {F : Nat} (hF : 1000 < F) : G_codec_Put F l = some (encL l, 0) := by
 have hn := h.n; have h1 := encI_len (lenIn h.n); unfold G_codec_Put; rw [decide_eq_false (by omega), ifB_f, put1_p F (lenIn h.n) (by simp), ob_some, List.nil_append]; rw [iter_fold (fun b i => (i, b)) l (fun b x => b ++ encI x) id (fun k b => b.length ≤ 10 + 10 * k) ?_ ?_ (by omega) (encI (l.length : Int)) (by omega)]
 ·simp only [ob_some, id, foldl_fl]; rfl
 ·intro b _; simp only [un2, ltn, ifB_f, id]
 ·intro b k hk hb; have h2 := h.i l[k] (List.getElem_mem hk); have h3 := encI_len h2; have h4 := put1_p F (l := b) h2 (by omega); simp only [un2, ltl hk, ifB_t, ixI_get hk, ob_some, h4, w64_1 hk (by omega), List.length_append]; exact ⟨trivial, by omega⟩
end Go.Proofs.Ytlfkgbideknkhaa
namespace Go.Proofs.Ytlfkgbideknkhaa
open Go.RowKit
end Go.Proofs.Ytlfkgbideknkhaa
namespace Go.Proofs.Ytlfkgbideknkhaa
open Go.RowKit
def s8 (d : Int) : List Int := [d / 72057594037927936 % 256, d / 281474976710656 % 256, d / 1099511627776 % 256, d / 4294967296 % 256, d / 16777216 % 256, d / 65536 % 256, d / 256 % 256, d % 256]
def k8s (d : Int) : K8_uint8 := ⟨d / 72057594037927936 % 256, d / 281474976710656 % 256, d / 1099511627776 % 256, d / 4294967296 % 256, d / 16777216 % 256, d / 65536 % 256, d / 256 % 256, d % 256⟩
theorem s8_len (d : Int) : (s8 d).length = 8 := rfl
theorem s8_by (d : Int) : By (s8 d) := fun x hx => by
 simp only [s8, List.mem_cons, List.not_mem_nil, or_false] at hx; omega
theorem sumF_rng (h x : Int) : 0 ≤ sumF h x ∧ sumF h x < 18446744073709551616 := by
 unfold sumF; rw [IntKind.wrap_u64]; omega
theorem sumB_rng37 (l : List Int) : 0 ≤ sumB l ∧ sumB l < 18446744073709551616 := by
 unfold sumB; have key : ∀ (l : List Int) (b : Int), 0 ≤ b ∧ b < 18446744073709551616 → 0 ≤ l.foldl sumF b ∧ l.foldl sumF b < 18446744073709551616 := by
  intro l
  induction l with
  | nil => intro b h; exact h
  | cons x l ih => intro b _; exact ih _ (sumF_rng _ _)
 exact key l _ (by omega)
theorem sum_p {b : List Int} (hl : b.length ≤ 1000000) {F : Nat} (hF : 64 ≤ F) : G_codec_sum F b = some (k8s (sumB b)) := by
 have hd : G_digest_Sum F b = some (sumB b) := by
  obtain ⟨F', rfl⟩ : ∃ F', F = F' + 1 := ⟨F - 1, by omega⟩; exact whenG_t (decide_eq_true (by omega))
 unfold G_codec_sum; rw [hd, ob_some]; have hr := sumB_rng37 b; generalize sumB b = d at hr ⊢; obtain ⟨F', rfl⟩ : ∃ F', F = F' + 9 := ⟨F - 9, by omega⟩; have hw : ∀ x, Int.fdiv x (2 ^ 8) = x / 256 := fun x => by rw [Int.fdiv_eq_ediv_of_nonneg _ (by decide)]; rfl
 refine Eq.trans (b := some (⟨IntKind.u8.wrap (Int.fdiv (Int.fdiv (Int.fdiv (Int.fdiv (Int.fdiv (Int.fdiv (Int.fdiv d (2 ^ 8)) (2 ^ 8)) (2 ^ 8)) (2 ^ 8)) (2 ^ 8)) (2 ^ 8)) (2 ^ 8)), IntKind.u8.wrap (Int.fdiv (Int.fdiv (Int.fdiv (Int.fdiv (Int.fdiv (Int.fdiv d (2 ^ 8)) (2 ^ 8)) (2 ^ 8)) (2 ^ 8)) (2 ^ 8)) (2 ^ 8)), IntKind.u8.wrap (Int.fdiv (Int.fdiv (Int.fdiv (Int.fdiv (Int.fdiv d (2 ^ 8)) (2 ^ 8)) (2 ^ 8)) (2 ^ 8)) (2 ^ 8)), IntKind.u8.wrap (Int.fdiv (Int.fdiv (Int.fdiv (Int.fdiv d (2 ^ 8)) (2 ^ 8)) (2 ^ 8)) (2 ^ 8)), IntKind.u8.wrap (Int.fdiv (Int.fdiv (Int.fdiv d (2 ^ 8)) (2 ^ 8)) (2 ^ 8)), IntKind.u8.wrap (Int.fdiv (Int.fdiv d (2 ^ 8)) (2 ^ 8)), IntKind.u8.wrap (Int.fdiv d (2 ^ 8)), IntKind.u8.wrap d⟩ : K8_uint8)) (by kernel_rfl) ?_; simp only [hw, IntKind.wrap_u8', k8s, Option.some.injEq, K8_uint8.mk.injEq, and_true]; omega
end Go.Proofs.Ytlfkgbideknkhaa
