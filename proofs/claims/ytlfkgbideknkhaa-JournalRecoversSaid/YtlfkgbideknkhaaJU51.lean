/-
  Texts joined: Vg, Zt, Vs, Pl33, Ver, Ord, Valid, Bs, Last, EqV, Pl33r, At, ClV, Copy, InsV, Put, Read, Read2, Ref33, Ref33b, Ref33c, Ref33d, Ref33e, Pl33s, Pl33t, Pl33u, Pl33v, Sa38, Ml, Lp, Lq, Fp33, Fr33, Ft33, Fu33, Dv, Gr37, Is, Dg, Aps, Dh, Hg37, Zh, So38, Zl.
-/
import Derived.Test.YtlfkgbideknkhaaProg
import Derived.Test.YtlfkgbideknkhaaRows
import Derived.Laws.CopyOwn
import Derived.StillTailTactics
import Derived.WalkMore
import Derived.Deep.LoopGhost
import Derived.Shelf.Spec.SlicesGrow
import Derived.Deep.AppendSrc
import Derived.Deep.RegionLaw
import Derived.RangeFuncBox
import Derived.RangeFuncLeaves
import Derived.RangeFuncNested
import Derived.Shelf.Abstract
import Derived.WalkKit
import Derived.OwnWalkIn
import Derived.TacticsInMore
import Derived.LoopNIn
import Derived.LoopIn
import Derived.Maps.AppendAt
import Derived.Test.YtlfkgbideknkhaaJU50
set_option linter.unusedSimpArgs false
set_option linter.unusedVariables false
namespace Go.Proofs.Ytlfkgbideknkhaa
open Go.RowKit Go.Maps
def nS : Nat → Prop := fun _ => False
def Cg (P : Program) (f : FuncId) (args : List Value) (Hs : List Pr) {β : Type} (q : β → Prop) (vf : β → Value) (ok : β → List Pr) : Prop :=
 ∀ S0 w0, (∀ g, S0 g → g < w0.heap.size) → Tb w0 → AllH S0 w0 Hs → Calls P f args.toArray w0 fun e w' => ∃ x, q x ∧ e = .returned (vf x) ∧ Below w0.heap.size w0 w' ∧ AllH (ext nS w0 w') w' (ok x)
theorem AllH.up {S S' : Nat → Prop} {w : World} : ∀ {Hs : List Pr}, Mvs Hs → AllH S w Hs → (∀ g, S g → S' g) → AllH S' w Hs
 | [], _, _, _ => trivial
 | _ :: _, m, a, h => ⟨m.1 _ _ _ _ a.1 h (Ag.refl _ _), AllH.up m.2 a.2 h⟩
section
variable {S0 S : Nat → Prop} {w0 w w' : World} {n : Nat} {K : List (Nat × Value)} {E : List Iz} {P : Program} {Q : Exit → Act → World → Prop} {o : Oper} {v : Value} {Kx : Act → World → Prop}
theorem cg [DSc] {f : FuncId} {args : List Value} {Hs : List Pr} {β : Type} {q : β → Prop} {vf : β → Value} {ok : β → List Pr} (d : Nat) (hc : Cg P f args Hs q vf ok) (hT : Tb w0) (hm : ∀ x, Mvs (ok x)) (hH : Fas E Hs) (h : ∀ x, q x → Ge S0 w0 n ((d, vf x) :: K) ((ok x).map .dat ++ E) Kx) (he : ∀ J, sx P (execOp (rho K J) o) [] = some (.enter f args.toArray, []) := by intro J; kernel_rfl) (hd : o.dst = some d := by kernel_rfl) (hn : Nat.blt d n = true := by kernel_rfl) :
  Ge S0 w0 n K E (oW P o Q Kx) := fun a w S hK hE => by
 unfold oW Oper.wp Oper.upon; rw [hK.eval, sx_run _ (he _) trivial, hd]; refine (hc _ w (fun _ h => h) (hT.to hE.b) (hH.all hE)).mono fun e w' hr => ?_
 obtain ⟨x, hq, rfl, hb, hok⟩ := hr; exact h x hq _ _ _ (hK.put hn (vf x)) ((hE.call hb).more (hm x) (hok.up (hm x) fun g hg => hg.elim (fun h => h.elim) .inr))
theorem fing {f : FuncId} {fn : Func} {c : Code} {args : List Value} {Hs : List Pr} {β : Type} {q : β → Prop} {vf : β → Value} {ok : β → List Pr} (hf : P.funcs[f]? = some fn) (hb : fn.body = some c) (hn : fn.ntmps = n) (m : Mvs Hs)
  (h : ∀ S0 w0, Tb w0 → Ge S0 w0 n (argK args 0) (Hs.map .dat) (c.wp P (bodyPost P fn fun e w' => ∃ x, q x ∧ e = .returned (vf x) ∧ Below w0.heap.size w0 w' ∧ AllH (ext nS w0 w') w' (ok x)))) (hs : Nat.ble args.length n = true := by kernel_rfl) : Cg P f args Hs q vf ok := fun S0 w0 hS hT hH => vc_enter hf hb hn hs fun a hK => h S0 w0 hT a w0 S0 hK (hH.ez hS m)
def Fr (w0 : World) (E : List Iz) (p : Pr) : Prop := ∀ S0 w S, Ez S0 w0 w S E → p (ext nS w0 w) w
def Frs (w0 : World) (E : List Iz) : List Pr → Prop
 | [] => True
 | p :: l => Fr w0 E p ∧ Frs w0 E l
theorem Frs.all (hE : Ez S0 w0 w S E) : ∀ {Hs : List Pr}, Frs w0 E Hs → AllH (ext nS w0 w) w Hs
 | [], _ => trivial
 | _ :: _, h => ⟨h.1 _ _ _ hE, Frs.all hE h.2⟩
theorem frN {α : Type} {A : Option Addr} {c : Nat} {f : α → List Value} {ok : α → Pr} : Fr w0 E (RowC A c f ok []) := fun _ _ _ _ => ⟨RowS.nil _ _ _, Nat.zero_le _, fun _ h => absurd h List.not_mem_nil⟩
theorem frO {α : Type} {A : Option Addr} {c : Nat} {f : α → List Value} {l : List α} (i : Nat) (hi : rowOf E i = some (.slice A l.length c, l.length, l.flatMap f) := by kernel_rfl) : Fr w0 E (RowC A c f tr l) := fun _ w _ hE => by
 unfold rowOf at hi
 split at hi
 ·next e' m' v k xs hx =>
  cases hi; have h1 := hE.at hx
  obtain ⟨b, _, hr⟩ := Es.row hE i h1; obtain ⟨A', c', h2, h3, _⟩ := own_form hr
  injection h2 with h4 h5 h6
  subst h6; have hk := Es.k hE _ (List.mem_of_getElem? h1); refine ⟨⟨Es.rd hE i h1, fun hn => ?_⟩, h3, fun _ _ => trivial⟩; obtain ⟨b', o', e, hb, _⟩ := Es.rd hE i h1 hn; refine ⟨b', o', e, .inr ⟨?_, hb⟩⟩; have hat : (Ik.own e' m' (Value.slice A l.length c) l.length (l.flatMap f)).at = some b' := by rw [e]; rfl
  exact (Ik.ok.lt hk hat).1
 ·cases hi
theorem rtg {fn : Func} {β : Type} {q : β → Prop} {vf : β → Value} {ok : β → List Pr} (hs : List (Nat × Nat × Nat)) (x : β) (hq : q x) (hF : Frs w0 E (ok x)) (he : ∀ J, sx P (resF fn fun t => rho K J (.tmp t)) ((rvl E hs).map (·.2)) = some (vf x, rvl E hs) := by intro J; kernel_rfl) : Ge S0 w0 n K E (bodyPost P fn (fun e w' => ∃ x, q x ∧ e = .returned (vf x) ∧ Below w0.heap.size w0 w' ∧ AllH (ext nS w0 w') w' (ok x)) .ret) :=
 fun a w S hK hE => vc_ret hK he (rvl_obs hE) rfl ⟨x, hq, rfl, Es.b hE, hF.all hE⟩
def Nw (B : Nat) (p : Pr) : Pr := fun S W => p (fun g => S g ∧ B ≤ g) W
theorem Mvs.nw {B : Nat} : ∀ {Hs : List Pr}, Mvs Hs → Mvs (Hs.map (Nw B))
 | [], _ => trivial
 | _ :: _, m => ⟨fun _ _ _ _ h hS hA => m.1 _ _ _ _ h (fun g hg => ⟨hS g hg.1, hg.2⟩) (hA.mono fun _ hg => hg.1), Mvs.nw m.2⟩
theorem AllH.nw {B : Nat} {S S' : Nat → Prop} {w : World} : ∀ {Hs : List Pr}, Mvs Hs → AllH S w Hs → (∀ g, S g → S' g ∧ B ≤ g) → AllH S' w (Hs.map (Nw B))
 | [], _, _, _ => trivial
 | _ :: _, m, a, h => ⟨m.1 _ _ _ _ a.1 h (Ag.refl _ _), AllH.nw m.2 a.2 h⟩
theorem cgn [DSc] {f : FuncId} {args : List Value} {Hs : List Pr} {β : Type} {q : β → Prop} {vf : β → Value} {ok : β → List Pr} (d : Nat) (hc : Cg P f args Hs q vf ok) (hT : Tb w0) (hm : ∀ x, Mvs (ok x)) (hH : Fas E Hs) (h : ∀ x, q x → Ge S0 w0 n ((d, vf x) :: K) (((ok x).map (Nw w0.heap.size)).map .dat ++ ((ok x).map .dat ++ E)) Kx) (he : ∀ J, sx P (execOp (rho K J) o) [] = some (.enter f args.toArray, []) := by intro J; kernel_rfl) (hd : o.dst = some d := by kernel_rfl) (hn : Nat.blt d n = true := by kernel_rfl) :
  Ge S0 w0 n K E (oW P o Q Kx) := fun a w S hK hE => by
 unfold oW Oper.wp Oper.upon; rw [hK.eval, sx_run _ (he _) trivial, hd]; refine (hc _ w (fun _ h => h) (hT.to hE.b) (hH.all hE)).mono fun e w' hr => ?_
 obtain ⟨x, hq, rfl, hb, hok⟩ := hr; exact h x hq _ _ _ (hK.put hn (vf x)) (((hE.call hb).more (hm x) (hok.up (hm x) fun g hg => hg.elim (fun h => h.elim) .inr)).more (hm x).nw (hok.nw (hm x) fun g hg => hg.elim (fun h => h.elim) fun h => ⟨.inr h, Nat.le_trans (Es.b hE).size h.1⟩))
theorem frD {α : Type} {A : Option Addr} {c : Nat} {f : α → List Value} {ok : α → Pr} {l : List α} (m : Mv ok) (i : Nat) (hi : E[i]? = some (.dat (Nw w0.heap.size (RowC A c f ok l))) := by kernel_rfl) : Fr w0 E (RowC A c f ok l) := fun _ w _ hE => by
 have h := Ez.get hE hi; exact RowC.to m h (fun g hg => .inr ⟨hg.2, hE.lt g hg.1⟩) (Ag.refl _ _)
def Ca {α : Type} (P : Program) (f : FuncId) (e : TypeId) (m : Nat) (cf : α → List Value) (args : Value → List Value) (l l' : List α) : Prop :=
 ∀ S0 w0 w S E A c, Tb w0 → Ez S0 w0 w S (.own e m (.slice A l.length c) l.length (l.flatMap cf) :: E) → Calls P f (args (.slice A l.length c)).toArray w fun r w' => ∃ A' c' S', r = .returned (.slice A' l'.length c') ∧ Ez S0 w0 w' S' (.own e m (.slice A' l'.length c') l'.length (l'.flatMap cf) :: E)
theorem ca [DSc] {α : Type} {f : FuncId} {e : TypeId} {m : Nat} {cf : α → List Value} {args : Value → List Value} {l l' : List α} (d : Nat) (il : List Nat) (A : Option Addr) (c : Nat) (hc : Ca P f e m cf args l l') (hT : Tb w0) (h : ∀ A' c', Ge S0 w0 n ((d, .slice A' l'.length c') :: K) (.own e m (.slice A' l'.length c') l'.length (l'.flatMap cf) :: se E il.tail) Kx)
  (hw : selz E il = some (.own e m (.slice A l.length c) l.length (l.flatMap cf) :: se E il.tail) := by kernel_rfl) (hi : ndB il = true := by kernel_rfl) (he : ∀ J, sx P (execOp (rho K J) o) [] = some (.enter f (args (.slice A l.length c)).toArray, []) := by intro J; kernel_rfl) (hd : o.dst = some d := by kernel_rfl) (hn : Nat.blt d n = true := by kernel_rfl) :
  Ge S0 w0 n K E (oW P o Q Kx) := fun a w S hK hE => by
 unfold oW Oper.wp Oper.upon; rw [hK.eval, sx_run _ (he _) trivial, hd]; refine (hc S0 w0 w S _ A c hT (hE.sel il hw hi)).mono fun r w' hr => ?_
 obtain ⟨A', c', S', rfl, hE'⟩ := hr; exact h A' c' _ _ _ (hK.put hn _) hE'
end
end Go.Proofs.Ytlfkgbideknkhaa
namespace Go.Proofs.Ytlfkgbideknkhaa
open Go.RowKit Go.Maps
structure KSeen where
 Key : Int
 Ts : Int
 deriving DecidableEq
def KSeen.cells (x : KSeen) : List Go.Value := [I x.Key, I x.Ts]
theorem KSeen.one (l : List KSeen) : ∀ u ∈ l.flatMap KSeen.cells, u.oneCell' = true := by
 intro u hu; obtain ⟨x, _, hx⟩ := List.mem_flatMap.1 hu; simp only [KSeen.cells, List.mem_cons, List.not_mem_nil, or_false] at hx; rcases hx with rfl | rfl <;> rfl
structure KWrite where
 Key : Int
 Value : Int
 Gone : Bool
 deriving DecidableEq
def KWrite.cells (x : KWrite) : List Go.Value := [I x.Key, I x.Value, B x.Gone]
theorem KWrite.one (l : List KWrite) : ∀ u ∈ l.flatMap KWrite.cells, u.oneCell' = true := by
 intro u hu; obtain ⟨x, _, hx⟩ := List.mem_flatMap.1 hu; simp only [KWrite.cells, List.mem_cons, List.not_mem_nil, or_false] at hx; rcases hx with rfl | rfl | rfl <;> rfl
structure KTx where
 ID : Int
 Ts : Int
 Reads : List KSeen
 Writes : List KWrite
 deriving DecidableEq
structure KTxL where
 ID : Int
 Ts : Int
 Reads_A : Option Addr
 Reads_c : Nat
 Reads : List KSeen
 Writes_A : Option Addr
 Writes_c : Nat
 Writes : List KWrite
def KTxL.p (x : KTxL) : KTx := ⟨x.ID, x.Ts, x.Reads, x.Writes⟩
def KTxL.cells (x : KTxL) : List Go.Value := [I x.ID, I x.Ts, .slice x.Reads_A x.Reads.length x.Reads_c, .slice x.Writes_A x.Writes.length x.Writes_c]
structure KTxL.ok (x : KTxL) (S : Nat → Prop) (w : World) : Prop where
 f_Reads : RowC x.Reads_A x.Reads_c KSeen.cells tr x.Reads S w
 f_Writes : RowC x.Writes_A x.Writes_c KWrite.cells tr x.Writes S w
theorem KTxL.mv : Mv KTxL.ok := fun _ _ _ _ _ h hS hA => ⟨h.f_Reads.to tr_mv hS hA, h.f_Writes.to tr_mv hS hA⟩
theorem KTxL.one (l : List KTxL) : ∀ u ∈ l.flatMap KTxL.cells, u.oneCell' = true := by
 intro u hu; obtain ⟨x, _, hx⟩ := List.mem_flatMap.1 hu; simp only [KTxL.cells, List.mem_cons, List.not_mem_nil, or_false] at hx; rcases hx with rfl | rfl | rfl | rfl <;> rfl
structure KVersion where
 Key : Int
 Ts : Int
 Value : Int
 Gone : Bool
 deriving DecidableEq
def KVersion.cells (x : KVersion) : List Go.Value := [I x.Key, I x.Ts, I x.Value, B x.Gone]
theorem KVersion.one (l : List KVersion) : ∀ u ∈ l.flatMap KVersion.cells, u.oneCell' = true := by
 intro u hu; obtain ⟨x, _, hx⟩ := List.mem_flatMap.1 hu; simp only [KVersion.cells, List.mem_cons, List.not_mem_nil, or_false] at hx; rcases hx with rfl | rfl | rfl | rfl <;> rfl
structure KLeader where
 Last : Int
 Store : List KVersion
 Open : List KTx
 deriving DecidableEq
structure KLeaderL where
 Last : Int
 Store_A : Option Addr
 Store_c : Nat
 Store : List KVersion
 Open_A : Option Addr
 Open_c : Nat
 Open : List KTxL
def KLeaderL.p (x : KLeaderL) : KLeader := ⟨x.Last, x.Store, (x.Open.map KTxL.p)⟩
def KLeaderL.cells (x : KLeaderL) : List Go.Value := [I x.Last, .slice x.Store_A x.Store.length x.Store_c, .slice x.Open_A x.Open.length x.Open_c]
theorem KLeaderL.n_Open (x : KLeaderL) : (KLeaderL.p x).Open.length = x.Open.length := List.length_map _
structure KLeaderL.ok (x : KLeaderL) (S : Nat → Prop) (w : World) : Prop where
 f_Store : RowC x.Store_A x.Store_c KVersion.cells tr x.Store S w
 f_Open : RowC x.Open_A x.Open_c KTxL.cells KTxL.ok x.Open S w
theorem KLeaderL.mv : Mv KLeaderL.ok := fun _ _ _ _ _ h hS hA => ⟨h.f_Store.to tr_mv hS hA, h.f_Open.to KTxL.mv hS hA⟩
theorem KLeaderL.one (l : List KLeaderL) : ∀ u ∈ l.flatMap KLeaderL.cells, u.oneCell' = true := by
 intro u hu; obtain ⟨x, _, hx⟩ := List.mem_flatMap.1 hu; simp only [KLeaderL.cells, List.mem_cons, List.not_mem_nil, or_false] at hx; rcases hx with rfl | rfl | rfl <;> rfl
structure KSuint8L where
 A : Option Addr
 c : Nat
 l : List Int
def KSuint8L.p (x : KSuint8L) : List Int := x.l
def KSuint8L.cells (x : KSuint8L) : List Value := [.slice x.A x.l.length x.c]
structure KSuint8L.ok (x : KSuint8L) (S : Nat → Prop) (w : World) : Prop where
 f_l : RowC x.A x.c c_u8 tr x.l S w
theorem KSuint8L.mv : Mv KSuint8L.ok := fun _ _ _ _ _ h hS hA => ⟨h.f_l.to tr_mv hS hA⟩
theorem KSuint8L.one (l : List KSuint8L) : ∀ u ∈ l.flatMap KSuint8L.cells, u.oneCell' = true := by
 intro u hu; obtain ⟨x, _, hx⟩ := List.mem_flatMap.1 hu; simp only [KSuint8L.cells, List.mem_cons, List.not_mem_nil, or_false] at hx; subst hx; rfl
structure K8_uint8 where
 f0 : Int
 f1 : Int
 f2 : Int
 f3 : Int
 f4 : Int
 f5 : Int
 f6 : Int
 f7 : Int
 deriving DecidableEq
def K8_uint8.cells (x : K8_uint8) : List Go.Value := [Y x.f0, Y x.f1, Y x.f2, Y x.f3, Y x.f4, Y x.f5, Y x.f6, Y x.f7]
theorem K8_uint8.one (l : List K8_uint8) : ∀ u ∈ l.flatMap K8_uint8.cells, u.oneCell' = true := by
 intro u hu; obtain ⟨x, _, hx⟩ := List.mem_flatMap.1 hu; simp only [K8_uint8.cells, List.mem_cons, List.not_mem_nil, or_false] at hx; rcases hx with rfl | rfl | rfl | rfl | rfl | rfl | rfl | rfl <;> rfl
structure KSintL where
 A : Option Addr
 c : Nat
 l : List Int
def KSintL.p (x : KSintL) : List Int := x.l
def KSintL.cells (x : KSintL) : List Value := [.slice x.A x.l.length x.c]
structure KSintL.ok (x : KSintL) (S : Nat → Prop) (w : World) : Prop where
 f_l : RowC x.A x.c c_i64 tr x.l S w
theorem KSintL.mv : Mv KSintL.ok := fun _ _ _ _ _ h hS hA => ⟨h.f_l.to tr_mv hS hA⟩
theorem KSintL.one (l : List KSintL) : ∀ u ∈ l.flatMap KSintL.cells, u.oneCell' = true := by
 intro u hu; obtain ⟨x, _, hx⟩ := List.mem_flatMap.1 hu; simp only [KSintL.cells, List.mem_cons, List.not_mem_nil, or_false] at hx; subst hx; rfl
structure KS__intL where
 A : Option Addr
 c : Nat
 l : List KSintL
def KS__intL.p (x : KS__intL) : List (List Int) := (x.l.map KSintL.p)
def KS__intL.cells (x : KS__intL) : List Value := [.slice x.A x.l.length x.c]
structure KS__intL.ok (x : KS__intL) (S : Nat → Prop) (w : World) : Prop where
 f_l : RowC x.A x.c KSintL.cells KSintL.ok x.l S w
theorem KS__intL.mv : Mv KS__intL.ok := fun _ _ _ _ _ h hS hA => ⟨h.f_l.to KSintL.mv hS hA⟩
theorem KS__intL.one (l : List KS__intL) : ∀ u ∈ l.flatMap KS__intL.cells, u.oneCell' = true := by
 intro u hu; obtain ⟨x, _, hx⟩ := List.mem_flatMap.1 hu; simp only [KS__intL.cells, List.mem_cons, List.not_mem_nil, or_false] at hx; subst hx; rfl
structure Kcommit_work where
 Tx : KTx
 deriving DecidableEq
structure Kcommit_workL where
 Tx : KTxL
def Kcommit_workL.p (x : Kcommit_workL) : Kcommit_work := ⟨x.Tx.p⟩
def Kcommit_workL.cells (x : Kcommit_workL) : List Go.Value := [I x.Tx.ID, I x.Tx.Ts, .slice x.Tx.Reads_A x.Tx.Reads.length x.Tx.Reads_c, .slice x.Tx.Writes_A x.Tx.Writes.length x.Tx.Writes_c]
structure Kcommit_workL.ok (x : Kcommit_workL) (S : Nat → Prop) (w : World) : Prop where
 b_Tx : KTxL.ok x.Tx S w
theorem Kcommit_workL.mv : Mv Kcommit_workL.ok := fun _ _ _ _ _ h hS hA => ⟨KTxL.mv _ _ _ _ _ h.b_Tx hS hA⟩
theorem Kcommit_workL.one (l : List Kcommit_workL) : ∀ u ∈ l.flatMap Kcommit_workL.cells, u.oneCell' = true := by
 intro u hu; obtain ⟨x, _, hx⟩ := List.mem_flatMap.1 hu; simp only [Kcommit_workL.cells, List.mem_cons, List.not_mem_nil, or_false] at hx; rcases hx with rfl | rfl | rfl | rfl <;> rfl
structure KSapi_TxL where
 A : Option Addr
 c : Nat
 l : List KTxL
def KSapi_TxL.p (x : KSapi_TxL) : List KTx := (x.l.map KTxL.p)
def KSapi_TxL.cells (x : KSapi_TxL) : List Value := [.slice x.A x.l.length x.c]
structure KSapi_TxL.ok (x : KSapi_TxL) (S : Nat → Prop) (w : World) : Prop where
 f_l : RowC x.A x.c KTxL.cells KTxL.ok x.l S w
theorem KSapi_TxL.mv : Mv KSapi_TxL.ok := fun _ _ _ _ _ h hS hA => ⟨h.f_l.to KTxL.mv hS hA⟩
theorem KSapi_TxL.one (l : List KSapi_TxL) : ∀ u ∈ l.flatMap KSapi_TxL.cells, u.oneCell' = true := by
 intro u hu; obtain ⟨x, _, hx⟩ := List.mem_flatMap.1 hu; simp only [KSapi_TxL.cells, List.mem_cons, List.not_mem_nil, or_false] at hx; subst hx; rfl
structure KSapi_VersionL where
 A : Option Addr
 c : Nat
 l : List KVersion
def KSapi_VersionL.p (x : KSapi_VersionL) : List KVersion := x.l
def KSapi_VersionL.cells (x : KSapi_VersionL) : List Value := [.slice x.A x.l.length x.c]
structure KSapi_VersionL.ok (x : KSapi_VersionL) (S : Nat → Prop) (w : World) : Prop where
 f_l : RowC x.A x.c KVersion.cells tr x.l S w
theorem KSapi_VersionL.mv : Mv KSapi_VersionL.ok := fun _ _ _ _ _ h hS hA => ⟨h.f_l.to tr_mv hS hA⟩
theorem KSapi_VersionL.one (l : List KSapi_VersionL) : ∀ u ∈ l.flatMap KSapi_VersionL.cells, u.oneCell' = true := by
 intro u hu; obtain ⟨x, _, hx⟩ := List.mem_flatMap.1 hu; simp only [KSapi_VersionL.cells, List.mem_cons, List.not_mem_nil, or_false] at hx; subst hx; rfl
structure KInterval where
 Lo : Int
 Hi : Int
 deriving DecidableEq
def KInterval.cells (x : KInterval) : List Go.Value := [I x.Lo, I x.Hi]
theorem KInterval.one (l : List KInterval) : ∀ u ∈ l.flatMap KInterval.cells, u.oneCell' = true := by
 intro u hu; obtain ⟨x, _, hx⟩ := List.mem_flatMap.1 hu; simp only [KInterval.cells, List.mem_cons, List.not_mem_nil, or_false] at hx; rcases hx with rfl | rfl <;> rfl
def KTxL.z : KTxL := ⟨0, 0, none, 0, [], none, 0, []⟩
def KVersion.z : KVersion := ⟨0, 0, 0, false⟩
theorem eql_KVersion (x y : KVersion) (w : World) : (binOp .eql 61 (.agg #[I x.Key, I x.Ts, I x.Value, B x.Gone]) (.agg #[I y.Key, I y.Ts, I y.Value, B y.Gone])).run Try.prog w = .ok (.bool (decide (x = y))) w := by
 have u0 := Try.underlying3; have u1 := Try.underlying4; rw [run_eql_struct, show (10000 : Nat) = 9999 + 1 from rfl, run_equalIn_agg w 9999 61 _ _ (by kernel_rfl) (by kernel_rfl)]; have he : ∀ x y : KVersion, x = y ↔ x.Key = y.Key ∧ x.Ts = y.Ts ∧ x.Value = y.Value ∧ x.Gone = y.Gone := fun x y => ⟨fun h => by subst h; simp, fun h => by obtain ⟨x_0, x_1, x_2, x_3⟩ := x; obtain ⟨y_0, y_1, y_2, y_3⟩ := y; dsimp only at h; (obtain ⟨rfl, rfl, rfl, rfl⟩ := h); rfl⟩
 rw [show decide (x = y) = decide (x.Key = y.Key ∧ x.Ts = y.Ts ∧ x.Value = y.Value ∧ x.Gone = y.Gone) from decide_eq_decide.2 (he x y)]; simp only [Program.fieldsOf, Try.underlying61]
 go_simp
 by_cases h0 : x.Key = y.Key <;> by_cases h1 : x.Ts = y.Ts <;> by_cases h2 : x.Value = y.Value <;> by_cases h3 : x.Gone = y.Gone <;> simp [*]
theorem neq_KVersion (x y : KVersion) (w : World) : (binOp .neq 61 (.agg #[I x.Key, I x.Ts, I x.Value, B x.Gone]) (.agg #[I y.Key, I y.Ts, I y.Value, B y.Gone])).run Try.prog w = .ok (.bool (!decide (x = y))) w := by
 have u0 := Try.underlying3; have u1 := Try.underlying4; rw [run_neq_struct, show (10000 : Nat) = 9999 + 1 from rfl, run_equalIn_agg w 9999 61 _ _ (by kernel_rfl) (by kernel_rfl)]; have he : ∀ x y : KVersion, x = y ↔ x.Key = y.Key ∧ x.Ts = y.Ts ∧ x.Value = y.Value ∧ x.Gone = y.Gone := fun x y => ⟨fun h => by subst h; simp, fun h => by obtain ⟨x_0, x_1, x_2, x_3⟩ := x; obtain ⟨y_0, y_1, y_2, y_3⟩ := y; dsimp only at h; (obtain ⟨rfl, rfl, rfl, rfl⟩ := h); rfl⟩
 rw [show decide (x = y) = decide (x.Key = y.Key ∧ x.Ts = y.Ts ∧ x.Value = y.Value ∧ x.Gone = y.Gone) from decide_eq_decide.2 (he x y)]; simp only [Program.fieldsOf, Try.underlying61]
 go_simp
 by_cases h0 : x.Key = y.Key <;> by_cases h1 : x.Ts = y.Ts <;> by_cases h2 : x.Value = y.Value <;> by_cases h3 : x.Gone = y.Gone <;> simp [*]
theorem neq_KSeen (x y : KSeen) (w : World) : (binOp .neq 95 (.agg #[I x.Key, I x.Ts]) (.agg #[I y.Key, I y.Ts])).run Try.prog w = .ok (.bool (!decide (x = y))) w := by
 have u0 := Try.underlying3; rw [run_neq_struct, show (10000 : Nat) = 9999 + 1 from rfl, run_equalIn_agg w 9999 95 _ _ (by kernel_rfl) (by kernel_rfl)]; have he : ∀ x y : KSeen, x = y ↔ x.Key = y.Key ∧ x.Ts = y.Ts := fun x y => ⟨fun h => by subst h; simp, fun h => by obtain ⟨x_0, x_1⟩ := x; obtain ⟨y_0, y_1⟩ := y; dsimp only at h; (obtain ⟨rfl, rfl⟩ := h); rfl⟩
 rw [show decide (x = y) = decide (x.Key = y.Key ∧ x.Ts = y.Ts) from decide_eq_decide.2 (he x y)]; simp only [Program.fieldsOf, Try.underlying95]
 go_simp
 by_cases h0 : x.Key = y.Key <;> by_cases h1 : x.Ts = y.Ts <;> simp [*]
theorem neq_KWrite (x y : KWrite) (w : World) : (binOp .neq 66 (.agg #[I x.Key, I x.Value, B x.Gone]) (.agg #[I y.Key, I y.Value, B y.Gone])).run Try.prog w = .ok (.bool (!decide (x = y))) w := by
 have u0 := Try.underlying3; have u1 := Try.underlying4; rw [run_neq_struct, show (10000 : Nat) = 9999 + 1 from rfl, run_equalIn_agg w 9999 66 _ _ (by kernel_rfl) (by kernel_rfl)]; have he : ∀ x y : KWrite, x = y ↔ x.Key = y.Key ∧ x.Value = y.Value ∧ x.Gone = y.Gone := fun x y => ⟨fun h => by subst h; simp, fun h => by obtain ⟨x_0, x_1, x_2⟩ := x; obtain ⟨y_0, y_1, y_2⟩ := y; dsimp only at h; (obtain ⟨rfl, rfl, rfl⟩ := h); rfl⟩
 rw [show decide (x = y) = decide (x.Key = y.Key ∧ x.Value = y.Value ∧ x.Gone = y.Gone) from decide_eq_decide.2 (he x y)]; simp only [Program.fieldsOf, Try.underlying66]
 go_simp
 by_cases h0 : x.Key = y.Key <;> by_cases h1 : x.Value = y.Value <;> by_cases h2 : x.Gone = y.Gone <;> simp [*]
theorem inf30 : Inf Try.prog 30 26 4 64 (.agg #[I 0, I 0, .slice none 0 0, .slice none 0 0]) := ⟨Try.underlying30, by kernel_rfl⟩
theorem inf22 : Inf Try.prog 22 5 1 1 (Y 0) := ⟨Try.underlying22, by kernel_rfl⟩
theorem inf45 : Inf Try.prog 45 3 1 8 (I 0) := ⟨Try.underlying45, by kernel_rfl⟩
theorem inf71 : Inf Try.prog 71 45 1 24 (.slice none 0 0) := ⟨Try.underlying71, by kernel_rfl⟩
theorem inf23 : Inf Try.prog 23 95 2 16 (.agg #[I 0, I 0]) := ⟨Try.underlying23, by kernel_rfl⟩
theorem inf24 : Inf Try.prog 24 66 3 24 (.agg #[I 0, I 0, B false]) := ⟨Try.underlying24, by kernel_rfl⟩
theorem inf38 : Inf Try.prog 38 61 4 32 (.agg #[I 0, I 0, I 0, B false]) := ⟨Try.underlying38, by kernel_rfl⟩
theorem inf109 : Inf Try.prog 109 22 1 24 (.slice none 0 0) := ⟨Try.underlying109, by kernel_rfl⟩
theorem inf57 : Inf Try.prog 57 59 1 4 (.int .u32 0) := ⟨Try.underlying57, by kernel_rfl⟩
end Go.Proofs.Ytlfkgbideknkhaa
namespace Go.Proofs.Ytlfkgbideknkhaa
open Go.RowKit
structure Ver where
 key : Int
 ts : Int
 value : Int
 gone : Bool
 deriving DecidableEq
def Ver.cells (v : Ver) : List Value := [.int .i64 v.key, .int .i64 v.ts, .int .i64 v.value, .bool v.gone]
def Ver.val (v : Ver) : Value := .agg #[.int .i64 v.key, .int .i64 v.ts, .int .i64 v.value, .bool v.gone]
def Ver.zero : Ver := ⟨0, 0, 0, false⟩
def VS (w : World) (A : Option Addr) (l : List Ver) : Prop := Rd w A (l.flatMap Ver.cells)
theorem flat_get {α : Type} (f : α → List Value) (m : Nat) (hm : ∀ x, (f x).length = m) : ∀ (l : List α) (k j : Nat) (hk : k < l.length), j < m → (l.flatMap f)[k * m + j]? = (f l[k])[j]?
 | [], k, j, hk, _ => absurd hk (Nat.not_lt_zero _)
 | x :: l, 0, j, _, hj => by
  rw [List.flatMap_cons, Nat.zero_mul, Nat.zero_add, List.getElem?_append_left (by rw [hm]; exact hj)]; rfl
 | x :: l, k + 1, j, hk, hj => by
  rw [List.flatMap_cons, List.getElem?_append_right (by rw [hm, Nat.add_mul]; omega), hm]; have := flat_get f m hm l k j (by simpa using hk) hj; rw [← show (k + 1) * m + j - m = k * m + j from by rw [Nat.add_mul]; omega] at this; exact this
theorem flat_len {α : Type} (f : α → List Value) (m : Nat) (hm : ∀ x, (f x).length = m) (l : List α) : (l.flatMap f).length = l.length * m := by
 induction l with
 | nil => simp
 | cons x l ih => rw [List.flatMap_cons, List.length_append, ih, hm, List.length_cons, Nat.add_mul]; omega
theorem VS.below {w w' : World} {A : Option Addr} {l : List Ver} {B : Nat} (h : VS w A l) (hb : Below B w w') (hB : w.heap.size ≤ B) : VS w' A l := Rd.below h hb hB
theorem VS.alloc {w : World} {A : Option Addr} {l : List Ver} (h : VS w A l) (o : Obj) : VS (w.alloc o) A l := h.below ((Below.refl _ _).alloc (Nat.le_refl _) _) (Nat.le_refl _)
theorem VS.drew {w : World} {A : Option Addr} {l : List Ver} (h : VS w A l) : VS w.drew A l := h.below (Below.refl _ _).drew (Nat.le_refl _)
def VAt (w : World) (b o : Nat) (v : Ver) : Prop :=
 w.cell? ⟨b, o, none⟩ = some (.int .i64 v.key) ∧ w.cell? ⟨b, o + 1, none⟩ = some (.int .i64 v.ts) ∧ w.cell? ⟨b, o + 2, none⟩ = some (.int .i64 v.value) ∧ w.cell? ⟨b, o + 3, none⟩ = some (.bool v.gone)
theorem VAt.lt {w : World} {b o : Nat} {v : Ver} (h : VAt w b o v) : b < w.heap.size := by
 rcases Nat.lt_or_ge b w.heap.size with hlt | hge
 ·exact hlt
 ·have := h.1; unfold World.cell? at this
  simp [Array.getElem?_eq_none hge] at this
theorem VAt.below {w w' : World} {b o B : Nat} {v : Ver} (h : VAt w b o v) (hb : Below B w w') (hB : b < B) : VAt w' b o v :=
 ⟨(hb.cell (p := ⟨b, o, none⟩) hB).trans h.1, (hb.cell (p := ⟨b, o + 1, none⟩) hB).trans h.2.1, (hb.cell (p := ⟨b, o + 2, none⟩) hB).trans h.2.2.1, (hb.cell (p := ⟨b, o + 3, none⟩) hB).trans h.2.2.2⟩
theorem VAt.fut {w : World} {b o B : Nat} {v : Ver} (h : VAt w b o v) (hB : b < B) (x : Fut B w) : VAt x.v b o v := h.below x.h hB
theorem keepV {W w' : World} {r : Nat} {v : Ver} (hq : Below W.heap.size W w') (hr : r < W.heap.size) (n : VAt W r 0 v) : Below W.heap.size W w' ∧
  w'.cell? ⟨r, 0, none⟩ = some (.int .i64 v.key) ∧ w'.cell? ⟨r, 1, none⟩ = some (.int .i64 v.ts) ∧ w'.cell? ⟨r, 2, none⟩ = some (.int .i64 v.value) ∧ w'.cell? ⟨r, 3, none⟩ = some (.bool v.gone) :=
 ⟨hq, (n.below hq hr).1, (n.below hq hr).2.1, (n.below hq hr).2.2.1, (n.below hq hr).2.2.2⟩
theorem VAt.new {w W : World} {v : Ver} {t : TypeId} (hW : w.alloc (.cells #[.int .i64 v.key, .int .i64 v.ts, .int .i64 v.value, .bool v.gone] t) = W) : VAt W w.heap.size 0 v := by
 subst hW; refine ⟨?_, ?_, ?_, ?_⟩ <;> (rw [cell_at _ _ _ _ _ rfl]; rfl)
theorem VS.at_ {w : World} {A : Option Addr} {l : List Ver} (h : VS w A l) {k : Nat} (hk : k < l.length) : ∃ b o, A = some ⟨b, o, none⟩ ∧ b < w.heap.size ∧
  ∀ i (hi : i < l.length), VAt w b (o + i * 4) l[i] := by
 have hl : l.flatMap Ver.cells ≠ [] := by
  intro e; have := flat_len Ver.cells 4 (fun _ => rfl) l; rw [e] at this; simp only [List.length_nil] at this; omega
 obtain ⟨b, o, rfl, hb, hc⟩ := h hl; refine ⟨b, o, rfl, hb, fun i hi => ?_⟩; have hg := fun j hj => flat_get Ver.cells 4 (fun _ => rfl) l i j hi hj
 refine ⟨?_, ?_, ?_, ?_⟩
 ·have := hc (i * 4 + 0) _ (by rw [hg 0 (by omega)]; rfl); simpa using this
 ·have := hc (i * 4 + 1) _ (by rw [hg 1 (by omega)]; rfl); simpa [Nat.add_assoc] using this
 ·have := hc (i * 4 + 2) _ (by rw [hg 2 (by omega)]; rfl); simpa [Nat.add_assoc] using this
 ·have := hc (i * 4 + 3) _ (by rw [hg 3 (by omega)]; rfl); simpa [Nat.add_assoc] using this
theorem VS.shift {w : World} {b o i : Nat} {l : List Ver} (h : VS w (some ⟨b, o, none⟩) l) (hi : i ≤ l.length) : VS w (some ⟨b, o + i * 4, none⟩) (l.drop i) := by
 have e : l.flatMap Ver.cells = (l.take i).flatMap Ver.cells ++ (l.drop i).flatMap Ver.cells := by rw [← List.flatMap_append, List.take_append_drop]
 have hl : ((l.take i).flatMap Ver.cells).length = i * 4 := by rw [flat_len Ver.cells 4 (fun _ => rfl), List.length_take, Nat.min_eq_left hi]
 unfold VS at h ⊢; rw [e] at h; have := Rd.shift h; rw [hl] at this; exact this
theorem VS.pre {w : World} {A : Option Addr} {i : Nat} {l : List Ver} (h : VS w A l) : VS w A (l.take i) := Rd.take h (take_flat Ver.cells l i)
def wfB (v : Ver) : Bool := decide (1 ≤ v.key) && decide (v.key ≤ 1000) && (decide (1 ≤ v.ts) && decide (v.ts ≤ 3000000000000000)) && (decide (0 ≤ v.value) && decide (v.value ≤ 1000000)) && (!v.gone || v.value == 0)
end Go.Proofs.Ytlfkgbideknkhaa
namespace Go.Proofs.Ytlfkgbideknkhaa
def cmpI (a b : Int) : Int := if a < b then -1 else if b < a then 1 else 0
def orL : List Int → Int
 | [] => 0
 | x :: l => if x = 0 then orL l else x
def ordI (k t k' t' : Int) : Int := orL [cmpI k k', cmpI t t']
def ordV (a b : Ver) : Int := ordI a.key a.ts b.key b.ts
theorem ordI_eq (k t k' t' : Int) : ordI k t k' t' = if k < k' then -1 else if k' < k then 1 else if t < t' then -1 else if t' < t then 1 else 0 := by
 unfold ordI orL cmpI
 by_cases h1 : k < k'
 ·simp [h1]
 ·by_cases h2 : k' < k
  ·simp [h1, h2]
  ·by_cases h3 : t < t'
   ·simp [h1, h2, h3, orL]
   ·by_cases h4 : t' < t <;> simp [h1, h2, h3, h4, orL]
theorem ordI_lt {k t k' t' : Int} : ordI k t k' t' < 0 ↔ k < k' ∨ k = k' ∧ t < t' := by
 rw [ordI_eq]; constructor
 ·intro h; (repeat' split at h) <;> omega
 ·intro h; (repeat' split) <;> omega
theorem ordI_le {k t k' t' : Int} : ordI k t k' t' ≤ 0 ↔ k < k' ∨ k = k' ∧ t ≤ t' := by
 rw [ordI_eq]; constructor
 ·intro h; (repeat' split at h) <;> omega
 ·intro h; (repeat' split) <;> omega
theorem ordI_gt {k t k' t' : Int} : 0 < ordI k t k' t' ↔ k' < k ∨ k = k' ∧ t' < t := by
 rw [ordI_eq]; constructor
 ·intro h; (repeat' split at h) <;> omega
 ·intro h; (repeat' split) <;> omega
def okAt (l : List Ver) (k : Nat) : Bool := wfB (l.getD k Ver.zero) && (k == 0 || decide (ordV (l.getD (k - 1) Ver.zero) (l.getD k Ver.zero) < 0))
theorem okAt_eq {l : List Ver} {k : Nat} (hk : k < l.length) : okAt l k = (wfB l[k] && (k == 0 || decide (ordV (l[k - 1]'(by omega)) l[k] < 0))) := by
 unfold okAt; rw [List.getD_eq_getElem?_getD, List.getD_eq_getElem?_getD, List.getElem?_eq_getElem hk, List.getElem?_eq_getElem (show k - 1 < l.length by omega)]; rfl
def validB (l : List Ver) : Bool := (List.range l.length).all (okAt l) && decide (l.length ≤ 4000)
theorem validB_no {l : List Ver} {k : Nat} (hk : k < l.length) (h : okAt l k = false) : validB l = false := by
 unfold validB; rw [Bool.and_eq_false_iff]; refine .inl ?_; rw [List.all_eq_false]; exact ⟨k, List.mem_range.2 hk, by simp [h]⟩
theorem validB_all {l : List Ver} (h : ∀ j, j < l.length → okAt l j = true) : validB l = decide (l.length ≤ 4000) := by
 unfold validB; rw [List.all_eq_true.2 (fun j hj => h j (List.mem_range.1 hj)), Bool.true_and]
def ltV (a b : Ver) : Prop := a.key < b.key ∨ a.key = b.key ∧ a.ts < b.ts
structure Sto (l : List Ver) : Prop where
 wf : ∀ v ∈ l, wfB v = true
 up : l.Pairwise ltV
 len : l.length ≤ 4000
theorem ltV_trans {a b c : Ver} (h : ltV a b) (h' : ltV b c) : ltV a c := by unfold ltV at *; omega
theorem pairwise_of_next {l : List Ver} (h : ∀ k (hk : k + 1 < l.length), ltV (l[k]'(by omega)) l[k + 1]) : l.Pairwise ltV := by
 induction l with
 | nil => exact .nil
 | cons x l ih =>
  refine .cons ?_ (ih fun k hk => by have := h (k + 1) (by simp only [List.length_cons]; omega); simpa only [List.getElem_cons_succ] using this); intro y hy; obtain ⟨j, hj, rfl⟩ := List.getElem_of_mem hy
  induction j with
  | zero => simpa using h 0 (by simpa using hj)
  | succ j ihj =>
   have h1 := h (j + 1) (by simpa using hj); simp only [List.getElem_cons_succ] at h1; exact ltV_trans (ihj (by omega) (List.getElem_mem _)) h1
theorem sto_iff (l : List Ver) : validB l = true ↔ Sto l := by
 constructor
 ·intro h; unfold validB at h; rw [Bool.and_eq_true, List.all_eq_true, decide_eq_true_eq] at h; refine ⟨fun v hv => ?_, pairwise_of_next fun k hk => ?_, h.2⟩
  ·obtain ⟨k, hk, rfl⟩ := List.getElem_of_mem hv; have := h.1 k (List.mem_range.2 hk); rw [okAt_eq hk, Bool.and_eq_true] at this; exact this.1
  ·have := h.1 (k + 1) (List.mem_range.2 hk); rw [okAt_eq hk, Bool.and_eq_true] at this; have h2 := this.2; simp only [Nat.add_sub_cancel, Bool.or_eq_true, decide_eq_true_eq, beq_iff_eq] at h2; rcases h2 with h2 | h2
   ·omega
   ·exact ordI_lt.1 h2
 ·intro h; rw [validB_all (fun j hj => ?_), decide_eq_true_eq]
  ·exact h.len
  ·rw [okAt_eq hj, h.wf _ (List.getElem_mem _), Bool.true_and]; cases j with
   | zero => rfl
   | succ j =>
    have := List.pairwise_iff_getElem.1 h.up j (j + 1) (by omega) hj (by omega); simp only [Nat.add_sub_cancel, Bool.or_eq_true, decide_eq_true_eq]; exact .inr (ordI_lt.2 this)
structure UpTo (l : List Ver) (k t : Int) (N : Nat) : Prop where
 le : N ≤ l.length
 lo : ∀ j (hj : j < l.length), j < N → ordI l[j].key l[j].ts k t ≤ 0
 lt : ∀ j (hj : j < l.length), j + 1 < N → ordI l[j].key l[j].ts k t < 0
 hi : ∀ j (hj : j < l.length), N ≤ j → 0 < ordI l[j].key l[j].ts k t
def upN (l : List Ver) (k t : Int) : Nat := (l.takeWhile (fun v => decide (ordI v.key v.ts k t ≤ 0))).length
theorem takeWhile_at {α : Type} (p : α → Bool) : ∀ (l : List α) (j : Nat) (hj : j < l.length), j < (l.takeWhile p).length → p l[j] = true
 | [], j, hj, _ => absurd hj (Nat.not_lt_zero _)
 | x :: l, j, hj, h => by
  cases hx : p x
  ·simp [hx] at h
  ·cases j with
   | zero => exact hx
   | succ j =>
    rw [List.takeWhile_cons, hx] at h; exact takeWhile_at p l j (by simpa using hj) (by simpa using h)
theorem takeWhile_stop {α : Type} (p : α → Bool) : ∀ (l : List α) (h : (l.takeWhile p).length < l.length), p (l[(l.takeWhile p).length]'h) = false
 | [], h => absurd h (Nat.not_lt_zero _)
 | x :: l, h => by
  cases hx : p x
  ·simp [hx]
  ·have e : (x :: l).takeWhile p = x :: l.takeWhile p := by rw [List.takeWhile_cons, hx]; rfl
   have := takeWhile_stop p l (by rw [e] at h; simpa using h)
   simpa [e] using this
theorem upN_spec {l : List Ver} (h : l.Pairwise ltV) (k t : Int) : UpTo l k t (upN l k t) := by
 have hle : upN l k t ≤ l.length := (List.takeWhile_sublist _).length_le; have hlo : ∀ j (hj : j < l.length), j < upN l k t → ordI l[j].key l[j].ts k t ≤ 0 := fun j hj hjN => of_decide_eq_true (takeWhile_at (fun v : Ver => decide (ordI v.key v.ts k t ≤ 0)) l j hj hjN)
 have hst : ∀ hlt : upN l k t < l.length, 0 < ordI l[upN l k t].key l[upN l k t].ts k t := fun hlt => by
  have := of_decide_eq_false (takeWhile_stop (fun v : Ver => decide (ordI v.key v.ts k t ≤ 0)) l hlt); exact Int.not_le.1 this
 have hup := List.pairwise_iff_getElem.1 h; refine ⟨hle, hlo, fun j hj hjN => ?_, fun j hj hjN => ?_⟩
 ·have h1 := hlo (j + 1) (by omega) (by omega); have h2 := hup j (j + 1) hj (by omega) (by omega); rw [ordI_le] at h1; rw [ordI_lt]; unfold ltV at h2; omega
 ·rcases Nat.eq_or_lt_of_le hjN with rfl | hlt2
  ·exact hst hj
  ·have h2 := hup (upN l k t) j (by omega) hj hlt2; have h3 := hst (by omega); rw [ordI_gt] at h3 ⊢; unfold ltV at h2; omega
def lastN (l : List Ver) (k : Int) (N : Nat) : Ver := if N ≠ 0 ∧ (l.getD (N - 1) Ver.zero).key = k then l.getD (N - 1) Ver.zero else Ver.zero
def lastV (l : List Ver) (k t : Int) : Ver := lastN l k (upN l k t)
def putL (l : List Ver) (v : Ver) : List Ver := l.take (upN l v.key v.ts) ++ v :: l.drop (upN l v.key v.ts)
def putS (l : List Ver) (v : Ver) : List Ver × Int :=
 if !validB l || !wfB v then ([], 1) else if v.ts ≤ (lastV l v.key 3000000000000000).ts then ([], 30) else if l.length = 4000 then ([], 2) else (putL l v, 0)
end Go.Proofs.Ytlfkgbideknkhaa
namespace Go.Proofs.Ytlfkgbideknkhaa
open Go.RowKit
theorem fieldV0 (a b c : Int) (d : Bool) (w : World) : (Instr.field 61 (.agg #[.int .i64 a, .int .i64 b, .int .i64 c, .bool d]) 0).run Try.prog w = .ok (.int .i64 a) w := by kernel_rfl
theorem fieldV1 (a b c : Int) (d : Bool) (w : World) : (Instr.field 61 (.agg #[.int .i64 a, .int .i64 b, .int .i64 c, .bool d]) 1).run Try.prog w = .ok (.int .i64 b) w := by kernel_rfl
theorem fieldV2 (a b c : Int) (d : Bool) (w : World) : (Instr.field 61 (.agg #[.int .i64 a, .int .i64 b, .int .i64 c, .bool d]) 2).run Try.prog w = .ok (.int .i64 c) w := by kernel_rfl
theorem fieldV3 (a b c : Int) (d : Bool) (w : World) : (Instr.field 61 (.agg #[.int .i64 a, .int .i64 b, .int .i64 c, .bool d]) 3).run Try.prog w = .ok (.bool d) w := by kernel_rfl
attribute [go_sem] fieldV0 fieldV1 fieldV2 fieldV3
theorem within_any (a b c : Int) (w : World) :
  Calls Try.prog 79 #[.int .i64 a, .int .i64 b, .int .i64 c] w fun e w' => e = .returned (.bool (decide (b ≤ a) && decide (a ≤ c))) ∧ w = w' := by
 go_enter Try.func79, Try.ntmps79
 go_wp2
 all_goals go_ret
 all_goals exact ⟨by first | (simp_all; done) | (simp_all; omega), rfl⟩
theorem isKey_any (a : Int) (w : World) :
  Calls Try.prog 56 #[.int .i64 a] w fun e w' => e = .returned (.bool (decide (1 ≤ a) && decide (a ≤ 1000))) ∧ w = w' := by
 go_enter Try.func56, Try.ntmps56
 go_wp2_with (go_at_call 79; refine (within_any _ _ _ _).mono ?_; rintro e w' ⟨rfl, rfl⟩)
 go_ret
 exact ⟨rfl, rfl⟩
theorem isStamp_any (a : Int) (w : World) :
  Calls Try.prog 57 #[.int .i64 a] w fun e w' => e = .returned (.bool (decide (1 ≤ a) && decide (a ≤ 3000000000000000))) ∧ w = w' := by
 go_enter Try.func57, Try.ntmps57
 go_wp2_with (go_at_call 79; refine (within_any _ _ _ _).mono ?_; rintro e w' ⟨rfl, rfl⟩)
 go_ret
 exact ⟨rfl, rfl⟩
theorem wf_any (k t v : Int) (g : Bool) (w : World) :
  Calls Try.prog 68 #[.agg #[.int .i64 k, .int .i64 t, .int .i64 v, .bool g]] w fun e w' => e = .returned (.bool (wfB ⟨k, t, v, g⟩)) ∧ Below w.heap.size w w' := by
 go_enter Try.func68, Try.ntmps68
 go_wp2_with (first | (go_at_call 56; refine (isKey_any _ _).mono ?_; rintro e w' ⟨rfl, rfl⟩) | (go_at_call 57; refine (isStamp_any _ _).mono ?_; rintro e w' ⟨rfl, rfl⟩) | (go_at_call 79; refine (within_any _ _ _ _).mono ?_; rintro e w' ⟨rfl, rfl⟩))
 all_goals go_ret
 all_goals exact ⟨by first | (simp_all [wfB]; done) | (simp_all [wfB]; omega), (Below.refl _ _).alloc (Nat.le_refl _) _⟩
theorem isNaN_any (a : Int) (w : World) :
  Calls Try.prog 110 #[.int .i64 a] w fun e w' => e = .returned (.bool false) ∧ w = w' := by
 go_enter Try.func110, Try.ntmps110
 go_wp2
 go_ret
 exact ⟨by simp, rfl⟩
theorem cmp_any (a b : Int) (w : World) :
  Calls Try.prog 100 #[.int .i64 a, .int .i64 b] w fun e w' => e = .returned (.int .i64 (cmpI a b)) ∧ w = w' := by
 go_enter Try.func100, Try.ntmps100
 go_wp2_with (go_at_call 110; refine (isNaN_any _ _).mono ?_; rintro e w' ⟨rfl, rfl⟩)
 all_goals go_ret
 all_goals refine ⟨?_, rfl⟩
 all_goals unfold cmpI
 all_goals (repeat (first | rfl | (rw [if_pos (by omega)]) | (rw [if_neg (by omega)])))
theorem orL_drop (l : List Int) : ∀ k, k ≤ l.length → (∀ i, i < k → l.getD i 0 = 0) → orL l = orL (l.drop k) := by
 induction l with
 | nil => intro k _ _; simp
 | cons x l ih =>
  intro k hk h; cases k with
  | zero => rfl
  | succ k =>
   have h0 : x = 0 := by simpa using h 0 (by omega)
   rw [orL, if_pos h0, List.drop_succ_cons]; exact ih k (by simpa using hk) (fun i hi => by simpa using h (i + 1) (by omega))
theorem or_any (A : Option Addr) (c : Nat) (l : List Int) (w : World) (hm : l.length ≤ 9223372036854775807) (h : Rd w A (l.map (Value.int .i64))) :
    Calls Try.prog 99 #[.slice A l.length c] w fun e w' => e = .returned (.int .i64 (orL l)) ∧ w = w' := by
  go_enter Try.func99, Try.ntmps99
  go_wp2
  go_loop [8] (fun i => ∃ k : Nat, k ≤ l.length ∧ i = .int .i64 k ∧ ∀ j, j < k → l.getD j 0 = 0) (fun i => l.length - (intOf i).toNat)
  case atStart => exact ⟨0, Nat.zero_le _, rfl, fun j hj => by omega⟩
  case round =>
    obtain ⟨k, hk, rfl, hz⟩ := hrel
    by_cases hlt : k < l.length
    · have hx : (l.map (Value.int .i64))[k]? = some (.int .i64 l[k]) := by simp [hlt]
      obtain ⟨b, o, rfl, hb, hc⟩ := h (by intro e; simp at e; subst e; simp at hlt)
      have hc0 := hc k _ hx
      have HZ := hide hz
      clear hz hx hc h
      go_wp2
      · go_ret
        have hne : l[k] ≠ 0 := by have : (l[k] != 0) = true := by assumption
                                  simpa using this
        refine ⟨?_, rfl⟩
        show Ending.returned (.int .i64 l[k]) = _
        rw [orL_drop l k hk HZ.out, List.drop_eq_getElem_cons hlt, orL, if_neg hne]
      · go_round
        case rel =>
          have h0 : l[k] = 0 := by have : (l[k] != 0) = false := by assumption
                                   simpa using this
          refine ⟨k + 1, by omega, by go_num, fun j hj => ?_⟩
          by_cases hjk : j = k
          · subst hjk; simp [h0, hlt]
          · exact HZ.out j (by omega)
        case measure => simp [intOf]; omega
    · go_wp2
      go_ret
      refine ⟨?_, rfl⟩
      show Ending.returned (.int .i64 0) = _
      rw [orL_drop l l.length (Nat.le_refl _) (fun i hi => hz i (by omega)), List.drop_length, orL]
end Go.Proofs.Ytlfkgbideknkhaa
namespace Go.Proofs.Ytlfkgbideknkhaa
open Go.RowKit
set_option maxHeartbeats 1000000 in
theorem order_any (k t v k' t' v' : Int) (g g' : Bool) (w : World) :
  Calls Try.prog 72 #[.agg #[.int .i64 k, .int .i64 t, .int .i64 v, .bool g], .agg #[.int .i64 k', .int .i64 t', .int .i64 v', .bool g']] w
   fun e w' => e = .returned (.int .i64 (ordI k t k' t')) ∧ Below w.heap.size w w' := by
 go_enter Try.func72, Try.ntmps72
 go_wp2_with fail
 go_region_held3 (fun w' => w'.cell? ⟨w.heap.size, 0, none⟩ = some (.int .i64 k) ∧ w'.cell? ⟨w.heap.size, 1, none⟩ = some (.int .i64 t) ∧ w'.cell? ⟨w.heap.size + 1, 0, none⟩ = some (.int .i64 k') ∧ w'.cell? ⟨w.heap.size + 1, 1, none⟩ = some (.int .i64 t')) (go_keep)
  (first | (go_at_call 100; refine (cmp_any _ _ _).mono ?_; rintro e w' ⟨rfl, rfl⟩) | (go_at_call 99; refine (or_any _ _ [cmpI k k', cmpI t t'] _ (by simp) (Rd.two (by simp) (by rw [cell_drew, cell_at _ _ _ _ _ (by simp)]; rfl) (by rw [cell_drew, cell_at _ _ _ _ _ (by simp)]; rfl))).mono ?_; rintro e w' ⟨rfl, rfl⟩))
 all_goals go_wp2
 all_goals go_ret
 all_goals refine ⟨rfl, ?_⟩
 exact (((((Below.refl _ _).alloc (Nat.le_refl _) _).alloc (by simp) _).alloc (by simp; omega) _)).drew
end Go.Proofs.Ytlfkgbideknkhaa
namespace Go.Proofs.Ytlfkgbideknkhaa
open Go.RowKit
set_option maxHeartbeats 1000000 in
theorem valid_any (A : Option Addr) (c : Nat) (l : List Ver) (w : World) (hn : l.length ≤ 9223372036854775807) (h : VS w A l) :
  Calls Try.prog 40 #[.slice A l.length c] w fun e w' => e = .returned (.bool (validB l)) ∧ Below w.heap.size w w' := by
 go_enter Try.func40, Try.ntmps40
 go_wp2
 go_loopw [2, 3, 4, 7] (fun u2 u3 u4 i wr => ∃ k : Nat, k ≤ l.length ∧ i = .int .i64 k ∧ u2 = .bool false ∧ (∀ j, j < k → okAt l j = true) ∧ Below w.heap.size w wr) (fun _ _ _ i _ => l.length - (intOf i).toNat)
 case atStart => exact ⟨0, Nat.zero_le _, rfl, rfl, fun j hj => by omega, Below.refl _ _⟩
 case round =>
  obtain ⟨k, hk, rfl, rfl, hall, hb⟩ := hrel; have HA := hide hall; clear hall
  by_cases hlt : k < l.length
  ·have hr := h.below hb (Nat.le_refl _); obtain ⟨b, o, rfl, hbl, hc⟩ := hr.at_ hlt; have c0 := hc k hlt; have HC := hide hc; unfold VAt at c0; clear hc
   go_wp2_with fail
   generalize hW : World.alloc wr _ = W; have hbW : Below w.heap.size w W := hW ▸ hb.alloc hb.size _; have hbW' : Below wr.heap.size wr W := hW ▸ (Below.refl _ _).alloc (Nat.le_refl _) _; have n0 := (VAt.new (v := l[k]) hW).fut (Nat.lt_succ_self wr.heap.size); have HS := hide (show W.heap.size = wr.heap.size + 1 by rw [← hW]; simp); unfold VAt at n0; clear hW c0; have HO := hide (okAt_eq hlt); have hi1 : (k : Int) < 9223372036854775807 := by omega
   cases hg : wfB l[k]
   ·refine wp_region_fut (wr.heap.size + 1) (by kernel_rfl) (by kernel_rfl) ?_
    repeat (go_big_quiet_step ((first | (go_at_call 68; exact Fut.call (Nat.le_of_eq HS.out.symm) (wf_any _ _ _ _ _)))))
    refine wpQuiet_nil ?_; rintro _ ⟨⟨w1, hb1⟩, rfl⟩
    go_wp2
    go_ret
    exact ⟨by rw [validB_no hlt (by rw [HO.out, hg]; rfl)]; rfl, hbW.trans (hb1.mono (by have := hb.size; omega))⟩
   ·by_cases h0 : k = 0
    ·have d0 : decide (0 < k) = false := by simp; omega
     have HO := hide (show okAt l k = true by rw [HO.out, hg, show (k == 0) = true by simp [h0]]; rfl); have H0 := hide h0; clear h0; refine wp_region_fut (wr.heap.size + 1) (by kernel_rfl) (by kernel_rfl) ?_
     repeat (go_big_quiet_step ((first | (go_at_call 68; exact Fut.call (Nat.le_of_eq HS.out.symm) (wf_any _ _ _ _ _)))))
     refine wpQuiet_nil ?_; rintro _ ⟨⟨w1, hb1⟩, rfl⟩
     go_wp2
     go_roundw
     case rel => exact ⟨k + 1, by omega, by go_num, rfl, fun j hj => (by rcases Nat.lt_succ_iff_lt_or_eq.1 hj with hj | rfl; exact HA.out j hj; exact HO.out), hbW.trans (hb1.mono (by have := hb.size; omega))⟩
     case measure => simp [intOf]; omega
    ·have d0 : decide (0 < k) = true := by simp; omega
     have hlt1 : (k : Int) - 1 < (l.length : Int) := by omega
     have hnn : (0 : Int) ≤ (k : Int) - 1 := by omega
     have m0 := ((HC.out (k - 1) (by omega)).below hbW' hbl).fut (Nat.lt_succ_of_lt hbl); unfold VAt at m0; have hok : okAt l k = decide (ordI l[k - 1].key l[k - 1].ts l[k].key l[k].ts < 0) := by rw [HO.out, hg, show (k == 0) = false by simp [h0]]; rfl
     by_cases ho : ordI l[k - 1].key l[k - 1].ts l[k].key l[k].ts < 0
     all_goals
      have HK := hide hok
      first
       | have h1 : decide (0 ≤ ordI l[k - 1].key l[k - 1].ts l[k].key l[k].ts) = true := decide_eq_true (by omega)
       | have h1 : decide (0 ≤ ordI l[k - 1].key l[k - 1].ts l[k].key l[k].ts) = false := decide_eq_false (by omega)
      have HN := hide ho; clear hok ho; refine wp_region_fut (wr.heap.size + 1) (by kernel_rfl) (by kernel_rfl) ?_
      repeat (go_big_quiet_step ((first | (go_at_call 68; exact Fut.call (Nat.le_of_eq HS.out.symm) (wf_any _ _ _ _ _)) | (go_at_call 72; exact Fut.call (Nat.le_of_eq HS.out.symm) (order_any _ _ _ _ _ _ _ _ _)))))
      refine wpQuiet_nil ?_; rintro _ ⟨⟨w1, hb1⟩, rfl⟩
      go_wp2
     ·go_roundw
      case rel => exact ⟨k + 1, by omega, by go_num, rfl, fun j hj => (by rcases Nat.lt_succ_iff_lt_or_eq.1 hj with hj | rfl; exact HA.out j hj; exact HK.out.trans (decide_eq_true HN.out)), hbW.trans (hb1.mono (by have := hb.size; omega))⟩
      case measure => simp [intOf]; omega
     ·go_ret
      exact ⟨by rw [validB_no hlt (HK.out.trans (decide_eq_false (by have := HN.out; omega)))]; rfl, hbW.trans (hb1.mono (by have := hb.size; omega))⟩
  ·go_wp2
   go_ret
   exact ⟨by rw [validB_all (fun j hj => HA.out j (by omega))]; simp; omega, hb⟩
end Go.Proofs.Ytlfkgbideknkhaa
namespace Go.Proofs.Ytlfkgbideknkhaa
open Go.RowKit
theorem upToF_any (k t v k' t' v' : Int) (g g' : Bool) (w : World) :
  Calls Try.prog 94 #[.agg #[.int .i64 k, .int .i64 t, .int .i64 v, .bool g], .agg #[.int .i64 k', .int .i64 t', .int .i64 v', .bool g']] w
   fun e w' => e = .returned (.int .i64 (ordI k t k' t')) ∧ Below w.heap.size w w' := by
 go_enter Try.func94, Try.ntmps94
 go_wp2_with (go_at_call 72; refine (order_any _ _ _ _ _ _ _ _ _).mono ?_; rintro e w' ⟨rfl, hb⟩)
 go_ret
 exact ⟨rfl, ((Below.refl _ _).alloc (Nat.le_refl _) _ |>.alloc (by simp) _).trans (hb.mono (by simp; omega))⟩
set_option maxHeartbeats 1000000 in
theorem bs_any (A : Option Addr) (c : Nat) (l : List Ver) (k t v : Int) (g : Bool) (m : Nat) (w : World) (hn : l.length ≤ 4611686018427387904) (h : VS w A l)
  (hm : m ≤ l.length) (hlo : ∀ j (hj : j < l.length), j < m → ordI l[j].key l[j].ts k t < 0) (hhi : ∀ j (hj : j < l.length), m ≤ j → 0 ≤ ordI l[j].key l[j].ts k t) :
  Calls Try.prog 93 #[.slice A l.length c, .agg #[.int .i64 k, .int .i64 t, .int .i64 v, .bool g], .func (.func 94) #[] #[]] w
   fun e w' => e = .returned (.tuple #[.int .i64 m, .bool ((l[m]?.map fun v => ordI v.key v.ts k t == 0).getD false)]) ∧ Below w.heap.size w w' := by
 go_enter Try.func93, Try.ntmps93
 go_wp2
 generalize hW : World.alloc w _ = W; have n0 := VAt.new (v := ⟨k, t, v, g⟩) hW; have hbW : Below w.heap.size w W := hW ▸ (Below.refl _ _).alloc (Nat.le_refl _) _; have HS := hide (show W.heap.size = w.heap.size + 1 by rw [← hW]; simp); clear hW
 go_loopw [9, 10, 11] (fun i j _ wr => ∃ a b : Nat, a ≤ m ∧ m ≤ b ∧ b ≤ l.length ∧ i = .int .i64 a ∧ j = .int .i64 b ∧ Below W.heap.size W wr) (fun i j _ _ => (intOf j - intOf i).toNat)
 case atStart => exact ⟨0, l.length, Nat.zero_le _, hm, Nat.le_refl _, rfl, rfl, Below.refl _ _⟩
 case round =>
  obtain ⟨a, b, ha, hb, hbl, rfl, rfl, hbr⟩ := hrel; have hr := (h.below hbW (Nat.le_refl _)).below hbr (Nat.le_refl _); have n1 := (n0.below hbr (by have := HS.out; omega)).fut (B := wr.heap.size) (by have := hbr.size; have := HS.out; omega); unfold VAt at n1; have HL := hide hlo; have HH := hide hhi; clear hlo hhi n0
  by_cases hab : a < b
  ·have hq : (a + b) / 2 < l.length := by omega
   obtain ⟨b', o, rfl, hb', hc⟩ := hr.at_ hq; have c0 := (hc ((a + b) / 2) hq).fut hb'; unfold VAt at c0; have q0 : ((a : Int) + b) / 2 < l.length := by omega
   have q1 : (0 : Int) ≤ ((a : Int) + b) / 2 := by omega
   clear hc
   go_wp2_with fail
   by_cases hcm : (a + b) / 2 < m
   ·have t0 := HL.out ((a + b) / 2) hq hcm; have t1 := decide_eq_true t0; have HM := hide hcm; clear hcm t0; refine wp_region_fut wr.heap.size (by kernel_rfl) (by kernel_rfl) ?_
    repeat (go_big_quiet_step ((go_at_call 94; exact Fut.call (Nat.le_refl _) (upToF_any _ _ _ _ _ _ _ _ _))))
    refine wpQuiet_nil ?_; rintro _ ⟨⟨w1, hb1⟩, rfl⟩
    go_wp2
    go_roundw
    case rel => exact ⟨(a + b) / 2 + 1, b, by have := HM.out; omega, hb, hbl, by go_num, rfl, hbr.trans (hb1.mono (by have := hbr.size; omega))⟩
    case measure => simp [intOf]; omega
   ·have t0 := HH.out ((a + b) / 2) hq (by omega); have t1 : decide (ordI l[(a + b) / 2].key l[(a + b) / 2].ts k t < 0) = false := decide_eq_false (by omega); have HM := hide hcm; clear hcm t0; refine wp_region_fut wr.heap.size (by kernel_rfl) (by kernel_rfl) ?_
    repeat (go_big_quiet_step ((go_at_call 94; exact Fut.call (Nat.le_refl _) (upToF_any _ _ _ _ _ _ _ _ _))))
    refine wpQuiet_nil ?_; rintro _ ⟨⟨w1, hb1⟩, rfl⟩
    go_wp2
    go_roundw
    case rel => exact ⟨a, (a + b) / 2, ha, by have := HM.out; omega, by omega, rfl, by go_num, hbr.trans (hb1.mono (by have := hbr.size; omega))⟩
    case measure => simp [intOf]; omega
  ·obtain rfl : a = m := by omega
   go_wp2_with fail
   by_cases ham : a < l.length
   ·obtain ⟨b', o, rfl, hb', hc⟩ := hr.at_ ham; have c0 := (hc a ham).fut hb'; unfold VAt at c0; have d0 : decide (a < l.length) = true := decide_eq_true ham; clear hc; refine wp_region_fut wr.heap.size (by kernel_rfl) (by kernel_rfl) ?_
    repeat (go_big_quiet_step ((go_at_call 94; exact Fut.call (Nat.le_refl _) (upToF_any _ _ _ _ _ _ _ _ _))))
    refine wpQuiet_nil ?_; rintro _ ⟨⟨w1, hb1⟩, rfl⟩
    go_wp2
    go_ret2
    refine ⟨?_, hbW.trans ((hbr.mono (by have := HS.out; omega)).trans (hb1.mono (by have := hbr.size; have := HS.out; omega)))⟩; rw [List.getElem?_eq_getElem ham]; rfl
   ·have d0 : decide (a < l.length) = false := decide_eq_false ham; refine wp_region_fut wr.heap.size (by kernel_rfl) (by kernel_rfl) ?_
    repeat (go_big_quiet_step ((go_at_call 94; exact Fut.call (Nat.le_refl _) (upToF_any _ _ _ _ _ _ _ _ _))))
    refine wpQuiet_nil ?_; rintro _ ⟨⟨w1, hb1⟩, rfl⟩
    go_wp2
    go_ret2
    refine ⟨?_, hbW.trans ((hbr.mono (by have := HS.out; omega)).trans (hb1.mono (by have := hbr.size; have := HS.out; omega)))⟩; rw [List.getElem?_eq_none (by omega)]; rfl
set_option maxHeartbeats 1000000 in
theorem upTo_any (A : Option Addr) (c : Nat) (l : List Ver) (k t : Int) (N : Nat) (w : World) (hn : l.length ≤ 4611686018427387904) (h : VS w A l) (hN : UpTo l k t N) :
    Calls Try.prog 70 #[.slice A l.length c, .int .i64 k, .int .i64 t] w
      fun e w' => e = .returned (.int .i64 N) ∧ Below w.heap.size w w' := by
  obtain ⟨m, hm, hlo, hhi, hres⟩ : ∃ m, m ≤ l.length ∧ (∀ j (hj : j < l.length), j < m → ordI l[j].key l[j].ts k t < 0) ∧ (∀ j (hj : j < l.length), m ≤ j → 0 ≤ ordI l[j].key l[j].ts k t) ∧
      ((N = m + 1 ∧ ((l[m]?.map fun v => ordI v.key v.ts k t == 0).getD false) = true) ∨ (N = m ∧ ((l[m]?.map fun v => ordI v.key v.ts k t == 0).getD false) = false)) := by
    by_cases hz : ∃ j, ∃ hj : j < l.length, j + 1 = N ∧ ordI l[j].key l[j].ts k t = 0
    · obtain ⟨j, hj, hjN, h0⟩ := hz
      refine ⟨j, by omega, fun i hi hij => hN.lt i hi (by omega), fun i hi hij => ?_, .inl ⟨hjN.symm, ?_⟩⟩
      · rcases Nat.eq_or_lt_of_le hij with rfl | hlt
        · omega
        · have := hN.hi i hi (by omega); omega
      · rw [List.getElem?_eq_getElem hj]; simp [h0]
    · refine ⟨N, hN.le, fun i hi hij => ?_, fun i hi hij => by have := hN.hi i hi hij; omega, .inr ⟨rfl, ?_⟩⟩
      · have h1 := hN.lo i hi hij
        by_cases hl : i + 1 < N
        · exact hN.lt i hi hl
        · have : ordI l[i].key l[i].ts k t ≠ 0 := fun e => hz ⟨i, hi, by omega, e⟩
          omega
      · by_cases hl : N < l.length
        · rw [List.getElem?_eq_getElem hl]
          have := hN.hi N hl (Nat.le_refl _)
          simp; omega
        · rw [List.getElem?_eq_none (by omega)]; rfl
  have hNm : (N : Int) ≤ l.length := by have := hN.le; omega
  have HN := hide hN
  clear hN
  go_enter Try.func70, Try.ntmps70
  rcases hres with ⟨rfl, hf⟩ | ⟨rfl, hf⟩
  all_goals
    go_wp2_with (go_at_call 93; with_reducible refine (bs_any A c l k t 0 false _ _ hn (h.alloc _) hm hlo hhi).mono ?_; rw [hf]; rintro e w1 ⟨rfl, hb⟩)
    go_ret
    exact ⟨rfl, ((Below.refl _ _).alloc (Nat.le_refl _) _).trans (hb.mono (by simp))⟩
end Go.Proofs.Ytlfkgbideknkhaa
namespace Go.Proofs.Ytlfkgbideknkhaa
open Go.RowKit
set_option maxHeartbeats 1000000 in
theorem last_any (A : Option Addr) (c : Nat) (l : List Ver) (k t : Int) (N : Nat) (w : World) (hn : l.length ≤ 4611686018427387904) (h : VS w A l) (hN : UpTo l k t N) :
  Calls Try.prog 58 #[.slice A l.length c, .int .i64 k, .int .i64 t] w
   fun e w' => e = .returned (lastN l k N).val ∧ Below w.heap.size w w' := by
 have hNl := hN.le
 by_cases h0 : N = 0
 ·have hl0 : lastN l k N = Ver.zero := by simp [lastN, h0]
  have HL := hide hl0; have HN := hide hN; subst h0; clear hN hl0
  go_enter Try.func58, Try.ntmps58
  go_wp2_with (go_at_call 70; with_reducible refine (upTo_any A c l k t 0 _ hn (h.alloc _) HN.out).mono ?_; rintro e w1 ⟨rfl, hb⟩; have q := (Blk.new _ _ _).below hb (by simp); have qc := q.cell; have qf := q.frozen; clear q)
  refine bodyPost_ret (v := Ver.zero.val) (by simp [results, Try.results58, go_sem, qc, Ver.zero, Ver.val]) rfl ⟨by rw [HL.out], ?_⟩; exact ((((((Below.refl _ _).alloc (Nat.le_refl _) _).trans (hb.mono (by simp))).setCell (p := ⟨w.heap.size, 0, none⟩) (Nat.le_refl _) _).setCell (p := ⟨w.heap.size, 1, none⟩) (Nat.le_refl _) _).setCell (p := ⟨w.heap.size, 2, none⟩) (Nat.le_refl _) _).setCell (p := ⟨w.heap.size, 3, none⟩) (Nat.le_refl _) _
 ·have hlt : N - 1 < l.length := by omega
  have hg : l.getD (N - 1) Ver.zero = l[N - 1] := by simp [hlt]
  obtain ⟨b, o, rfl, hb0, hc⟩ := h.at_ hlt; have c0 := hc (N - 1) hlt; have i0 : (0 : Int) ≤ (N : Int) - 1 := by omega
  have i1 : (N : Int) - 1 < l.length := by omega
  have i2 : (N : Int) ≤ 4611686018427387904 := by omega
  have g0 : decide (0 < N) = true := decide_eq_true (by omega); have HN := hide hN; have H0 := hide h0; clear hN h0 hc
  by_cases hk : l[N - 1].key = k
  ·have hl0 : lastN l k N = l[N - 1] := by unfold lastN; rw [hg, if_pos ⟨H0.out, hk⟩]
   have HL := hide hl0; have k0 : (l[N - 1].key == k) = true := by simp [hk]
   clear hl0 hg hk
   go_enter Try.func58, Try.ntmps58
   go_wp2_with (go_at_call 70; with_reducible refine (upTo_any (some ⟨b, o, none⟩) c l k t N _ hn (h.alloc _) HN.out).mono ?_; rintro e w1 ⟨rfl, hb⟩; have q := (Blk.new _ _ _).below hb (by simp); have qc := q.cell; have qf := q.frozen; clear q; have c1 := (c0.below ((Below.refl _ _).alloc (Nat.le_refl _) _) hb0).below hb (by simp; omega); unfold VAt at c1)
   refine bodyPost_ret (v := l[N - 1].val) (by simp [results, Try.results58, go_sem, qc, Ver.val]) rfl ⟨by rw [HL.out], ?_⟩; exact ((((((Below.refl _ _).alloc (Nat.le_refl _) _).trans (hb.mono (by simp))).setCell (p := ⟨w.heap.size, 0, none⟩) (Nat.le_refl _) _).setCell (p := ⟨w.heap.size, 1, none⟩) (Nat.le_refl _) _).setCell (p := ⟨w.heap.size, 2, none⟩) (Nat.le_refl _) _).setCell (p := ⟨w.heap.size, 3, none⟩) (Nat.le_refl _) _
  ·have hl0 : lastN l k N = Ver.zero := by unfold lastN; rw [hg, if_neg (fun h => hk h.2)]
   have HL := hide hl0; have k0 : (l[N - 1].key == k) = false := by simp [hk]
   clear hl0 hg hk
   go_enter Try.func58, Try.ntmps58
   go_wp2_with (go_at_call 70; with_reducible refine (upTo_any (some ⟨b, o, none⟩) c l k t N _ hn (h.alloc _) HN.out).mono ?_; rintro e w1 ⟨rfl, hb⟩; have q := (Blk.new _ _ _).below hb (by simp); have qc := q.cell; have qf := q.frozen; clear q; have c1 := (c0.below ((Below.refl _ _).alloc (Nat.le_refl _) _) hb0).below hb (by simp; omega); unfold VAt at c1)
   refine bodyPost_ret (v := Ver.zero.val) (by simp [results, Try.results58, go_sem, qc, Ver.zero, Ver.val]) rfl ⟨by rw [HL.out], ?_⟩; exact ((((((Below.refl _ _).alloc (Nat.le_refl _) _).trans (hb.mono (by simp))).setCell (p := ⟨w.heap.size, 0, none⟩) (Nat.le_refl _) _).setCell (p := ⟨w.heap.size, 1, none⟩) (Nat.le_refl _) _).setCell (p := ⟨w.heap.size, 2, none⟩) (Nat.le_refl _) _).setCell (p := ⟨w.heap.size, 3, none⟩) (Nat.le_refl _) _
end Go.Proofs.Ytlfkgbideknkhaa
namespace Go.Proofs.Ytlfkgbideknkhaa
open Go.RowKit
def eqB (a1 a2 a3 : Int) (a4 : Bool) (b1 b2 b3 : Int) (b4 : Bool) : Bool := decide ((⟨a1, a2, a3, a4⟩ : Ver) = ⟨b1, b2, b3, b4⟩)
theorem eqlV (a1 a2 a3 b1 b2 b3 : Int) (a4 b4 : Bool) (w : World) :
  (binOp .eql 61 (.agg #[.int .i64 a1, .int .i64 a2, .int .i64 a3, .bool a4]) (.agg #[.int .i64 b1, .int .i64 b2, .int .i64 b3, .bool b4])).run Try.prog w = .ok (.bool (eqB a1 a2 a3 a4 b1 b2 b3 b4)) w := by
 have hS : Try.prog.underlying 61 = some (.struct (Try.prog.fieldsOf 61)) := by kernel_rfl
 have hp : Try.prog.stoodInHeld 61 = false := by kernel_rfl
 have u3 := Try.underlying3; have u4 := Try.underlying4; rw [run_eql_struct, show (10000 : Nat) = 9999 + 1 from rfl, run_equalIn_agg w 9999 61 _ _ hS hp]; simp only [Program.fieldsOf, Try.underlying61]
 go_simp
 by_cases h1 : a1 = b1 <;> by_cases h2 : a2 = b2 <;> by_cases h3 : a3 = b3 <;> by_cases h4 : a4 = b4 <;> simp [eqB, h1, h2, h3, h4]
theorem neqV (a1 a2 a3 b1 b2 b3 : Int) (a4 b4 : Bool) (w : World) :
  (binOp .neq 61 (.agg #[.int .i64 a1, .int .i64 a2, .int .i64 a3, .bool a4]) (.agg #[.int .i64 b1, .int .i64 b2, .int .i64 b3, .bool b4])).run Try.prog w = .ok (.bool (!eqB a1 a2 a3 a4 b1 b2 b3 b4)) w := by
 have hS : Try.prog.underlying 61 = some (.struct (Try.prog.fieldsOf 61)) := by kernel_rfl
 have hp : Try.prog.stoodInHeld 61 = false := by kernel_rfl
 have u3 := Try.underlying3; have u4 := Try.underlying4; rw [run_neq_struct, show (10000 : Nat) = 9999 + 1 from rfl, run_equalIn_agg w 9999 61 _ _ hS hp]; simp only [Program.fieldsOf, Try.underlying61]
 go_simp
 by_cases h1 : a1 = b1 <;> by_cases h2 : a2 = b2 <;> by_cases h3 : a3 = b3 <;> by_cases h4 : a4 = b4 <;> simp [eqB, h1, h2, h3, h4]
attribute [go_sem high] eqlV neqV
end Go.Proofs.Ytlfkgbideknkhaa
namespace Go.Proofs.Ytlfkgbideknkhaa
def keyB (k : Int) : Bool := decide (1 ≤ k) && decide (k ≤ 1000)
def stampB (t : Int) : Bool := decide (1 ≤ t) && decide (t ≤ 3000000000000000)
end Go.Proofs.Ytlfkgbideknkhaa
namespace Go.Proofs.Ytlfkgbideknkhaa
open Go.RowKit
end Go.Proofs.Ytlfkgbideknkhaa
namespace Go.Proofs.Ytlfkgbideknkhaa
open Go.RowKit
theorem infoV : (Try.prog.info? 61).map (fun i => (i.zero, i.size, i.bytes)) = some (some (.agg #[.int .i64 0, .int .i64 0, .int .i64 0, .bool false]), 4, 32) := by kernel_rfl
theorem ver_one (l : List Ver) : ∀ u ∈ l.flatMap Ver.cells, u.oneCell' = true := by
 intro u hu; obtain ⟨v, _, hv⟩ := List.mem_flatMap.1 hu; simp only [Ver.cells, List.mem_cons, List.not_mem_nil, or_false] at hv; rcases hv with rfl | rfl | rfl | rfl <;> rfl
def OwnV (w : World) (base : Nat) (v : Value) (l : List Ver) : Prop := w.ownsRow base 61 4 v l.length (l.flatMap Ver.cells)
theorem OwnV.form {w : World} {base : Nat} {v : Value} {l : List Ver} (h : OwnV w base v l) : ∃ A c, v = .slice A l.length c ∧ l.length ≤ c ∧ c ≤ maxLen ∧ VS w A l := own_form h
theorem OwnV.app {w : World} {base n : Nat} {v : Value} {l l' : List Ver} {cs : List Value} (h : w.ownsRow base 61 4 v n cs) (hn : n = (l ++ l').length) (hc : cs = l.flatMap Ver.cells ++ l'.flatMap Ver.cells) : OwnV w base v (l ++ l') := by
 subst hn; subst hc; simpa [OwnV] using h
theorem OwnV.blk {w : World} {base : Nat} {A : Option Addr} {n c : Nat} {l : List Ver} (h : OwnV w base (.slice A n c) l) {a : Addr} (ha : A = some a) : base ≤ a.block ∧ a.block < w.heap.size := by
 subst ha; exact h.lt _ rfl
theorem OwnV.below {w w' : World} {base : Nat} {v : Value} {l : List Ver} (h : OwnV w base v l) (hb : Below w.heap.size w w') : OwnV w' base v l := by
 refine ⟨h.1, ?_⟩; rcases h.2 with h2 | ⟨g, cap, cur, hv, hg, hh, r⟩
 ·exact .inl h2
 ·exact .inr ⟨g, cap, cur, hv, hg, (hb.block g (Array.getElem?_eq_some_iff.1 hh).1).trans hh, r⟩
set_option maxHeartbeats 1000000 in
theorem cloneV_any (A : Option Addr) (c : Nat) (l : List Ver) (w : World) (hn : l.length ≤ 4000) (h : VS w A l) :
  Calls Try.prog 50 #[.slice A l.length c] w fun e w' => ∃ v, e = .returned v ∧ OwnV w' w.heap.size v l ∧ Below w.heap.size w w' := by
 obtain ⟨i0, hi, hz0, hz1, hz2⟩ := info_parts infoV; have hne := fun w' => Lib.run_eql_slice_nil (P := Try.prog) w' 38 61 A l.length c 0 0 Try.underlying38
 cases hA : A.isNone
 ·rw [hA] at hne
  go_enter Try.func50, Try.ntmps50
  go_wp2_with (at_builtin; refine wpList_append_rd _ rfl _ _ 38 rfl w.heap.size 61 i0 _ 4 32 Try.underlying38 hi hz0 hz1 hz2 rfl (by decide) _ 0 [] rfl (World.ownsRow_made w #[] 0 (Nat.le_refl _) (by simp [maxLen]) rfl) A l.length c (l.flatMap Ver.cells) rfl (flat_len _ 4 (fun _ => rfl) l) (h.alloc _) (ver_one l) ?_ ?_ ?_ ?_)
  ·simp only [maxLen]; omega
  ·omega
  ·simp
  ·intro v1 w1 ho hg _
   go_wp2
   go_ret
   refine ⟨v1, rfl, by simpa [OwnV] using ho, ((Below.refl _ _).alloc (Nat.le_refl _) _).grown hg (by simp) (fun k hk => by simp [Value.ownBlock] at hk; omega)⟩
 ·rw [hA] at hne; obtain rfl : A = none := by simpa using hA
  have hl : l = [] := by
   cases l with
   | nil => rfl
   | cons x l => obtain ⟨b, o, h1, _⟩ := VS.at_ h (k := 0) (by simp); cases h1
  subst hl; simp only [List.length_nil] at hne
  go_enter Try.func50, Try.ntmps50
  go_wp2
  go_ret
  exact ⟨.slice none 0 0, rfl, World.ownsRow_nil _ _ _ _, Below.refl _ _⟩
end Go.Proofs.Ytlfkgbideknkhaa
namespace Go.Proofs.Ytlfkgbideknkhaa
open Go.RowKit
theorem addr_add (b o j : Nat) : (⟨b, o, none⟩ : Addr).add j = ⟨b, o + j, none⟩ := by unfold Addr.add; split <;> simp_all
theorem splice_two {C P X R : List Value} {p m : Nat} (hp : P.length = p) (hx : X.length = m) (hC : C.take p = P) (_ : p + m + R.length ≤ C.length) :
  (splice (splice C p X) (p + m) R).take (p + m + R.length) = P ++ X ++ R := by
 have e1 : splice C p X = P ++ X ++ C.drop (p + m) := by simp only [splice, hC, hx, List.append_assoc]
 have e2 : (P ++ X ++ C.drop (p + m)).take (p + m) = P ++ X := by
  rw [List.take_append_of_le_length (by simp; omega)]; exact List.take_of_length_le (by simp; omega)
 rw [e1, splice, e2, ← List.append_assoc, List.take_append_of_le_length (by simp; omega)]; exact List.take_of_length_le (by simp; omega)
theorem splice_two' {C P X R : List Value} {p m : Nat} (hp : P.length = p) (hx : X.length = m) (hC : C.take p = P) (_ : p + m + R.length ≤ C.length) :
  (splice (splice C (p + m) R) p X).take (p + m + R.length) = P ++ X ++ R := by
 have e1 : (splice C (p + m) R).take p = P := by
  rw [splice, List.take_append_of_le_length (by simp; omega), List.take_take, Nat.min_eq_left (by omega), hC]
 have e2 : (splice C (p + m) R).drop (p + X.length) = R ++ C.drop (p + m + R.length) := by
  rw [splice, hx, List.drop_append, List.drop_of_length_le (by simp; omega), List.nil_append]; rw [List.length_take, Nat.min_eq_left (by omega), Nat.sub_self, List.drop_zero]
 rw [splice, e1, e2, ← List.append_assoc, ← List.append_assoc, List.take_append_of_le_length (by simp; omega)]; exact List.take_of_length_le (by simp; omega)
section
variable {P : Program}
theorem run_copyN (w : World) (dT sT ty elem : TypeId) (size : Nat) (dp sp : Option Addr) (g o dLen dCap sLen sCap : Nat) (cur : Array Value) (t : TypeId) (cs : List Value)
  (hu : P.underlying dT = some (.slice elem)) (hs : (P.info? elem).map (·.size) = some size)
  (hg : Blk w g t cur) (hn : cs.length = Nat.min sLen dLen * size) (hd : cs ≠ [] → dp = some ⟨g, o, none⟩)
  (hsrc : Rd w sp cs) (hfit : o + cs.length ≤ cur.size) (h1 : ∀ v ∈ cs, v.oneCell' = true) :
  ∃ w', (Builtin.copy_ #[dT, sT] ty #[.slice dp dLen dCap, .slice sp sLen sCap]).run P w = .ok (goInt (Nat.min sLen dLen)) w' ∧
   Blk w' g t (splice cur.toList o cs).toArray ∧ w.grownBy w' (some g) ∧ w'.heap.size = w.heap.size := by
 cases hq : P.info? elem with
 | none => simp [hq] at hs
 | some i =>
  have hi : i.size = size := by simpa [hq] using hs
  by_cases hc : cs = []
  ·subst hc; refine ⟨w, ?_, by simpa [splice] using hg, World.grownBy.refl w _, rfl⟩; have h0 : Nat.min sLen dLen * i.size = 0 := by rw [hi, ← hn]; rfl
   have hl : ∀ a : Addr, (loadCells a (Nat.min sLen dLen * i.size)).run P w = .ok #[] w := fun a => by
    rw [h0]; simp [loadCells, loadCellsFrom]
   cases sp <;> cases dp <;> simp [Builtin.copy_, run_underlying hu, Builtin.lenOf, Builtin.firstCells, sizeOf, typeInfo, hq, storeCells, hl]
  ·obtain rfl := hd hc; obtain ⟨b, o', rfl, _, hcell⟩ := hsrc hc; have hl := run_loadCells_list (P := P) w ⟨b, o', none⟩ cs (fun j v hv => by rw [addr_add]; exact hcell j v hv); have hst := run_storeCells_at P g o t cs 0 cur w hg (by simpa using hfit) h1; refine ⟨_, ?_, setRow_heap w g cur _ t _ hg, ⟨rfl, rfl, rfl, by simp [World.setRow], fun k _ hk => setRow_other w g k _ (fun e => hk (by rw [e]))⟩, by simp [World.setRow]⟩; have hlen : Nat.min sLen dLen * i.size = cs.length := by rw [hn, hi]
   simp [Builtin.copy_, run_underlying hu, Builtin.lenOf, Builtin.firstCells, sizeOf, typeInfo, hq, hlen, hl, hst, splice]
theorem wpList_copyN {w : World} {ops : Array Oper} {rest : List Oper} {o : Oper} {a : Act} {Q : Exit → Act → World → Prop} (hgd : o.guard = none) (d s : Operand) (dT sT : TypeId)
  (ho : o.op = .call { callee := .builtin .copy, args := #[d, s], argTypes := #[dT, sT] }) (elem : TypeId) (size : Nat) (hu : P.underlying dT = some (.slice elem)) (hs : (P.info? elem).map (·.size) = some size)
  (dp sp : Option Addr) (dLen dCap sLen sCap : Nat) (hdv : a.eval d = .slice dp dLen dCap) (hsv : a.eval s = .slice sp sLen sCap)
  (g off : Nat) (cur : Array Value) (t : TypeId) (hg : Blk w g t cur) (cs : List Value) (hn : cs.length = Nat.min sLen dLen * size) (hd : cs ≠ [] → dp = some ⟨g, off, none⟩)
  (hsrc : Rd w sp cs) (hfit : off + cs.length ≤ cur.size) (h1 : ∀ v ∈ cs, v.oneCell' = true)
  (h : ∀ w', Blk w' g t (splice cur.toList off cs).toArray → w.grownBy w' (some g) → w'.heap.size = w.heap.size → wpList P ops Q rest (a.put o.dst (goInt (Nat.min sLen dLen))) w') :
  wpList P ops Q (o :: rest) a w := by
 refine wpList_plain hgd fun K hK => ?_
 obtain ⟨w', hrun, h2, h3, h4⟩ := run_copyN (P := P) w dT sT o.type elem size dp sp g off dLen dCap sLen sCap cur t cs hu hs hg hn hd hsrc hfit h1; unfold Oper.wp
 simp [execOp, ho, resolve, invoke, builtin, hdv, hsv, hrun, Result.andThen]
 exact hK _ _ (h w' h2 h3 h4)
theorem step_copyN {ops : Array Oper} {w : World} {o : Oper} {a : Act} {K : Act → World → Prop} {Q : Exit → Act → World → Prop} {E : Prop} (hgd : o.guard = none) (d s : Operand) (dT sT : TypeId)
  (ho : o.op = .call { callee := .builtin .copy, args := #[d, s], argTypes := #[dT, sT] }) (elem : TypeId) (size : Nat) (hu : P.underlying dT = some (.slice elem)) (hs : (P.info? elem).map (·.size) = some size)
  (dp sp : Option Addr) (dLen dCap sLen sCap : Nat) (hdv : a.eval d = .slice dp dLen dCap) (hsv : a.eval s = .slice sp sLen sCap)
  (g off : Nat) (cur : Array Value) (t : TypeId) (hg : Blk w g t cur) (cs : List Value) (hn : cs.length = Nat.min sLen dLen * size) (hd : cs ≠ [] → dp = some ⟨g, off, none⟩)
  (hsrc : Rd w sp cs) (hfit : off + cs.length ≤ cur.size) (h1 : ∀ v ∈ cs, v.oneCell' = true)
  (h : ∀ w', Blk w' g t (splice cur.toList off cs).toArray → w.grownBy w' (some g) → w'.heap.size = w.heap.size → K (a.put o.dst (goInt (Nat.min sLen dLen))) w') :
  if Region.wanted o (yielded ops a.tmps) = true then Oper.wp P o a w K Q else E := by
 have hw : Region.wanted o (yielded ops a.tmps) = true := by simp [Region.wanted, hgd]
 rw [if_pos hw]; obtain ⟨w', hrun, h2, h3, h4⟩ := run_copyN (P := P) w dT sT o.type elem size dp sp g off dLen dCap sLen sCap cur t cs hu hs hg hn hd hsrc hfit h1; unfold Oper.wp
 simp [execOp, ho, resolve, invoke, builtin, hdv, hsv, hrun, Result.andThen]
 exact h w' h2 h3 h4
theorem size_zeroN (z : Array Value) (n : Nat) : (Builtin.zeroCells z n).size = n * z.size := by simp [Builtin.zeroCells]
theorem run_append_zeros (w : World) (t ity ty e : TypeId) (ik : IntKind) (i : TypeInfo) (z : Value) (size bytes : Nat) (ht : P.underlying t = some (.slice e)) (hit : P.underlying ity = some (.int ik)) (hi : P.info? e = some i) (hz : i.zero = some z)
  (hsize : i.size = size) (hby : i.bytes = bytes) (hzs : z.cells.size = size) (A : Option Addr) (n c m : Nat) (xs : List Value) (hl : xs.length = n * size) (hx : Rd w A xs)
  (hm : 0 < m) (hgrow : c < n + m) (h63 : n + m ≤ 9223372036854775807) (hbytes : (n + m) * bytes ≤ 140737488355328) (hsz : 0 < size) :
  ∃ cells cap w', (Builtin.append_ #[t, ity] ty #[.slice A n c, .int .i64 m]).run P w = .ok (.slice (some ⟨w.heap.size, 0, none⟩) (n + m) cap) w' ∧ n + m ≤ cap ∧ cap ≤ maxLen ∧
   Array.size cells = cap * size ∧ cells.toList.take (n * size) = xs ∧ Blk w' w.heap.size e cells ∧ w.grownBy w' none ∧ w'.heap.size = w.heap.size + 1 := by
 subst hsize; subst hby
 have hn : ¬ (n + m ≤ c) := by omega
 have hmi : IntKind.i64.wrap (m : Int) = m := IntWalk.i64_in _ (by omega); have hm0 : ¬ ((m : Int) < 0) := by omega
 have has : (asInt (.int .i64 (m : Int))).run P w = .ok (m : Int) w := rfl; have hmx : max (m : Int) 0 = m := by omega
 have hmb : ¬ (281474976710656 < (m : Int) * i.bytes) := by
  have h1 : m * i.bytes ≤ (n + m) * i.bytes := Nat.mul_le_mul_right _ (by omega); have h2 : ((m * i.bytes : Nat) : Int) ≤ 140737488355328 := by omega
  rw [Int.natCast_mul] at h2; omega
 have h63' : ¬ (9223372036854775807 < ((n : Int) + (m : Int))) := by omega
 have h48' : ¬ (281474976710656 < Builtin.nextslicecap (n + m) c * i.bytes) := by
  have := growslice_fits (need := n + m) (old := c) hgrow hbytes; omega
 have hge := grownCap_ge w (n + m) c e; have hcm : grownCap w (n + m) c e ≤ maxLen := grownCap_le_maxLen w (n + m) c e (by simp only [maxLen]; omega); have hfo : (Builtin.firstCells i.size n (.slice A n c)).run P w.drew = .ok xs.toArray w.drew := by
  by_cases hxs : xs = []
  ·subst hxs; have h0 : n * i.size = 0 := by rw [← hl]; rfl
   cases A <;> simp [Builtin.firstCells, h0, loadCells, loadCellsFrom]
  ·obtain ⟨b, o, rfl, _, hc⟩ := hx hxs; exact run_firstCells_some (P := P) w.drew i.size n ⟨b, o, none⟩ n c xs hl (fun j v hv => by rw [addr_add]; exact hc j v hv)
 refine ⟨xs.toArray ++ Builtin.zeroCells z.cells m ++ Builtin.zeroCells z.cells (grownCap w (n + m) c e - (n + m)), grownCap w (n + m) c e,
  w.drew.alloc (.cells (xs.toArray ++ Builtin.zeroCells z.cells m ++ Builtin.zeroCells z.cells (grownCap w (n + m) c e - (n + m))) e), ?_, hge, hcm, ?_, ?_, heap_alloc_new w.drew _, ⟨rfl, rfl, rfl, by simp, fun k hk _ => Below.heap_alloc w.drew _ k hk⟩, by simp⟩
 ·simp [Builtin.append_, run_underlying ht, run_underlying hit, sizeOf, typeInfo, zeroValue, hi, hz, hn, h63', h48', Question.forced, hfo, newRow, grownCap, has, hmi, hm0, hmb, hmx]
  intro h0; have := Nat.mul_pos hm hsz; omega
 ·simp only [Array.size_append, List.size_toArray, size_zeroN, hzs, hl, ← Nat.add_mul]
  congr 1
  omega
 ·rw [← hl]; simp
theorem wpList_append_zeros {w : World} {ops : Array Oper} {rest : List Oper} {o : Oper} {a : Act} {Q : Exit → Act → World → Prop} (hgd : o.guard = none) (s x : Operand) (t ity : TypeId)
  (ho : o.op = .call { callee := .builtin .append, args := #[s, x], argTypes := #[t, ity] }) (e : TypeId) (ik : IntKind) (i : TypeInfo) (z : Value) (size bytes : Nat) (ht : P.underlying t = some (.slice e)) (hit : P.underlying ity = some (.int ik)) (hi : P.info? e = some i) (hz : i.zero = some z)
  (hsize : i.size = size) (hby : i.bytes = bytes) (hzs : z.cells.size = size) (A : Option Addr) (n c m : Nat) (k : Int) (hs : a.eval s = .slice A n c) (hk : a.eval x = .int .i64 k) (hkm : k = m) (xs : List Value) (hl : xs.length = n * size) (hx : Rd w A xs)
  (N : Nat) (hN : N = n + m) (hm : 0 < m) (hgrow : c < n + m) (h63 : n + m ≤ 9223372036854775807) (hbytes : (n + m) * bytes ≤ 140737488355328) (hsz : 0 < size)
  (h : ∀ cells cap w', N ≤ cap → cap ≤ maxLen → Array.size cells = cap * size → cells.toList.take (n * size) = xs → Blk w' w.heap.size e cells → w.grownBy w' none → w'.heap.size = w.heap.size + 1 →
   wpList P ops Q rest (a.put o.dst (.slice (some ⟨w.heap.size, 0, none⟩) N cap)) w') :
  wpList P ops Q (o :: rest) a w := by
 subst hkm; subst hN; refine wpList_plain hgd fun K hK => ?_
 obtain ⟨cells, cap, w', hrun, h1, h2, h3, h4, h5, h6, h7⟩ := run_append_zeros (P := P) w t ity o.type e ik i z size bytes ht hit hi hz hsize hby hzs A n c m xs hl hx hm hgrow h63 hbytes hsz; unfold Oper.wp execOp; simp only [ho, resolve, invoke, builtin, Sem.run_bind, Sem.run_pure, Result.andThen_ok, List.map_toArray, List.map_cons, List.map_nil, hs, hk, hrun]; exact hK _ _ (h cells cap w' h1 h2 h3 h4 h5 h6 h7)
end
end Go.Proofs.Ytlfkgbideknkhaa
namespace Go.Proofs.Ytlfkgbideknkhaa
open Go.RowKit
theorem run_overlaps {P : Program} (w : World) (t u : TypeId) (rs : Array TypeId) (elem : TypeId) (size : Nat) (hu : P.underlying t = some (.slice elem)) (hs : (P.info? elem).map (·.size) = some size)
  (g1 g2 o1 o2 n1 n2 c1 c2 : Nat) (t1 t2 : TypeId) (cs1 cs2 : Array Value) (h1 : Blk w g1 t1 cs1) (h2 : Blk w g2 t2 cs2) (hne : g1 ≠ g2) :
  (Extern.SlicesOverlaps.overlaps #[t, u] rs #[.slice (some ⟨g1, o1, none⟩) n1 c1, .slice (some ⟨g2, o2, none⟩) n2 c2]).run P w = .ok (.bool false) w := by
 have f1 := fun o => h1.frozen o
 have f2 := fun o => h2.frozen o
 have s1 : w.shape? g1 = some (t1, cs1.size) := by unfold Blk at h1; simp [World.shape?, h1]
 have s2 : w.shape? g2 = some (t2, cs2.size) := by unfold Blk at h2; simp [World.shape?, h2]
 cases hq : P.info? elem with
 | none => simp [hq] at hs
 | some i =>
  conv => lhs; arg 2; whnf
  simp [Sem.run_bind', hu, sizeOf, typeInfo, hq, hne, f1, f2, s1, s2, noView, viewAt, mayBeOne, stringish, shape, frozen, Sem.run]
theorem ov_call (args : Array Value) (w : World) : (callFunc 91 args).run Try.prog w =
  ((Extern.SlicesOverlaps.overlaps #[38, 38] #[4] args).run Try.prog w).andThen fun v w' => .ok (.value v) w' :=
 run_callFunc_extern Try.func91 (by kernel_rfl) (by kernel_rfl) (by kernel_rfl) (by kernel_rfl) args w
set_option maxHeartbeats 1000000 in
set_option maxRecDepth 100000 in
theorem insertV_end (A : Option Addr) (c : Nat) (l : List Ver) (x : Ver) (g base : Nat) (w : World) (ho : OwnV w base (.slice A l.length c) l) (hbase : base ≤ w.heap.size)
  (hl : l.length < 4000) (hx : Blk w g 61 x.cells.toArray) :
  Calls Try.prog 69 #[.slice A l.length c, .int .i64 l.length, .slice (some ⟨g, 0, none⟩) 1 1] w
   fun e w' => ∃ v, e = .returned v ∧ OwnV w' base v (l ++ [x]) ∧ Below base w w' := by
 obtain ⟨i0, hi, hz0, hz1, hz2⟩ := info_parts infoV; obtain ⟨_, _, hv, hlc, hcm, _⟩ := ho.form
 injection hv with e1 e2 e3
 subst e1 e3; unfold maxLen at hcm
 go_enter Try.func69, Try.ntmps69
 go_wp2_with (at_builtin; refine wpList_append_rd _ rfl _ _ 38 rfl base 61 i0 _ 4 32 Try.underlying38 hi hz0 hz1 hz2 rfl (by decide) _ _ _ rfl ho (some ⟨g, 0, none⟩) 1 1 x.cells rfl rfl (by simpa using Rd.of_blk hx) (by simpa using ver_one [x]) ?_ ?_ hbase ?_)
 ·simp only [maxLen]; omega
 ·omega
 all_goals
  intro v1 w1 h1 hg _
  go_wp2
  go_ret
  refine ⟨v1, rfl, by simpa [OwnV] using h1, (Below.refl _ _).grown hg hbase (fun k hk => (ho.lt k (by cases A <;> (simp [Value.ownBlock] at hk ⊢; try exact hk))).1)⟩
set_option maxHeartbeats 2000000 in
set_option maxRecDepth 100000 in
theorem insertV_grow (A : Option Addr) (l : List Ver) (i : Nat) (x : Ver) (g base : Nat) (w : World) (ho : OwnV w base (.slice A l.length l.length) l) (hbase : base ≤ w.heap.size)
  (hil : i < l.length) (hl : l.length < 4000) (hx : Blk w g 61 x.cells.toArray) :
  Calls Try.prog 69 #[.slice A l.length l.length, .int .i64 i, .slice (some ⟨g, 0, none⟩) 1 1] w
   fun e w' => ∃ v, e = .returned v ∧ OwnV w' base v (l.take i ++ x :: l.drop i) ∧ Below base w w' := by
 obtain ⟨i0, hi, hz0, hz1, hz2⟩ := info_parts infoV; have hne : ((i : Int) == (l.length : Int)) = false := by simp; omega
 have hnl : ¬ l.length = i := by omega
 have h0 : (0 : Int) ≤ (l.length : Int) + 1 - i := by omega
 go_enter Try.func69, Try.ntmps69
 have htk : ((l.take i).flatMap Ver.cells).length = i * 4 := by rw [flat_len _ 4 (fun _ => rfl)]; simp; omega
 obtain ⟨g0, rfl, hg0⟩ : ∃ g0, A = some ⟨g0, 0, none⟩ ∧ base ≤ g0 := by
  rcases ho.2 with ⟨_, h⟩ | ⟨g0, _, _, h, hb, _⟩
  ·omega
  ·injection h with h _ _; exact ⟨g0, h, hb⟩
 go_upto_region 11 with (first
  | (at_builtin; refine wpList_append_zeros rfl _ _ 38 3 rfl 61 .i64 i0 _ 4 32 Try.underlying38 Try.underlying3 hi hz0 hz1 hz2 rfl (some ⟨g0, 0, none⟩) i l.length (l.length + 1 - i) ((l.length : Int) + 1 - i) rfl rfl (by omega) ((l.take i).flatMap Ver.cells) htk (Rd.take (Rd.of_own ho) (take_flat _ l i)) (l.length + 1) (by omega) (by omega) (by omega) (by omega) (by omega) (by omega) ?_; intro cells cap w1 k1 k2 k3 k4 k5 k6 k7; have hci : ¬ cap = i := (by omega); have hci1 : ¬ cap = i + 1 := (by omega); have HK := hide k3; have HK4 := hide k4; have HK7 := hide k7; clear k3 k4 k7)
  | (with_reducible refine wpList_copyN rfl (.tmp 43) (.tmp 44) 38 38 rfl 61 4 Try.underlying38 (by kernel_rfl) _ _ _ _ _ _ rfl rfl w.heap.size (i * 4) cells 61 k5 x.cells ?_ ?_ ?_ ?_ ?_ ?_))
 ·simp only [Ver.cells, List.length_cons, List.length_nil]; rw [show Nat.min 1 (l.length + 1 - i) = 1 from Nat.min_eq_left (by omega)]
 ·exact (Rd.of_blk hx).below (Below.of_grown k6) (Nat.le_refl _)
 ·rw [HK.out]; simp only [Ver.cells, List.length_cons, List.length_nil]; omega
 ·simpa using ver_one [x]
 intro w2 q1 q2 q3; have HQ3 := hide q3; clear q3
 go_upto_region 11 with fail
 have b2 : Below w.heap.size w w2 := (Below.of_grown k6).trans ((Below.refl _ _).grown q2 (by have := HK7.out; omega) (fun k hk => by cases hk; exact Nat.le_refl _)); have hrest : Rd w2 (some ⟨g0, 0 + i * 4, none⟩) ((l.drop i).flatMap Ver.cells) := by
  have h2 : Rd w2 (some ⟨g0, 0, none⟩) (((l.take i).flatMap Ver.cells) ++ (l.drop i).flatMap Ver.cells) := by
   rw [← List.flatMap_append, List.take_append_drop]; exact (Rd.of_own ho).below b2 (Nat.le_refl _)
  have h3 := h2.shift; rw [htk] at h3; exact h3
 have hrl : ((l.drop i).flatMap Ver.cells).length = (l.length - i) * 4 := by rw [flat_len _ 4 (fun _ => rfl)]; simp
 have i0 : (0 : Int) ≤ (i : Int) + 1 := by omega
 have i1 : (i : Int) + 1 ≤ (l.length : Int) + 1 := by omega
 have i2 : (i : Int) ≤ (l.length : Int) := by omega
 have HR := hide hrl; have HT := hide htk; clear hrl htk; have hw1 : IntKind.i64.wrap ((i : Int) + 1) = (i : Int) + 1 := IntWalk.i64_in _ (by omega); have hw2 : ((i : Int) + 1).toNat = i + 1 := by omega
 have hcl := hide (show cells.toList.length = cap * 4 by rw [← HK.out]; exact Array.length_toList); have hx4 := hide (show x.cells.length = 4 from rfl); have hs1 := hide (show (splice cells.toList (i * 4) x.cells).length = cap * 4 by rw [length_splice _ _ _ (by rw [hx4.out, hcl.out]; omega), hcl.out]); have hfit : (i + 1) * 4 + ((l.drop i).flatMap Ver.cells).length ≤ (splice cells.toList (i * 4) x.cells).toArray.size := by
  rw [HR.out, List.size_toArray, hs1.out]; omega
 go_region_held3 (fun _ => True) (trivial) ((refine step_copyN rfl (.tmp 50) (.tmp 53) 38 38 rfl 61 4 Try.underlying38 (by kernel_rfl) _ _ _ _ _ _ rfl rfl w.heap.size ((i + 1) * 4) _ 61 q1 ((l.drop i).flatMap Ver.cells) (by rw [HR.out]; congr 1; simp) (fun _ => by simp) (by simpa using hrest.below (Below.refl _ _).drew (Nat.le_refl _)) hfit (ver_one _) ?_; intro w3 r1 r2 r3))
 go_wp2
 go_ret
 have b3 : Below w.heap.size w w3 := b2.drew.trans ((Below.refl _ _).grown r2 b2.size (fun k hk => by cases hk; exact Nat.le_refl _)); refine ⟨_, rfl, ?_, b3.mono hbase⟩; have hlen : (l.take i ++ x :: l.drop i).length = l.length + 1 := by simp; omega
 have hcs : (l.take i ++ x :: l.drop i).flatMap Ver.cells = (l.take i).flatMap Ver.cells ++ x.cells ++ (l.drop i).flatMap Ver.cells := by simp
 unfold OwnV; rw [hlen, hcs]; refine ⟨?_, .inr ⟨w.heap.size, cap, _, rfl, hbase, r1, k1, k2, ?_, ?_⟩⟩
 ·rw [List.length_append, List.length_append, HT.out, HR.out, hx4.out]; omega
 ·rw [List.size_toArray, length_splice _ _ _ (by simpa using hfit)]; exact hs1.out
 ·have := splice_two (C := cells.toList) (X := x.cells) (R := (l.drop i).flatMap Ver.cells) HT.out (m := 4) rfl HK4.out (by rw [hcl.out, HR.out]; omega); rw [HR.out, show i * 4 + 4 + (l.length - i) * 4 = (l.length + 1) * 4 from by omega, show i * 4 + 4 = (i + 1) * 4 from by omega] at this; exact this
set_option maxHeartbeats 2000000 in
set_option maxRecDepth 100000 in
theorem insertV_room (A : Option Addr) (l : List Ver) (c i : Nat) (x : Ver) (g base : Nat) (w : World) (ho : OwnV w base (.slice A l.length c) l) (hbase : base ≤ w.heap.size)
  (hil : i < l.length) (hl : l.length < 4000) (hc : l.length + 1 ≤ c) (hx : Blk w g 61 x.cells.toArray) (hgo : ∀ a, A = some a → a.block ≠ g) :
  Calls Try.prog 69 #[.slice A l.length c, .int .i64 i, .slice (some ⟨g, 0, none⟩) 1 1] w
   fun e w' => ∃ v, e = .returned v ∧ OwnV w' base v (l.take i ++ x :: l.drop i) ∧ Below base w w' := by
 have hne : ((i : Int) == (l.length : Int)) = false := by simp; omega
 obtain ⟨g0, cur, rfl, hg0, hblk, hcm, hcs, htake⟩ : ∃ g0 cur, A = some ⟨g0, 0, none⟩ ∧ base ≤ g0 ∧ Blk w g0 61 cur ∧ c ≤ maxLen ∧ cur.size = c * 4 ∧ cur.toList.take (l.length * 4) = l.flatMap Ver.cells := by
  rcases ho.2 with ⟨_, h⟩ | ⟨g0, cap, cur, h, hb, hh, hnc, hcm, hcs, ht⟩
  ·omega
  ·injection h with h1 _ h3; subst h3; exact ⟨g0, cur, h1, hb, hh, hcm, hcs, ht⟩
 have hgg : g0 ≠ g := fun e => hgo _ rfl e
 have ov := fun (n : Nat) (m o : Nat) => (ov_call #[.slice (some ⟨g, 0, none⟩) 1 1, .slice (some ⟨g0, o, none⟩) n m] w).trans (by rw [run_overlaps (P := Try.prog) w 38 38 #[4] 61 4 Try.underlying38 (by kernel_rfl) g g0 0 o 1 n 1 m _ _ _ _ hx hblk (Ne.symm hgg)])
 unfold maxLen at hcm; have hci : ¬ c = i := by omega
 have hci1 : ¬ c = i + 1 := by omega
 go_enter Try.func69, Try.ntmps69
 have HT := hide htake; have HC := hide hcs; clear htake hcs
 go_upto_region 15 with fail
 have hrl : ((l.drop i).flatMap Ver.cells).length = (l.length - i) * 4 := by rw [flat_len _ 4 (fun _ => rfl)]; simp
 have htk : ((l.take i).flatMap Ver.cells).length = i * 4 := by rw [flat_len _ 4 (fun _ => rfl)]; simp; omega
 have hrest : Rd w (some ⟨g0, 0 + i * 4, none⟩) ((l.drop i).flatMap Ver.cells) := by
  have h2 : Rd w (some ⟨g0, 0, none⟩) (((l.take i).flatMap Ver.cells) ++ (l.drop i).flatMap Ver.cells) := by
   rw [← List.flatMap_append, List.take_append_drop]; exact Rd.of_own ho
  have h3 := h2.shift; rw [htk] at h3; exact h3
 have j0 : (0 : Int) ≤ (i : Int) + 1 := by omega
 have j1 : (i : Int) + 1 ≤ (l.length : Int) + 1 := by omega
 have j2 : (i : Int) ≤ (l.length : Int) + 1 := by omega
 have HR := hide hrl; have HP := hide htk; have hcl := hide (show cur.toList.length = c * 4 by rw [← HC.out]; exact Array.length_toList); have hx4 := hide (show x.cells.length = 4 from rfl); have htki := hide (show cur.toList.take (i * 4) = (l.take i).flatMap Ver.cells by
  obtain ⟨zs, hz⟩ := take_flat Ver.cells l i; have h1 : (cur.toList.take (l.length * 4)).take (i * 4) = (l.take i).flatMap Ver.cells := by
   rw [HT.out, hz, ← htk]; simp
  rw [List.take_take, Nat.min_eq_left (by omega)] at h1; exact h1)
 have hdri := hide (show (cur.toList.take (l.length * 4)).drop (i * 4) = (l.drop i).flatMap Ver.cells by
  rw [HT.out]; have : l.flatMap Ver.cells = (l.take i).flatMap Ver.cells ++ (l.drop i).flatMap Ver.cells := by rw [← List.flatMap_append, List.take_append_drop]
  rw [this, ← htk]; simp)
 clear hrl htk; have hw1 : IntKind.i64.wrap ((i : Int) + 1) = (i : Int) + 1 := IntWalk.i64_in _ (by omega); have hw2 : ((i : Int) + 1).toNat = i + 1 := by omega
 have hfit : (i + 1) * 4 + ((l.drop i).flatMap Ver.cells).length ≤ cur.size := by rw [HR.out, HC.out]; omega
 have hs1 := hide (show (splice cur.toList ((i + 1) * 4) ((l.drop i).flatMap Ver.cells)).length = c * 4 by rw [length_splice _ _ _ (by rw [HR.out, hcl.out]; omega), hcl.out])
 go_region_held3 (fun _ => True) (trivial) ((refine step_copyN rfl (.tmp 73) (.tmp 76) 38 38 rfl 61 4 Try.underlying38 (by kernel_rfl) _ _ _ _ _ _ rfl rfl g0 ((i + 1) * 4) cur 61 hblk.drew ((l.drop i).flatMap Ver.cells) (by rw [HR.out]; congr 1; simp [Nat.min_def]; omega) (fun _ => by simp) (by simpa using hrest.below (Below.refl _ _).drew (Nat.le_refl _)) hfit (ver_one _) ?_; intro w3 r1 r2 r3))
 have hxw : Blk w3 g 61 x.cells.toArray := (r2.block g (by simpa using hx.lt) (fun e => hgg (by injection e with e; exact e.symm))).trans hx; have R3 := hide r3; clear r3
 go_upto_region 17 with (with_reducible refine wpList_copyN rfl (.tmp 80) (.tmp 81) 38 38 rfl 61 4 Try.underlying38 (by kernel_rfl) _ _ _ _ _ _ rfl rfl g0 (i * 4) _ 61 r1 x.cells ?_ ?_ ?_ ?_ ?_ ?_)
 ·simp only [Ver.cells, List.length_cons, List.length_nil]; rw [show Nat.min 1 (l.length + 1 - i) = 1 from Nat.min_eq_left (by omega)]
 ·exact Rd.of_blk hxw
 ·rw [hx4.out, List.size_toArray, hs1.out]; omega
 ·simpa using ver_one [x]
 intro w4 q1 q2 q3
 go_wp2
 go_ret
 have b4 : Below base w w4 := (((Below.refl base w).drew).grown r2 (by simpa using hbase) (fun k hk => by cases hk; exact hg0)).grown q2 (by rw [R3.out]; simpa using hbase) (fun k hk => by cases hk; exact hg0); refine ⟨_, rfl, ?_, b4⟩; have hlen : (l.take i ++ x :: l.drop i).length = l.length + 1 := by simp; omega
 have hcs : (l.take i ++ x :: l.drop i).flatMap Ver.cells = (l.take i).flatMap Ver.cells ++ x.cells ++ (l.drop i).flatMap Ver.cells := by simp
 unfold OwnV; rw [hlen, hcs]; refine ⟨?_, .inr ⟨g0, c, _, rfl, hg0, q1, hc, by unfold maxLen; omega, ?_, ?_⟩⟩
 ·rw [List.length_append, List.length_append, HP.out, HR.out, hx4.out]; omega
 ·rw [List.size_toArray, length_splice _ _ _ (by rw [hx4.out, hs1.out]; omega)]; exact hs1.out
 ·have := splice_two' (C := cur.toList) (X := x.cells) (R := (l.drop i).flatMap Ver.cells) HP.out (m := 4) rfl htki.out (by rw [hcl.out, HR.out]; omega); rw [HR.out, show i * 4 + 4 + (l.length - i) * 4 = (l.length + 1) * 4 from by omega, show i * 4 + 4 = (i + 1) * 4 from by omega] at this; exact this
theorem insertV_any (A : Option Addr) (c : Nat) (l : List Ver) (i : Nat) (x : Ver) (g base : Nat) (w : World) (ho : OwnV w base (.slice A l.length c) l) (hbase : base ≤ w.heap.size)
  (hil : i ≤ l.length) (hl : l.length < 4000) (hx : Blk w g 61 x.cells.toArray) (hgo : ∀ a, A = some a → a.block ≠ g) :
  Calls Try.prog 69 #[.slice A l.length c, .int .i64 i, .slice (some ⟨g, 0, none⟩) 1 1] w
   fun e w' => ∃ v, e = .returned v ∧ OwnV w' base v (l.take i ++ x :: l.drop i) ∧ Below base w w' := by
 obtain ⟨_, _, hv, hlc, _, _⟩ := ho.form
 injection hv with e1 e2 e3
 subst e3
 by_cases h1 : i = l.length
 ·subst h1
  simpa using insertV_end A c l x g base w ho hbase hl hx
 ·by_cases h2 : c = l.length
  ·subst h2; exact insertV_grow A l i x g base w ho hbase (by omega) hl hx
  ·exact insertV_room A l c i x g base w ho hbase (by omega) hl (by omega) hx hgo
end Go.Proofs.Ytlfkgbideknkhaa
namespace Go.Proofs.Ytlfkgbideknkhaa
open Go.RowKit
def RetVE (w0 : World) (r : List Ver × Int) (e : Ending) (w' : World) : Prop :=
 ∃ A c, e = .returned (.tuple #[.slice A r.1.length c, .int .i64 r.2]) ∧ r.1.length ≤ c ∧ c ≤ maxLen ∧ VS w' A r.1 ∧ Below w0.heap.size w0 w'
theorem RetVE.none_ {w0 w' : World} {x : Int} (hb : Below w0.heap.size w0 w') : RetVE w0 ([], x) (.returned (.tuple #[.slice none 0 0, .int .i64 x])) w' :=
 ⟨none, 0, rfl, Nat.le_refl _, Nat.zero_le _, Rd.nil _ _, hb⟩
end Go.Proofs.Ytlfkgbideknkhaa
namespace Go.Proofs.Ytlfkgbideknkhaa
open Go.RowKit
end Go.Proofs.Ytlfkgbideknkhaa
namespace Go.Proofs.Ytlfkgbideknkhaa
open Go.RowKit
end Go.Proofs.Ytlfkgbideknkhaa
namespace Go.Proofs.Ytlfkgbideknkhaa
open Go.RowKit
theorem wfB_eq (v : Ver) : wfB v = (keyB v.key && stampB v.ts && decide (0 ≤ v.value) && decide (v.value ≤ 1000000) && (!v.gone || v.value == 0)) := by
 unfold wfB keyB stampB; simp only [Bool.and_assoc]
end Go.Proofs.Ytlfkgbideknkhaa
namespace Go.Proofs.Ytlfkgbideknkhaa
open Go.RowKit
def newestR (l : List Ver) (k : Int) : Int := l.foldl (fun a v => if v.key = k then max a v.ts else a) 0
end Go.Proofs.Ytlfkgbideknkhaa
namespace Go.Proofs.Ytlfkgbideknkhaa
open Go.RowKit
def atFold (l : List Ver) (k t : Int) : Ver := l.foldl (fun a v => if v.key = k ∧ v.ts ≤ t then v else a) Ver.zero
end Go.Proofs.Ytlfkgbideknkhaa
namespace Go.Proofs.Ytlfkgbideknkhaa
open Go.RowKit
end Go.Proofs.Ytlfkgbideknkhaa
namespace Go.Proofs.Ytlfkgbideknkhaa
open Go.RowKit
theorem getD_at {l : List Ver} {i : Nat} (h : i < l.length) : l.getD i Ver.zero = l[i] := by simp [h]
end Go.Proofs.Ytlfkgbideknkhaa
namespace Go.Proofs.Ytlfkgbideknkhaa
theorem foldl_keep {α β : Type} (p : α → Prop) [DecidablePred p] (f : β → α → β) (b : β) : ∀ l : List α, (∀ v ∈ l, ¬p v) → l.foldl (fun a v => if p v then f a v else a) b = b
 | [], _ => rfl
 | x :: l, h => by
  rw [List.foldl_cons, if_neg (h x (by simp))]; exact foldl_keep p f b l (fun v hv => h v (by simp [hv]))
theorem lastV_spec {l : List Ver} (h : l.Pairwise ltV) (k t : Int) :
  (lastV l k t = Ver.zero ∧ ∀ v ∈ l, ¬(v.key = k ∧ v.ts ≤ t)) ∨
  ∃ j, ∃ hj : j < l.length, lastV l k t = l[j] ∧ (l[j].key = k ∧ l[j].ts ≤ t) ∧ ∀ i (hi : i < l.length), j < i → ¬(l[i].key = k ∧ l[i].ts ≤ t) := by
 have hN := upN_spec h k t; obtain ⟨N, hNe⟩ : ∃ N, N = upN l k t := ⟨_, rfl⟩; unfold lastV lastN; rw [← hNe] at hN ⊢; have hup := List.pairwise_iff_getElem.1 h; have hle := hN.le
 by_cases hc : N ≠ 0 ∧ (l.getD (N - 1) Ver.zero).key = k
 ·have hj : N - 1 < l.length := by omega
  rw [if_pos hc, getD_at hj]; rw [getD_at hj] at hc; refine .inr ⟨N - 1, hj, rfl, ⟨hc.2, ?_⟩, fun i hi hji hm => ?_⟩
  ·have := hN.lo (N - 1) hj (by omega); rw [ordI_le] at this; omega
  ·have := hN.hi i hi (by omega); rw [ordI_gt] at this; omega
 ·rw [if_neg hc]; refine .inl ⟨rfl, fun v hv hm => ?_⟩; obtain ⟨i, hi, rfl⟩ := List.getElem_of_mem hv; have hiN : i < N := by
   rcases Nat.lt_or_ge i N with h1 | h1
   ·exact h1
   ·have := hN.hi i hi h1; rw [ordI_gt] at this; omega
  have hj : N - 1 < l.length := by omega
  rw [getD_at hj] at hc; have h1 := hN.lo (N - 1) hj (by omega); rw [ordI_le] at h1; rcases Nat.eq_or_lt_of_le (show i ≤ N - 1 by omega) with rfl | h2
  ·exact hc ⟨by omega, hm.1⟩
  ·have h3 := hup i (N - 1) hi hj h2; unfold ltV at h3; exact hc ⟨by omega, by omega⟩
theorem newestR_ge {l : List Ver} {k : Int} : ∀ {b : Int}, b ≤ l.foldl (fun a v => if v.key = k then max a v.ts else a) b ∧ ∀ v ∈ l, v.key = k → v.ts ≤ l.foldl (fun a v => if v.key = k then max a v.ts else a) b := by
 induction l with
 | nil => intro b; simp
 | cons x l ih =>
  intro b; rw [List.foldl_cons]
  by_cases hx : x.key = k
  ·rw [if_pos hx]; have := ih (b := max b x.ts); refine ⟨by omega, fun v hv hk => ?_⟩; rcases List.mem_cons.1 hv with rfl | hv
   ·omega
   ·exact this.2 v hv hk
  ·rw [if_neg hx]; have := ih (b := b); refine ⟨this.1, fun v hv hk => ?_⟩; rcases List.mem_cons.1 hv with rfl | hv
   ·exact absurd hk hx
   ·exact this.2 v hv hk
theorem newestR_in {l : List Ver} {k : Int} : ∀ {b : Int}, l.foldl (fun a v => if v.key = k then max a v.ts else a) b = b ∨ ∃ v ∈ l, v.key = k ∧ v.ts = l.foldl (fun a v => if v.key = k then max a v.ts else a) b := by
 induction l with
 | nil => intro b; simp
 | cons x l ih =>
  intro b; rw [List.foldl_cons]
  by_cases hx : x.key = k
  ·rw [if_pos hx]; rcases ih (b := max b x.ts) with h | ⟨v, hv, hk, ht⟩
   ·by_cases hm : b ≤ x.ts
    ·exact .inr ⟨x, by simp, hx, by rw [h]; omega⟩
    ·exact .inl (by rw [h]; omega)
   ·exact .inr ⟨v, by simp [hv], hk, ht⟩
  ·rw [if_neg hx]; rcases ih (b := b) with h | ⟨v, hv, hk, ht⟩
   ·exact .inl h
   ·exact .inr ⟨v, by simp [hv], hk, ht⟩
theorem Sto.ts {l : List Ver} (h : Sto l) {v : Ver} (hv : v ∈ l) : 1 ≤ v.key ∧ v.key ≤ 1000 ∧ 1 ≤ v.ts ∧ v.ts ≤ 3000000000000000 := by
 have := h.wf v hv; simp only [wfB, Bool.and_eq_true, decide_eq_true_eq] at this; omega
theorem newest_eq {l : List Ver} (h : Sto l) (k : Int) : (lastV l k 3000000000000000).ts = newestR l k := by
 have hge := newestR_ge (l := l) (k := k) (b := 0); have hin := newestR_in (l := l) (k := k) (b := 0); have hup := List.pairwise_iff_getElem.1 h.up
 change 0 ≤ newestR l k ∧ ∀ v ∈ l, v.key = k → v.ts ≤ newestR l k at hge
 change newestR l k = 0 ∨ ∃ v ∈ l, v.key = k ∧ v.ts = newestR l k at hin
 rcases lastV_spec h.up k 3000000000000000 with ⟨h1, h2⟩ | ⟨j, hj, h1, h2, h3⟩
 ·rw [h1]; rcases hin with h0 | ⟨v, hv, hk, ht⟩
  ·rw [h0]; rfl
  ·exact absurd ⟨hk, (h.ts hv).2.2.2⟩ (h2 v hv)
 ·rw [h1]; have hj1 := h.ts (List.getElem_mem hj); have hjn := hge.2 _ (List.getElem_mem hj) h2.1; rcases hin with h0 | ⟨v, hv, hk, ht⟩
  ·omega
  ·obtain ⟨i, hi, rfl⟩ := List.getElem_of_mem hv; rcases Nat.lt_trichotomy i j with hij | rfl | hij
   ·have := hup i j hi hj hij; unfold ltV at this; omega
   ·exact ht
   ·exact absurd ⟨hk, (h.ts hv).2.2.2⟩ (h3 i hi hij)
end Go.Proofs.Ytlfkgbideknkhaa
namespace Go.Proofs.Ytlfkgbideknkhaa
theorem put_parts {l : List Ver} {v : Ver} (h : Sto l) (hn : newestR l v.key < v.ts) : ∃ xs ys, l = xs ++ ys ∧ putL l v = xs ++ v :: ys ∧ (∀ x ∈ xs, ltV x v) ∧ ∀ y ∈ ys, ltV v y := by
 have hN := upN_spec h.up v.key v.ts; have hge := (newestR_ge (l := l) (k := v.key) (b := 0)).2
 change ∀ x ∈ l, x.key = v.key → x.ts ≤ newestR l v.key at hge
 refine ⟨l.take (upN l v.key v.ts), l.drop (upN l v.key v.ts), (List.take_append_drop _ _).symm, rfl, fun x hx => ?_, fun y hy => ?_⟩
 ·obtain ⟨j, hj, rfl⟩ := List.getElem_of_mem hx; rw [List.getElem_take]; simp only [List.length_take] at hj; have h1 := hN.lo j (by omega) (by omega); have h2 := hge l[j] (List.getElem_mem _); rw [ordI_le] at h1; unfold ltV; omega
 ·obtain ⟨j, hj, rfl⟩ := List.getElem_of_mem hy; rw [List.getElem_drop]; simp only [List.length_drop] at hj; have h1 := hN.hi (upN l v.key v.ts + j) (by omega) (by omega); rw [ordI_gt] at h1; unfold ltV; omega
theorem putL_len (l : List Ver) (v : Ver) : (putL l v).length = l.length + 1 := by
 unfold putL; rw [List.length_append, List.length_cons, ← Nat.add_assoc, ← List.length_append, List.take_append_drop]
theorem sto_put {l : List Ver} {v : Ver} (h : Sto l) (hw : wfB v = true) (hn : newestR l v.key < v.ts) (hl : l.length < 4000) : Sto (putL l v) := by
 have hlen := putL_len l v; obtain ⟨xs, ys, rfl, e, hx, hy⟩ := put_parts h hn; rw [e] at hlen ⊢; have hup := List.pairwise_append.1 h.up; refine ⟨fun u hu => ?_, ?_, by omega⟩
 ·rcases List.mem_append.1 hu with hu | hu
  ·exact h.wf u (List.mem_append.2 (.inl hu))
  ·rcases List.mem_cons.1 hu with rfl | hu
   ·exact hw
   ·exact h.wf u (List.mem_append.2 (.inr hu))
 ·refine List.pairwise_append.2 ⟨hup.1, List.pairwise_cons.2 ⟨hy, hup.2.1⟩, fun a ha b hb => ?_⟩; rcases List.mem_cons.1 hb with rfl | hb
  ·exact hx a ha
  ·exact hup.2.2 a ha b hb
theorem atFold_hit {l : List Ver} {v : Ver} {k t : Int} (h : Sto l) (hn : newestR l v.key < v.ts) (hk : v.key = k) (ht : v.ts ≤ t) : atFold (putL l v) k t = v := by
 obtain ⟨xs, ys, rfl, e, hx, hy⟩ := put_parts h hn; have hge := (newestR_ge (l := xs ++ ys) (k := v.key) (b := 0)).2
 change ∀ x ∈ xs ++ ys, x.key = v.key → x.ts ≤ newestR (xs ++ ys) v.key at hge
 rw [e]; unfold atFold; rw [List.foldl_append, List.foldl_cons, if_pos ⟨hk, ht⟩]; refine foldl_keep (fun u : Ver => u.key = k ∧ u.ts ≤ t) (fun _ u => u) v ys fun u hu hm => ?_
 have h1 := hy u hu; have h2 := hge u (List.mem_append.2 (.inr hu)); unfold ltV at h1; omega
theorem atFold_miss {l : List Ver} {v : Ver} {k t : Int} (h : Sto l) (hn : newestR l v.key < v.ts) (hm : ¬(v.key = k ∧ v.ts ≤ t)) : atFold (putL l v) k t = atFold l k t := by
 obtain ⟨xs, ys, rfl, e, hx, hy⟩ := put_parts h hn; rw [e]; unfold atFold; rw [List.foldl_append, List.foldl_cons, if_neg hm, ← List.foldl_append]
end Go.Proofs.Ytlfkgbideknkhaa
namespace Go.Proofs.Ytlfkgbideknkhaa
theorem sorted_ext {α : Type} {r : α → α → Prop} (hi : ∀ a, ¬r a a) (ht : ∀ a b c, r a b → r b c → r a c) : ∀ {l l' : List α}, l.Pairwise r → l'.Pairwise r → (∀ x, x ∈ l ↔ x ∈ l') → l = l'
 | [], [], _, _, _ => rfl
 | [], y :: l', _, _, h => absurd ((h y).2 (by simp)) (by simp)
 | x :: l, [], _, _, h => absurd ((h x).1 (by simp)) (by simp)
 | x :: l, y :: l', h1, h2, h => by
  have p1 := List.pairwise_cons.1 h1; have p2 := List.pairwise_cons.1 h2; have e : x = y := by
   rcases List.mem_cons.1 ((h x).1 (by simp)) with e | hx
   ·exact e
   ·rcases List.mem_cons.1 ((h y).2 (by simp)) with e | hy
    ·exact e.symm
    ·exact absurd (ht _ _ _ (p1.1 y hy) (p2.1 x hx)) (hi x)
  subst e; have hn : ∀ {m : List α}, (∀ a ∈ m, r x a) → x ∉ m := fun hm hx => hi x (hm x hx)
  refine congrArg (x :: ·) (sorted_ext hi ht p1.2 p2.2 fun z => ?_); constructor
  ·intro hz; rcases List.mem_cons.1 ((h z).1 (by simp [hz])) with e | hz'
   ·subst e; exact absurd hz (hn p1.1)
   ·exact hz'
  ·intro hz; rcases List.mem_cons.1 ((h z).2 (by simp [hz])) with e | hz'
   ·subst e; exact absurd hz (hn p2.1)
   ·exact hz'
end Go.Proofs.Ytlfkgbideknkhaa
namespace Go.Proofs.Ytlfkgbideknkhaa
theorem newest_in {l : List Ver} {k : Int} : newestR l k = 0 ∨ ∃ v ∈ l, v.key = k ∧ v.ts = newestR l k := newestR_in (l := l) (k := k) (b := 0)
theorem putL_perm (l : List Ver) (v : Ver) : (putL l v).Perm (v :: l) := by
 unfold putL; refine List.perm_middle.trans (.cons _ ?_); rw [List.take_append_drop]
theorem put_eq {l : List Ver} {v : Ver} (h : Sto l) (hw : wfB v = true) (hl : l.length < 4000) (hn : ∀ x ∈ l, x.key = v.key → x.ts < v.ts) : putS l v = (putL l v, 0) ∧ Sto (putL l v) := by
 have h1 : newestR l v.key < v.ts := by
  rcases newest_in (l := l) (k := v.key) with e | ⟨x, hx, hk, ht⟩
  ·simp only [wfB, Bool.and_eq_true, decide_eq_true_eq] at hw; omega
  ·have := hn x hx hk; omega
 refine ⟨?_, sto_put h hw h1 hl⟩; unfold putS; rw [(sto_iff l).2 h, hw, newest_eq h, if_neg (by simp), if_neg (by omega), if_neg (by omega)]
theorem ltV_irrefl (a : Ver) : ¬ltV a a := by unfold ltV; omega
theorem sto_ext {l l' : List Ver} (h : Sto l) (h' : Sto l') (hp : l.Perm l') : l = l' :=
 sorted_ext ltV_irrefl (fun _ _ _ => ltV_trans) h.up h'.up fun _ => hp.mem_iff
structure Part (l b left : List Ver) : Prop where
 sto : Sto b
 perm : (b ++ left).Perm l
 up : ∀ x ∈ b, ∀ y ∈ left, x.ts ≤ y.ts
theorem Part.start {l : List Ver} : Part l [] l := ⟨⟨by simp, .nil, by simp⟩, .refl _, by simp⟩
theorem Part.done {l b : List Ver} (hs : Sto l) (h : Part l b []) : b = l := sto_ext h.sto hs (by simpa using h.perm)
theorem Part.len {l b left : List Ver} (h : Part l b left) : b.length + left.length = l.length := by rw [← h.perm.length_eq, List.length_append]
theorem Part.next {l b left : List Ver} (hs : Sto l) (h : Part l b left) {at_ : Nat} (ha : at_ < left.length) (hmin : ∀ j (hj : j < left.length), left[at_].ts ≤ left[j].ts) :
  putS b left[at_] = (putL b left[at_], 0) ∧ Part l (putL b left[at_]) (left.take at_ ++ left.drop (at_ + 1)) := by
 have hlen := h.len; have hl4 := hs.len; have hmem : left[at_] ∈ l := h.perm.mem_iff.1 (List.mem_append.2 (.inr (List.getElem_mem ha))); have hnd : (b ++ left).Pairwise (fun a c => ¬(a.key = c.key ∧ a.ts = c.ts)) := by
  have h1 : l.Pairwise (fun a c => ¬(a.key = c.key ∧ a.ts = c.ts)) := hs.up.imp fun h => by unfold ltV at h; omega
  exact (h.perm.pairwise_iff (fun {a c} h => by rintro ⟨e1, e2⟩; exact h ⟨e1.symm, e2.symm⟩)).2 h1
 have hdis := (List.pairwise_append.1 hnd).2.2; obtain ⟨h1, h2⟩ := put_eq h.sto (hs.wf _ hmem) (by omega) (fun x hx hkey => by
  have h3 := h.up x hx _ (List.getElem_mem ha); have h4 := hdis x hx _ (List.getElem_mem ha); omega)
 have hsub : ∀ y ∈ left.take at_ ++ left.drop (at_ + 1), y ∈ left := fun y hy => by
  rcases List.mem_append.1 hy with hy | hy
  ·exact List.mem_of_mem_take hy
  ·exact List.mem_of_mem_drop hy
 refine ⟨h1, h2, ?_, fun x hx y hy => ?_⟩
 ·refine List.Perm.trans ?_ h.perm; refine ((putL_perm _ _).append_right _).trans ?_; refine List.Perm.trans (l₂ := b ++ (left[at_] :: (left.take at_ ++ left.drop (at_ + 1)))) ?_ ?_
  ·exact (List.perm_middle (l₁ := b) (l₂ := left.take at_ ++ left.drop (at_ + 1)) (a := left[at_])).symm
  ·refine List.Perm.append_left b ?_; refine (List.perm_middle (l₁ := left.take at_) (l₂ := left.drop (at_ + 1)) (a := left[at_])).symm.trans ?_; rw [← List.drop_eq_getElem_cons ha, List.take_append_drop]
 ·have hy' := hsub y hy; rcases List.mem_cons.1 ((putL_perm _ _).mem_iff.1 hx) with rfl | hx
  ·obtain ⟨j, hj, rfl⟩ := List.getElem_of_mem hy'; exact hmin j hj
  ·exact h.up x hx y hy'
end Go.Proofs.Ytlfkgbideknkhaa
namespace Go.Proofs.Ytlfkgbideknkhaa
def putsS : List Ver → List Ver → List Ver × Int
 | l, [] => (l, 0)
 | l, v :: vs => if (putS l v).2 = 0 then putsS (putS l v).1 vs else ([], (putS l v).2)
structure Ins (vs : List Ver) : Prop where
 wf : ∀ v ∈ vs, wfB v = true
 up : vs.Pairwise (fun a b => a.key = b.key → a.ts < b.ts)
def stepV (k t : Int) (a v : Ver) : Ver := if v.key = k ∧ v.ts ≤ t then v else a
theorem atFold_put {l : List Ver} {v : Ver} (h : Sto l) (hw : wfB v = true) (hn : ∀ x ∈ l, x.key = v.key → x.ts < v.ts) (k t : Int) : atFold (putL l v) k t = stepV k t (atFold l k t) v := by
 have h1 : newestR l v.key < v.ts := by
  rcases newest_in (l := l) (k := v.key) with e | ⟨x, hx, hk, ht⟩
  ·simp only [wfB, Bool.and_eq_true, decide_eq_true_eq] at hw; omega
  ·have := hn x hx hk; omega
 unfold stepV
 split
 ·next hc => exact atFold_hit h h1 hc.1 hc.2
 ·next hc => exact atFold_miss h h1 hc
theorem puts_ok : ∀ {vs l : List Ver}, Sto l → Ins vs → (∀ x ∈ l, ∀ v ∈ vs, x.key = v.key → x.ts < v.ts) → l.length + vs.length ≤ 4000 →
  ∃ m, putsS l vs = (m, 0) ∧ Sto m ∧ m.Perm (l ++ vs) ∧ ∀ k t, atFold m k t = vs.foldl (stepV k t) (atFold l k t)
 | [], l, h, _, _, _ => ⟨l, rfl, h, by simp, fun _ _ => rfl⟩
 | v :: vs, l, h, hi, hn, hl => by
  simp only [List.length_cons] at hl; have hw := hi.wf v List.mem_cons_self; obtain ⟨e1, h1⟩ := put_eq h hw (by omega) fun x hx hk => hn x hx v List.mem_cons_self hk
  have hu := List.pairwise_cons.1 hi.up; have hp := putL_perm l v; have hv : ∀ x ∈ putL l v, ∀ u ∈ vs, x.key = u.key → x.ts < u.ts := fun x hx u hu' hk => by
   rcases List.mem_cons.1 (hp.mem_iff.1 hx) with rfl | hx
   ·exact hu.1 u hu' hk
   ·exact hn x hx u (List.mem_cons_of_mem _ hu') hk
  obtain ⟨m, e2, h2, h3, h4⟩ := puts_ok h1 ⟨fun u hu' => hi.wf u (List.mem_cons_of_mem _ hu'), hu.2⟩ hv (by have := hp.length_eq; simp only [List.length_cons] at this; omega); refine ⟨m, ?_, h2, ?_, fun k t => ?_⟩
  ·unfold putsS; rw [e1]; exact e2
  ·refine h3.trans ((hp.append_right vs).trans ?_)
   simpa using (List.perm_middle (a := v) (l₁ := l) (l₂ := vs)).symm
  ·rw [h4, List.foldl_cons, atFold_put h hw fun x hx hk => hn x hx v List.mem_cons_self hk]
theorem puts_app : ∀ {a b l m : List Ver}, putsS l (a ++ b) = (m, 0) → ∃ m', putsS l a = (m', 0) ∧ putsS m' b = (m, 0)
 | [], _, l, _, h => ⟨l, rfl, h⟩
 | v :: a, b, l, m, h => by
  have h' : (if (putS l v).2 = 0 then putsS (putS l v).1 (a ++ b) else ([], (putS l v).2)) = (m, 0) := h
  by_cases hc : (putS l v).2 = 0
  ·rw [if_pos hc] at h'; obtain ⟨m', h1, h2⟩ := puts_app h'; refine ⟨m', ?_, h2⟩
   show (if (putS l v).2 = 0 then putsS (putS l v).1 a else ([], (putS l v).2)) = (m', 0)
   rw [if_pos hc]; exact h1
  ·rw [if_neg hc] at h'
   injection h' with _ h2
   exact absurd h2 hc
theorem puts_one {l m : List Ver} {v : Ver} (h : putsS l [v] = (m, 0)) : putS l v = (m, 0) := by
 have h' : (if (putS l v).2 = 0 then ((putS l v).1, (0 : Int)) else ([], (putS l v).2)) = (m, 0) := h
 by_cases hc : (putS l v).2 = 0
 ·rw [if_pos hc] at h'
  injection h' with h1 _
  rw [← h1, ← hc]
 ·rw [if_neg hc] at h'
  injection h' with _ h2
  exact absurd h2 hc
theorem sto_nil : Sto [] := ⟨fun _ h => absurd h List.not_mem_nil, .nil, by simp⟩
theorem puts_nil {vs : List Ver} (hi : Ins vs) (hl : vs.length ≤ 4000) :
  ∃ m, putsS [] vs = (m, 0) ∧ Sto m ∧ m.Perm vs ∧ ∀ k t, atFold m k t = vs.foldl (stepV k t) Ver.zero := by
 obtain ⟨m, h1, h2, h3, h4⟩ := puts_ok sto_nil hi (fun _ h => absurd h List.not_mem_nil) (by simpa using hl); exact ⟨m, h1, h2, by simpa using h3, h4⟩
end Go.Proofs.Ytlfkgbideknkhaa
namespace Go.Proofs.Ytlfkgbideknkhaa
section
variable {σ ρ α : Type}
theorem ifB_t (x y : Option α) : ifB true x y = x := rfl
theorem ifB_f (x y : Option α) : ifB false x y = y := rfl
theorem ob_some (a : σ) (k : σ → Option α) : Option.bind (some a) k = k a := rfl
theorem whenG_t {c : Bool} {x : α} (h : c = true) : whenG c x = some x := if_pos h
theorem ixI_nat {l : List α} {k : Nat} : ixI l (k : Int) = l[k]? := by unfold ixI; rw [if_pos (by omega), Int.toNat_natCast]
theorem ixI_get {l : List α} {k : Nat} (h : k < l.length) : ixI l (k : Int) = some l[k] := by rw [ixI_nat, List.getElem?_eq_getElem h]
theorem apG_ok {B : Nat} {a b : List α} (h : (a.length + b.length) * B ≤ 140737488355328) : apG B a b = some (a ++ b) := if_pos h
theorem slI_ok {l : List α} {p q : Nat} (h : p ≤ q) (hq : q ≤ l.length) : slI l (p : Int) (q : Int) = some ((l.take q).drop p) := by unfold slI; rw [if_pos (by omega)]; simp
theorem w64_nat {k : Nat} (h : k < 9223372036854775807) : IntKind.i64.wrap ((k : Int) + 1) = ((k + 1 : Nat) : Int) := by rw [IntKind.wrap_i64]; omega
theorem iter_seq {f : σ → Option (σ ⊕ ρ)} (s : Nat → σ) (n : Nat) (r : ρ) (h : ∀ k, k < n → f (s k) = some (.inl (s (k + 1)))) (he : f (s n) = some (.inr r)) {F : Nat} (hF : n < F) : iter f F (s 0) = some r := by
 have key : ∀ (m k F : Nat), m = n - k → k ≤ n → n - k < F → iter f F (s k) = some r := by
  intro m
  induction m with
  | zero =>
   intro k F hm hk hF; obtain ⟨F', rfl⟩ : ∃ F', F = F' + 1 := ⟨F - 1, by omega⟩; have : k = n := by omega
   subst this; unfold iter; rw [he]
  | succ m ih =>
   intro k F hm hk hF; obtain ⟨F', rfl⟩ : ∃ F', F = F' + 1 := ⟨F - 1, by omega⟩; unfold iter; rw [h k (by omega)]; exact ih (k + 1) F' (by omega) (by omega) (by omega)
 exact key n 0 F (by omega) (Nat.zero_le _) (by omega)
end
end Go.Proofs.Ytlfkgbideknkhaa
namespace Go.Proofs.Ytlfkgbideknkhaa
section
variable {σ ρ α β : Type}
theorem iter_from {f : σ → Option (σ ⊕ ρ)} (l : List α) (e : β → Nat → σ) (g : β → Nat → α → β ⊕ ρ) (fin : β → ρ) (I : Nat → β → Prop) (run : List α → Nat → β → ρ)
  (r0 : ∀ k b, run [] k b = fin b) (r1 : ∀ x xs k b, run (x :: xs) k b = match g b k x with | .inl b' => run xs (k + 1) b' | .inr r => r)
  (hn : ∀ b, I l.length b → f (e b l.length) = some (.inr (fin b)))
  (hk : ∀ b k (h : k < l.length), I k b → f (e b k) = some (match g b k l[k] with | .inl b' => .inl (e b' (k + 1)) | .inr r => .inr r) ∧ ∀ b', g b k l[k] = .inl b' → I (k + 1) b') {F : Nat} (hF : l.length < F) (b : β) (hb : I 0 b) :
  iter f F (e b 0) = some (run l 0 b) := by
 have key : ∀ (m k F : Nat) (b : β), k + m = l.length → m < F → I k b → iter f F (e b k) = some (run (l.drop k) k b) := by
  intro m
  induction m with
  | zero =>
   intro k F b hm hF hb; obtain ⟨F', rfl⟩ : ∃ F', F = F' + 1 := ⟨F - 1, by omega⟩; obtain rfl : k = l.length := by omega
   unfold iter; rw [hn b hb, List.drop_length, r0]
  | succ m ih =>
   intro k F b hm hF hb; obtain ⟨F', rfl⟩ : ∃ F', F = F' + 1 := ⟨F - 1, by omega⟩; have hlt : k < l.length := by omega
   obtain ⟨h1, h2⟩ := hk b k hlt hb; unfold iter; rw [h1, List.drop_eq_getElem_cons hlt, r1]; cases hg : g b k l[k] with
   | inl b' => exact ih (k + 1) F' b' (by omega) (by omega) (h2 b' hg)
   | inr r => rfl
 have := key l.length 0 F b (by omega) hF hb
 rwa [List.drop_zero] at this
theorem iter_allL {f : Int → Option (Int ⊕ ρ)} (l : List α) (p : α → Bool) (a b : ρ) (hn : f (l.length : Int) = some (.inr a)) (hk : ∀ k (h : k < l.length), f (k : Int) = some (if p l[k] = true then .inl ((k : Int) + 1) else .inr b)) {F : Nat} (hF : l.length < F) :
  iter f F 0 = some (if l.all p = true then a else b) := by
 refine iter_from (β := Unit) l (fun _ k => (k : Int)) (fun _ _ x => if p x = true then .inl () else .inr b) (fun _ => a) (fun _ _ => True) (fun l _ _ => if l.all p = true then a else b) (fun _ _ => rfl) (fun x xs k _ => ?_) (fun _ _ => hn) (fun _ k h _ => ⟨?_, fun _ _ => trivial⟩) hF () trivial
 ·rw [List.all_cons]; cases p x <;> simp
 ·rw [hk k h]; cases p l[k] <;> rfl
theorem iter_fdL {f : Int → Option (Int ⊕ ρ)} (l : List α) (p : α → Bool) (a : ρ) (b : Nat → ρ) (hn : f (l.length : Int) = some (.inr a)) (hk : ∀ k (h : k < l.length), f (k : Int) = some (if p l[k] = true then .inr (b k) else .inl ((k : Int) + 1))) {F : Nat} (hF : l.length < F) :
  iter f F 0 = some (match l.findIdx? p with | none => a | some k => b k) := by
 have h := iter_from (f := f) (β := Unit) l (fun _ k => (k : Int)) (fun _ k x => if p x = true then .inr (b k) else .inl ()) (fun _ => a) (fun _ _ => True) (fun l k _ => match l.findIdx? p with | none => a | some j => b (k + j)) (fun _ _ => rfl) (fun x xs k _ => ?_) (fun _ _ => hn) (fun _ k h _ => ⟨?_, fun _ _ => trivial⟩) hF () trivial
 ·simp only [Nat.zero_add] at h; exact h
 ·rw [List.findIdx?_cons]; cases p x
  ·simp only [Bool.false_eq_true, if_false]; cases xs.findIdx? p with
   | none => rfl
   | some j => simp only [Option.map_some]; congr 1; omega
  ·simp
 ·rw [hk k h]; cases p l[k] <;> rfl
def risF : Int → List Int → Bool
 | _, [] => true
 | a, k :: ks => decide (a < k) && risF k ks
theorem iter_fold {f : σ → Option (σ ⊕ ρ)} (e : β → Int → σ) (l : List α) (g : β → α → β) (fin : β → ρ) (I : Nat → β → Prop) (hn : ∀ b, I l.length b → f (e b (l.length : Int)) = some (.inr (fin b)))
  (hk : ∀ b k (h : k < l.length), I k b → f (e b (k : Int)) = some (.inl (e (g b l[k]) ((k : Int) + 1))) ∧ I (k + 1) (g b l[k])) {F : Nat} (hF : l.length < F) (b : β) (hb : I 0 b) :
  iter f F (e b 0) = some (fin (l.foldl g b)) := by
 refine iter_from l (fun b k => e b (k : Int)) (fun b _ x => .inl (g b x)) fin I (fun l _ b => fin (l.foldl g b)) (fun _ _ => rfl) (fun _ _ _ _ => rfl) hn (fun b k h hb => ⟨(hk b k h hb).1, fun b' h' => ?_⟩) hF b hb; cases h'; exact (hk b k h hb).2
theorem iter_foldX {τ : Type} {f : σ → Option (σ ⊕ ρ)} (e : β → Int → σ) (l : List α) (g : β → α → β ⊕ τ) (fin : β → ρ) (fx : τ → ρ) (I : Nat → β → Prop) (run : List α → β → ρ) (r0 : ∀ b, run [] b = fin b) (r1 : ∀ x xs b, run (x :: xs) b = match g b x with | .inl b' => run xs b' | .inr r => fx r)
  (hn : ∀ b, I l.length b → f (e b (l.length : Int)) = some (.inr (fin b)))
  (hk : ∀ b k (h : k < l.length), I k b → f (e b (k : Int)) = some (match g b l[k] with | .inl b' => .inl (e b' ((k : Int) + 1)) | .inr r => .inr (fx r)) ∧ ∀ b', g b l[k] = .inl b' → I (k + 1) b') {F : Nat} (hF : l.length < F) (b : β) (hb : I 0 b) :
  iter f F (e b 0) = some (run l b) := by
 refine iter_from l (fun b k => e b (k : Int)) (fun b _ x => match g b x with | .inl b' => .inl b' | .inr r => .inr (fx r)) fin I (fun l _ b => run l b) (fun _ b => r0 b) (fun x xs k b => ?_) hn (fun b k h hb => ⟨?_, fun b' h' => ?_⟩) hF b hb
 ·rw [r1]; cases g b x <;> rfl
 ·rw [(hk b k h hb).1]; cases g b l[k] <;> rfl
 ·refine (hk b k h hb).2 b' ?_; cases hg : g b l[k] with
  | inl c => rw [hg] at h'; cases h'; rfl
  | inr r => rw [hg] at h'; cases h'
end
theorem ltl {k n : Nat} (h : k < n) : decide ((k : Int) < (n : Int)) = true := decide_eq_true (by omega)
theorem ltn (n : Nat) : decide ((n : Int) < (n : Int)) = false := decide_eq_false (by omega)
theorem w64_1 {k n : Nat} (h : k < n) (hn : n ≤ 9223372036854775807) : IntKind.i64.wrap ((k : Int) + 1) = (k : Int) + 1 := by rw [IntKind.wrap_i64]; omega
theorem w64_p {k : Nat} (h : 0 < k) (hn : k ≤ 9223372036854775807) : IntKind.i64.wrap ((k : Int) - 1) = ((k - 1 : Nat) : Int) := by rw [IntKind.wrap_i64]; omega
end Go.Proofs.Ytlfkgbideknkhaa
namespace Go.Proofs.Ytlfkgbideknkhaa
theorem dnot {p q : Prop} [Decidable p] [Decidable q] (h : p ↔ ¬q) : decide p = !decide q := by
 rw [← decide_not]; exact decide_eq_decide.2 h
theorem deq {p q : Prop} [Decidable p] [Decidable q] (h : p ↔ q) : decide p = decide q := decide_eq_decide.2 h
def frL {α : Type} (p : Nat → α → Bool) : List α → Nat → Bool
 | [], _ => true
 | x :: xs, k => p k x && frL p xs (k + 1)
theorem frL_iff {α : Type} {p : Nat → α → Bool} : ∀ {l : List α} {k : Nat}, frL p l k = true ↔ ∀ j (h : j < l.length), p (k + j) l[j] = true
 | [], k => ⟨fun _ j h => absurd h (Nat.not_lt_zero _), fun _ => rfl⟩
 | x :: l, k => by
  rw [frL, Bool.and_eq_true, frL_iff]; constructor
  ·rintro ⟨h1, h2⟩ j hj
   match j, hj with
   | 0, _ => exact h1
   | j + 1, hj =>
    have := h2 j (by simpa using hj); rw [show k + (j + 1) = k + 1 + j by omega]; exact this
  ·intro h; refine ⟨h 0 (by simp), fun j hj => ?_⟩; have := h (j + 1) (by simpa using hj); rw [show k + 1 + j = k + (j + 1) by omega]; exact this
def foI {α β : Type} (h : β → Nat → α → β) : List α → Nat → β → β
 | [], _, b => b
 | x :: xs, k, b => foI h xs (k + 1) (h b k x)
section
variable {σ ρ α β : Type}
theorem iter_chk {f : σ → Option (σ ⊕ ρ)} (e : β → Int → σ) (l : List α) (p : Nat → α → Bool) (g : β → Nat → α → β) (fin : β → ρ) (r : ρ) (I : Nat → β → Prop) (hn : ∀ b, I l.length b → f (e b (l.length : Int)) = some (.inr (fin b)))
  (hk : ∀ b k (h : k < l.length), I k b → f (e b (k : Int)) = some (if p k l[k] = true then .inl (e (g b k l[k]) ((k : Int) + 1)) else .inr r) ∧ I (k + 1) (g b k l[k])) {F : Nat} (hF : l.length < F) (b : β) (hb : I 0 b) :
  iter f F (e b 0) = some (if frL p l 0 = true then fin (foI g l 0 b) else r) := by
 refine iter_from l (fun b k => e b (k : Int)) (fun b k x => if p k x = true then .inl (g b k x) else .inr r) fin I (fun l k b => if frL p l k = true then fin (foI g l k b) else r) (fun _ _ => rfl) (fun x xs k b => ?_) hn (fun b k h hb => ⟨?_, fun b' h' => ?_⟩) hF b hb
 ·rw [frL]; cases p k x <;> simp [foI]
 ·rw [(hk b k h hb).1]; cases p k l[k] <;> rfl
 ·have h1 := (hk b k h hb).2
  split at h'
  ·cases h'; exact h1
  ·cases h'
theorem iter_chkU {f : Int → Option (Int ⊕ ρ)} (l : List α) (p : Nat → α → Bool) (a r : ρ) (hn : f (l.length : Int) = some (.inr a))
  (hk : ∀ k (h : k < l.length), f (k : Int) = some (if p k l[k] = true then .inl ((k : Int) + 1) else .inr r)) {F : Nat} (hF : l.length < F) :
  iter f F 0 = some (if frL p l 0 = true then a else r) := by
 have := iter_chk (f := f) (β := Unit) (fun _ k => k) l p (fun _ _ _ => ()) (fun _ => a) r (fun _ _ => True) (fun _ _ => hn) (fun _ k h _ => ⟨hk k h, trivial⟩) hF () trivial; exact this
theorem iter_eqL [DecidableEq α] {f : Int → Option (Int ⊕ ρ)} (l m : List α) (hl : l.length = m.length) (a b : ρ) (hn : f (l.length : Int) = some (.inr a))
  (hk : ∀ k (h : k < l.length) (h' : k < m.length), f (k : Int) = some (if decide (l[k] = m[k]) = true then .inl ((k : Int) + 1) else .inr b)) {F : Nat} (hF : l.length < F) :
  iter f F 0 = some (if decide (l = m) = true then a else b) := by
 rw [iter_chkU l (fun k x => decide (m[k]? = some x)) a b hn (fun k h => ?_) hF]
 ·congr 2
  refine propext ?_; rw [frL_iff, decide_eq_true_eq]; constructor
  ·intro h; refine List.ext_getElem hl fun j h1 h2 => ?_
   have := h j h1; rw [Nat.zero_add, decide_eq_true_eq, List.getElem?_eq_getElem h2] at this; exact (Option.some.inj this).symm
  ·rintro rfl j hj
   simp [hj]
 ·rw [hk k h (hl ▸ h), List.getElem?_eq_getElem (hl ▸ h)]
  congr 2
  refine propext ?_; simp only [decide_eq_true_eq, Option.some.injEq]; exact ⟨fun h => h.symm, fun h => h.symm⟩
end
end Go.Proofs.Ytlfkgbideknkhaa
namespace Go.Proofs.Ytlfkgbideknkhaa
open Go.RowKit
def RetVF (w0 : World) (r : List Ver × Int) (e : Ending) (w' : World) : Prop :=
 ∃ A c, e = .returned (.tuple #[.slice A r.1.length c, .int .i64 r.2]) ∧ r.1.length ≤ c ∧ c ≤ maxLen ∧ VS w' A r.1 ∧ (∀ a, A = some a → w0.heap.size ≤ a.block) ∧ Below w0.heap.size w0 w'
theorem RetVF.none_ {w0 w' : World} {x : Int} (hb : Below w0.heap.size w0 w') : RetVF w0 ([], x) (.returned (.tuple #[.slice none 0 0, .int .i64 x])) w' :=
 ⟨none, 0, rfl, Nat.le_refl _, Nat.zero_le _, Rd.nil _ _, fun _ h => (by cases h), hb⟩
set_option maxHeartbeats 1000000 in
theorem put_fr (A : Option Addr) (c : Nat) (l : List Ver) (v : Ver) (w : World) (hn : l.length ≤ 9223372036854775807) (h : VS w A l) :
  Calls Try.prog 37 #[.slice A l.length c, .agg #[.int .i64 v.key, .int .i64 v.ts, .int .i64 v.value, .bool v.gone]] w (RetVF w (putS l v)) := by
 cases hv : validB l
 ·have hp : putS l v = ([], 1) := by simp [putS, hv]
  rw [hp]
  go_enter Try.func37, Try.ntmps37
  go_wp2_with (go_at_call 40; with_reducible refine (valid_any A c l _ (by omega) (h.alloc _)).mono ?_; rw [hv]; rintro e w1 ⟨rfl, hb⟩)
  go_ret2
  exact RetVF.none_ (((Below.refl _ _).alloc (Nat.le_refl _) _).trans (hb.mono (by simp)))
 ·cases hw : wfB v
  ·have hp : putS l v = ([], 1) := by simp [putS, hv, hw]
   rw [hp]; have hwfv : wfB ⟨v.key, v.ts, v.value, v.gone⟩ = false := hw
   go_enter Try.func37, Try.ntmps37
   go_wp2_with (first | (go_at_call 40; with_reducible refine (valid_any A c l _ (by omega) (h.alloc _)).mono ?_; rw [hv]; rintro e w1 ⟨rfl, hb⟩; have n1 := (VAt.new (v := v) rfl).below hb (by simp); unfold VAt at n1) | (go_at_call 68; refine (wf_any _ _ _ _ _).mono ?_; rw [hwfv]; rintro e w2 ⟨rfl, hb2⟩))
   go_ret2
   exact RetVF.none_ ((((Below.refl _ _).alloc (Nat.le_refl _) _).trans (hb.mono (by simp))).trans (hb2.mono (by have := hb.size; simp at this; omega)))
  ·have hst := (sto_iff l).1 hv; have hn : l.length ≤ 4611686018427387904 := by have := hst.len; omega
   have hwfv : wfB ⟨v.key, v.ts, v.value, v.gone⟩ = true := hw
   go_enter Try.func37, Try.ntmps37
   go_upto_region 3 with (first | (go_at_call 40; with_reducible refine (valid_any A c l _ (by omega) (h.alloc _)).mono ?_; rw [hv]; rintro e w1 ⟨rfl, hb⟩; have n1 := (VAt.new (v := v) rfl).below hb (by simp); unfold VAt at n1) | (go_at_call 68; refine (wf_any _ _ _ _ _).mono ?_; rw [hwfv]; rintro e w2 ⟨rfl, hb2⟩))
   have b2 : Below w.heap.size w w2 := (((Below.refl _ _).alloc (Nat.le_refl _) _).trans (hb.mono (by simp))).trans (hb2.mono (by have := hb.size; simp at this; omega)); have hw2 : w.heap.size < w2.heap.size := by have h1 := hb.size; have h2 := hb2.size; simp at h1; omega
   have h2 : VS w2 A l := h.below b2 (Nat.le_refl _); have n2 : VAt w2 w.heap.size 0 v := VAt.below (w := w1) (by unfold VAt; exact n1) hb2 (by have := hb.size; simp at this; omega); clear n1 hb hb2; have n3 := n2.fut hw2; unfold VAt at n3; have hlast := fun x : Fut w2.heap.size w2 => last_any A c l v.key 3000000000000000 (upN l v.key 3000000000000000) x.v hn (h2.below x.h (Nat.le_refl _)) (upN_spec hst.up _ _)
   unfold Ver.val at hlast; have HL := hide hlast; have HV := hide hv; have HW := hide hw; clear hlast hv hw hwfv
   by_cases ho : v.ts ≤ (lastN l v.key (upN l v.key 3000000000000000)).ts
   ·have ho' := decide_eq_true ho; have hp : putS l v = ([], 30) := by simp [putS, HV.out, HW.out, lastV, ho]
    have HP := hide hp; clear hp ho; refine wp_region_fut w2.heap.size (by kernel_rfl) (by kernel_rfl) ?_
    repeat (go_big_quiet_step ((go_at_call 58; exact Fut.call (Nat.le_refl _) (HL.out _))))
    refine wpQuiet_nil ?_; rintro _ ⟨⟨w3, hb3⟩, rfl⟩
    go_wp2
    go_ret2
    rw [HP.out]; exact RetVF.none_ (b2.trans (hb3.mono (by omega)))
   ·have ho' := decide_eq_false ho; have HO := hide ho; clear ho; refine wp_region_fut w2.heap.size (by kernel_rfl) (by kernel_rfl) ?_
    repeat (go_big_quiet_step ((go_at_call 58; exact Fut.call (Nat.le_refl _) (HL.out _))))
    refine wpQuiet_nil ?_; intro w3 hq'; have hb3 := Fut.of hq'; clear hq'
    by_cases h4 : l.length = 4000
    ·have h4' : ((l.length : Int) == 4000) = true := by simp; omega
     have hp : putS l v = ([], 2) := by simp [putS, HV.out, HW.out, lastV, HO.out, h4]
     have HP := hide hp; clear hp h4
     go_wp2
     go_ret2
     rw [HP.out]; exact RetVF.none_ (b2.trans (hb3.mono (by omega)))
    ·have h4' : ((l.length : Int) == 4000) = false := by simp; omega
     have hp : putS l v = (putL l v, 0) := by simp [putS, HV.out, HW.out, lastV, HO.out, h4]
     have HP := hide hp; clear hp
     go_upto_region 7 with fail
     have hw3 : w.heap.size < w3.heap.size := by have := hb3.size; omega
     have h3 : VS w3 A l := h2.below hb3 (Nat.le_refl _); have n3 : VAt w3 w.heap.size 0 v := n2.below hb3 hw2; have b3 : Below w.heap.size w w3 := b2.trans (hb3.mono (by omega)); clear hb3
     go_region_held3 (fun w' => Below w3.heap.size w3 w' ∧ w'.cell? ⟨w.heap.size, 0, none⟩ = some (.int .i64 v.key) ∧ w'.cell? ⟨w.heap.size, 1, none⟩ = some (.int .i64 v.ts) ∧ w'.cell? ⟨w.heap.size, 2, none⟩ = some (.int .i64 v.value) ∧ w'.cell? ⟨w.heap.size, 3, none⟩ = some (.bool v.gone))
      ((refine keepV ?_ hw3 n3; (repeat (first | exact Below.refl _ _ | (refine Below.drew ?_) | (refine Below.alloc ?_ (by (first | ((repeat (first | simp only [World.size_alloc] | simp only [heap_drew])); omega) | omega | (simp; omega))) _) | (refine Below.trans ?_ (Below.mono (by assumption) (by (first | ((repeat (first | simp only [World.size_alloc] | simp only [heap_drew])); omega) | omega | (simp; omega)))))))))
      (first
       | (go_at_call 50; refine (cloneV_any A c l _ (by have := hst.len; omega) (h3.below (And.left (by assumption)) (Nat.le_refl _))).mono ?_; rintro e w4 ⟨v1, rfl, ho1, hb4⟩; obtain ⟨A1, c1, rfl, hlc, hcm, hvs⟩ := ho1.form; have hs4 := hb4.size; (repeat (first | simp only [World.size_alloc] at hs4 | simp only [heap_drew] at hs4)); clear hvs)
       | (go_at_call 70; refine (upTo_any A c l v.key v.ts (upN l v.key v.ts) _ hn (h3.below (And.left (by assumption)) (Nat.le_refl _)) (upN_spec hst.up _ _)).mono ?_; rintro e w5 ⟨rfl, hb5⟩; have hs5 := hb5.size; (repeat (first | simp only [World.size_alloc] at hs5 | simp only [heap_drew] at hs5)))
       | (go_at_call 69; refine (insertV_any A1 c1 l (upN l v.key v.ts) v _ _ _ (ho1.below (by (repeat (first | exact Below.refl _ _ | (refine Below.drew ?_) | (refine Below.alloc ?_ (by (first | ((repeat (first | simp only [World.size_alloc] | simp only [heap_drew])); omega) | omega | (simp; omega))) _) | (refine Below.trans ?_ (Below.mono (by assumption) (by (first | ((repeat (first | simp only [World.size_alloc] | simp only [heap_drew])); omega) | omega | (simp; omega))))))))) (by (first | ((repeat (first | simp only [World.size_alloc] | simp only [heap_drew])); omega) | omega | (simp; omega))) ((upN_spec hst.up _ _).le) (by have := hst.len; omega) (by (first | exact Blk.new _ _ _ | exact Blk.drew (Blk.new _ _ _) | (refine Blk.below (Blk.new _ _ _) (by assumption) (by simp)) | (refine Blk.below (Blk.below (Blk.new _ _ _) (by assumption) (by simp)) (by assumption) (by (first | ((repeat (first | simp only [World.size_alloc] | simp only [heap_drew])); omega) | omega | (simp; omega)))) | (refine Blk.below (Blk.below (Blk.drew (Blk.new _ _ _)) (by assumption) (by simp)) (by assumption) (by (first | ((repeat (first | simp only [World.size_alloc] | simp only [heap_drew])); omega) | omega | (simp; omega)))))) (fun a ha => by have hq := ho1.blk ha; try simp only [World.size_alloc, heap_drew] at hq ⊢; omega)).mono ?_; rintro e w6 ⟨v6, rfl, ho6, hb6⟩; change OwnV w6 _ v6 (putL l v) at ho6; obtain ⟨A6, c6, rfl, hlc6, hcm6, hvs6⟩ := ho6.form; have hs6 := hb6.size; (repeat (first | simp only [World.size_alloc] at hs6 | simp only [heap_drew] at hs6))))
     all_goals
      go_wp2
      go_ret2
      rw [HP.out]; refine ⟨A6, c6, rfl, hlc6, hcm6, hvs6, fun a ha => (by have h9 := (ho6.blk ha).1; have h8 := b3.size; (repeat (first | simp only [World.size_alloc] at h9 | simp only [heap_drew] at h9)); omega), b3.trans ?_⟩; have hq : Below w3.heap.size w3 w6 := by (repeat (first | exact Below.refl _ _ | (refine Below.drew ?_) | (refine Below.alloc ?_ (by (first | ((repeat (first | simp only [World.size_alloc] | simp only [heap_drew])); omega) | omega | (simp; omega))) _) | (refine Below.trans ?_ (Below.mono (by assumption) (by (first | ((repeat (first | simp only [World.size_alloc] | simp only [heap_drew])); omega) | omega | (simp; omega)))))))
      exact hq.mono (by omega)
end Go.Proofs.Ytlfkgbideknkhaa
namespace Go.Proofs.Ytlfkgbideknkhaa
open Go.RowKit
end Go.Proofs.Ytlfkgbideknkhaa
namespace Go.Proofs.Ytlfkgbideknkhaa
open Go.RowKit
end Go.Proofs.Ytlfkgbideknkhaa
namespace Go.Proofs.Ytlfkgbideknkhaa
open Go.RowKit
end Go.Proofs.Ytlfkgbideknkhaa
namespace Go.Proofs.Ytlfkgbideknkhaa
open Go.RowKit
def KVersion.v (x : KVersion) : Ver := ⟨x.Key, x.Ts, x.Value, x.Gone⟩
def Ver.k (x : Ver) : KVersion := ⟨x.key, x.ts, x.value, x.gone⟩
theorem kv_cells (l : List KVersion) : (l.map KVersion.v).flatMap Ver.cells = l.flatMap KVersion.cells := by
 induction l with
 | nil => rfl
 | cons x l ih => rw [List.map_cons, List.flatMap_cons, List.flatMap_cons, ih]; rfl
theorem vk_cells (l : List Ver) : (l.map Ver.k).flatMap KVersion.cells = l.flatMap Ver.cells := by
 induction l with
 | nil => rfl
 | cons x l ih => rw [List.map_cons, List.flatMap_cons, List.flatMap_cons, ih]; rfl
def kRes (q : List Ver × Int) : List KVersion × Int := (q.1.map Ver.k, q.2)
def G_versions_Put (_ : Nat) (l : List KVersion) (v : KVersion) : Option (List KVersion × Int) := if l.length ≤ 9223372036854775807 then some (kRes (putS (l.map KVersion.v) v.v)) else none
theorem ifs_some {α : Type} {c : Prop} [Decidable c] {x r : α} (h : (if c then some x else none) = some r) : c ∧ r = x := by
 split at h
 ·next hc => exact ⟨hc, (Option.some.inj h).symm⟩
 ·cases h
theorem vf_res {P : Program} {f : FuncId} {args : Array Value} {q : List Ver × Int} {S0 : Nat → Prop} {w0 : World} (h : Calls P f args w0 (RetVF w0 q)) :
  Calls P f args w0 fun e w' => ∃ A c l', (kRes q).1 = l' ∧ e = .returned (.tuple #[.slice A l'.length c, I (kRes q).2]) ∧ Below w0.heap.size w0 w' ∧ RowS (ext S0 w0 w') w' A (l'.flatMap KVersion.cells) ∧ l'.length ≤ c := by
 refine h.mono fun e w' hr => ?_
 obtain ⟨A, c, he, hl, _, hv, hf, hb⟩ := hr; refine ⟨A, c, _, rfl, ?_, hb, ⟨?_, fun hn => ?_⟩, ?_⟩
 ·show e = .returned (.tuple #[.slice A (q.1.map Ver.k).length c, I q.2])
  rw [List.length_map]; exact he
 ·show Rd w' A ((q.1.map Ver.k).flatMap KVersion.cells)
  rw [vk_cells]; exact hv
 ·have hn' : q.1.flatMap Ver.cells ≠ [] := by
   intro e0; apply hn
   show (q.1.map Ver.k).flatMap KVersion.cells = []
   rw [vk_cells]; exact e0
  obtain ⟨b, o, e1, hlt, _⟩ := (show Rd w' A (q.1.flatMap Ver.cells) from hv) hn'; exact ⟨b, o, e1, .inr ⟨hf _ e1, hlt⟩⟩
 ·show (q.1.map Ver.k).length ≤ c
  rw [List.length_map]; exact hl
section
variable (F : Nat) (A : Option Addr) (c : Nat) (l : List KVersion)
theorem vs_of (S0 : Nat → Prop) (w0 : World) (hr : RowS S0 w0 A (l.flatMap KVersion.cells)) : VS w0 A (l.map KVersion.v) := by
 show Rd w0 A ((l.map KVersion.v).flatMap Ver.cells)
 rw [kv_cells]; exact hr.r
theorem g_versions_Put (v : KVersion) (S0 : Nat → Prop) (w0 : World) (_ : ∀ g, S0 g → g < w0.heap.size) (_ : Tb w0) (hr : RowS S0 w0 A (l.flatMap KVersion.cells)) (_ : l.length ≤ c) (r : List KVersion × Int) (hG : G_versions_Put F l v = some r) : Calls Try.prog 37 #[.slice A l.length c, .agg #[I v.Key, I v.Ts, I v.Value, B v.Gone]] w0 fun e w' => ∃ A' c' l', r.1 = l' ∧ e = .returned (.tuple #[.slice A' l'.length c', I r.2]) ∧ Below w0.heap.size w0 w' ∧ RowS (ext S0 w0 w') w' A' (l'.flatMap KVersion.cells) ∧ l'.length ≤ c' := by
 obtain ⟨hn, rfl⟩ := ifs_some hG; have := put_fr A c (l.map KVersion.v) v.v w0 (by rw [List.length_map]; exact hn) (vs_of A l S0 w0 hr); rw [List.length_map] at this; exact vf_res this
end
end Go.Proofs.Ytlfkgbideknkhaa
namespace Go.Proofs.Ytlfkgbideknkhaa
open Go.RowKit Go.Maps Go.Shelf
def Try.growRen : Go.Shelf.Ren := ⟨fun | 4 => 61 | n => n, fun | 0 => 0 | 3 => 3 | 4 => 4 | 9 => 9 | 20 => 20 | 22 => 22 | 25 => 5 | n => n, fun | n => n⟩
theorem Try.growL : Go.Proofs.Lays8.n4 Try.prog Try.growRen := {
 mixed := by kernel_rfl
 f4 := ⟨"slices.Grow[[]byte,byte]", by kernel_rfl, Try.func61.trans (congrArg some (by kernel_rfl))⟩
 t0 := Try.underlying0
 a0 := fun _ => by kernel_rfl
 z0 := fun _ => by kernel_rfl
 v0 := fun _ => by kernel_rfl
 t3 := Try.underlying3
 a3 := fun _ => by kernel_rfl
 z3 := fun _ => by kernel_rfl
 v3 := fun _ => by kernel_rfl
 t4 := Try.underlying4
 a4 := fun _ => by kernel_rfl
 z4 := fun _ => by kernel_rfl
 v4 := fun _ => by kernel_rfl
 t9 := Try.underlying9
 a9 := fun _ => by kernel_rfl
 z9 := fun _ => by kernel_rfl
 v9 := fun _ => by kernel_rfl
 t20 := Try.underlying20
 a20 := fun _ => by kernel_rfl
 z20 := fun _ => by kernel_rfl
 v20 := fun _ => by kernel_rfl
 t22 := Try.underlying22
 a22 := fun _ => by kernel_rfl
 z22 := fun _ => by kernel_rfl
 v22 := fun _ => by kernel_rfl }
theorem grownBy_made (w : World) (o : Obj) : w.grownBy (w.drew.alloc o) none :=
 ⟨rfl, rfl, rfl, by simp, fun k h _ => ((World.grownBy_alloc w.drew o none).block k h (by simp)).trans rfl⟩
section
variable {S0 : Nat → Prop} {w0 : World} {n : Nat} {K : List (Nat × Value)} {E : List Iz} {Q : Exit → Act → World → Prop} {o : Oper} {Kx : Act → World → Prop}
theorem gw37 (d : Nat) (z : Int) (hz : 0 ≤ z ∧ z ≤ 140737488355328)
  (h : ∀ A c, Ge S0 w0 n ((d, .slice A 0 c) :: K) (.own 5 1 (.slice A 0 c) 0 [] :: E) Kx)
  (he : ∀ J, sx Try.prog (execOp (rho K J) o) [] = some (.enter 61 #[.slice none 0 0, I z], []) := by intro J; kernel_rfl) (hd : o.dst = some d := by kernel_rfl) (hn : Nat.blt d n = true := by kernel_rfl) :
  Ge S0 w0 n K E (oW Try.prog o Q Kx) := fun a w S hK hE => by
 obtain ⟨m, rfl⟩ : ∃ m : Nat, z = (m : Int) := ⟨z.toNat, by omega⟩; unfold oW Oper.wp Oper.upon; rw [hK.eval, sx_run _ (he _) trivial, hd]
 by_cases h0 : m = 0
 ·subst h0; refine (Any8.slices_Grow_room Try.growL none 0 0 0 w (Nat.le_refl _) (by omega) (by omega) (by omega)).mono fun e w' hr => ?_
  obtain ⟨rfl, rfl⟩ := hr; exact h none 0 _ _ _ (hK.put hn _) (Es.own0 hE 5 1)
 ·obtain ⟨ti, hti, hzv, hm, hby⟩ := info_parts inf22.i; refine (Any8.slices_Grow_grow Try.growL ti _ hti hzv (by omega) none 0 0 m [] w (Nat.le_refl _) (by omega) (by rw [hby]; omega) (by omega) (by simp) (fun _ => rfl) (fun _ h => by cases h)).mono fun e w' hr => ?_
  obtain ⟨rfl, rfl⟩ := hr; refine h _ _ _ _ _ (hK.put hn _) (Es.ownNew hE (grownBy_made w _) (.inr rfl) ?_); have hs : ti.size = 1 := by omega
  refine ⟨rfl, .inr ⟨w.heap.size, _, _, rfl, Nat.le_refl _, Blk.new w.drew _ _, Nat.zero_le _, ?_, ?_, rfl⟩⟩
  ·exact grownCap_le_maxLen _ _ _ _ (by simp only [maxLen]; omega)
  ·have h1 := grownCap_ge w (0 + m) 0 (Try.growRen.t 25); have h2 : (Value.int .u8 0).cells.size = 1 := rfl; simp only [Array.size_append, size_zeroCells, h2, Array.size_empty, Nat.mul_one]; omega
end
end Go.Proofs.Ytlfkgbideknkhaa
namespace Go.Proofs.Ytlfkgbideknkhaa
open Go.RowKit
def KS (k : IntKind) (w : World) (A : Option Addr) (l : List Int) : Prop := Rd w A (l.map (Value.int k))
section
variable {k : IntKind} {w w' : World} {A : Option Addr} {l : List Int}
theorem KS.below {B : Nat} (h : KS k w A l) (hb : Below B w w') (hB : w.heap.size ≤ B) : KS k w' A l := Rd.below h hb hB
theorem KS.alloc (h : KS k w A l) (o : Obj) : KS k (w.alloc o) A l := h.below ((Below.refl _ _).alloc (Nat.le_refl _) _) (Nat.le_refl _)
theorem KS.drew (h : KS k w A l) : KS k w.drew A l := h.below (Below.refl _ _).drew (Nat.le_refl _)
theorem KS.at_ (h : KS k w A l) {i : Nat} (hk : i < l.length) : ∃ b o, A = some ⟨b, o, none⟩ ∧ b < w.heap.size ∧ ∀ i (hi : i < l.length), w.cell? ⟨b, o + i, none⟩ = some (.int k l[i]) := by
 obtain ⟨b, o, rfl, hb, hc⟩ := h (by intro e; have := congrArg List.length e; simp at this; subst this; simp at hk); exact ⟨b, o, rfl, hb, fun i hi => hc i _ (by rw [List.getElem?_map, List.getElem?_eq_getElem hi]; rfl)⟩
theorem KS.pre (h : KS k w A l) (n : Nat) : KS k w A (l.take n) := Rd.take h ⟨(l.drop n).map (Value.int k), by rw [← List.map_append, List.take_append_drop]⟩
theorem KS.shift {b o : Nat} (h : KS k w (some ⟨b, o, none⟩) l) {n : Nat} (hn : n ≤ l.length) : KS k w (some ⟨b, o + n, none⟩) (l.drop n) := by
 unfold KS at h ⊢; rw [← List.take_append_drop n l, List.map_append] at h; have := Rd.shift h; rw [List.length_map, List.length_take, Nat.min_eq_left hn] at this; exact this
def OwnK (k : IntKind) (e : TypeId) (w : World) (base : Nat) (v : Value) (l : List Int) : Prop := w.ownsRow base e 1 v l.length (l.map (Value.int k))
variable {e : TypeId} {base : Nat} {v : Value}
theorem OwnK.form (h : OwnK k e w base v l) : ∃ A c, v = .slice A l.length c ∧ l.length ≤ c ∧ c ≤ maxLen ∧ KS k w A l := own_form h
theorem OwnK.nil : OwnK k e w base (.slice none 0 0) [] := World.ownsRow_nil _ _ _ _
theorem OwnK.below (h : OwnK k e w base v l) (hb : Below w.heap.size w w') : OwnK k e w' base v l := by
 refine ⟨h.1, ?_⟩; rcases h.2 with h2 | ⟨g, cap, cur, hv, hg, hh, r⟩
 ·exact .inl h2
 ·exact .inr ⟨g, cap, cur, hv, hg, (hb.block g (Array.getElem?_eq_some_iff.1 hh).1).trans hh, r⟩
theorem OwnK.app {n : Nat} {l' : List Int} {cs : List Value} (h : w.ownsRow base e 1 v n cs) (hn : n = (l ++ l').length) (hc : cs = l.map (Value.int k) ++ l'.map (Value.int k)) : OwnK k e w base v (l ++ l') := by
 subst hn; subst hc; simpa [OwnK] using h
end
end Go.Proofs.Ytlfkgbideknkhaa
namespace Go.Proofs.Ytlfkgbideknkhaa
open Go.RowKit
def sumF (h x : Int) : Int := IntKind.u64.wrap (bits .xor .u64 h (IntKind.u64.wrap x) * 1099511628211)
theorem foldl_take1 {α β : Type} (f : β → α → β) (b : β) (l : List α) (k : Nat) (hk : k < l.length) : (l.take (k + 1)).foldl f b = f ((l.take k).foldl f b) l[k] := by
 rw [List.take_succ_eq_append_getElem hk, List.foldl_append]; rfl
def sumB (l : List Int) : Int := l.foldl sumF 14695981039346656037
set_option maxHeartbeats 1000000 in
theorem sum_any (A : Option Addr) (c : Nat) (l : List Int) (w : World) (hn : l.length ≤ 9223372036854775807) (h : KS .u8 w A l) :
  Calls Try.prog 81 #[.slice A l.length c] w fun e w' => e = .returned (.int .u64 (sumB l)) ∧ w = w' := by
 go_enter Try.func81, Try.ntmps81
 go_wp2
 go_loopw [3, 5, 8] (fun s _ i wr => ∃ k : Nat, k ≤ l.length ∧ i = .int .i64 k ∧ s = .int .u64 ((l.take k).foldl sumF 14695981039346656037) ∧ w = wr) (fun _ _ i _ => l.length - (intOf i).toNat)
 case atStart => exact ⟨0, Nat.zero_le _, rfl, rfl, rfl⟩
 case round =>
  obtain ⟨k, hk, rfl, rfl, rfl⟩ := hrel
  by_cases hlt : k < l.length
  ·obtain ⟨b, o, rfl, hbl, hc⟩ := h.at_ hlt; have c0 := hc k hlt; clear hc; have hs := foldl_take1 sumF 14695981039346656037 l k hlt; have HS := hide hs; clear hs
   go_wp2
   go_roundw
   case rel => exact ⟨k + 1, by omega, by go_num, by rw [HS.out]; rfl, by trivial⟩
   case measure => simp [intOf]; omega
  ·have hr : l.take k = l := List.take_of_length_le (by omega); rw [hr]; clear hr
   go_wp2
   go_ret
   exact ⟨rfl, rfl⟩
end Go.Proofs.Ytlfkgbideknkhaa
namespace Go.Proofs.Ytlfkgbideknkhaa
open Go.RowKit
section
variable {P : Program} (w : World)
end
end Go.Proofs.Ytlfkgbideknkhaa
namespace Go.Proofs.Ytlfkgbideknkhaa
open Go.RowKit
end Go.Proofs.Ytlfkgbideknkhaa
namespace Go.Proofs.Ytlfkgbideknkhaa
open Go.RowKit
theorem fl_u8 (l : List Int) : l.flatMap c_u8 = l.map (Value.int .u8) := by induction l with | nil => rfl | cons x l ih => rw [List.flatMap_cons, ih]; rfl
theorem RowS.kb {S : Nat → Prop} {w : World} {A : Option Addr} {l : List Int} (h : RowS S w A (l.flatMap c_u8)) : KS .u8 w A l := by have := h.r; rwa [fl_u8] at this
def G_digest_Sum : Nat → (List Int) → Option Int
 | 0, _ => none
 | _ + 1, l => whenG (decide (l.length ≤ 9000000)) (sumB l)
theorem g_digest_Sum (F : Nat) (A : Option Addr) (c : Nat) (l : List Int) (S0 : Nat → Prop) (w0 : World) (hS : ∀ g, S0 g → g < w0.heap.size) (hT : Tb w0) (h : RowS S0 w0 A (l.flatMap c_u8)) (hc : l.length ≤ c) (r : Int) (hG : G_digest_Sum F l = some r) :
  Calls Try.prog 81 #[.slice A l.length c] w0 fun e w' => e = .returned (.int .u64 r) ∧ Below w0.heap.size w0 w' := by
 cases F with
 | zero => cases hG
 | succ F =>
 obtain ⟨h1, rfl⟩ := whenG_some hG; have h2 := of_decide_eq_true h1; exact (sum_any A c l w0 (by omega) h.kb).mono fun e w' ⟨he, hw⟩ => ⟨he, hw ▸ Below.refl _ _⟩
end Go.Proofs.Ytlfkgbideknkhaa
namespace Go.Proofs.Ytlfkgbideknkhaa
open Go.RowKit Go.Maps
theorem z_versions_Put (F : Nat) (p_0_A : Option Addr) (p_0_c : Nat) (p_0 : List KVersion) (p_1 : KVersion) (r : (List KVersion) × Int) (hG : G_versions_Put F p_0 p_1 = some r) :
  Cn Try.prog 37 [.slice p_0_A p_0.length p_0_c, .agg #[I p_1.Key, I p_1.Ts, I p_1.Value, B p_1.Gone]] [RowC p_0_A p_0_c KVersion.cells tr p_0] (fun q : KSapi_VersionL => r.1 = q.l) (fun q => .tuple #[.slice q.A q.l.length q.c, I r.2]) (fun q => [RowC q.A q.c KVersion.cells tr q.l]) := fun S0 w0 hS hT h => (g_versions_Put F p_0_A p_0_c p_0 p_1 S0 w0 hS hT h.1.r h.1.c r hG).mono fun e w' ⟨A, c, l, hq, he, hb, hr, hc⟩ => ⟨⟨A, c, l⟩, hq, he, hb, ⟨hr, hc, fun _ _ => trivial⟩, trivial⟩
theorem z_digest_Sum (F : Nat) (p_0_A : Option Addr) (p_0_c : Nat) (p_0 : List Int) (r : Int) (hG : G_digest_Sum F p_0 = some r) :
  Cf Try.prog 81 [.slice p_0_A p_0.length p_0_c] [RowC p_0_A p_0_c c_u8 tr p_0] (U r) := fun S0 w0 hS hT h => g_digest_Sum F p_0_A p_0_c p_0 S0 w0 hS hT h.1.r h.1.c r hG
end Go.Proofs.Ytlfkgbideknkhaa
namespace Go.Proofs.Ytlfkgbideknkhaa
open Go.RowKit Go.Shelf Go.Sort
attribute [local go_sem] Oper.semAt_some
section
variable {S0 S : Nat → Prop} {w0 w w' : World} {n : Nat} {K : List (Nat × Value)} {E : List Iz} {Q : Exit → Act → World → Prop} {o : Oper} {Kx : Act → World → Prop}
end
end Go.Proofs.Ytlfkgbideknkhaa
namespace Go.Proofs.Ytlfkgbideknkhaa
open Go.RowKit Go.Maps
section
variable {S0 S : Nat → Prop} {w0 w w' : World} {n : Nat} {K : List (Nat × Value)} {E : List Iz} {Q : Exit → Act → World → Prop} {o : Oper} {Kx : Act → World → Prop}
set_option maxRecDepth 100000 in
set_option maxHeartbeats 1000000 in
theorem cln_KSapi_Version (d : Nat) (A : Option Addr) (c : Nat) (l : List KVersion) (hr : Fa E (RowC A c KVersion.cells tr l)) (hb : l.length * 32 ≤ 140737488355328)
  (h : ∀ A' c', Ge S0 w0 n ((d, .slice A' l.length c') :: K) (.own 61 4 (.slice A' l.length c') l.length (l.flatMap KVersion.cells) :: E) Kx)
  (he : ∀ J, sx Try.prog (execOp (rho K J) o) [] = some (.enter 50 #[.slice A l.length c], []) := by intro J; kernel_rfl) (hd : o.dst = some d := by kernel_rfl) (hn : Nat.blt d n = true := by kernel_rfl) : Ge S0 w0 n K E (oW Try.prog o Q Kx) := by
 have hy : apG 32 ([] : List KVersion) l = some l := by unfold apG; rw [if_pos (by simpa using hb)]; rfl
 refine ci d (args := [.slice A l.length c]) (fun E' e' w => ∃ A' c', Rs S0 w0 (.slice A' l.length c') (.own 61 4 (.slice A' l.length c') l.length (l.flatMap KVersion.cells) :: E') True e' w) Try.func50 rfl rfl ?_ ?_ (by kernel_rfl) he hd hn
 ·cases A with
  | none =>
   intro a w S hK hE; have h0 : l = [] := by
    cases l with
    | nil => rfl
    | cons x l => obtain ⟨b, o, h1, _⟩ := (hr _ _ _ _ hE).r.r (by simp [KVersion.cells]); cases h1
   subst h0; refine (?_ : Ge S0 w0 _ _ E _) a w S hK hE; clear hK hE a w S; refine sq ?_; refine rg ?_; refine ra [] f0 [] ?_; refine tN ?_; refine sq ?_; refine sq ?_; refine rg ?_; refine ra [] f0 [(4, B true)] ?_; refine tN ?_; refine ct ?_; refine sq ?_; refine rg ?_; refine ra [] f0 [(2, .slice none 0 0)] ?_; refine tN ?_; refine kR ?_; refine tR ?_; refine on 61 4 ?_; refine ri [] (.slice none 0 0) ?_; exact fun a w S hK hE => ⟨none, 0, rfl, ⟨S, hE⟩, trivial⟩
  | some a0 =>
   refine sq ?_; refine rg ?_; refine ra [] f0 [] ?_; refine tN ?_; refine sq ?_; refine sq ?_; refine rg ?_; refine ra [] f0 [(4, B false)] ?_; refine tN ?_; refine cf ?_; refine kS ?_; refine tN ?_; refine sq ?_; refine rg ?_; refine l1 ?_; refine nw 5 (vs 0) [] 61 fun g => ?_
   refine bo 0 4 0 g 61 [] ?_; refine rn 1 [] f0 [(6, .slice (some a0) l.length c)] ?_; refine l1 ?_; refine ap 0 7 (some ⟨g, 0, none⟩) 0 [] l inf38 (fun _ _ _ _ hE => hr _ _ _ _ (Es.drop hE (List.sublist_cons_self _ _))) hy KVersion.one fun A' c' _ => ?_
   refine ra [] f0 [(2, .slice A' l.length c')] ?_; refine tN ?_; refine kR ?_; refine ri [] (.slice A' l.length c') ?_; exact fun a w S hK hE => ⟨A', c', rfl, ⟨S, hE⟩, trivial⟩
 ·rintro e' w ⟨A', c', hJ⟩; exact hJ.go fun _ => h A' c'
end
section
variable {S0 S : Nat → Prop} {w0 w w' : World} {n : Nat} {K : List (Nat × Value)} {E : List Iz} {Q : Exit → Act → World → Prop} {o : Oper} {Kx : Act → World → Prop}
set_option maxRecDepth 100000 in
set_option maxHeartbeats 1000000 in
theorem cln_KSapi_Seen (d : Nat) (A : Option Addr) (c : Nat) (l : List KSeen) (hr : Fa E (RowC A c KSeen.cells tr l)) (hb : l.length * 16 ≤ 140737488355328)
  (h : ∀ A' c', Ge S0 w0 n ((d, .slice A' l.length c') :: K) (.own 95 2 (.slice A' l.length c') l.length (l.flatMap KSeen.cells) :: E) Kx)
  (he : ∀ J, sx Try.prog (execOp (rho K J) o) [] = some (.enter 74 #[.slice A l.length c], []) := by intro J; kernel_rfl) (hd : o.dst = some d := by kernel_rfl) (hn : Nat.blt d n = true := by kernel_rfl) : Ge S0 w0 n K E (oW Try.prog o Q Kx) := by
 have hy : apG 16 ([] : List KSeen) l = some l := by unfold apG; rw [if_pos (by simpa using hb)]; rfl
 refine ci d (args := [.slice A l.length c]) (fun E' e' w => ∃ A' c', Rs S0 w0 (.slice A' l.length c') (.own 95 2 (.slice A' l.length c') l.length (l.flatMap KSeen.cells) :: E') True e' w) Try.func74 rfl rfl ?_ ?_ (by kernel_rfl) he hd hn
 ·cases A with
  | none =>
   intro a w S hK hE; have h0 : l = [] := by
    cases l with
    | nil => rfl
    | cons x l => obtain ⟨b, o, h1, _⟩ := (hr _ _ _ _ hE).r.r (by simp [KSeen.cells]); cases h1
   subst h0; refine (?_ : Ge S0 w0 _ _ E _) a w S hK hE; clear hK hE a w S; refine sq ?_; refine rg ?_; refine ra [] f0 [] ?_; refine tN ?_; refine sq ?_; refine sq ?_; refine rg ?_; refine ra [] f0 [(4, B true)] ?_; refine tN ?_; refine ct ?_; refine sq ?_; refine rg ?_; refine ra [] f0 [(2, .slice none 0 0)] ?_; refine tN ?_; refine kR ?_; refine tR ?_; refine on 95 2 ?_; refine ri [] (.slice none 0 0) ?_; exact fun a w S hK hE => ⟨none, 0, rfl, ⟨S, hE⟩, trivial⟩
  | some a0 =>
   refine sq ?_; refine rg ?_; refine ra [] f0 [] ?_; refine tN ?_; refine sq ?_; refine sq ?_; refine rg ?_; refine ra [] f0 [(4, B false)] ?_; refine tN ?_; refine cf ?_; refine kS ?_; refine tN ?_; refine sq ?_; refine rg ?_; refine l1 ?_; refine nw 5 (vs 0) [] 95 fun g => ?_
   refine bo 0 2 0 g 95 [] ?_; refine rn 1 [] f0 [(6, .slice (some a0) l.length c)] ?_; refine l1 ?_; refine ap 0 7 (some ⟨g, 0, none⟩) 0 [] l inf23 (fun _ _ _ _ hE => hr _ _ _ _ (Es.drop hE (List.sublist_cons_self _ _))) hy KSeen.one fun A' c' _ => ?_
   refine ra [] f0 [(2, .slice A' l.length c')] ?_; refine tN ?_; refine kR ?_; refine ri [] (.slice A' l.length c') ?_; exact fun a w S hK hE => ⟨A', c', rfl, ⟨S, hE⟩, trivial⟩
 ·rintro e' w ⟨A', c', hJ⟩; exact hJ.go fun _ => h A' c'
end
section
variable {S0 S : Nat → Prop} {w0 w w' : World} {n : Nat} {K : List (Nat × Value)} {E : List Iz} {Q : Exit → Act → World → Prop} {o : Oper} {Kx : Act → World → Prop}
set_option maxRecDepth 100000 in
set_option maxHeartbeats 1000000 in
theorem cln_KSapi_Write (d : Nat) (A : Option Addr) (c : Nat) (l : List KWrite) (hr : Fa E (RowC A c KWrite.cells tr l)) (hb : l.length * 24 ≤ 140737488355328)
  (h : ∀ A' c', Ge S0 w0 n ((d, .slice A' l.length c') :: K) (.own 66 3 (.slice A' l.length c') l.length (l.flatMap KWrite.cells) :: E) Kx)
  (he : ∀ J, sx Try.prog (execOp (rho K J) o) [] = some (.enter 75 #[.slice A l.length c], []) := by intro J; kernel_rfl) (hd : o.dst = some d := by kernel_rfl) (hn : Nat.blt d n = true := by kernel_rfl) : Ge S0 w0 n K E (oW Try.prog o Q Kx) := by
 have hy : apG 24 ([] : List KWrite) l = some l := by unfold apG; rw [if_pos (by simpa using hb)]; rfl
 refine ci d (args := [.slice A l.length c]) (fun E' e' w => ∃ A' c', Rs S0 w0 (.slice A' l.length c') (.own 66 3 (.slice A' l.length c') l.length (l.flatMap KWrite.cells) :: E') True e' w) Try.func75 rfl rfl ?_ ?_ (by kernel_rfl) he hd hn
 ·cases A with
  | none =>
   intro a w S hK hE; have h0 : l = [] := by
    cases l with
    | nil => rfl
    | cons x l => obtain ⟨b, o, h1, _⟩ := (hr _ _ _ _ hE).r.r (by simp [KWrite.cells]); cases h1
   subst h0; refine (?_ : Ge S0 w0 _ _ E _) a w S hK hE; clear hK hE a w S; refine sq ?_; refine rg ?_; refine ra [] f0 [] ?_; refine tN ?_; refine sq ?_; refine sq ?_; refine rg ?_; refine ra [] f0 [(4, B true)] ?_; refine tN ?_; refine ct ?_; refine sq ?_; refine rg ?_; refine ra [] f0 [(2, .slice none 0 0)] ?_; refine tN ?_; refine kR ?_; refine tR ?_; refine on 66 3 ?_; refine ri [] (.slice none 0 0) ?_; exact fun a w S hK hE => ⟨none, 0, rfl, ⟨S, hE⟩, trivial⟩
  | some a0 =>
   refine sq ?_; refine rg ?_; refine ra [] f0 [] ?_; refine tN ?_; refine sq ?_; refine sq ?_; refine rg ?_; refine ra [] f0 [(4, B false)] ?_; refine tN ?_; refine cf ?_; refine kS ?_; refine tN ?_; refine sq ?_; refine rg ?_; refine l1 ?_; refine nw 5 (vs 0) [] 66 fun g => ?_
   refine bo 0 3 0 g 66 [] ?_; refine rn 1 [] f0 [(6, .slice (some a0) l.length c)] ?_; refine l1 ?_; refine ap 0 7 (some ⟨g, 0, none⟩) 0 [] l inf24 (fun _ _ _ _ hE => hr _ _ _ _ (Es.drop hE (List.sublist_cons_self _ _))) hy KWrite.one fun A' c' _ => ?_
   refine ra [] f0 [(2, .slice A' l.length c')] ?_; refine tN ?_; refine kR ?_; refine ri [] (.slice A' l.length c') ?_; exact fun a w S hK hE => ⟨A', c', rfl, ⟨S, hE⟩, trivial⟩
 ·rintro e' w ⟨A', c', hJ⟩; exact hJ.go fun _ => h A' c'
end
end Go.Proofs.Ytlfkgbideknkhaa
