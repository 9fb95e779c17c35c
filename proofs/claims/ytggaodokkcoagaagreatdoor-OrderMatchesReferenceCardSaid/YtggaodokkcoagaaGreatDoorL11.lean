/-
  Texts joined: Vm, Vk, Zt, Is, Dg, Aps, Copy, Dh, Dn, Dt, Au, Dp, Dr, Tr1, Tr2, Tr3, Ta, RevV0, Wk, In, Kr, InsK, Ic.
-/
import Derived.Maps.Keyed
import Derived.Scope
import Derived.Test.YtggaodokkcoagaaGreatDoorProg
import Derived.Deep.AppendSrc
import Derived.Laws.CopyOwn
import Derived.StillTailTactics
import Derived.Deep.RegionLaw
import Derived.Lib.ItoaMem
import Derived.Lib.ItoaLen
import Derived.Lib.Walk
import Derived.Lib.ItoaWalk
import Derived.Lib.AppendIntMem
import Derived.Lib.Slices
import Derived.Lib.Hide
import Derived.Sort.Row
import Derived.Laws.IdiomStrings
import Derived.Laws.BitsLemmas
import Derived.Laws.Bits64
import Derived.Test.YtggaodokkcoagaaGreatDoorL10
set_option linter.unusedSimpArgs false
set_option linter.unusedVariables false
set_option maxRecDepth 100000
set_option maxHeartbeats 16000000
namespace Go.Proofs.YtggaodokkcoagaaGreatDoor
open Go.RowKit Go.Maps
section
variable {α β : Type}
def mpG (m : List (Int × α)) (k : Int) (z : α) : α := match m.find? (fun p => k == p.1) with
 | some p => p.2
 | none => z
def mpH (m : List (Int × α)) (k : Int) : Bool := m.any fun p => k == p.1
def mpS : List (Int × α) → Int → α → List (Int × α)
 | [], k, x => [(k, x)]
 | p :: m, k, x => if (k == p.1) = true then (k, x) :: m else p :: mpS m k x
def mpM (f : α → β) (m : List (Int × α)) : List (Int × β) := m.map fun p => (p.1, f p.2)
theorem mpG_M (f : α → β) (k : Int) (z : α) : ∀ m : List (Int × α), mpG (mpM f m) k (f z) = f (mpG m k z)
 | [] => rfl
 | p :: m => by
  have ih := mpG_M f k z m; unfold mpG mpM at ih ⊢; rw [List.map_cons, List.find?_cons, List.find?_cons]; cases h : k == p.1
  ·exact ih
  ·rfl
theorem mpH_M (f : α → β) (k : Int) : ∀ m : List (Int × α), mpH (mpM f m) k = mpH m k
 | [] => rfl
 | p :: m => by
  have ih := mpH_M f k m; unfold mpH mpM at ih ⊢; rw [List.map_cons, List.any_cons, List.any_cons, ih]
theorem mpS_M (f : α → β) (k : Int) (x : α) : ∀ m : List (Int × α), mpS (mpM f m) k (f x) = mpM f (mpS m k x)
 | [] => rfl
 | p :: m => by
  have ih := mpS_M f k x m; unfold mpM at ih ⊢; rw [List.map_cons, mpS, mpS]; cases h : k == p.1
  ·simp only [Bool.false_eq_true, if_false, List.map_cons]; rw [ih]
  ·simp
theorem mpS_mem {m : List (Int × α)} {k : Int} {x : α} {p : Int × α} (h : p ∈ mpS m k x) : p ∈ m ∨ p = (k, x) := by
 induction m with
 | nil => exact .inr (by simpa [mpS] using h)
 | cons q m ih =>
  unfold mpS at h
  split at h
  ·rcases List.mem_cons.1 h with rfl | h
   ·exact .inr rfl
   ·exact .inl (List.mem_cons_of_mem _ h)
  ·rcases List.mem_cons.1 h with rfl | h
   ·exact .inl List.mem_cons_self
   ·rcases ih h with h | h
    ·exact .inl (List.mem_cons_of_mem _ h)
    ·exact .inr h
theorem mpG_mem {m : List (Int × α)} {k : Int} {z : α} : (mpG m k z = z ∧ mpH m k = false) ∨ ∃ p ∈ m, mpG m k z = p.2 ∧ mpH m k = true := by
 induction m with
 | nil => exact .inl ⟨rfl, rfl⟩
 | cons q m ih =>
  unfold mpG mpH at ih ⊢; rw [List.find?_cons, List.any_cons]; cases h : k == q.1
  ·rcases ih with ⟨h1, h2⟩ | ⟨p, hp, h1, h2⟩
   ·exact .inl ⟨h1, by rw [h2]; rfl⟩
   ·exact .inr ⟨p, List.mem_cons_of_mem _ hp, h1, by rw [h2]; rfl⟩
  ·exact .inr ⟨q, List.mem_cons_self, rfl, rfl⟩
end
section
variable {P : Program} {w : World} {kd q : IntKind} {t kt et : TypeId} {b : Nat} {m : List (Int × Value)} {k : Int} {v z : Value}
abbrev pE (p : Int × Value) : Value × Value := (.int .i64 p.1, p.2)
theorem check_mpn (hk : P.underlying kt = some (.int kd)) (e : Bool) (w : World) (n : Nat) : (Instr.checkKey e (n + 1) kt (.int q k)).run P w = .ok () w := by
 simp [Instr.checkKey, run_underlying hk]
theorem check_mp (hk : P.underlying kt = some (.int kd)) (e : Bool) (w : World) : (Instr.checkKey e 10000 kt (.int q k)).run P w = .ok () w := check_mpn hk e w 9999
theorem find_mp (k : Int) : ∀ (es : List MapEntry) (m : List (Int × Value)) (i : Nat), es.map (fun e => (e.key, e.val)) = m.map pE →
  Instr.findNow (.int kd) (.int .i64 k) es i = some ((m.findIdx? (fun p => k == p.1)).map fun j => (i + j, (m[j]?.map (·.2)).getD undef))
 | [], [], i, _ => rfl
 | [], _ :: _, _, h => by simp at h
 | _ :: _, [], _, h => by simp at h
 | e :: es, p :: m, i, h => by
  simp only [List.map_cons, List.cons.injEq, Prod.mk.injEq] at h; obtain ⟨⟨h1, h2⟩, h3⟩ := h; unfold Instr.findNow; rw [h1]; simp only [Instr.sameNow, if_true]; rw [List.findIdx?_cons]; cases hk : k == p.1
  ·simp only [Bool.false_eq_true, if_false]; rw [find_mp k es m (i + 1) h3]; cases m.findIdx? (fun p => k == p.1) with
   | none => rfl
   | some j => simp; omega
  ·simp [h2]
theorem mpG_ix (m : List (Int × Value)) (k : Int) (z : Value) : mpG m k z = match m.findIdx? (fun p => k == p.1) with
  | some j => (m[j]?.map (·.2)).getD undef
  | none => z := by
 induction m with
 | nil => rfl
 | cons p m ih =>
  unfold mpG at ih ⊢; rw [List.find?_cons, List.findIdx?_cons]; cases k == p.1
  ·simp only [Bool.false_eq_true, if_false]; rw [ih]; cases m.findIdx? (fun p => k == p.1) <;> simp
  ·simp
theorem mpH_ix (m : List (Int × Value)) (k : Int) : mpH m k = (m.findIdx? (fun p => k == p.1)).isSome := by
 unfold mpH; rw [List.findIdx?_isSome]
theorem mpS_ix (k : Int) (x : Value) : ∀ m : List (Int × Value), mpS m k x = match m.findIdx? (fun p => k == p.1) with
  | some j => m.set j (k, x)
  | none => m ++ [(k, x)]
 | [] => rfl
 | p :: m => by
  have ih := mpS_ix k x m; rw [mpS, List.findIdx?_cons]; cases k == p.1
  ·simp only [Bool.false_eq_true, if_false]; rw [ih]; cases m.findIdx? (fun p => k == p.1) <;> simp
  ·simp
theorem run_look (h : MapAt w b m) (ht : P.underlying t = some (.map kt et)) (hk : P.underlying kt = some (.int kd)) (hz : (zeroValue et).run P w = .ok z w) (c : Bool) :
  (Instr.lookup t (.map (some b)) (.int .i64 k) c).run P w = .ok (if c = true then .tuple #[mpG m k z, .bool (mpH m k)] else mpG m k z) w := by
 obtain ⟨es, clock, h1, h2, _⟩ := h; have hf := find_mp (kd := kd) k es.toList m 0 h2; have e1 := mpG_ix m k z; have e2 := mpH_ix m k; cases hi : m.findIdx? (fun p => k == p.1) with
 | none =>
  rw [hi] at hf e1 e2; simp only [Option.map_none] at hf
  simp [Instr.lookup, Instr.findKey, run_underlying ht, run_underlying hk, MapKept.run_getObj_map h1, check_mp hk, hf, hz, e1, e2, Result.andThen]
 | some j =>
  rw [hi] at hf e1 e2; simp only [Option.map_some, Nat.zero_add] at hf
  simp [Instr.lookup, Instr.findKey, run_underlying ht, run_underlying hk, MapKept.run_getObj_map h1, check_mp hk, hf, e1, e2, Result.andThen]
theorem mapAt_set {w : World} {b : Nat} {es es' : Array MapEntry} {clock clock' : Nat} (hb : w.heap[b]? = some (.map es clock)) (h : es'.toList.map (fun e => (e.key, e.val)) = m.map pE) (hs : Stm es'.toList clock') : MapAt (ChangeMaps.setBlock w b (.map es' clock')) b m ∧ w.grownBy (ChangeMaps.setBlock w b (.map es' clock')) (some b) :=
 ⟨⟨es', clock', ChangeMaps.heap_setBlock_same hb _, h, hs⟩, ⟨rfl, rfl, rfl, by simp [ChangeMaps.setBlock], fun i _ hi => ChangeMaps.heap_setBlock_other hb _ (fun e => hi (by rw [e]))⟩⟩
theorem stm_push {es : List MapEntry} {clock : Nat} (h : Stm es clock) (k v : Value) : Stm (es ++ [{ key := k, val := v, born := clock }]) (clock + 1) := by
 refine ⟨?_, fun e he => ?_⟩
 ·rw [List.map_append, List.nodup_append]; refine ⟨h.1, by simp, fun a ha c hc => ?_⟩; obtain ⟨e, he, rfl⟩ := List.mem_map.1 ha
  simp at hc
  have := h.2 e he; omega
 ·rcases List.mem_append.1 he with he | he
  ·have := h.2 e he; omega
  ·simp at he; subst he; exact Nat.lt_succ_self _
theorem stm_mod {es : List MapEntry} {clock j : Nat} {f : MapEntry → MapEntry} (h : Stm es clock) (hf : ∀ e, (f e).born = e.born) : Stm (es.modify j f) clock := by
 have e1 : (es.modify j f).map (·.born) = es.map (·.born) := by
  apply List.ext_getElem?
  intro i; rw [List.getElem?_map, List.getElem?_modify, List.getElem?_map]
  by_cases e : j = i
  ·subst e; cases es[j]? with
   | none => rfl
   | some x => simp [hf]
  ·simp [e]
 refine ⟨by rw [e1]; exact h.1, fun e he => ?_⟩; have : e.born ∈ (es.modify j f).map (·.born) := List.mem_map.2 ⟨e, he, rfl⟩; rw [e1] at this; obtain ⟨x, hx, ex⟩ := List.mem_map.1 this; have := h.2 x hx; omega
theorem run_ent (h : MapAt w b m) (ht : P.underlying t = some (.map kt et)) (hk : P.underlying kt = some (.int kd)) (hz : (zeroValue et).run P w = .ok z w) :
  ∃ w' u s, (Instr.mapEntry t (.map (some b)) (.int .i64 k)).run P w = .ok (.tuple #[u, .int .i64 ((s : Nat) : Int)]) w' ∧ MapE w' b m k s ∧ w.grownBy w' (some b) := by
 obtain ⟨es, clock, h1, h2, h3⟩ := h; have hf := find_mp (kd := kd) k es.toList m 0 h2; have hlen : es.size = m.length := by
  have := congrArg List.length h2
  simpa using this
 have hgr : ∀ es' clock', w.grownBy (ChangeMaps.setBlock w b (.map es' clock')) (some b) := fun es' clock' => ⟨rfl, rfl, rfl, by simp [ChangeMaps.setBlock], fun i _ hi => ChangeMaps.heap_setBlock_other h1 _ (fun e => hi (by rw [e]))⟩
 cases hi : m.findIdx? (fun p => k == p.1) with
 | none =>
  rw [hi] at hf; simp only [Option.map_none] at hf; refine ⟨_, z, clock, by simp [Instr.mapEntry, Instr.findKey, run_underlying ht, run_underlying hk, MapKept.run_getObj_map h1, check_mp hk, hf, hz, MapKept.run_setObj_map _ h1, Result.andThen, goInt]; rfl, ⟨_, clock + 1, es.size, ChangeMaps.heap_setBlock_same h1 _, by rw [Array.toList_push]; exact stm_push h3 _ _, by simp, fun v => ?_⟩, hgr _ _⟩; simp only [hi]; rw [Array.toList_push, List.map_append, List.map_append, ← h2, List.set_append_right _ _ (by simp)]
  simp
 | some j =>
  rw [hi] at hf; simp only [Option.map_some, Nat.zero_add] at hf; obtain ⟨hj, hp, _⟩ := List.findIdx?_eq_some_iff_getElem.1 hi; have hjl : j < es.size := by omega
  have hkey : es[j]?.map (·.key) = some (.int .i64 k) := by
   have h3 := congrArg (fun l => l[j]?) h2; simp only [List.getElem?_map, List.getElem?_eq_getElem hj, Option.map_some, Array.getElem?_toList] at h3; rw [Array.getElem?_eq_getElem hjl] at h3 ⊢; simp only [Option.map_some, Option.some.injEq, Prod.mk.injEq] at h3 ⊢; rw [h3.1]; have : k = m[j].1 := by simpa using hp
   rw [← this]
  have hst : (Instr.keyThatStays (.int .i64 k) (.int .i64 k)).run P w = .ok (.int .i64 k) w := by
   simp [Instr.keyThatStays, Instr.sameBits]
  have hkey2 : es[j].key = .int .i64 k := by rw [Array.getElem?_eq_getElem hjl] at hkey; simpa using hkey
  refine ⟨_, _, es[j].born, by simp [Instr.mapEntry, Instr.findKey, run_underlying ht, run_underlying hk, MapKept.run_getObj_map h1, check_mp hk, hf, hkey2, hst, MapKept.run_setObj_map _ h1, Result.andThen, goInt, Array.getElem?_eq_getElem hjl]; exact ⟨rfl, rfl⟩, ⟨_, clock, j, ChangeMaps.heap_setBlock_same h1 _, by rw [Array.toList_modify]; exact stm_mod h3 fun _ => rfl, ?_, fun v => ?_⟩, hgr _ _⟩
  ·rw [← Array.getElem?_toList, Array.toList_modify, List.getElem?_modify]
   simp [hjl]
  ·simp only [hi]; rw [Array.toList_modify, List.map_set, ← h2]; have : (es.toList.modify j fun e => { e with key := Value.int .i64 k }).map (fun e => (e.key, e.val)) = es.toList.map (fun e => (e.key, e.val)) := by
    apply List.ext_getElem?
    intro i; rw [List.getElem?_map, List.getElem?_modify, List.getElem?_map]
    by_cases e : j = i
    ·subst e; rw [Array.getElem?_toList, Array.getElem?_eq_getElem hjl] at *; simp only [Option.map_some, Option.some.injEq] at hkey
     simp [hkey]
    ·simp [e]
   rw [this]
theorem run_est {k : Int} {s : Nat} (h : MapE w b m k s) :
  ∃ w', (Instr.entryStore t (.map (some b)) (.int .i64 (s : Int)) v).run P w = .ok () w' ∧ MapAt w' b (mpS m k v) ∧ w.grownBy w' (some b) := by
 obtain ⟨es, clock, j, h1, h2, h3, h4⟩ := h; have hjl : j < es.size := by
  rcases Nat.lt_or_ge j es.size with h | h
  ·exact h
  ·rw [Array.getElem?_eq_none h] at h3; cases h3
 rw [Array.getElem?_eq_getElem hjl] at h3; simp only [Option.map_some, Option.some.injEq, Prod.mk.injEq] at h3; obtain ⟨h3, hke⟩ := h3; have hfi : es.findIdx? (fun e => ((e.born : Nat) : Int) == (s : Int)) = some j := by
  rw [Array.findIdx?_eq_some_iff_getElem]; refine ⟨hjl, by simp [h3], fun i hi => ?_⟩; have hne := List.pairwise_iff_getElem.1 (List.nodup_iff_pairwise_ne.1 h2.1) i j (by simp; omega) (by simpa using hjl) hi; simp only [List.getElem_map, Array.getElem_toList] at hne; rw [h3] at hne; simp only [beq_iff_eq]; omega
 refine ⟨_, by simp [Instr.entryStore, MapKept.run_getObj_map h1, asInt, asIntOf, hfi, MapKept.run_setObj_map _ h1, Result.andThen]; rfl, mapAt_set (clock' := clock) h1 ?_ (by rw [Array.toList_modify]; exact stm_mod h2 fun _ => rfl)⟩; have hkey := h4 v; rw [mpS_ix]; refine Eq.trans ?_ hkey; rw [Array.toList_modify]
 apply List.ext_getElem?
 intro i; rw [List.getElem?_map, List.getElem?_modify, List.getElem?_set, List.getElem?_map]
 by_cases e : j = i
 ·subst e; rw [Array.getElem?_toList, Array.getElem?_eq_getElem hjl]
  simp [hke, hjl]
 ·simp [e]
end
def EachM {α : Type} (ok : α → Pr) (l : List (Int × α)) : Pr := fun S w => ∀ p ∈ l, ok p.2 S w
structure MapC {α : Type} (b : Nat) (f : α → Value) (ok : α → Pr) (l : List (Int × α)) (S : Nat → Prop) (w : World) : Prop where
 s : S b
 m : MapAt w b (mpM f l)
 e : EachM ok l S w
theorem EachM.to {α : Type} {ok : α → Pr} {l : List (Int × α)} {S S' : Nat → Prop} {w W : World} (m : Mv ok) (h : EachM ok l S w) (hS : ∀ g, S g → S' g) (hA : Ag S w W) : EachM ok l S' W := fun p hp => m _ _ _ _ _ (h p hp) hS hA
theorem MapC.to {α : Type} {b : Nat} {f : α → Value} {ok : α → Pr} {l : List (Int × α)} {S S' : Nat → Prop} {w W : World} (m : Mv ok) (h : MapC b f ok l S w) (hS : ∀ g, S g → S' g) (hA : Ag S w W) : MapC b f ok l S' W :=
 ⟨hS _ h.s, h.m.to (hA.block b h.s), h.e.to m hS hA⟩
section
variable {S0 S : Nat → Prop} {w0 w w' : World} {l : List Ik}
theorem Es.allocMp (h : Es S0 w0 w S l) : Es S0 w0 (w.alloc (.map #[] 0)) S (.mp w.heap.size [] :: l) := by
 have hb : Below w.heap.size w (w.alloc (.map #[] 0)) := (Below.refl _ _).alloc (Nat.le_refl _) _; have h' := h.same hb; refine ⟨h'.b, h'.e, h'.lt, fun y hy => ?_, List.pairwise_cons.2 ⟨fun y hy g hg hg' => ?_, h.p⟩⟩
 ·rcases List.mem_cons.1 hy with rfl | hy
  ·exact ⟨h.b.size, fun hs => Nat.lt_irrefl _ (h.lt _ hs), ⟨#[], 0, heap_alloc_new w _, rfl, by simp [Stm]⟩⟩
  ·exact h'.k y hy
 ·simp only [Ik.at, Option.some.injEq] at hg; subst hg; have := ((h.k y hy).lt hg').2; omega
end
section
variable {S0 S : Nat → Prop} {w0 w w' : World} {n : Nat} {K K' : List (Nat × Value)} {E E' : List Iz} {X : Act → World → Prop} {P : Program} {ops : Array Oper} {Q : Exit → Act → World → Prop} {o : Oper} {L : List Oper} {v v' : Value} {p q : Pr} {Kx : Act → World → Prop}
variable {α β : Type} {f : α → Value} {ok : α → Pr} {t kt et : TypeId} {kd : IntKind}
theorem mm (d : Nat) (h : ∀ g, Ge S0 w0 n ((d, .map (some g)) :: K) (.mp g [] :: E) Kx) (he : ∀ J g, sn P g (execOp (rho K J) o) = some (.value (.map (some g)), .map #[] 0) := by intro J g; kernel_rfl) (hd : o.dst = some d := by kernel_rfl) (hn : Nat.blt d n = true := by kernel_rfl) :
  Ge S0 w0 n K E (oW P o Q Kx) := fun a w S hK hE => by
 unfold oW Oper.wp Oper.upon; rw [hK.eval, sn_run _ (he _ _), hd]; exact h _ _ _ _ (hK.put hn _) (Es.allocMp hE)
theorem gr (i : Nat) {b o : Nat} {cs : List Value} (hi : E[i]? = some (.rc b o cs) := by kernel_rfl) : Fd E (fun S W => RecS S W b o cs) := fun S0 w0 w S h S' W h1 h2 => Es.k h _ (List.mem_of_getElem? (h.at hi)) S' W h1 h2
theorem mrec {b o : Nat} {cs : List Value} {l : List Pr} (m : Mvs l) : Mvs ((fun S W => RecS S W b o cs) :: l) := ⟨fun _ _ _ _ h hS hA => h.to hS hA, m⟩
def enOf (r : Operand → Value) (o : Oper) : Option (TypeId × Value × Value) := match o.op with
 | .mapEntry t m k => some (t, r m, r k)
 | _ => none
theorem enOf_run {r : Operand → Value} {m k : Value} {w'} (h : enOf r o = some (t, m, k)) (hr : (Instr.mapEntry t m k).run P w = .ok v w') : (execOp r o).run P w = .ok (.value v) w' := by
 unfold enOf at h; unfold execOp
 split at h
 ·next e => cases h; simp [e, hr, Result.andThen]
 ·cases h
def etOf (r : Operand → Value) (o : Oper) : Option (TypeId × Value × Value × Value) := match o.op with
 | .entryStore t m s x => some (t, r m, r s, r x)
 | _ => none
theorem etOf_run {r : Operand → Value} {m k x : Value} {w'} (h : etOf r o = some (t, m, k, x)) (hr : (Instr.entryStore t m k x).run P w = .ok () w') : (execOp r o).run P w = .ok .skip w' := by
 unfold etOf at h; unfold execOp
 split at h
 ·next e => cases h; simp [e, hr, Result.andThen]
 ·cases h
theorem mke (d i b : Nat) (l : List (Int × α)) (k : Int) (z : Value) (ht : P.underlying t = some (.map kt et)) (hk : P.underlying kt = some (.int kd)) (hz : ∀ w, (zeroValue et).run P w = .ok z w)
  (h : ∀ (u : Value) (s : Nat), Ge S0 w0 n ((d, .tuple #[u, .int .i64 ((s : Nat) : Int)]) :: K) (setz E i (.me b (mpM f l) k s)) Kx)
  (hi : E[i]? = some (.mp b (mpM f l)) := by kernel_rfl) (ho : ∀ J, enOf (rho K J) o = some (t, .map (some b), .int .i64 k) := by intro J; kernel_rfl) (hd : o.dst = some d := by kernel_rfl) (hn : Nat.blt d n = true := by kernel_rfl) : Ge S0 w0 n K E (oW P o Q Kx) := fun a w S hK hE => by
 have h1 := hE.at hi
 have hok := Es.k hE _ (List.mem_of_getElem? h1); obtain ⟨w', u, s, hr, hm, hg⟩ := run_ent (k := k) hok.2.2 ht hk (hz w); unfold oW Oper.wp Oper.upon; rw [hK.eval, enOf_run (ho _) hr, hd]; refine h u s _ _ S (hK.put hn _) ?_; unfold Ez; rw [setz_map]; exact Es.put hE i h1 (Es.b hE |>.grown hg (Es.b hE).size (fun k hk => by cases hk; exact hok.1)) (fun _ h => h) (fun _ h => .inl h) hg.size ⟨hok.1, hok.2.1, hm⟩ (fun _ h => .inl h) (fun k hk hne => hg.block k hk (fun e => hne e.symm))
theorem mks (i b : Nat) (l : List (Int × α)) (k : Int) (s : Nat) (x : α) {r : List (Int × α)} (hr : some (mpS l k x) = some r) (h : Ge S0 w0 n K (setz E i (.mp b (mpM f r))) Kx)
  (hi : E[i]? = some (.me b (mpM f l) k s) := by kernel_rfl) (ho : ∀ J, etOf (rho K J) o = some (t, .map (some b), .int .i64 ((s : Nat) : Int), f x) := by intro J; kernel_rfl) (hd : o.dst = none := by kernel_rfl) : Ge S0 w0 n K E (oW P o Q Kx) := fun a w S hK hE => by
 cases hr; have h1 := hE.at hi
 have hok := Es.k hE _ (List.mem_of_getElem? h1); obtain ⟨w', hr, hm, hg⟩ := run_est (t := t) (v := f x) hok.2.2; unfold oW Oper.wp Oper.upon; rw [hK.eval, etOf_run (ho _) hr, hd]; refine h _ _ S hK ?_; unfold Ez; rw [setz_map]; rw [mpS_M] at hm; exact Es.put hE i h1 (Es.b hE |>.grown hg (Es.b hE).size (fun k hk => by cases hk; exact hok.1)) (fun _ h => h) (fun _ h => .inl h) hg.size ⟨hok.1, hok.2.1, hm⟩ (fun _ h => .inl h) (fun k hk hne => hg.block k hk (fun e => hne e.symm))
theorem emS (l : List (Int × α)) (k : Int) (x : α) (h1 : Fd E (EachM ok l)) (h2 : Fd E (ok x)) : Fd E (EachM ok (mpS l k x)) := fun S0 w0 w S hE S' W hS hA p hp => by
 rcases mpS_mem hp with hp | rfl
 ·exact h1 S0 w0 w S hE S' W hS hA p hp
 ·exact h2 S0 w0 w S hE S' W hS hA
theorem em0 : Fd E (EachM ok ([] : List (Int × α))) := fun _ _ _ _ _ _ _ _ _ _ hp => absurd hp List.not_mem_nil
theorem mksn (i b : Nat) (l : List (Int × α)) (k : Int) (s : Nat) (x : α) (pf : α → β) {y : List (Int × β)} (hr : some (mpS (mpM pf l) k (pf x)) = some y) (e1 : Fd E (EachM ok l)) (e2 : Fd E (ok x)) (h : ∀ r, mpM pf r = y → Ge S0 w0 n K (setz (.dat (EachM ok r) :: E) (i + 1) (.mp b (mpM f r))) Kx)
  (hi : E[i]? = some (.me b (mpM f l) k s) := by kernel_rfl) (ho : ∀ J, etOf (rho K J) o = some (t, .map (some b), .int .i64 ((s : Nat) : Int), f x) := by intro J; kernel_rfl) (hd : o.dst = none := by kernel_rfl) : Ge S0 w0 n K E (oW P o Q Kx) := by
 have hy : mpM pf (mpS l k x) = y := by rw [← mpS_M]; exact Option.some.inj hr
 exact fun a w S hK hE => mks (E := .dat (EachM ok (mpS l k x)) :: E) (i + 1) b l k s x rfl (h _ hy) (by simpa using hi) ho hd a w S hK (Es.dat hE (emS l k x e1 e2 _ _ _ _ hE))
def lkOf (r : Operand → Value) (o : Oper) : Option (TypeId × Value × Value × Bool) := match o.op with
 | .lookup t m k c => some (t, r m, r k, c)
 | _ => none
theorem lkOf_run {r : Operand → Value} {m k : Value} {c : Bool} (h : lkOf r o = some (t, m, k, c)) (hr : (Instr.lookup t m k c).run P w = .ok v w) : (execOp r o).run P w = .ok (.value v) w := by
 unfold lkOf at h; unfold execOp
 split at h
 ·next e => cases h; simp [e, hr, Result.andThen]
 ·cases h
theorem lk0 (d : Nat) (c : Bool) (b : Nat) (l : List (Int × α)) (k : Int) (z : α) (hm : ∀ w S, Ez S0 w0 w S E → MapAt w b (mpM f l)) (ht : P.underlying t = some (.map kt et)) (hk : P.underlying kt = some (.int kd)) (hz : ∀ w, (zeroValue et).run P w = .ok (f z) w)
  (h : Ge S0 w0 n ((d, if c = true then .tuple #[f (mpG l k z), .bool (mpH l k)] else f (mpG l k z)) :: K) E Kx) (ho : ∀ J, lkOf (rho K J) o = some (t, .map (some b), .int .i64 k, c)) (hd : o.dst = some d) (hn : Nat.blt d n = true) : Ge S0 w0 n K E (oW P o Q Kx) := fun a w S hK hE => by
 have hr := run_look (k := k) (hm w S hE) ht hk (hz w) c; unfold oW Oper.wp Oper.upon; rw [hK.eval, lkOf_run (ho _) hr, hd]; rw [mpG_M, mpH_M]; exact h _ _ S (hK.put hn _) hE
theorem zG {ok : α → Pr} {l : List (Int × α)} {k : Int} {z : α} (hm : Fd E (EachM ok l)) (hz : ∀ S w, ok z S w) : Fd E (ok (mpG l k z)) := fun S0 w0 w S hE S' W hS hA => by
 rcases mpG_mem (m := l) (k := k) (z := z) with ⟨e, _⟩ | ⟨p, hp, e, _⟩
 ·rw [e]; exact hz _ _
 ·rw [e]; exact hm S0 w0 w S hE S' W hS hA p hp
theorem ml (d b : Nat) (l : List (Int × α)) (k : Int) (z : α) (pf : α → β) (y : β) (hy : some (mpG (mpM pf l) k (pf z)) = some y) (hm : Fd E (MapC b f ok l)) (hz0 : ∀ S w, ok z S w) (ht : P.underlying t = some (.map kt et)) (hk : P.underlying kt = some (.int kd)) (hz : ∀ w, (zeroValue et).run P w = .ok (f z) w)
  (h : ∀ x, pf x = y → Ge S0 w0 n ((d, f x) :: K) (.dat (ok x) :: E) Kx) (ho : ∀ J, lkOf (rho K J) o = some (t, .map (some b), .int .i64 k, false) := by intro J; kernel_rfl) (hd : o.dst = some d := by kernel_rfl) (hn : Nat.blt d n = true := by kernel_rfl) : Ge S0 w0 n K E (oW P o Q Kx) := by
 refine lk0 d false b l k z (fun w S hE => (hm.a _ _ _ _ hE).m) ht hk hz ?_ ho hd hn; have e : pf (mpG l k z) = y := by rw [← mpG_M pf]; exact Option.some.inj hy
 have := h (mpG l k z) e; exact fun a w S hK hE => this a w S hK (Es.dat hE (zG (hm.m fun _ _ h => h.e) hz0 _ _ _ _ hE))
theorem ml2 (d b : Nat) (l : List (Int × α)) (k : Int) (z : α) (pf : α → β) (y : β) (g : Bool) (hy : some (mpG (mpM pf l) k (pf z), mpH (mpM pf l) k) = some (y, g)) (hm : Fd E (MapC b f ok l)) (hz0 : ∀ S w, ok z S w) (ht : P.underlying t = some (.map kt et)) (hk : P.underlying kt = some (.int kd)) (hz : ∀ w, (zeroValue et).run P w = .ok (f z) w)
  (h : ∀ x, pf x = y → Ge S0 w0 n ((d, .tuple #[f x, .bool g]) :: K) (.dat (ok x) :: E) Kx) (ho : ∀ J, lkOf (rho K J) o = some (t, .map (some b), .int .i64 k, true) := by intro J; kernel_rfl) (hd : o.dst = some d := by kernel_rfl) (hn : Nat.blt d n = true := by kernel_rfl) : Ge S0 w0 n K E (oW P o Q Kx) := by
 refine lk0 d true b l k z (fun w S hE => (hm.a _ _ _ _ hE).m) ht hk hz ?_ ho hd hn; obtain ⟨e1, e2⟩ := Prod.mk.inj (Option.some.inj hy); rw [mpG_M] at e1; rw [mpH_M] at e2; have := h (mpG l k z) e1; rw [e2]; exact fun a w S hK hE => this a w S hK (Es.dat hE (zG (hm.m fun _ _ h => h.e) hz0 _ _ _ _ hE))
theorem sm (i b : Nat) (f : α → Value) (ok : α → Pr) (l : List (Int × α)) (m : Mv ok) (e : Fd E (EachM ok l)) (h : Ge S0 w0 n K (setz E i (.dat (MapC b f ok l))) X) (hi : E[i]? = some (.mp b (mpM f l)) := by kernel_rfl) : Ge S0 w0 n K E X := fun a w S hK hE => by
 have h1 := hE.at hi
 have hok := Es.k hE _ (List.mem_of_getElem? h1); refine h a w (fun x => S x ∨ x = b) hK ?_; unfold Ez; rw [setz_map]; refine Es.put hE i h1 hE.b (fun _ h => .inl h) (fun x h => ?_) (Nat.le_refl _) ?_ (fun _ hg => (by cases hg)) (fun _ _ _ => rfl)
 ·rcases h with h | h
  ·exact .inl h
  ·subst h; exact .inr rfl
 ·have h0 : MapC b f ok l (fun x => S x ∨ x = b) w := ⟨.inr rfl, hok.2.2, e _ _ _ _ hE _ _ (fun _ h => .inl h) (Ag.refl _ _)⟩; exact fun S' W h1 h2 => h0.to m h1 h2
theorem sbr (i g : Nat) (cs : List Value) (h : Ge S0 w0 n K (setz E i (.dat fun S W => RecS S W g 0 cs)) X) (hi : blkOf E i = some (g, cs) := by kernel_rfl) : Ge S0 w0 n K E X := fun a w S hK hE => by
 unfold blkOf at hi
 split at hi
 ·next g' t cs hx =>
  cases hi; have h1 := hE.at hx
  have hok := Es.k hE _ (List.mem_of_getElem? h1); refine h a w (fun x => S x ∨ x = g) hK ?_; unfold Ez; rw [setz_map]; refine Es.put hE i h1 hE.b (fun _ h => .inl h) (fun x h => ?_) (Nat.le_refl _) ?_ (fun _ hg => (by cases hg)) (fun _ _ _ => rfl)
  ·rcases h with h | h
   ·exact .inl h
   ·subst h; exact .inr rfl
  ·have h0 : RecS (fun x => S x ∨ x = g) w g 0 cs := ⟨fun j v hv => by rw [Nat.zero_add]; exact (hok.2.2.cell j).trans (by simpa using hv), .inr rfl⟩; exact fun S' W h1 h2 => h0.to h1 h2
 ·cases hi
theorem rp (g : Nat) (cs : List Value) (hr : Fd E (fun S W => RecS S W g 0 cs)) (h : Ge S0 w0 n K (.rc g 0 cs :: E) X) : Ge S0 w0 n K E X := fun a w S hK hE => h a w S hK (Es.dat hE (hr _ _ _ _ hE))
end
section
variable {S0 S : Nat → Prop} {w0 : World} {n : Nat} {K : List (Nat × Value)} {E : List Iz} {P : Program} {Q : Exit → Act → World → Prop} {c : Code} {id : Nat} {o : Oper} {Kx : Act → World → Prop}
theorem sc (h : Ge S0 w0 n K E (c.wp P (Exit.noGoto Q))) : Ge S0 w0 n K E ((Code.scope c).wp P Q) := fun a w S hK hE => wp_scope_straight (h a w S hK hE)
theorem lb (h : Ge S0 w0 n K E (Q .normal)) : Ge S0 w0 n K E ((Code.label id).wp P Q) := fun a w S hK hE => wp_label (h a w S hK hE)
theorem gR (h : Ge S0 w0 n K E (Q .ret)) : Ge S0 w0 n K E (Exit.noGoto Q .ret) := h
end
abbrev Aw (l : List Value) : Value := .agg ⟨l⟩
def ns : Nat → List Value → List (Nat × Value)
 | _, [] => []
 | i, v :: l => (i, v) :: ns (i + 1) l
theorem lm_ {α β : Type} {f : α → β} {l : List α} : (l.map f).length = l.length := List.length_map _
theorem oi {α : Type} {x y : α} (h : some x = some y) : x = y := Option.some.inj h
theorem bs {α β : Type} {x : Option α} {k : α → Option β} {r : β} (h : Option.bind x k = some r) : ∃ o, x = some o ∧ k o = some r := bind_some h
theorem ic {α : Type} {c : Bool} {x y : Option α} {r : α} (h : ifB c x y = some r) : (c = true ∧ x = some r) ∨ (c = false ∧ y = some r) := ifB_cases h
theorem el {α β γ : Type} {f : α → γ} {g : β → γ} {x : α} {r : γ} (h : Sum.elim f g (.inl x) = r) : f x = r := h
theorem b2 {α β γ : Type} {x : Option (α × β)} {k : α → β → Option γ} {r : γ} (h : Option.bind x (un2 k) = some r) : ∃ a b, x = some (a, b) ∧ k a b = some r := by
 obtain ⟨⟨a, b⟩, h1, h2⟩ := bs h; exact ⟨a, b, h1, h2⟩
theorem b3 {α β δ γ : Type} {x : Option (α × β × δ)} {k : α → β → δ → Option γ} {r : γ} (h : Option.bind x (un3 k) = some r) : ∃ a b c, x = some (a, b, c) ∧ k a b c = some r := by
 obtain ⟨⟨a, b, c⟩, h1, h2⟩ := bs h; exact ⟨a, b, c, h1, h2⟩
theorem fg {S0 : Nat → Prop} {w0 : World} {n : Nat} {K : List (Nat × Value)} {E : List Iz} {X : Act → World → Prop} {Q : Pr} (P : Pr) (i : Nat) (hq : ∀ S W, P S W → Q S W) (h : Ge S0 w0 n K (.dat Q :: E) X) (hi : E[i]? = some (.dat P) := by kernel_rfl) : Ge S0 w0 n K E X := fm Q (gm P i hq hi) h
structure KSig where
 C : Int
 S : Int
 deriving DecidableEq
def KSig.cells (x : KSig) : List Go.Value := [I x.C, I x.S]
structure Kc where
 Office : Int
 Size : Int
 Root : Int
 Sig : KSig
 deriving DecidableEq
def Kc.cells (x : Kc) : List Go.Value := [I x.Office, I x.Size, U x.Root, I x.Sig.C, I x.Sig.S]
theorem Kc.one (l : List Kc) : ∀ u ∈ l.flatMap Kc.cells, u.oneCell' = true := by
 intro u hu; obtain ⟨x, _, hx⟩ := List.mem_flatMap.1 hu; simp only [Kc.cells, List.mem_cons, List.not_mem_nil, or_false] at hx; rcases hx with rfl | rfl | rfl | rfl | rfl <;> rfl
structure Kf where
 Lo : Int
 Hi : Int
 deriving DecidableEq
def Kf.cells (x : Kf) : List Go.Value := [I x.Lo, I x.Hi]
structure Kb where
 Doc : Int
 Stamp : Kf
 deriving DecidableEq
def Kb.cells (x : Kb) : List Go.Value := [U x.Doc, I x.Stamp.Lo, I x.Stamp.Hi]
structure Kk where
 Head : Kc
 Index : Int
 Entry : Kb
 Path : List Int
 deriving DecidableEq
structure Kh where
 Head : Kc
 Index : Int
 Entry : Kb
 Path_A : Option Addr
 Path_c : Nat
 Path : List Int
def Kh.p (x : Kh) : Kk := ⟨x.Head, x.Index, x.Entry, x.Path⟩
def Kh.cells (x : Kh) : List Go.Value := [I x.Head.Office, I x.Head.Size, U x.Head.Root, I x.Head.Sig.C, I x.Head.Sig.S, I x.Index, U x.Entry.Doc, I x.Entry.Stamp.Lo, I x.Entry.Stamp.Hi, .slice x.Path_A x.Path.length x.Path_c]
structure Kh.ok (x : Kh) (S : Nat → Prop) (w : World) : Prop where
 f_Path : RowC x.Path_A x.Path_c c_u64 tr x.Path S w
theorem Kh.mv : Mv Kh.ok := fun _ _ _ _ _ h hS hA => ⟨h.f_Path.to tr_mv hS hA⟩
structure KHop where
 Of : Kc
 Grow : List Int
 By : Kk
 deriving DecidableEq
structure Ke where
 Of : Kc
 Grow_A : Option Addr
 Grow_c : Nat
 Grow : List Int
 By : Kh
def Ke.p (x : Ke) : KHop := ⟨x.Of, x.Grow, x.By.p⟩
def Ke.cells (x : Ke) : List Go.Value := [I x.Of.Office, I x.Of.Size, U x.Of.Root, I x.Of.Sig.C, I x.Of.Sig.S, .slice x.Grow_A x.Grow.length x.Grow_c, I x.By.Head.Office, I x.By.Head.Size, U x.By.Head.Root, I x.By.Head.Sig.C, I x.By.Head.Sig.S, I x.By.Index, U x.By.Entry.Doc, I x.By.Entry.Stamp.Lo, I x.By.Entry.Stamp.Hi, .slice x.By.Path_A x.By.Path.length x.By.Path_c]
structure Ke.ok (x : Ke) (S : Nat → Prop) (w : World) : Prop where
 f_Grow : RowC x.Grow_A x.Grow_c c_u64 tr x.Grow S w
 b_By : Kh.ok x.By S w
theorem Ke.mv : Mv Ke.ok := fun _ _ _ _ _ h hS hA => ⟨h.f_Grow.to tr_mv hS hA, Kh.mv _ _ _ _ _ h.b_By hS hA⟩
theorem Ke.one (l : List Ke) : ∀ u ∈ l.flatMap Ke.cells, u.oneCell' = true := by
 intro u hu; obtain ⟨x, _, hx⟩ := List.mem_flatMap.1 hu; simp only [Ke.cells, List.mem_cons, List.not_mem_nil, or_false] at hx; rcases hx with rfl | rfl | rfl | rfl | rfl | rfl | rfl | rfl | rfl | rfl | rfl | rfl | rfl | rfl | rfl | rfl <;> rfl
structure Km where
 First : Kk
 Hops : List KHop
 Grow : List Int
 Last : Kk
 deriving DecidableEq
structure Ka where
 First : Kh
 Hops_A : Option Addr
 Hops_c : Nat
 Hops : List Ke
 Grow_A : Option Addr
 Grow_c : Nat
 Grow : List Int
 Last : Kh
def Ka.p (x : Ka) : Km := ⟨x.First.p, (x.Hops.map Ke.p), x.Grow, x.Last.p⟩
def Ka.cells (x : Ka) : List Go.Value := [I x.First.Head.Office, I x.First.Head.Size, U x.First.Head.Root, I x.First.Head.Sig.C, I x.First.Head.Sig.S, I x.First.Index, U x.First.Entry.Doc, I x.First.Entry.Stamp.Lo, I x.First.Entry.Stamp.Hi, .slice x.First.Path_A x.First.Path.length x.First.Path_c, .slice x.Hops_A x.Hops.length x.Hops_c, .slice x.Grow_A x.Grow.length x.Grow_c, I x.Last.Head.Office, I x.Last.Head.Size, U x.Last.Head.Root, I x.Last.Head.Sig.C, I x.Last.Head.Sig.S, I x.Last.Index, U x.Last.Entry.Doc, I x.Last.Entry.Stamp.Lo, I x.Last.Entry.Stamp.Hi, .slice x.Last.Path_A x.Last.Path.length x.Last.Path_c]
theorem Ka.n_Hops (x : Ka) : (Ka.p x).Hops.length = x.Hops.length := List.length_map _
structure Ka.ok (x : Ka) (S : Nat → Prop) (w : World) : Prop where
 b_First : Kh.ok x.First S w
 f_Hops : RowC x.Hops_A x.Hops_c Ke.cells Ke.ok x.Hops S w
 f_Grow : RowC x.Grow_A x.Grow_c c_u64 tr x.Grow S w
 b_Last : Kh.ok x.Last S w
theorem Ka.mv : Mv Ka.ok := fun _ _ _ _ _ h hS hA => ⟨Kh.mv _ _ _ _ _ h.b_First hS hA, h.f_Hops.to Ke.mv hS hA, h.f_Grow.to tr_mv hS hA, Kh.mv _ _ _ _ _ h.b_Last hS hA⟩
structure Kg where
 ID : Int
 Entries : List Kb
 deriving DecidableEq
structure Kd where
 ID : Int
 Entries_A : Option Addr
 Entries_c : Nat
 Entries : List Kb
def Kd.p (x : Kd) : Kg := ⟨x.ID, x.Entries⟩
def Kd.cells (x : Kd) : List Go.Value := [I x.ID, .slice x.Entries_A x.Entries.length x.Entries_c]
structure Kd.ok (x : Kd) (S : Nat → Prop) (w : World) : Prop where
 f_Entries : RowC x.Entries_A x.Entries_c Kb.cells tr x.Entries S w
theorem Kd.mv : Mv Kd.ok := fun _ _ _ _ _ h hS hA => ⟨h.f_Entries.to tr_mv hS hA⟩
structure Kr where
 A : Option Addr
 c : Nat
 l : List Int
structure Kr.ok (x : Kr) (S : Nat → Prop) (w : World) : Prop where
 f_l : RowC x.A x.c c_i64 tr x.l S w
structure Kp where
 Entry : Kb
 deriving DecidableEq
def Kd.vl (x : Kd) : Go.Value := .agg #[I x.ID, .slice x.Entries_A x.Entries.length x.Entries_c]
structure Kq where
 offices : List (Int × Kg)
 heads : List Kc
 deriving DecidableEq
structure Kl where
 offices_b : Nat
 offices : List (Int × Kd)
 heads_A : Option Addr
 heads_c : Nat
 heads : List Kc
def Kl.p (x : Kl) : Kq := ⟨(mpM Kd.p x.offices), x.heads⟩
def Kl.cells (x : Kl) : List Go.Value := [.map (some x.offices_b), .slice x.heads_A x.heads.length x.heads_c]
structure Kl.ok (x : Kl) (S : Nat → Prop) (w : World) : Prop where
 f_offices : MapC x.offices_b Kd.vl Kd.ok x.offices S w
 f_heads : RowC x.heads_A x.heads_c Kc.cells tr x.heads S w
theorem Kl.mv : Mv Kl.ok := fun _ _ _ _ _ h hS hA => ⟨h.f_offices.to Kd.mv hS hA, h.f_heads.to tr_mv hS hA⟩
structure Ko where
 s : Bool
 A : Nat
 x : Kl
def Ko.p (q : Ko) : Option Kq := if q.s = true then some q.x.p else none
def Ko.val (q : Ko) : Go.Value := .pointer (if q.s = true then some ⟨q.A, 0, none⟩ else none)
def Ko.ok (q : Ko) : Pr := fun S w => q.s = true → RecS S w q.A 0 q.x.cells ∧ Kl.ok q.x S w
theorem Ko.mv : Mv Ko.ok := fun _ _ _ _ _ h hS hA hs => ⟨(h hs).1.to hS hA, Kl.mv _ _ _ _ _ (h hs).2 hS hA⟩
theorem Ko.ok0 {E : List Iz} {A : Nat} {x : Kl} : Fd E (Ko.ok ⟨false, A, x⟩) := fun _ _ _ _ _ _ _ _ _ h => Bool.noConfusion h
theorem Ko.opn {S0 : Nat → Prop} {w0 : World} {n : Nat} {K : List (Nat × Go.Value)} {E : List Iz} {X : Act → World → Prop} {q : Ko} {y : Kq} (hy : q.p = some y) (hq : Fd E (Ko.ok q))
  (h : ∀ (A : Nat) (x : Kl), q.val = .pointer (some ⟨A, 0, none⟩) → x.p = y → Ge S0 w0 n K (.rc A 0 x.cells :: .dat (Kl.ok x) :: E) X) : Ge S0 w0 n K E X := by
 unfold Ko.p at hy
 split at hy
 ·next hs =>
  refine fm (Kl.ok q.x) (hq.m fun _ _ h => (h hs).2) ?_; refine rp q.A q.x.cells (fun S0 w0 w S hE => ((fun S' W h1 h2 => (hq S0 w0 w S (Es.drop hE (List.sublist_cons_self _ _)) S' W h1 h2 hs).1) : ∀ S' W, _ → _ → _)) ?_; exact h q.A q.x (by unfold Ko.val; rw [if_pos hs]) (Option.some.inj hy)
 ·cases hy
structure Kj where
 heads : List Kc
 at_ : Int
 deriving DecidableEq
structure Ki where
 heads_A : Option Addr
 heads_c : Nat
 heads : List Kc
 at_ : Int
def Ki.p (x : Ki) : Kj := ⟨x.heads, x.at_⟩
def Ki.cells (x : Ki) : List Go.Value := [.slice x.heads_A x.heads.length x.heads_c, I x.at_]
structure Ki.ok (x : Ki) (S : Nat → Prop) (w : World) : Prop where
 f_heads : RowC x.heads_A x.heads_c Kc.cells tr x.heads S w
theorem Ki.mv : Mv Ki.ok := fun _ _ _ _ _ h hS hA => ⟨h.f_heads.to tr_mv hS hA⟩
theorem Ki.one (l : List Ki) : ∀ u ∈ l.flatMap Ki.cells, u.oneCell' = true := by
 intro u hu; obtain ⟨x, _, hx⟩ := List.mem_flatMap.1 hu; simp only [Ki.cells, List.mem_cons, List.not_mem_nil, or_false] at hx; rcases hx with rfl | rfl <;> rfl
def Kg.z : Kg := ⟨0, []⟩
def Kd.z : Kd := ⟨0, none, 0, []⟩
theorem Kd.z_ok (S : Nat → Prop) (w : World) : Kd.ok Kd.z S w := ⟨⟨RowS.nil _ _ _, Nat.le_refl _, fun _ h => absurd h List.not_mem_nil⟩⟩
structure Kv where
 A : Option Addr
 c : Nat
 l : List Ki
structure Kv.ok (x : Kv) (S : Nat → Prop) (w : World) : Prop where
 f_l : RowC x.A x.c Ki.cells Ki.ok x.l S w
structure Ks where
 A : Option Addr
 c : Nat
 l : List Int
structure Ks.ok (x : Ks) (S : Nat → Prop) (w : World) : Prop where
 f_l : RowC x.A x.c c_u64 tr x.l S w
def Kl.z : Kl := ⟨0, [], none, 0, []⟩
structure Ku where
 A : Option Addr
 c : Nat
 l : List Kd
structure Ku.ok (x : Ku) (S : Nat → Prop) (w : World) : Prop where
 f_l : RowC x.A x.c Kd.cells Kd.ok x.l S w
structure Kt where
 A : Option Addr
 c : Nat
 l : List Kc
structure Kt.ok (x : Kt) (S : Nat → Prop) (w : World) : Prop where
 f_l : RowC x.A x.c Kc.cells tr x.l S w
structure Kw where
 Do : Int
 Who : Int
 Which : Int
 Doc : Int
 deriving DecidableEq
structure K3_int where
 f0 : List Int
 f1 : List Int
 f2 : List Int
 deriving DecidableEq
structure K3_intL where
 f0_A : Option Addr
 f0_c : Nat
 f0 : List Int
 f1_A : Option Addr
 f1_c : Nat
 f1 : List Int
 f2_A : Option Addr
 f2_c : Nat
 f2 : List Int
structure K3_intL.ok (x : K3_intL) (S : Nat → Prop) (w : World) : Prop where
 f_f0 : RowC x.f0_A x.f0_c c_i64 tr x.f0 S w
 f_f1 : RowC x.f1_A x.f1_c c_i64 tr x.f1 S w
 f_f2 : RowC x.f2_A x.f2_c c_i64 tr x.f2 S w
structure K4 where
 l : List Kg
 when : K3_int
 heads : List Kc
 pubs : List Int
 ok_ : Bool
 deriving DecidableEq
structure Kz where
 l_A : Option Addr
 l_c : Nat
 l : List Kd
 when : K3_intL
 heads_A : Option Addr
 heads_c : Nat
 heads : List Kc
 pubs_A : Option Addr
 pubs_c : Nat
 pubs : List Int
 ok_ : Bool
structure Kz.ok (x : Kz) (S : Nat → Prop) (w : World) : Prop where
 f_l : RowC x.l_A x.l_c Kd.cells Kd.ok x.l S w
 b_when : K3_intL.ok x.when S w
 f_heads : RowC x.heads_A x.heads_c Kc.cells tr x.heads S w
 f_pubs : RowC x.pubs_A x.pubs_c c_i64 tr x.pubs S w
structure Ky where
 A : Option Addr
 c : Nat
 l : List Int
structure Ky.ok (x : Ky) (S : Nat → Prop) (w : World) : Prop where
 f_l : RowC x.A x.c c_u8 tr x.l S w
structure K8_uint8 where
 f0 : Int
 f1 : Int
 f2 : Int
 f3 : Int
 f4 : Int
 f5 : Int
 f6 : Int
 f7 : Int
 deriving DecidableEq
def Ka.z : Ka := ⟨⟨⟨0, 0, 0, ⟨0, 0⟩⟩, 0, ⟨0, ⟨0, 0⟩⟩, none, 0, []⟩, none, 0, [], none, 0, [], ⟨⟨0, 0, 0, ⟨0, 0⟩⟩, 0, ⟨0, ⟨0, 0⟩⟩, none, 0, []⟩⟩
def Kh.z : Kh := ⟨⟨0, 0, 0, ⟨0, 0⟩⟩, 0, ⟨0, ⟨0, 0⟩⟩, none, 0, []⟩
def Ke.z : Ke := ⟨⟨0, 0, 0, ⟨0, 0⟩⟩, none, 0, [], ⟨⟨0, 0, 0, ⟨0, 0⟩⟩, 0, ⟨0, ⟨0, 0⟩⟩, none, 0, []⟩⟩
theorem eql_KSig (x y : KSig) (w : World) : (binOp .eql 25 (.agg #[I x.C, I x.S]) (.agg #[I y.C, I y.S])).run Tryz.prog w = .ok (.bool (decide (x = y))) w := by
 have u0 := Tryz.underlying3; rw [run_eql_struct, show (10000 : Nat) = 9999 + 1 from rfl, run_equalIn_agg w 9999 25 _ _ (by kernel_rfl) (by kernel_rfl)]; have he : ∀ x y : KSig, x = y ↔ x.C = y.C ∧ x.S = y.S := fun x y => ⟨fun h => by subst h; simp, fun h => by obtain ⟨x_0, x_1⟩ := x; obtain ⟨y_0, y_1⟩ := y; dsimp only at h; (obtain ⟨rfl, rfl⟩ := h); rfl⟩
 rw [show decide (x = y) = decide (x.C = y.C ∧ x.S = y.S) from decide_eq_decide.2 (he x y)]; simp only [Program.fieldsOf, Tryz.underlying25]
 go_simp
 by_cases h0 : x.C = y.C <;> by_cases h1 : x.S = y.S <;> simp [*]
theorem eql_KHead (x y : Kc) (w : World) : (binOp .eql 27 (.agg #[I x.Office, I x.Size, U x.Root, I x.Sig.C, I x.Sig.S]) (.agg #[I y.Office, I y.Size, U y.Root, I y.Sig.C, I y.Sig.S])).run Tryz.prog w = .ok (.bool (decide (x = y))) w := by
 have u0 := Tryz.underlying3; have u1 := Tryz.underlying23; have u2 := Tryz.underlying25; rw [run_eql_struct, show (10000 : Nat) = 9999 + 1 from rfl, run_equalIn_agg w 9999 27 _ _ (by kernel_rfl) (by kernel_rfl)]; have he : ∀ x y : Kc, x = y ↔ x.Office = y.Office ∧ x.Size = y.Size ∧ x.Root = y.Root ∧ x.Sig.C = y.Sig.C ∧ x.Sig.S = y.Sig.S := fun x y => ⟨fun h => by subst h; simp, fun h => by obtain ⟨x_0, x_1, x_2, ⟨x_3, x_4⟩⟩ := x; obtain ⟨y_0, y_1, y_2, ⟨y_3, y_4⟩⟩ := y; dsimp only at h; (obtain ⟨rfl, rfl, rfl, rfl, rfl⟩ := h); rfl⟩
 rw [show decide (x = y) = decide (x.Office = y.Office ∧ x.Size = y.Size ∧ x.Root = y.Root ∧ x.Sig.C = y.Sig.C ∧ x.Sig.S = y.Sig.S) from decide_eq_decide.2 (he x y)]; simp only [Program.fieldsOf, Tryz.underlying27]
 go_simp
 by_cases h0 : x.Office = y.Office <;> by_cases h1 : x.Size = y.Size <;> by_cases h2 : x.Root = y.Root <;> by_cases h3 : x.Sig.C = y.Sig.C <;> by_cases h4 : x.Sig.S = y.Sig.S <;> simp [*]
theorem neq_KHead (x y : Kc) (w : World) : (binOp .neq 27 (.agg #[I x.Office, I x.Size, U x.Root, I x.Sig.C, I x.Sig.S]) (.agg #[I y.Office, I y.Size, U y.Root, I y.Sig.C, I y.Sig.S])).run Tryz.prog w = .ok (.bool (!decide (x = y))) w := by
 have u0 := Tryz.underlying3; have u1 := Tryz.underlying23; have u2 := Tryz.underlying25; rw [run_neq_struct, show (10000 : Nat) = 9999 + 1 from rfl, run_equalIn_agg w 9999 27 _ _ (by kernel_rfl) (by kernel_rfl)]; have he : ∀ x y : Kc, x = y ↔ x.Office = y.Office ∧ x.Size = y.Size ∧ x.Root = y.Root ∧ x.Sig.C = y.Sig.C ∧ x.Sig.S = y.Sig.S := fun x y => ⟨fun h => by subst h; simp, fun h => by obtain ⟨x_0, x_1, x_2, ⟨x_3, x_4⟩⟩ := x; obtain ⟨y_0, y_1, y_2, ⟨y_3, y_4⟩⟩ := y; dsimp only at h; (obtain ⟨rfl, rfl, rfl, rfl, rfl⟩ := h); rfl⟩
 rw [show decide (x = y) = decide (x.Office = y.Office ∧ x.Size = y.Size ∧ x.Root = y.Root ∧ x.Sig.C = y.Sig.C ∧ x.Sig.S = y.Sig.S) from decide_eq_decide.2 (he x y)]; simp only [Program.fieldsOf, Tryz.underlying27]
 go_simp
 by_cases h0 : x.Office = y.Office <;> by_cases h1 : x.Size = y.Size <;> by_cases h2 : x.Root = y.Root <;> by_cases h3 : x.Sig.C = y.Sig.C <;> by_cases h4 : x.Sig.S = y.Sig.S <;> simp [*]
theorem neq_KEntry (x y : Kb) (w : World) : (binOp .neq 31 (.agg #[U x.Doc, I x.Stamp.Lo, I x.Stamp.Hi]) (.agg #[U y.Doc, I y.Stamp.Lo, I y.Stamp.Hi])).run Tryz.prog w = .ok (.bool (!decide (x = y))) w := by
 have u0 := Tryz.underlying3; have u1 := Tryz.underlying23; have u2 := Tryz.underlying29; rw [run_neq_struct, show (10000 : Nat) = 9999 + 1 from rfl, run_equalIn_agg w 9999 31 _ _ (by kernel_rfl) (by kernel_rfl)]; have he : ∀ x y : Kb, x = y ↔ x.Doc = y.Doc ∧ x.Stamp.Lo = y.Stamp.Lo ∧ x.Stamp.Hi = y.Stamp.Hi := fun x y => ⟨fun h => by subst h; simp, fun h => by obtain ⟨x_0, ⟨x_1, x_2⟩⟩ := x; obtain ⟨y_0, ⟨y_1, y_2⟩⟩ := y; dsimp only at h; (obtain ⟨rfl, rfl, rfl⟩ := h); rfl⟩
 rw [show decide (x = y) = decide (x.Doc = y.Doc ∧ x.Stamp.Lo = y.Stamp.Lo ∧ x.Stamp.Hi = y.Stamp.Hi) from decide_eq_decide.2 (he x y)]; simp only [Program.fieldsOf, Tryz.underlying31]
 go_simp
 by_cases h0 : x.Doc = y.Doc <;> by_cases h1 : x.Stamp.Lo = y.Stamp.Lo <;> by_cases h2 : x.Stamp.Hi = y.Stamp.Hi <;> simp [*]
theorem inf22 : Inf Tryz.prog 22 3 1 8 (I 0) := ⟨Tryz.underlying22, by kernel_rfl⟩
theorem inf35 : Inf Tryz.prog 35 79 16 160 (.agg #[I 0, I 0, U 0, I 0, I 0, .slice none 0 0, I 0, I 0, U 0, I 0, I 0, I 0, U 0, I 0, I 0, .slice none 0 0]) := ⟨Tryz.underlying35, by kernel_rfl⟩
theorem inf139 : Inf Tryz.prog 139 3 1 8 (I 0) := ⟨Tryz.underlying139, by kernel_rfl⟩
theorem inf39 : Inf Tryz.prog 39 27 5 40 (.agg #[I 0, I 0, U 0, I 0, I 0]) := ⟨Tryz.underlying39, by kernel_rfl⟩
theorem inf157 : Inf Tryz.prog 157 96 2 32 (.agg #[.slice none 0 0, I 0]) := ⟨Tryz.underlying157, by kernel_rfl⟩
theorem inf51 : Inf Tryz.prog 51 31 3 24 (.agg #[U 0, I 0, I 0]) := ⟨Tryz.underlying51, by kernel_rfl⟩
theorem inf32 : Inf Tryz.prog 32 23 1 8 (U 0) := ⟨Tryz.underlying32, by kernel_rfl⟩
theorem inf38 : Inf Tryz.prog 38 53 2 32 (.agg #[I 0, .slice none 0 0]) := ⟨Tryz.underlying38, by kernel_rfl⟩
end Go.Proofs.YtggaodokkcoagaaGreatDoor
namespace Go.Proofs.YtggaodokkcoagaaGreatDoor
open Go.RowKit
def KS (k : IntKind) (w : World) (A : Option Addr) (l : List Int) : Prop := Rd w A (l.map (Value.int k))
section
variable {k : IntKind} {w w' : World} {A : Option Addr} {l : List Int}
theorem KS.below {B : Nat} (h : KS k w A l) (hb : Below B w w') (hB : w.heap.size ≤ B) : KS k w' A l := Rd.below h hb hB
theorem KS.alloc (h : KS k w A l) (o : Obj) : KS k (w.alloc o) A l := h.below ((Below.refl _ _).alloc (Nat.le_refl _) _) (Nat.le_refl _)
theorem KS.then_ (h : KS k w A l) (hb : Below w.heap.size w w') : KS k w' A l := h.below hb (Nat.le_refl _)
theorem KS.at_ (h : KS k w A l) {i : Nat} (hk : i < l.length) : ∃ b o, A = some ⟨b, o, none⟩ ∧ b < w.heap.size ∧ ∀ i (hi : i < l.length), w.cell? ⟨b, o + i, none⟩ = some (.int k l[i]) := by
 obtain ⟨b, o, rfl, hb, hc⟩ := h (by intro e; have := congrArg List.length e; simp at this; subst this; simp at hk); exact ⟨b, o, rfl, hb, fun i hi => hc i _ (by rw [List.getElem?_map, List.getElem?_eq_getElem hi]; rfl)⟩
theorem KS.nil_of (h : KS k w none l) : l = [] := by
 cases l with
 | nil => rfl
 | cons x l => obtain ⟨b, o, h1, _⟩ := KS.at_ h (i := 0) (by simp); cases h1
theorem KS.pre (h : KS k w A l) (n : Nat) : KS k w A (l.take n) := Rd.take h ⟨(l.drop n).map (Value.int k), by rw [← List.map_append, List.take_append_drop]⟩
theorem KS.shift {b o : Nat} (h : KS k w (some ⟨b, o, none⟩) l) {n : Nat} (hn : n ≤ l.length) : KS k w (some ⟨b, o + n, none⟩) (l.drop n) := by
 unfold KS at h ⊢; rw [← List.take_append_drop n l, List.map_append] at h; have := Rd.shift h; rw [lm_, List.length_take, Nat.min_eq_left hn] at this; exact this
def FrA (w : World) (A : Option Addr) : Prop := ∀ b o, A = some ⟨b, o, none⟩ → w.heap.size ≤ b
def OwnK (k : IntKind) (e : TypeId) (w : World) (base : Nat) (v : Value) (l : List Int) : Prop := w.ownsRow base e 1 v l.length (l.map (Value.int k))
variable {e : TypeId} {base : Nat} {v : Value}
theorem OwnK.form (h : OwnK k e w base v l) : ∃ A c, v = .slice A l.length c ∧ l.length ≤ c ∧ c ≤ maxLen ∧ KS k w A l := own_form h
theorem OwnK.fresh {n c : Nat} {A : Option Addr} (h : OwnK k e w base (.slice A n c) l) : ∀ b o, A = some ⟨b, o, none⟩ → base ≤ b := fun b o hA => by
 rcases h.2 with ⟨hv, _⟩ | ⟨g, _, _, hv, hg, _⟩
 ·injection hv with hv _ _; rw [hA] at hv; cases hv
 ·injection hv with hv _ _; rw [hA] at hv; injection hv with hv; injection hv with hv _; omega
theorem OwnK.nil : OwnK k e w base (.slice none 0 0) [] := World.ownsRow_nil _ _ _ _
theorem OwnK.below (h : OwnK k e w base v l) (hb : Below w.heap.size w w') : OwnK k e w' base v l := by
 refine ⟨h.1, ?_⟩; rcases h.2 with h2 | ⟨g, cap, cur, hv, hg, hh, r⟩
 ·exact .inl h2
 ·exact .inr ⟨g, cap, cur, hv, hg, (hb.block g (Array.getElem?_eq_some_iff.1 hh).1).trans hh, r⟩
theorem OwnK.snoc {n : Nat} {x : Int} {cs : List Value} (h : w.ownsRow base e 1 v (n + 1) (cs ++ [.int k x])) (hn : n = l.length) (hc : cs = l.map (Value.int k)) : OwnK k e w base v (l ++ [x]) := by
 subst hn; subst hc; simpa [OwnK] using h
theorem OwnK.app {n : Nat} {l' : List Int} {cs : List Value} (h : w.ownsRow base e 1 v n cs) (hn : n = (l ++ l').length) (hc : cs = l.map (Value.int k) ++ l'.map (Value.int k)) : OwnK k e w base v (l ++ l') := by
 subst hn; subst hc; simpa [OwnK] using h
theorem kone (l : List Int) : ∀ u ∈ l.map (Value.int k), u.oneCell' = true := by
 intro u hu; obtain ⟨n, _, rfl⟩ := List.mem_map.1 hu; rfl
end
def oct (n : Int) (j : Nat) : Int := (n / 2 ^ (56 - 8 * j)) % 256
def octRow (n : Int) (k : Nat) : Array Value :=
 #[.int .u8 (if 0 < k then oct n 0 else 0), .int .u8 (if 1 < k then oct n 1 else 0), .int .u8 (if 2 < k then oct n 2 else 0), .int .u8 (if 3 < k then oct n 3 else 0), .int .u8 (if 4 < k then oct n 4 else 0), .int .u8 (if 5 < k then oct n 5 else 0), .int .u8 (if 6 < k then oct n 6 else 0), .int .u8 (if 7 < k then oct n 7 else 0)]
theorem octets_any (n : Int) (w : World) : Calls Tryz.prog 133 #[.int .u64 n] w fun e w' => e = .returned (.agg (octRow n 8)) ∧ Below w.heap.size w w' := by
 go_enter Tryz.func133, Tryz.ntmps133
 go_wp2
 go_loopw [3, 4] (fun _ i wr => ∃ k : Nat, k ≤ 8 ∧ i = .int .i64 k ∧ Blk wr w.heap.size 181 (octRow n k) ∧ Below w.heap.size w wr) (fun _ i _ => 8 - (intOf i).toNat)
 case atStart => exact ⟨0, by omega, rfl, Blk.new _ _ _, (Below.refl _ _).alloc (Nat.le_refl _) _⟩
 case round =>
  obtain ⟨k, hk, rfl, hb, hbl⟩ := hrel; have qc := hb.cell; have qf := hb.frozen; have HB := hide hb; have HL := hide hbl; clear hb hbl; rcases (show k = 0 ∨ k = 1 ∨ k = 2 ∨ k = 3 ∨ k = 4 ∨ k = 5 ∨ k = 6 ∨ k = 7 ∨ k = 8 by omega) with rfl | rfl | rfl | rfl | rfl | rfl | rfl | rfl | rfl
  ·simp [octRow] at qc
   go_wp2
   go_roundw
   case rel => exact ⟨1, by omega, rfl, by simpa [octRow, oct] using HB.out.set_ 0 (.int .u8 (oct n 0)), HL.out.setCell (p := ⟨w.heap.size, 0, none⟩) (Nat.le_refl _) _⟩
   case measure => simp [intOf]
  ·simp [octRow] at qc
   go_wp2
   go_roundw
   case rel => exact ⟨2, by omega, rfl, by simpa [octRow, oct] using HB.out.set_ 1 (.int .u8 (oct n 1)), HL.out.setCell (p := ⟨w.heap.size, 1, none⟩) (Nat.le_refl _) _⟩
   case measure => simp [intOf]
  ·simp [octRow] at qc
   go_wp2
   go_roundw
   case rel => exact ⟨3, by omega, rfl, by simpa [octRow, oct] using HB.out.set_ 2 (.int .u8 (oct n 2)), HL.out.setCell (p := ⟨w.heap.size, 2, none⟩) (Nat.le_refl _) _⟩
   case measure => simp [intOf]
  ·simp [octRow] at qc
   go_wp2
   go_roundw
   case rel => exact ⟨4, by omega, rfl, by simpa [octRow, oct] using HB.out.set_ 3 (.int .u8 (oct n 3)), HL.out.setCell (p := ⟨w.heap.size, 3, none⟩) (Nat.le_refl _) _⟩
   case measure => simp [intOf]
  ·simp [octRow] at qc
   go_wp2
   go_roundw
   case rel => exact ⟨5, by omega, rfl, by simpa [octRow, oct] using HB.out.set_ 4 (.int .u8 (oct n 4)), HL.out.setCell (p := ⟨w.heap.size, 4, none⟩) (Nat.le_refl _) _⟩
   case measure => simp [intOf]
  ·simp [octRow] at qc
   go_wp2
   go_roundw
   case rel => exact ⟨6, by omega, rfl, by simpa [octRow, oct] using HB.out.set_ 5 (.int .u8 (oct n 5)), HL.out.setCell (p := ⟨w.heap.size, 5, none⟩) (Nat.le_refl _) _⟩
   case measure => simp [intOf]
  ·simp [octRow] at qc
   go_wp2
   go_roundw
   case rel => exact ⟨7, by omega, rfl, by simpa [octRow, oct] using HB.out.set_ 6 (.int .u8 (oct n 6)), HL.out.setCell (p := ⟨w.heap.size, 6, none⟩) (Nat.le_refl _) _⟩
   case measure => simp [intOf]
  ·simp [octRow] at qc
   go_wp2
   go_roundw
   case rel => exact ⟨8, by omega, rfl, by simpa [octRow, oct] using HB.out.set_ 7 (.int .u8 (oct n 7)), HL.out.setCell (p := ⟨w.heap.size, 7, none⟩) (Nat.le_refl _) _⟩
   case measure => simp [intOf]
  ·simp [octRow] at qc
   go_wp2
   have h8 := ((((((((HB.out.set_ 0 (.int .u8 (oct n 0))).set_ 1 (.int .u8 (oct n 1))).set_ 2 (.int .u8 (oct n 2))).set_ 3 (.int .u8 (oct n 3))).set_ 4 (.int .u8 (oct n 4))).set_ 5 (.int .u8 (oct n 5))).set_ 6 (.int .u8 (oct n 6))).set_ 7 (.int .u8 (oct n 7))); have e8 : ((((((((octRow n 8).setIfInBounds 0 (.int .u8 (oct n 0))).setIfInBounds 1 (.int .u8 (oct n 1))).setIfInBounds 2 (.int .u8 (oct n 2))).setIfInBounds 3 (.int .u8 (oct n 3))).setIfInBounds 4 (.int .u8 (oct n 4))).setIfInBounds 5 (.int .u8 (oct n 5))).setIfInBounds 6 (.int .u8 (oct n 6))).setIfInBounds 7 (.int .u8 (oct n 7)) = octRow n 8 := by simp [octRow]
   rw [e8] at h8; exact bodyPost_ret (results_blk1 rfl _ _ _ _ _ _ rfl h8 Tryz.underlying181 rfl (by kernel_rfl)) rfl ⟨rfl, ((((((((HL.out.setCell (p := ⟨w.heap.size, 0, none⟩) (Nat.le_refl _) (.int .u8 (oct n 0))).setCell (p := ⟨w.heap.size, 1, none⟩) (Nat.le_refl _) (.int .u8 (oct n 1))).setCell (p := ⟨w.heap.size, 2, none⟩) (Nat.le_refl _) (.int .u8 (oct n 2))).setCell (p := ⟨w.heap.size, 3, none⟩) (Nat.le_refl _) (.int .u8 (oct n 3))).setCell (p := ⟨w.heap.size, 4, none⟩) (Nat.le_refl _) (.int .u8 (oct n 4))).setCell (p := ⟨w.heap.size, 5, none⟩) (Nat.le_refl _) (.int .u8 (oct n 5))).setCell (p := ⟨w.heap.size, 6, none⟩) (Nat.le_refl _) (.int .u8 (oct n 6))).setCell (p := ⟨w.heap.size, 7, none⟩) (Nat.le_refl _) (.int .u8 (oct n 7)))⟩
def sumF (h x : Int) : Int := IntKind.u64.wrap (bits .xor .u64 h (IntKind.u64.wrap x) * 1099511628211)
theorem foldl_take1 {α β : Type} (f : β → α → β) (b : β) (l : List α) (k : Nat) (hk : k < l.length) : (l.take (k + 1)).foldl f b = f ((l.take k).foldl f b) l[k] := by
 rw [List.take_succ_eq_append_getElem hk, List.foldl_append]; rfl
def sumB (l : List Int) : Int := l.foldl sumF 14695981039346656037
theorem sum_any (A : Option Addr) (c : Nat) (l : List Int) (w : World) (hn : l.length ≤ 9223372036854775807) (h : KS .u8 w A l) :
  Calls Tryz.prog 134 #[.slice A l.length c] w fun e w' => e = .returned (.int .u64 (sumB l)) ∧ w = w' := by
 go_enter Tryz.func134, Tryz.ntmps134
 go_wp2
 go_loopw [3, 5, 8] (fun s _ i wr => ∃ k : Nat, k ≤ l.length ∧ i = .int .i64 k ∧ s = .int .u64 ((l.take k).foldl sumF 14695981039346656037) ∧ w = wr) (fun _ _ i _ => l.length - (intOf i).toNat)
 case atStart => exact ⟨0, Nat.zero_le _, rfl, rfl, rfl⟩
 case round =>
  obtain ⟨k, hk, rfl, rfl, rfl⟩ := hrel
  by_cases hlt : k < l.length
  ·obtain ⟨b, o, rfl, hbl, hc⟩ := h.at_ hlt; have c0 := hc k hlt; clear hc; have hs := foldl_take1 sumF 14695981039346656037 l k hlt; have HS := hide hs; clear hs
   go_wp2
   go_roundw
   case rel => exact ⟨k + 1, by omega, by go_num, by rw [HS.out]; rfl, by trivial⟩
   case measure => simp [intOf]; omega
  ·have hr : l.take k = l := List.take_of_length_le (by omega); rw [hr]; clear hr
   go_wp2
   go_ret
   exact ⟨rfl, rfl⟩
section
variable {P : Program} (w : World)
theorem run_append_src_grows (t tx ty e : TypeId) (i : TypeInfo) (z : Value) (size bytes : Nat) (ht : P.underlying t = some (.slice e)) (hi : P.info? e = some i) (hz : i.zero = some z) (hsize : i.size = size) (hby : i.bytes = bytes) (hzs : z.cells.size = size)
  (A : Option Addr) (n cap : Nat) (olds : List Value) (hlo : olds.length = n * size) (hr : Rd w A olds) (x : Value) (m : Nat) (news : List Value) (hs : Src P size tx x m news w)
  (hg : cap < n + m) (h63 : n + m ≤ maxLen) (hbytes : (n + m) * bytes ≤ 140737488355328) :
  ∃ v' w', (Builtin.append_ #[t, tx] ty #[.slice A n cap, x]).run P w = .ok v' w' ∧ w'.ownsRow w.heap.size e size v' (n + m) (olds ++ news) ∧ w.grownBy w' none := by
 subst hsize; subst hby
 have hlen : (olds ++ news).length = (n + m) * i.size := by rw [List.length_append, hlo, hs.newsLen, Nat.add_mul]
 have hge := grownCap_ge w (n + m) cap e; have hcm : grownCap w (n + m) cap e ≤ maxLen := grownCap_le_maxLen w (n + m) cap e h63; have hold : (Builtin.firstCells i.size n (.slice A n cap)).run P w.drew = .ok olds.toArray w.drew := by
  by_cases he : olds = []
  ·subst he; cases A with
   | none => exact run_firstCells_none w.drew i.size n n cap |>.trans (by simp)
   | some a => exact run_firstCells_some w.drew i.size n a n cap [] hlo (fun j u h => by simp at h)
  ·obtain ⟨b, o, rfl, _, hc⟩ := hr he; refine run_firstCells_some w.drew i.size n ⟨b, o, none⟩ n cap olds hlo fun j u hu => ?_
   rw [Addr.add_lit]; exact hc j u hu
 have hrun := run_append_grow_src (P := P) w t tx ty e i z ht hi hz A n cap olds hold x m news hs hg (by simp only [maxLen] at h63; omega) (growslice_fits hg hbytes); refine ⟨_, _, hrun, ⟨hlen, .inr ⟨w.heap.size, _, _, rfl, Nat.le_refl _, heap_alloc_new w.drew _, hge, hcm, ?_, ?_⟩⟩, ⟨rfl, rfl, rfl, by simp, fun k hk _ => Below.heap_alloc w.drew _ k hk⟩⟩
 ·simp only [Array.size_append, List.size_toArray, size_zeroCells, hzs, hlen, ← Nat.add_mul]
  congr 1
  omega
 ·simp only [Array.toList_append]; rw [← hlen]; exact List.take_left
theorem wpList_append_src_grows {ops : Array Oper} {rest : List Oper} {o : Oper} {a : Act} {Q : Exit → Act → World → Prop} (hgd : o.guard = none) (s y : Operand) (t tx : TypeId)
  (ho : o.op = .call { callee := .builtin .append, args := #[s, y], argTypes := #[t, tx] })
  (e : TypeId) (i : TypeInfo) (z : Value) (size bytes : Nat) (ht : P.underlying t = some (.slice e)) (hi : P.info? e = some i) (hz : i.zero = some z) (hsize : i.size = size) (hby : i.bytes = bytes) (hzs : z.cells.size = size)
  (A : Option Addr) (n cap : Nat) (hsv : a.eval s = .slice A n cap) (olds : List Value) (hlo : olds.length = n * size) (hr : Rd w A olds) (x : Value) (m : Nat) (news : List Value) (hx : a.eval y = x) (hs : Src P size tx x m news w)
  (hg : cap < n + m) (h63 : n + m ≤ maxLen) (hbytes : (n + m) * bytes ≤ 140737488355328)
  (h : ∀ v' w', w'.ownsRow w.heap.size e size v' (n + m) (olds ++ news) → w.grownBy w' none → wpList P ops Q rest (a.put o.dst v') w') : wpList P ops Q (o :: rest) a w :=
 wpList_plain hgd fun _ hK => by
  obtain ⟨v', w', hrun, h2, h3⟩ := run_append_src_grows (P := P) w t tx o.type e i z size bytes ht hi hz hsize hby hzs A n cap olds hlo hr x m news hs hg h63 hbytes; unfold Oper.wp execOp; simp only [ho, resolve, invoke, builtin, Sem.run_bind, Sem.run_pure, Result.andThen_ok, List.map_toArray, List.map_cons, List.map_nil, hsv, hx, hrun]; exact hK _ _ (h v' w' h2 h3)
end
theorem addr_add (b o j : Nat) : (⟨b, o, none⟩ : Addr).add j = ⟨b, o + j, none⟩ := by unfold Addr.add; split <;> simp_all
theorem splice_two {C P X R : List Value} {p m : Nat} (hp : P.length = p) (hx : X.length = m) (hC : C.take p = P) (_ : p + m + R.length ≤ C.length) :
  (splice (splice C p X) (p + m) R).take (p + m + R.length) = P ++ X ++ R := by
 have e1 : splice C p X = P ++ X ++ C.drop (p + m) := by simp only [splice, hC, hx, List.append_assoc]
 have e2 : (P ++ X ++ C.drop (p + m)).take (p + m) = P ++ X := by
  rw [List.take_append_of_le_length (by simp; omega)]; exact List.take_of_length_le (by simp; omega)
 rw [e1, splice, e2, ← List.append_assoc, List.take_append_of_le_length (by simp; omega)]; exact List.take_of_length_le (by simp; omega)
theorem splice_two' {C P X R : List Value} {p m : Nat} (hp : P.length = p) (hx : X.length = m) (hC : C.take p = P) (_ : p + m + R.length ≤ C.length) :
  (splice (splice C (p + m) R) p X).take (p + m + R.length) = P ++ X ++ R := by
 have e1 : (splice C (p + m) R).take p = P := by
  rw [splice, List.take_append_of_le_length (by simp; omega), List.take_take, Nat.min_eq_left (by omega), hC]
 have e2 : (splice C (p + m) R).drop (p + X.length) = R ++ C.drop (p + m + R.length) := by
  rw [splice, hx, List.drop_append, List.drop_of_length_le (by simp; omega), List.nil_append]; rw [List.length_take, Nat.min_eq_left (by omega), Nat.sub_self, List.drop_zero]
 rw [splice, e1, e2, ← List.append_assoc, ← List.append_assoc, List.take_append_of_le_length (by simp; omega)]; exact List.take_of_length_le (by simp; omega)
section
variable {P : Program}
theorem run_copyN (w : World) (dT sT ty elem : TypeId) (size : Nat) (dp sp : Option Addr) (g o dLen dCap sLen sCap : Nat) (cur : Array Value) (t : TypeId) (cs : List Value)
  (hu : P.underlying dT = some (.slice elem)) (hs : (P.info? elem).map (·.size) = some size)
  (hg : Blk w g t cur) (hn : cs.length = Nat.min sLen dLen * size) (hd : cs ≠ [] → dp = some ⟨g, o, none⟩)
  (hsrc : Rd w sp cs) (hfit : o + cs.length ≤ cur.size) (h1 : ∀ v ∈ cs, v.oneCell' = true) :
  ∃ w', (Builtin.copy_ #[dT, sT] ty #[.slice dp dLen dCap, .slice sp sLen sCap]).run P w = .ok (goInt (Nat.min sLen dLen)) w' ∧
   Blk w' g t (splice cur.toList o cs).toArray ∧ w.grownBy w' (some g) ∧ w'.heap.size = w.heap.size := by
 cases hq : P.info? elem with
 | none => simp [hq] at hs
 | some i =>
  have hi : i.size = size := by simpa [hq] using hs
  by_cases hc : cs = []
  ·subst hc; refine ⟨w, ?_, by simpa [splice] using hg, World.grownBy.refl w _, rfl⟩; have h0 : Nat.min sLen dLen * i.size = 0 := by rw [hi, ← hn]; rfl
   have hl : ∀ a : Addr, (loadCells a (Nat.min sLen dLen * i.size)).run P w = .ok #[] w := fun a => by
    rw [h0]; simp [loadCells, loadCellsFrom]
   cases sp <;> cases dp <;> simp [Builtin.copy_, run_underlying hu, Builtin.lenOf, Builtin.firstCells, sizeOf, typeInfo, hq, storeCells, hl]
  ·obtain rfl := hd hc; obtain ⟨b, o', rfl, _, hcell⟩ := hsrc hc; have hl := run_loadCells_list (P := P) w ⟨b, o', none⟩ cs (fun j v hv => by rw [addr_add]; exact hcell j v hv); have hst := run_storeCells_at P g o t cs 0 cur w hg (by simpa using hfit) h1; refine ⟨_, ?_, setRow_heap w g cur _ t _ hg, ⟨rfl, rfl, rfl, by simp [World.setRow], fun k _ hk => setRow_other w g k _ (fun e => hk (by rw [e]))⟩, by simp [World.setRow]⟩; have hlen : Nat.min sLen dLen * i.size = cs.length := by rw [hn, hi]
   simp [Builtin.copy_, run_underlying hu, Builtin.lenOf, Builtin.firstCells, sizeOf, typeInfo, hq, hlen, hl, hst, splice]
theorem wpList_copyN {w : World} {ops : Array Oper} {rest : List Oper} {o : Oper} {a : Act} {Q : Exit → Act → World → Prop} (hgd : o.guard = none) (d s : Operand) (dT sT : TypeId)
  (ho : o.op = .call { callee := .builtin .copy, args := #[d, s], argTypes := #[dT, sT] }) (elem : TypeId) (size : Nat) (hu : P.underlying dT = some (.slice elem)) (hs : (P.info? elem).map (·.size) = some size)
  (dp sp : Option Addr) (dLen dCap sLen sCap : Nat) (hdv : a.eval d = .slice dp dLen dCap) (hsv : a.eval s = .slice sp sLen sCap)
  (g off : Nat) (cur : Array Value) (t : TypeId) (hg : Blk w g t cur) (cs : List Value) (hn : cs.length = Nat.min sLen dLen * size) (hd : cs ≠ [] → dp = some ⟨g, off, none⟩)
  (hsrc : Rd w sp cs) (hfit : off + cs.length ≤ cur.size) (h1 : ∀ v ∈ cs, v.oneCell' = true)
  (h : ∀ w', Blk w' g t (splice cur.toList off cs).toArray → w.grownBy w' (some g) → w'.heap.size = w.heap.size → wpList P ops Q rest (a.put o.dst (goInt (Nat.min sLen dLen))) w') :
  wpList P ops Q (o :: rest) a w := by
 refine wpList_plain hgd fun K hK => ?_
 obtain ⟨w', hrun, h2, h3, h4⟩ := run_copyN (P := P) w dT sT o.type elem size dp sp g off dLen dCap sLen sCap cur t cs hu hs hg hn hd hsrc hfit h1; unfold Oper.wp
 simp [execOp, ho, resolve, invoke, builtin, hdv, hsv, hrun, Result.andThen]
 exact hK _ _ (h w' h2 h3 h4)
theorem step_copyN {ops : Array Oper} {w : World} {o : Oper} {a : Act} {K : Act → World → Prop} {Q : Exit → Act → World → Prop} {E : Prop} (hgd : o.guard = none) (d s : Operand) (dT sT : TypeId)
  (ho : o.op = .call { callee := .builtin .copy, args := #[d, s], argTypes := #[dT, sT] }) (elem : TypeId) (size : Nat) (hu : P.underlying dT = some (.slice elem)) (hs : (P.info? elem).map (·.size) = some size)
  (dp sp : Option Addr) (dLen dCap sLen sCap : Nat) (hdv : a.eval d = .slice dp dLen dCap) (hsv : a.eval s = .slice sp sLen sCap)
  (g off : Nat) (cur : Array Value) (t : TypeId) (hg : Blk w g t cur) (cs : List Value) (hn : cs.length = Nat.min sLen dLen * size) (hd : cs ≠ [] → dp = some ⟨g, off, none⟩)
  (hsrc : Rd w sp cs) (hfit : off + cs.length ≤ cur.size) (h1 : ∀ v ∈ cs, v.oneCell' = true)
  (h : ∀ w', Blk w' g t (splice cur.toList off cs).toArray → w.grownBy w' (some g) → w'.heap.size = w.heap.size → K (a.put o.dst (goInt (Nat.min sLen dLen))) w') :
  if Region.wanted o (yielded ops a.tmps) = true then Oper.wp P o a w K Q else E := by
 have hw : Region.wanted o (yielded ops a.tmps) = true := by simp [Region.wanted, hgd]
 rw [if_pos hw]; obtain ⟨w', hrun, h2, h3, h4⟩ := run_copyN (P := P) w dT sT o.type elem size dp sp g off dLen dCap sLen sCap cur t cs hu hs hg hn hd hsrc hfit h1; unfold Oper.wp
 simp [execOp, ho, resolve, invoke, builtin, hdv, hsv, hrun, Result.andThen]
 exact h w' h2 h3 h4
theorem size_zeroN (z : Array Value) (n : Nat) : (Builtin.zeroCells z n).size = n * z.size := by simp [Builtin.zeroCells]
theorem run_append_zeros (w : World) (t ity ty e : TypeId) (ik : IntKind) (i : TypeInfo) (z : Value) (size bytes : Nat) (ht : P.underlying t = some (.slice e)) (hit : P.underlying ity = some (.int ik)) (hi : P.info? e = some i) (hz : i.zero = some z)
  (hsize : i.size = size) (hby : i.bytes = bytes) (hzs : z.cells.size = size) (A : Option Addr) (n c m : Nat) (xs : List Value) (hl : xs.length = n * size) (hx : Rd w A xs)
  (hm : 0 < m) (hgrow : c < n + m) (h63 : n + m ≤ 9223372036854775807) (hbytes : (n + m) * bytes ≤ 140737488355328) (hsz : 0 < size) :
  ∃ cells cap w', (Builtin.append_ #[t, ity] ty #[.slice A n c, .int .i64 m]).run P w = .ok (.slice (some ⟨w.heap.size, 0, none⟩) (n + m) cap) w' ∧ n + m ≤ cap ∧ cap ≤ maxLen ∧
   Array.size cells = cap * size ∧ cells.toList.take (n * size) = xs ∧ Blk w' w.heap.size e cells ∧ w.grownBy w' none ∧ w'.heap.size = w.heap.size + 1 := by
 subst hsize; subst hby
 have hn : ¬ (n + m ≤ c) := by omega
 have hmi : IntKind.i64.wrap (m : Int) = m := IntWalk.i64_in _ (by omega); have hm0 : ¬ ((m : Int) < 0) := by omega
 have has : (asInt (.int .i64 (m : Int))).run P w = .ok (m : Int) w := rfl; have hmx : max (m : Int) 0 = m := by omega
 have hmb : ¬ (281474976710656 < (m : Int) * i.bytes) := by
  have h1 : m * i.bytes ≤ (n + m) * i.bytes := Nat.mul_le_mul_right _ (by omega); have h2 : ((m * i.bytes : Nat) : Int) ≤ 140737488355328 := by omega
  rw [Int.natCast_mul] at h2; omega
 have h63' : ¬ (9223372036854775807 < ((n : Int) + (m : Int))) := by omega
 have h48' : ¬ (281474976710656 < Builtin.nextslicecap (n + m) c * i.bytes) := by
  have := growslice_fits (need := n + m) (old := c) hgrow hbytes; omega
 have hge := grownCap_ge w (n + m) c e; have hcm : grownCap w (n + m) c e ≤ maxLen := grownCap_le_maxLen w (n + m) c e (by simp only [maxLen]; omega); have hfo : (Builtin.firstCells i.size n (.slice A n c)).run P w.drew = .ok xs.toArray w.drew := by
  by_cases hxs : xs = []
  ·subst hxs; have h0 : n * i.size = 0 := by rw [← hl]; rfl
   cases A <;> simp [Builtin.firstCells, h0, loadCells, loadCellsFrom]
  ·obtain ⟨b, o, rfl, _, hc⟩ := hx hxs; exact run_firstCells_some (P := P) w.drew i.size n ⟨b, o, none⟩ n c xs hl (fun j v hv => by rw [addr_add]; exact hc j v hv)
 refine ⟨xs.toArray ++ Builtin.zeroCells z.cells m ++ Builtin.zeroCells z.cells (grownCap w (n + m) c e - (n + m)), grownCap w (n + m) c e,
  w.drew.alloc (.cells (xs.toArray ++ Builtin.zeroCells z.cells m ++ Builtin.zeroCells z.cells (grownCap w (n + m) c e - (n + m))) e), ?_, hge, hcm, ?_, ?_, heap_alloc_new w.drew _, ⟨rfl, rfl, rfl, by simp, fun k hk _ => Below.heap_alloc w.drew _ k hk⟩, by simp⟩
 ·simp [Builtin.append_, run_underlying ht, run_underlying hit, sizeOf, typeInfo, zeroValue, hi, hz, hn, h63', h48', Question.forced, hfo, newRow, grownCap, has, hmi, hm0, hmb, hmx]
  intro h0; have := Nat.mul_pos hm hsz; omega
 ·simp only [Array.size_append, List.size_toArray, size_zeroN, hzs, hl, ← Nat.add_mul]
  congr 1
  omega
 ·rw [← hl]; simp
theorem wpList_append_zeros {w : World} {ops : Array Oper} {rest : List Oper} {o : Oper} {a : Act} {Q : Exit → Act → World → Prop} (hgd : o.guard = none) (s x : Operand) (t ity : TypeId)
  (ho : o.op = .call { callee := .builtin .append, args := #[s, x], argTypes := #[t, ity] }) (e : TypeId) (ik : IntKind) (i : TypeInfo) (z : Value) (size bytes : Nat) (ht : P.underlying t = some (.slice e)) (hit : P.underlying ity = some (.int ik)) (hi : P.info? e = some i) (hz : i.zero = some z)
  (hsize : i.size = size) (hby : i.bytes = bytes) (hzs : z.cells.size = size) (A : Option Addr) (n c m : Nat) (k : Int) (hs : a.eval s = .slice A n c) (hk : a.eval x = .int .i64 k) (hkm : k = m) (xs : List Value) (hl : xs.length = n * size) (hx : Rd w A xs)
  (N : Nat) (hN : N = n + m) (hm : 0 < m) (hgrow : c < n + m) (h63 : n + m ≤ 9223372036854775807) (hbytes : (n + m) * bytes ≤ 140737488355328) (hsz : 0 < size)
  (h : ∀ cells cap w', N ≤ cap → cap ≤ maxLen → Array.size cells = cap * size → cells.toList.take (n * size) = xs → Blk w' w.heap.size e cells → w.grownBy w' none → w'.heap.size = w.heap.size + 1 →
   wpList P ops Q rest (a.put o.dst (.slice (some ⟨w.heap.size, 0, none⟩) N cap)) w') :
  wpList P ops Q (o :: rest) a w := by
 subst hkm; subst hN; refine wpList_plain hgd fun K hK => ?_
 obtain ⟨cells, cap, w', hrun, h1, h2, h3, h4, h5, h6, h7⟩ := run_append_zeros (P := P) w t ity o.type e ik i z size bytes ht hit hi hz hsize hby hzs A n c m xs hl hx hm hgrow h63 hbytes hsz; unfold Oper.wp execOp; simp only [ho, resolve, invoke, builtin, Sem.run_bind, Sem.run_pure, Result.andThen_ok, List.map_toArray, List.map_cons, List.map_nil, hs, hk, hrun]; exact hK _ _ (h cells cap w' h1 h2 h3 h4 h5 h6 h7)
end
theorem infoB : (Tryz.prog.info? 5).map (fun i => (i.zero, i.size, i.bytes)) = some (some (.int .u8 0), 1, 1) := by kernel_rfl
def octL (n : Int) : List Int := [oct n 0, oct n 1, oct n 2, oct n 3, oct n 4, oct n 5, oct n 6, oct n 7]
theorem octRow_eq (n : Int) : octRow n 8 = ((octL n).map (Value.int .u8)).toArray := by simp [octRow, octL]
theorem ks_oct {w : World} {g : Nat} {t : TypeId} {n : Int} (h : Blk w g t (octRow n 8)) : KS .u8 w (some ⟨g, 0, none⟩) (octL n) := by
 rw [octRow_eq] at h; exact Rd.of_blk h
theorem small0 (w : World) : Calls Tryz.prog 170 #[.int .i64 0] w fun e w' => e = .returned (.string ⟨#[48]⟩) ∧ w = w' := by
 go_enter Tryz.func170, Tryz.ntmps170
 go_wp2
 go_ret
 exact ⟨rfl, rfl⟩
theorem appendUint0 (A : Option Addr) (n : Nat) (l : List Int) (w : World) (hl : l.length = n) (hn : n ≤ 100000) (h : KS .u8 w A l) :
  Calls Tryz.prog 169 #[.slice A n n, .int .u64 0, .int .i64 10] w fun e w' => ∃ v, e = .returned v ∧ OwnK .u8 5 w' w.heap.size v (l ++ [48]) ∧ Below w.heap.size w w' := by
 obtain ⟨i0, hi, hz0, hz1, hz2⟩ := info_parts infoB
 go_enter Tryz.func169, Tryz.ntmps169
 go_wp2_with (first
  | (go_at_call 170; refine (small0 _).mono ?_; rintro e w2 ⟨rfl, rfl⟩)
  | (at_builtin; refine wpList_append_src_grows _ rfl _ _ 174 9 rfl 5 i0 _ 1 1 Tryz.underlying174 hi hz0 hz1 hz2 rfl A n n rfl (l.map (Value.int .u8)) (by simp [hl]) h (.string ⟨#[48]⟩) 1 [.int .u8 48] rfl (Src.ofString _ Tryz.underlying9 ⟨#[48]⟩) (by omega) ?_ ?_ ?_))
 ·simp only [maxLen]; omega
 ·omega
 intro v' w' hown hgrow
 go_wp2
 go_ret
 exact ⟨v', rfl, by simpa [OwnK, hl] using hown, Below.of_grown hgrow⟩
theorem appendIntI0 (A : Option Addr) (n : Nat) (l : List Int) (w : World) (hl : l.length = n) (hn : n ≤ 100000) (h : KS .u8 w A l) :
  Calls Tryz.prog 168 #[.slice A n n, .int .i64 0, .int .i64 10] w fun e w' => ∃ v, e = .returned v ∧ OwnK .u8 5 w' w.heap.size v (l ++ [48]) ∧ Below w.heap.size w w' := by
 go_enter Tryz.func168, Tryz.ntmps168
 go_wp2_with (go_at_call 169; refine (appendUint0 A n l _ hl hn h).mono ?_; rintro e w2 ⟨v, rfl, ho, hb⟩)
 go_ret
 exact ⟨v, rfl, ho, hb⟩
theorem appendInt0 (A : Option Addr) (n : Nat) (l : List Int) (w : World) (hl : l.length = n) (hn : n ≤ 100000) (h : KS .u8 w A l) :
  Calls Tryz.prog 165 #[.slice A n n, .int .i64 0, .int .i64 10] w fun e w' => ∃ v, e = .returned v ∧ OwnK .u8 5 w' w.heap.size v (l ++ [48]) ∧ Below w.heap.size w w' := by
 go_enter Tryz.func165, Tryz.ntmps165
 go_wp2_with (go_at_call 168; refine (appendIntI0 A n l _ hl hn h).mono ?_; rintro e w2 ⟨v, rfl, ho, hb⟩)
 go_ret
 exact ⟨v, rfl, ho, hb⟩
theorem text0 (A B : Option Addr) (n d : Nat) (l : List Int) (w : World) (hl : l.length = n) (hn : n ≤ 100000) (h : KS .u8 w A l) (h' : KS .i64 w B [0]) :
  Calls Tryz.prog 155 #[.slice A n n, .slice B 1 d] w fun e w' => ∃ v, e = .returned v ∧ OwnK .u8 5 w' w.heap.size v (l ++ [48] ++ [32]) ∧ Below w.heap.size w w' := by
 obtain ⟨i0, hi, hz0, hz1, hz2⟩ := info_parts infoB; obtain ⟨b, o, rfl, hbl, hc⟩ := h'.at_ (i := 0) (by simp); have c0 := hc 0 (by simp); simp only [Nat.add_zero, List.getElem_cons_zero] at c0; clear hc
 go_enter Tryz.func155, Tryz.ntmps155
 go_wp2
 go_loopw [0, 6, 9] (fun u0 _ i wr => (i = .int .i64 0 ∧ u0 = .slice A n n ∧ wr = w) ∨ (i = .int .i64 1 ∧ OwnK .u8 5 wr w.heap.size u0 (l ++ [48] ++ [32]) ∧ Below w.heap.size w wr)) (fun _ _ i _ => 1 - (intOf i).toNat)
 case atStart => exact .inl ⟨rfl, rfl, rfl⟩
 case round =>
  rcases hrel with ⟨rfl, rfl, rfl⟩ | ⟨rfl, ho, hb⟩
  ·go_wp2_with (first
    | (go_at_call 165; refine (appendInt0 A n l _ hl hn h).mono ?_; rintro e w2 ⟨v, rfl, ho2, hb2⟩; have HO := hide ho2; have HB := hide hb2; have hs2 := hb2.size; clear ho2 hb2)
    | (at_builtin; refine wpList_append_rd _ rfl _ _ 174 rfl wr.heap.size 5 i0 _ 1 1 Tryz.underlying174 hi hz0 hz1 hz2 rfl (by decide) _ _ _ rfl (OwnK.below HO.out ((Below.refl _ _).alloc (Nat.le_refl _) _)) (some ⟨w2.heap.size, 0, none⟩) 1 1 [.int .u8 32] rfl rfl (Rd.new_row _ _ _) (by simp [Value.oneCell']) ?_ ?_ ?_ ?_))
   ·simp only [maxLen, List.length_append, List.length_cons, List.length_nil]; omega
   ·simp only [List.length_append, List.length_cons, List.length_nil]; omega
   ·simp; omega
   intro v' w6 hown' hgrow _; have b6 : Below wr.heap.size wr w6 := (HB.out.alloc hs2 _).grown hgrow (by simp; omega) (fun g hg => (HO.out.lt g hg).1)
   go_wp2
   go_roundw
   case rel => exact .inr ⟨rfl, by simpa [OwnK, hl] using hown', b6⟩
   case measure => simp [intOf]
  ·have HO := hide ho; have HB := hide hb; clear ho hb
   go_wp2
   go_ret
   exact ⟨u0, rfl, HO.out, HB.out⟩
def leafF (n : Int) : Int := sumB (octL n ++ [48] ++ [32])
def pairF (a b : Int) : Int := sumB ([1] ++ octL a ++ octL b)
theorem next0 (n : Int) (B : Option Addr) (d : Nat) (w : World) (h' : KS .i64 w B [0]) :
  Calls Tryz.prog 151 #[.int .u64 n, .slice B 1 d] w fun e w' => e = .returned (.int .u64 (leafF n)) ∧ Below w.heap.size w w' := by
 have HB := hide h'; have HS := hide fun A c l W hn s => sum_any A c l W hn s
 clear h'
 go_enter Tryz.func151, Tryz.ntmps151
 go_wp2_with (first
  | (go_at_call 133; refine (octets_any n _).mono ?_; rintro e w2 ⟨rfl, hb2⟩; have hs2 := hb2.size; have B2 := hide (hb2.alloc hs2 (.cells (octRow n 8) 181)); have K2 := hide (ks_oct (Blk.new w2 181 (octRow n 8))); have I2 := hide ((HB.out.then_ hb2).alloc (.cells (octRow n 8) 181)); clear hb2; simp only [octRow, Nat.reduceLT, if_true] at B2 K2 I2 ⊢)
  | (go_at_call 155; refine (text0 _ B 8 d (octL n) _ rfl (by omega) K2.out I2.out).mono ?_; rintro e w3 ⟨v3, rfl, ho3, hb3⟩; obtain ⟨A3, c3, rfl, hl3, hm3, hk3⟩ := ho3.form; have B3 := hide (B2.out.trans (hb3.mono B2.out.size)); have K3 := hide hk3; clear ho3 hb3 hk3)
  | (go_at_call 134; refine (HS.out A3 c3 _ _ (by simp [octL]) K3.out).mono ?_; rintro e w4 ⟨rfl, rfl⟩))
 go_ret
 exact ⟨rfl, B3.out⟩
theorem leaf_any (n : Int) (w : World) : Calls Tryz.prog 121 #[.int .u64 n] w fun e w' => e = .returned (.int .u64 (leafF n)) ∧ Below w.heap.size w w' := by
 have K := hide (show KS .i64 (w.alloc (.cells #[.int .i64 0] 3)) (some ⟨w.heap.size, 0, none⟩) [0] from Rd.new_row w 3 #[.int .i64 0])
 go_enter Tryz.func121, Tryz.ntmps121
 go_wp2_with (go_at_call 151; refine (next0 n _ _ _ K.out).mono ?_; rintro e w2 ⟨rfl, hb⟩)
 go_ret
 exact ⟨rfl, ((Below.refl w.heap.size w).alloc (Nat.le_refl _) _).trans (hb.mono (by simp))⟩
end Go.Proofs.YtggaodokkcoagaaGreatDoor
namespace Go.Proofs.YtggaodokkcoagaaGreatDoor
theorem dec_small {u : Nat} (h : u < 10) : Lib.decDigits u = [UInt8.ofNat (48 + u)] := Lib.decDigits_one h
theorem dec_big {u : Nat} (h : ¬u < 10) : Lib.decDigits u = Lib.decDigits (u / 10) ++ [UInt8.ofNat (48 + u % 10)] := by
 rw [Lib.decDigits, dif_neg h]
theorem itoa_small {n : Int} (h0 : 0 ≤ n) (h : n < 10) : Lib.itoa n = [UInt8.ofNat (48 + n.toNat)] := by
 unfold Lib.itoa; rw [if_neg (by omega), dec_small (by omega)]
theorem itoa_big {n : Int} (h : 10 ≤ n) : Lib.itoa n = Lib.itoa (n / 10) ++ [UInt8.ofNat (48 + n.toNat % 10)] := by
 unfold Lib.itoa; rw [if_neg (by omega), if_neg (by omega), dec_big (by omega), show (n / 10).toNat = n.toNat / 10 by omega]
theorem itoa_negs {n : Int} (h0 : n < 0) (h : -10 < n) : Lib.itoa n = [45, UInt8.ofNat (48 + n.natAbs)] := by
 unfold Lib.itoa; rw [if_pos h0, dec_small (by omega)]
theorem itoa_negb {n : Int} (h : n ≤ -10) : Lib.itoa n = Lib.itoa (-(-n / 10)) ++ [UInt8.ofNat (48 + n.natAbs % 10)] := by
 unfold Lib.itoa; rw [if_pos (by omega), if_pos (by omega), dec_big (by omega), show (-(-n / 10)).natAbs = n.natAbs / 10 by omega]; rfl
theorem tdiv_neg {n : Int} (h : n ≤ 0) : Int.tdiv n 10 = -(-n / 10) := by
 rw [show n = -(-n) by omega, Int.neg_tdiv, Int.tdiv_eq_ediv_of_nonneg (by omega), Int.neg_neg]
theorem tmod_neg {n : Int} (h : n ≤ 0) : Int.tmod n 10 = -(-n % 10) := by
 rw [show n = -(-n) by omega, Int.neg_tmod, Int.tmod_eq_emod_of_nonneg (by omega), Int.neg_neg]
def numL (z : Int) : List Int := (Lib.itoa z).map fun b => (b.toNat : Int)
def textL (l : List Int) : List Int := l.flatMap fun z => numL z ++ [32]
theorem byteCells_num (z : Int) : Lib.byteCells (Lib.itoa z) = (numL z).map (Value.int .u8) := by simp [Lib.byteCells, numL]
theorem textL_snoc (l : List Int) (z : Int) : textL (l ++ [z]) = textL l ++ numL z ++ [32] := by simp [textL]
theorem textL_take {l : List Int} {k : Nat} (hk : k < l.length) : textL (l.take (k + 1)) = textL (l.take k) ++ numL l[k] ++ [32] := by
 rw [List.take_succ_eq_append_getElem hk, textL_snoc]
theorem numL_len {z : Int} (h0 : -9223372036854775808 ≤ z) (h1 : z ≤ 9223372036854775807) : (numL z).length ≤ 21 := by
 unfold numL; rw [List.length_map]; exact Lib.itoa_length_le z h0 h1
theorem textL_len : ∀ {l : List Int}, (∀ z ∈ l, -9223372036854775808 ≤ z ∧ z ≤ 9223372036854775807) → (textL l).length ≤ 22 * l.length
 | [], _ => Nat.le_refl _
 | z :: l, h => by
  have h1 := numL_len (h z (by simp)).1 (h z (by simp)).2; have h2 := textL_len (l := l) fun y hy => h y (by simp [hy])
  show (numL z ++ [32] ++ textL l).length ≤ _
  simp only [List.length_append, List.length_cons, List.length_nil]; omega
end Go.Proofs.YtggaodokkcoagaaGreatDoor
namespace Go.Proofs.YtggaodokkcoagaaGreatDoor
open Go.RowKit
def inI (l : List Int) : Prop := ∀ z ∈ l, -9223372036854775808 ≤ z ∧ z ≤ 9223372036854775807
instance (l : List Int) : Decidable (inI l) := inferInstanceAs (Decidable (∀ z ∈ l, _))
theorem text_any (base n : Nat) (v : Value) (l zs : List Int) (B : Option Addr) (d : Nat) (w0 w : World) (hT : Tb w0) (hb0 : Below w0.heap.size w0 w) (hB0 : w0.heap.size ≤ base) (hBw : base ≤ w.heap.size) (hown : OwnK .u8 5 w base v l) (hl : l.length ≤ 100000)
  (hz : ∀ W, Below base w W → KS .i64 W B zs) (hi : inI zs) (hzl : zs.length ≤ 100000) :
  Calls Tryz.prog 155 #[v, .slice B zs.length d] w fun e w' => ∃ v', e = .returned v' ∧ OwnK .u8 5 w' base v' (l ++ textL zs) ∧ Below base w w' := by
 obtain ⟨i0, hi0, hz0, hz1, hz2⟩ := info_parts infoB; have HT := hide hT; have HB0 := hide hb0; have HO0 := hide hown; have HZ := hide hz; have HI := hide hi; have hlen := textL_len hi; have HLEN := hide hlen; clear hT hb0 hown hz hi hlen
 go_enter Tryz.func155, Tryz.ntmps155
 go_wp2
 go_loopw [0, 6, 9] (fun u0 _ i wr => ∃ k : Nat, k ≤ zs.length ∧ i = .int .i64 k ∧ OwnK .u8 5 wr base u0 (l ++ textL (zs.take k)) ∧ Below base w wr) (fun _ _ i _ => zs.length - (intOf i).toNat)
 case atStart => exact ⟨0, Nat.zero_le _, rfl, by simpa [textL] using HO0.out, Below.refl _ _⟩
 case round =>
  obtain ⟨k, hk, rfl, ho, hb⟩ := hrel; have HO := hide ho; have HB := hide hb; have hsz := hb.size; clear ho hb
  by_cases hlt : k < zs.length
  ·obtain ⟨b, o, rfl, hbl, hc⟩ := (HZ.out wr HB.out).at_ (i := k) hlt; have c0 := hc k hlt; have hr := HI.out zs[k] (List.getElem_mem hlt); have HC := hide hc; have hll := textL_len (l := zs.take k) (fun z hz => HI.out z (List.mem_of_mem_take hz)); have hll2 : (textL (zs.take k)).length ≤ 22 * zs.length := Nat.le_trans hll (Nat.mul_le_mul_left _ (by rw [List.length_take]; omega)); have hnl := numL_len hr.1 hr.2; have HT2 := hide (HT.out.low ((HB0.out.trans (HB.out.mono hB0))) hB0); obtain ⟨z, hzk⟩ : ∃ z, z = zs[k] := ⟨_, rfl⟩; rw [← hzk] at c0 hr hnl; have HSN := hide (show l ++ textL (zs.take (k + 1)) = l ++ textL (zs.take k) ++ numL z ++ [32] by rw [textL_take hlt, ← hzk]; simp only [List.append_assoc]); clear hc hzk hll; have hr1 := hr.1; have hr2 := hr.2; clear hr
   go_wp2_with (first
    | (go_at_call 165; refine (Tryz.strconv_AppendInt_10 base _ z hr1 hr2 u0 _ _ HO.out (by omega) (by simp only [List.length_append]; omega) HT2.out).mono ?_; rintro e w2 ⟨v2, rfl, ho2, hb2, _⟩; have HO2 := hide ho2; have HB2 := hide (HB.out.trans hb2); have hs2 := hb2.size; clear ho2 hb2)
    | (at_builtin; refine wpList_append_rd _ rfl _ _ 174 rfl base 5 i0 _ 1 1 Tryz.underlying174 hi0 hz0 hz1 hz2 rfl (by decide) _ _ _ rfl (own_keep HO2.out (fun g hg => Below.heap_alloc _ _ g (own_lt HO2.out hg).2)) (some ⟨w2.heap.size, 0, none⟩) 1 1 [.int .u8 32] rfl rfl (Rd.new_row _ _ _) (by simp [Value.oneCell']) ?_ ?_ ?_ ?_))
   ·have hn2 : (Lib.itoa z).length ≤ 21 := by simpa [numL] using hnl
    simp only [maxLen, List.length_append]; omega
   ·have hn2 : (Lib.itoa z).length ≤ 21 := by simpa [numL] using hnl
    simp only [List.length_append]; omega
   ·simp; omega
   intro v' w6 hown' hgrow _; have b6 : Below base w w6 := (HB2.out.alloc (by omega) _).grown hgrow (by simp; omega) (fun g hg => (own_lt HO2.out hg).1); have hown2 : OwnK .u8 5 w6 base v' (l ++ textL (zs.take (k + 1))) := by
    rw [HSN.out]; refine OwnK.app (l := l ++ textL (zs.take k) ++ numL z) (l' := [32]) hown' ?_ ?_
    ·simp only [List.length_append, List.length_cons, List.length_nil, numL, List.length_map]
    ·rw [byteCells_num]; simp
   have HO6 := hide hown2; have HB6 := hide b6; clear hown' hgrow hown2 b6
   go_wp2
   go_roundw
   case rel => exact ⟨k + 1, by omega, by go_num, HO6.out, HB6.out⟩
   case measure => simp [intOf]; omega
  ·obtain rfl : k = zs.length := by omega
   have HO6 := hide (show OwnK .u8 5 wr base u0 (l ++ textL zs) by have := HO.out; rwa [List.take_length] at this); clear HO
   go_wp2
   go_ret
   exact ⟨u0, rfl, HO6.out, HB.out⟩
end Go.Proofs.YtggaodokkcoagaaGreatDoor
namespace Go.Proofs.YtggaodokkcoagaaGreatDoor
open Go.RowKit Go.Sort
def decL (u : Nat) : List Int := (Lib.decDigits u).map fun b => (b.toNat : Int)
theorem byteCells_dec (u : Nat) : Lib.byteCells (Lib.decDigits u) = (decL u).map (Value.int .u8) := by simp [Lib.byteCells, decL]
theorem dec_len {u : Nat} (hu : u < 18446744073709551616) : (Lib.decDigits u).length ≤ 20 := by
 rw [Lib.decDigits_length]; rcases Nat.eq_zero_or_pos u with h | h
 ·subst h; rw [Lib.nDigits_small (by omega)]; omega
 ·have := Lib.numDigits_eq u h hu; split at this <;> omega
theorem dec_pos (u : Nat) : 1 ≤ (Lib.decDigits u).length := by
 rcases Nat.lt_or_ge u 10 with h | h
 ·rw [Lib.decDigits_one h]; simp
 ·rw [dec_big (by omega)]; simp
theorem srcBytes {w : World} {A : Addr} {n c : Nat} {bs : List UInt8} (hn : bs.length = n) (h : ∀ j u, (Lib.byteCells bs)[j]? = some u → w.cell? (A.add j) = some u) : Src Tryz.prog 1 174 (.slice (some A) n c) n (Lib.byteCells bs) w :=
 Src.ofSlice _ Tryz.underlying174 A n c _ (by rw [Lib.byteCells_length, hn, Nat.mul_one]) h (fun u hu => by simp only [Lib.byteCells, List.mem_map] at hu; obtain ⟨b, _, rfl⟩ := hu; rfl)
theorem auS (u : Nat) (hu : u < 100) (A : Option Addr) (n : Nat) (l : List Int) (w : World) (hl : l.length = n) (hn : n ≤ 100000) (h : KS .u8 w A l) :
  Calls Tryz.prog 169 #[.slice A n n, .int .u64 u, .int .i64 10] w fun e w' => ∃ v, e = .returned v ∧ OwnK .u8 5 w' w.heap.size v (l ++ decL u) ∧ Below w.heap.size w w' := by
 obtain ⟨i0, hi, hz0, hz1, hz2⟩ := info_parts infoB; have hlen := dec_len (u := u) (by omega); have hpos := dec_pos u; have hsz : (⟨(Lib.decDigits u).toArray⟩ : ByteArray).size = (Lib.decDigits u).length := by simp [ByteArray.size]
 have hbc : byteCells ⟨(Lib.decDigits u).toArray⟩ = (decL u).map (Value.int .u8) := by simp [byteCells, decL]
 have q1 : decide ((u : Int) < 100) = true := decide_eq_true (by omega); have hw1 : IntKind.i64.wrap (u : Int) = u := IntWalk.i64_in _ (by omega); have HS := hide hsz; have HB := hide hbc; have HL := hide hlen; have HP := hide hpos; clear hsz hbc hlen hpos
 go_enter Tryz.func169, Tryz.ntmps169
 go_wp2_with (first
  | (go_at_call 170; refine (Tryz.internal_strconv_small u hu _).mono ?_; rintro e w2 ⟨rfl, rfl⟩)
  | (at_builtin; refine wpList_append_src_grows _ rfl _ _ 174 9 rfl 5 i0 _ 1 1 Tryz.underlying174 hi hz0 hz1 hz2 rfl A n n rfl (l.map (Value.int .u8)) (by simp [hl]) h (.string ⟨(Lib.decDigits u).toArray⟩) _ _ rfl (Src.ofString _ Tryz.underlying9 ⟨(Lib.decDigits u).toArray⟩) (by have := HS.out; have := HP.out; omega) ?_ ?_ ?_))
 ·have := HS.out; have := HL.out; simp only [maxLen]; omega
 ·have := HS.out; have := HL.out; omega
 intro v' w' hown hgrow
 go_wp2
 go_ret
 refine ⟨v', rfl, ?_, Below.of_grown hgrow⟩; refine OwnK.app hown (by have := HS.out; simp only [List.length_append, decL, List.length_map]; omega) ?_; rw [HB.out]
theorem auB (u : Nat) (hu : 100 ≤ u) (hu64 : u < 18446744073709551616) (A : Option Addr) (n : Nat) (l : List Int) (w : World) (hl : l.length = n) (hn : n ≤ 100000) (h : KS .u8 w A l)
  (htab : Lib.TabIs Tryz.prog w "internal/strconv.uint64pow10" .u64 Lib.pow10Tab) :
  Calls Tryz.prog 169 #[.slice A n n, .int .u64 u, .int .i64 10] w fun e w' => ∃ v, e = .returned v ∧ OwnK .u8 5 w' w.heap.size v (l ++ decL u) ∧ Below w.heap.size w w' := by
 obtain ⟨i0, hi, hz0, hz1, hz2⟩ := info_parts infoB; have hu1 : 1 ≤ u := by omega
 have hnd20 : Lib.nDigits u ≤ 20 := by have := Lib.numDigits_eq u hu1 hu64; split at this <;> omega
 have hpos := dec_pos u; have hal : Tryz.prog.arrayLen 204 = 24 := by kernel_rfl
 have hsl : ∀ W, (Instr.sliceAt 204 (.pointer (some ⟨w.heap.size, 0, none⟩)) none (some (.int .i64 (Lib.nDigits u : Int))) none).run Tryz.prog W = .ok (.slice (some ⟨w.heap.size, 0, none⟩) (Lib.nDigits u) 24) W := fun W => by
  rw [run_sliceAt_array_h W 204 ⟨w.heap.size, 0, none⟩ (by simp [Program.arrayLen, Program.elem, Tryz.underlying204]) .i64 (Lib.nDigits u : Int) (by omega) (by rw [hal]; omega)]; have hz : ∀ W, (sizeOf (Tryz.prog.elem 204)).run Tryz.prog W = .ok 1 W := fun W => by kernel_rfl
  go_simp
 have hH0 := Lib.holds_zero0 w 204 (Lib.nDigits u) (by omega); have hfmt := Tryz.internal_strconv_formatBase10 w.heap.size 0 24 u (Array.replicate (Lib.nDigits u) 0) (w.alloc (.cells Lib.zeros24 204)) hH0 (by rw [Array.size_replicate]; exact Lib.lt_pow_nDigits u) hu64 (by rw [Array.size_replicate]; omega); rw [Array.size_replicate] at hfmt; have HH0 := Lib.hid hH0; have iu : (100 : Int) ≤ (u : Int) := by omega
 have HK := hide h; have HP := hide hpos; clear hH0 hal h hpos
 go_enter Tryz.func169, Tryz.ntmps169
 go_wp2_with (first
  | (go_at_call 171; refine (Tryz.internal_strconv_numDigits u hu1 hu64 _ (Lib.tabIs_alloc htab _)).mono ?_; rintro e w' ⟨rfl, rfl⟩))
 go_at_call 172
 refine hfmt.mono ?_; rintro e w' ⟨rfl, k, v', dk, rfl, hF⟩; have hcells : ∀ j u', (Lib.byteCells (Lib.decDigits u))[j]? = some u' → ((putRow (fun (b : UInt8) => Value.int .u8 (b.toNat : Int)) (w.alloc (.cells Lib.zeros24 204)) w.heap.size 0 dk).drewN k).cell? ((⟨w.heap.size, 0, none⟩ : Addr).add j) = some u' := by
  intro j u' hj; have hjl : j < (Lib.decDigits u).length := by
   have h5 := (List.getElem?_eq_some_iff.1 hj).1
   rwa [Lib.byteCells_length] at h5
  have e5 : (Lib.byteCells (Lib.decDigits u))[j]? = some (Value.int .u8 ((Lib.decDigits u)[j].toNat : Int)) := by simp [Lib.byteCells, hjl]
  rw [e5] at hj; cases hj; rw [Lib.row_is_numeral hF j hjl, Lib.add_plain, World.cell?_drewN]; exact cell?_putRow (fun (b : UInt8) => Value.int .u8 (b.toNat : Int)) _ w.heap.size 0 _ dk HH0.out (by rw [hF.size, Array.size_replicate]) j (by rw [hF.size]; rw [Lib.decDigits_length] at hjl; exact hjl)
 obtain ⟨os, eo⟩ := Lib.fin_at w (.cells Lib.zeros24 204) dk k 0; have hnx2 : Below w.heap.size w ((putRow (fun (b : UInt8) => Value.int .u8 (b.toNat : Int)) (w.alloc (.cells Lib.zeros24 204)) w.heap.size 0 dk).drewN k) := by rw [eo]; exact Lib.below_grow w.heap.size w (Nat.le_refl _) k os
 have hsz2 := hnx2.size; generalize (putRow (fun (b : UInt8) => Value.int .u8 (b.toNat : Int)) (w.alloc (.cells Lib.zeros24 204)) w.heap.size 0 dk).drewN k = W2 at hcells hnx2 hsz2 ⊢; clear eo HH0 hfmt; have hk2 : KS .u8 W2 A l := HK.out.then_ hnx2; have hdl : (Lib.decDigits u).length = Lib.nDigits u := Lib.decDigits_length u; have HD := hide hdl; have HC := hide hcells; have HN := hide hnx2; have HK2 := hide hk2; clear hcells hnx2 hk2 hdl HK
 go_wp2_with (at_builtin; refine wpList_append_src_grows _ rfl _ _ 174 174 rfl 5 i0 _ 1 1 Tryz.underlying174 hi hz0 hz1 hz2 rfl A n n rfl (l.map (Value.int .u8)) (by simp [hl]) HK2.out (.slice (some ⟨w.heap.size, 0, none⟩) (Lib.nDigits u) 24) _ _ rfl (srcBytes HD.out HC.out) (by have := HD.out; have := HP.out; omega) ?_ ?_ ?_)
 ·simp only [maxLen]; omega
 ·omega
 intro v2 w3 hown' hgrow
 go_wp2
 go_ret
 refine ⟨v2, rfl, ?_, HN.out.trans ((Below.of_grown hgrow).mono HN.out.size)⟩; have hown2 : OwnK .u8 5 w3 W2.heap.size v2 (l ++ decL u) := OwnK.app hown' (by have := HD.out; simp only [List.length_append, decL, List.length_map]; omega) (by rw [byteCells_dec]); refine ⟨hown2.1, ?_⟩; rcases hown2.2 with h1 | ⟨g, cap, cur, h1, h2, h3⟩
 ·exact .inl h1
 ·exact .inr ⟨g, cap, cur, h1, by omega, h3⟩
theorem au (u : Nat) (hu64 : u < 18446744073709551616) (A : Option Addr) (n : Nat) (l : List Int) (w : World) (hl : l.length = n) (hn : n ≤ 100000) (h : KS .u8 w A l)
  (htab : Lib.TabIs Tryz.prog w "internal/strconv.uint64pow10" .u64 Lib.pow10Tab) :
  Calls Tryz.prog 169 #[.slice A n n, .int .u64 u, .int .i64 10] w fun e w' => ∃ v, e = .returned v ∧ OwnK .u8 5 w' w.heap.size v (l ++ decL u) ∧ Below w.heap.size w w' := by
 rcases Nat.lt_or_ge u 100 with hu | hu
 ·exact auS u hu A n l w hl hn h
 ·exact auB u hu hu64 A n l w hl hn h htab
theorem numL_pos {z : Int} (h : 0 ≤ z) : numL z = decL z.toNat := by unfold numL decL Lib.itoa; rw [if_neg (by omega)]
theorem numL_neg {z : Int} (h : z < 0) : numL z = [45] ++ decL z.natAbs := by unfold numL decL Lib.itoa; rw [if_pos h]; rfl
theorem aiF (z : Int) (h0 : -9223372036854775808 ≤ z) (h1 : z ≤ 9223372036854775807) (A : Option Addr) (n : Nat) (l : List Int) (w : World) (hl : l.length = n) (hn : n ≤ 100000) (h : KS .u8 w A l) (htab : Lib.TabBelow Tryz.prog w.heap.size w "internal/strconv.uint64pow10" .u64 Lib.pow10Tab) :
  Calls Tryz.prog 168 #[.slice A n n, .int .i64 z, .int .i64 10] w fun e w' => ∃ v, e = .returned v ∧ OwnK .u8 5 w' w.heap.size v (l ++ numL z) ∧ Below w.heap.size w w' := by
 obtain ⟨i0, hi, hz0, hz1, hz2⟩ := info_parts infoB; rcases Int.lt_or_le z 0 with hs | hs
 ·have q1 : decide (z < 0) = true := decide_eq_true hs; have hw1 : IntKind.u64.wrap (-IntKind.u64.wrap z) = ((z.natAbs : Nat) : Int) := by simp only [IntKind.wrap_u64]; omega
  have hw2 : IntKind.u64.wrap (0 - IntKind.u64.wrap z) = ((z.natAbs : Nat) : Int) := by simp only [IntKind.wrap_u64]; omega
  have HN := hide (numL_neg hs); have HT := hide htab; have hu : z.natAbs < 18446744073709551616 := by omega
  have hd := dec_len hu; have HD := hide hd; clear hs htab hd
  go_enter Tryz.func168, Tryz.ntmps168
  go_wp2_with (first
   | (at_builtin; refine wpList_append_src_grows _ rfl _ _ 174 174 rfl 5 i0 _ 1 1 Tryz.underlying174 hi hz0 hz1 hz2 rfl A n n rfl (l.map (Value.int .u8)) (by simp [hl]) (KS.alloc h _) (.slice (some ⟨w.heap.size, 0, none⟩) 1 1) 1 [.int .u8 45] rfl (Src.ofSlice _ Tryz.underlying174 ⟨w.heap.size, 0, none⟩ 1 1 _ rfl (fun j u hj => by match j, hj with | 0, hj => simp at hj; subst hj; exact (Blk.new w 5 #[.int .u8 45]).cell 0) (by simp [Value.oneCell'])) (by omega) ?_ ?_ ?_))
  ·simp only [maxLen]; omega
  ·omega
  intro v' w2 hown hgrow; have hsz : w.heap.size + 1 ≤ w2.heap.size := by have := hgrow.size; simpa using this
  have hb2 : Below w.heap.size w w2 := ((Below.refl w.heap.size w).alloc (Nat.le_refl _) _).trans ((Below.of_grown hgrow).mono (by simp)); have hown' : w2.ownsRow w.heap.size 5 1 v' (l ++ [45]).length ((l ++ [45]).map (Value.int .u8)) := by
   have h2 : OwnK .u8 5 w2 (w.heap.size + 1) v' (l ++ [45]) := OwnK.app (by simpa using hown) (by simp [hl]) rfl; refine ⟨h2.1, ?_⟩; rcases h2.2 with h3 | ⟨g, cap, cur, h3, h4, h5⟩
   ·exact .inl h3
   ·exact .inr ⟨g, cap, cur, h3, by omega, h5⟩
  have HO := hide hown'; have HB := hide hb2; clear hown hgrow hown' hb2
  go_wp2_with (go_at_call 169; refine (Tryz.internal_strconv_AppendUint_10 w.heap.size _ z.natAbs hu v' _ _ HO.out (by omega) (by simp only [List.length_append, List.length_cons, List.length_nil]; omega) (HT.out.on HB.out).here).mono ?_; rintro e w3 ⟨v3, rfl, ho3, hb3, _⟩; have HO3 := hide ho3; have HB3 := hide (HB.out.trans hb3); clear ho3 hb3)
  go_ret
  refine ⟨v3, rfl, ?_, HB3.out⟩; rw [HN.out, ← List.append_assoc]; exact OwnK.app HO3.out (by have := HD.out; simp only [List.length_append, decL, List.length_map]) (by rw [byteCells_dec])
 ·have q1 : decide (z < 0) = false := decide_eq_false (by omega); obtain ⟨u, rfl⟩ : ∃ u : Nat, z = u := ⟨z.toNat, by omega⟩; have hw1 : IntKind.u64.wrap (u : Int) = u := by simp only [IntKind.wrap_u64]; omega
  have HN := hide (numL_pos hs); have R := hide (au u (by omega) A n l w hl hn h htab.here); clear hs htab h
  go_enter Tryz.func168, Tryz.ntmps168
  go_wp2_with (go_at_call 169; refine R.out.mono ?_; rintro e w3 ⟨v3, rfl, ho3, hb3⟩; have HO3 := hide ho3; have HB3 := hide hb3; clear ho3 hb3)
  go_ret
  refine ⟨v3, rfl, ?_, HB3.out⟩; rw [HN.out]; exact HO3.out
theorem aiP (z : Int) (h0 : -9223372036854775808 ≤ z) (h1 : z ≤ 9223372036854775807) (A : Option Addr) (n : Nat) (l : List Int) (w : World) (hl : l.length = n) (hn : n ≤ 100000) (h : KS .u8 w A l) (htab : Lib.TabBelow Tryz.prog w.heap.size w "internal/strconv.uint64pow10" .u64 Lib.pow10Tab) :
  Calls Tryz.prog 165 #[.slice A n n, .int .i64 z, .int .i64 10] w fun e w' => ∃ v, e = .returned v ∧ OwnK .u8 5 w' w.heap.size v (l ++ numL z) ∧ Below w.heap.size w w' := by
 have R := hide (aiF z h0 h1 A n l w hl hn h htab); clear h htab
 go_enter Tryz.func165, Tryz.ntmps165
 go_wp2_with (go_at_call 168; refine R.out.mono ?_; rintro e w3 ⟨v3, rfl, ho3, hb3⟩; have HO3 := hide ho3; have HB3 := hide hb3; clear ho3 hb3)
 go_ret
 exact ⟨v3, rfl, HO3.out, HB3.out⟩
theorem text_f (A : Option Addr) (n : Nat) (l zs : List Int) (B : Option Addr) (d : Nat) (w0 w : World) (hT : Tb w0) (hb0 : Below w0.heap.size w0 w) (hl : l.length = n) (hn : n ≤ 10000) (h : KS .u8 w A l)
  (hz : ∀ W, Below w.heap.size w W → KS .i64 W B zs) (hi : inI zs) (hzl : zs.length ≤ 10000) (hz1 : 1 ≤ zs.length) :
  Calls Tryz.prog 155 #[.slice A n n, .slice B zs.length d] w fun e w' => ∃ v', e = .returned v' ∧ OwnK .u8 5 w' w.heap.size v' (l ++ textL zs) ∧ Below w.heap.size w w' := by
 obtain ⟨i0, hi0, hz0, hz1', hz2⟩ := info_parts infoB; have HT := hide hT; have HB0 := hide hb0; have HK := hide h; have HZ := hide hz; have HI := hide hi; have hlen := textL_len hi; have HLEN := hide hlen; have hsz0 := hb0.size; clear hT hb0 h hz hi hlen
 go_enter Tryz.func155, Tryz.ntmps155
 go_wp2
 go_loopw [0, 6, 9] (fun u0 _ i wr => ∃ k : Nat, k ≤ zs.length ∧ i = .int .i64 k ∧ ((k = 0 ∧ u0 = .slice A n n ∧ wr = w) ∨ (1 ≤ k ∧ OwnK .u8 5 wr w.heap.size u0 (l ++ textL (zs.take k)) ∧ Below w.heap.size w wr))) (fun _ _ i _ => zs.length - (intOf i).toNat)
 case atStart => exact ⟨0, Nat.zero_le _, rfl, .inl ⟨rfl, rfl, rfl⟩⟩
 case round =>
  obtain ⟨k, hk, rfl, hrel⟩ := hrel
  by_cases hlt : k < zs.length
  ·have hbw : Below w.heap.size w wr := by rcases hrel with ⟨_, _, rfl⟩ | ⟨_, _, hb⟩; exact Below.refl _ _; exact hb
   obtain ⟨b, o, rfl, hbl, hc⟩ := (HZ.out wr hbw).at_ (i := k) hlt; have c0 := hc k hlt; have hr := HI.out zs[k] (List.getElem_mem hlt); have HC := hide hc; have hll := textL_len (l := zs.take k) (fun z hz => HI.out z (List.mem_of_mem_take hz)); have hll2 : (textL (zs.take k)).length ≤ 22 * zs.length := Nat.le_trans hll (Nat.mul_le_mul_left _ (by rw [List.length_take]; omega)); have hnl := numL_len hr.1 hr.2; have HB := hide hbw; have hsz := hbw.size; have HT2 := hide (HT.out.low ((HB0.out.trans (HB.out.mono hsz0))) hsz0); obtain ⟨z, hzk⟩ : ∃ z, z = zs[k] := ⟨_, rfl⟩; rw [← hzk] at c0 hr hnl; have HSN := hide (show l ++ textL (zs.take (k + 1)) = l ++ textL (zs.take k) ++ numL z ++ [32] by rw [textL_take hlt, ← hzk]; simp only [List.append_assoc]); have hr1 := hr.1; have hr2 := hr.2; have AI : Hid (Calls Tryz.prog 165 #[u0, .int .i64 z, .int .i64 10] wr fun e w' => ∃ v, e = .returned v ∧ OwnK .u8 5 w' w.heap.size v (l ++ textL (zs.take k) ++ numL z) ∧ Below w.heap.size wr w') := by
    rcases hrel with ⟨rfl, rfl, rfl⟩ | ⟨_, ho, _⟩
    ·have := aiP z hr1 hr2 A n l wr hl (by omega) HK.out HT2.out; exact hide (by simpa [textL] using this)
    ·refine hide ((Tryz.strconv_AppendInt_10 w.heap.size _ z hr1 hr2 u0 _ _ ho (by omega) (by simp only [List.length_append]; omega) HT2.out).mono ?_); rintro e w2 ⟨v2, rfl, ho2, hb2, _⟩; refine ⟨v2, rfl, OwnK.app ho2 ?_ ?_, hb2⟩
     ·simp only [List.length_append, numL, List.length_map]
     ·rw [byteCells_num]
   clear hc hzk hll hrel hr hbw
   go_wp2_with (first
    | (go_at_call 165; refine AI.out.mono ?_; rintro e w2 ⟨v2, rfl, ho2, hb2⟩; have HO2 := hide ho2; have HB2 := hide (HB.out.trans hb2); have hs2 := hb2.size; clear ho2 hb2)
    | (at_builtin; refine wpList_append_rd _ rfl _ _ 174 rfl w.heap.size 5 i0 _ 1 1 Tryz.underlying174 hi0 hz0 hz1' hz2 rfl (by decide) _ _ _ rfl (own_keep HO2.out (fun g hg => Below.heap_alloc _ _ g (own_lt HO2.out hg).2)) (some ⟨w2.heap.size, 0, none⟩) 1 1 [.int .u8 32] rfl rfl (Rd.new_row _ _ _) (by simp [Value.oneCell']) ?_ ?_ ?_ ?_))
   ·simp only [maxLen, List.length_append]; omega
   ·simp only [List.length_append]; omega
   ·simp; omega
   intro v' w6 hown' hgrow _; have b6 : Below w.heap.size w w6 := (HB2.out.alloc (by omega) _).grown hgrow (by simp; omega) (fun g hg => (own_lt HO2.out hg).1); have hown2 : OwnK .u8 5 w6 w.heap.size v' (l ++ textL (zs.take (k + 1))) := by
    rw [HSN.out]; exact OwnK.app (l' := [32]) hown' (by simp only [List.length_append, List.length_cons, List.length_nil]; omega) (by simp)
   have HO6 := hide hown2; have HB6 := hide b6; clear hown' hgrow hown2 b6
   go_wp2
   go_roundw
   case rel => exact ⟨k + 1, by omega, by go_num, .inr ⟨by omega, HO6.out, HB6.out⟩⟩
   case measure => simp [intOf]; omega
  ·obtain rfl : k = zs.length := by omega
   obtain ⟨ho, hb⟩ : OwnK .u8 5 wr w.heap.size u0 (l ++ textL zs) ∧ Below w.heap.size w wr := by
    rcases hrel with ⟨h0, _⟩ | ⟨_, ho, hb⟩
    ·omega
    ·rw [List.take_length] at ho; exact ⟨ho, hb⟩
   have HO6 := hide ho; have HB := hide hb; clear hrel ho hb
   go_wp2
   go_ret
   exact ⟨u0, rfl, HO6.out, HB.out⟩
end Go.Proofs.YtggaodokkcoagaaGreatDoor
namespace Go.Proofs.YtggaodokkcoagaaGreatDoor
open Go.RowKit
theorem blk_row {w w' : World} {g r : Nat} {t : TypeId} {cs : Array Value} (h : Blk w g t cs) (hg : w.grownBy w' (some r)) (hne : g ≠ r) : Blk w' g t cs := (hg.block g h.lt (fun e => hne (by injection e))).trans h
abbrev pairC0 : Array Value := #[.int .u8 1, .int .u8 0, .int .u8 0, .int .u8 0, .int .u8 0, .int .u8 0, .int .u8 0, .int .u8 0, .int .u8 0, .int .u8 0, .int .u8 0, .int .u8 0, .int .u8 0, .int .u8 0, .int .u8 0, .int .u8 0, .int .u8 0]
abbrev octA (n : Int) : Array Value := #[.int .u8 (oct n 0), .int .u8 (oct n 1), .int .u8 (oct n 2), .int .u8 (oct n 3), .int .u8 (oct n 4), .int .u8 (oct n 5), .int .u8 (oct n 6), .int .u8 (oct n 7)]
theorem octets_lit (n : Int) (w : World) : Calls Tryz.prog 133 #[.int .u64 n] w fun e w' => e = .returned (.agg (octA n)) ∧ Below w.heap.size w w' := octets_any n w
theorem pair_any (a b : Int) (w : World) : Calls Tryz.prog 92 #[.int .u64 a, .int .u64 b] w fun e w' => e = .returned (.int .u64 (pairF a b)) ∧ Below w.heap.size w w' := by
 have B1 := hide ((Below.refl w.heap.size w).alloc (Nat.le_refl _) (.cells pairC0 180)); have Q5 := hide (Blk.new w 180 pairC0); have HS := hide fun A c l W hn s => sum_any A c l W hn s
 obtain ⟨i0, hi, hz0, hz1, hz2⟩ := info_parts infoB; have hsz : (Tryz.prog.info? 5).map (·.size) = some 1 := by rw [hi]; simp [hz1]
 go_enter Tryz.func92, Tryz.ntmps92
 go_upto_region 3 with (first
  | (go_at_call 133; with_reducible refine (octets_lit a _).mono ?_; rintro e w2 ⟨rfl, hb2⟩; have B2 := hide (B1.out.trans (hb2.mono B1.out.size)); have Q5 := hide (Q5.out.below hb2 Q5.out.lt); clear hb2 B1)
  | (go_at_call 133; with_reducible refine (octets_lit b _).mono ?_; rintro e w3 ⟨rfl, hb3⟩; have B3 := hide (B2.out.trans (hb3.mono B2.out.size)); have Q5 := hide (Q5.out.below hb3 Q5.out.lt); clear hb3 B2))
 have hlt := Q5.out.lt; have P5 := hide ((Q5.out.alloc (.cells (octA a) 181)).alloc (.cells (octA b) 181)); have P6 := hide ((Blk.new w3 181 (octA a)).alloc (.cells (octA b) 181)); have P7 := hide (Blk.new (w3.alloc (.cells (octA a) 181)) 181 (octA b)); rw [World.size_alloc] at P7; have hs3 := B3.out.size; have BW := hide ((B3.out.alloc hs3 (.cells (octA a) 181)).alloc (by simp; omega) (.cells (octA b) 181)); obtain ⟨W, hW⟩ : ∃ W, (w3.alloc (.cells (octA a) 181)).alloc (.cells (octA b) 181) = W := ⟨_, rfl⟩; rw [hW] at P5 P6 P7 BW ⊢; clear hW; have hone : ∀ (n : Int), ∀ v ∈ (octA n).toList, v.oneCell' = true := fun n v hv => by simp at hv; rcases hv with rfl | rfl | rfl | rfl | rfl | rfl | rfl | rfl <;> rfl
 have HN := hide hone; clear hone
 go_region_law ((refine step_copyN rfl _ _ 174 174 rfl 5 1 Tryz.underlying174 hsz (some ⟨w.heap.size, 1, none⟩) (some ⟨w3.heap.size, 0, none⟩) 16 16 8 8 (by rfl) (by rfl) w.heap.size 1 pairC0 180 P5.out.drew (octA a).toList rfl (fun _ => rfl) (Rd.of_blk P6.out.drew) (by simp) (HN.out a) ?_; intro w4 hb4 hg4 hs4))
 have P7 := hide (blk_row P7.out.drew hg4 (by omega)); have P5 := hide hb4; have BW := hide (BW.out.drew.grown hg4 (by have := BW.out.size; exact this) (fun k e => by injection e with e; omega)); clear hb4 hg4
 go_upto_region 4 with fail
 go_region_law ((refine step_copyN rfl _ _ 174 174 rfl 5 1 Tryz.underlying174 hsz (some ⟨w.heap.size, 9, none⟩) (some ⟨w3.heap.size + 1, 0, none⟩) 8 8 8 8 (by rfl) (by rfl) w.heap.size 9 _ 180 P5.out.drew (octA b).toList rfl (fun _ => rfl) (Rd.of_blk P7.out.drew) (by simp [splice]) (HN.out b) ?_; intro w5 hb5 hg5 hs5))
 have K5 := hide (show KS .u8 w5 (some ⟨w.heap.size, 0, none⟩) ([1] ++ octL a ++ octL b) from Rd.of_blk hb5); have BW := hide (BW.out.drew.grown hg5 (by have := BW.out.size; exact this) (fun k e => by injection e with e; omega)); clear hb5 hg5
 go_wp2_with (go_at_call 134; refine (HS.out (some ⟨w.heap.size, 0, none⟩) 17 ([1] ++ octL a ++ octL b) _ (by simp [octL]) K5.out).mono ?_; rintro e w6 ⟨rfl, rfl⟩)
 go_ret
 exact ⟨rfl, BW.out⟩
theorem rSum_any (A : Option Addr) (c : Nat) (l : List Int) (w : World) (hn : l.length ≤ 9223372036854775807) (h : KS .u8 w A l) :
  Calls Tryz.prog 124 #[.slice A l.length c] w fun e w' => e = .returned (.int .u64 (sumB l)) ∧ w = w' := by
 go_enter Tryz.func124, Tryz.ntmps124
 go_wp2
 go_loopw [3, 4] (fun s i wr => ∃ k : Nat, k ≤ l.length ∧ i = .int .i64 k ∧ s = .int .u64 ((l.take k).foldl sumF 14695981039346656037) ∧ w = wr) (fun _ i _ => l.length - (intOf i).toNat)
 case atStart => exact ⟨0, Nat.zero_le _, rfl, rfl, rfl⟩
 case round =>
  obtain ⟨k, hk, rfl, rfl, rfl⟩ := hrel
  by_cases hlt : k < l.length
  ·obtain ⟨b, o, rfl, hbl, hc⟩ := h.at_ hlt; have c0 := hc k hlt; clear hc; have hs := foldl_take1 sumF 14695981039346656037 l k hlt; have HS := hide hs; clear hs
   go_wp2
   go_roundw
   case rel => exact ⟨k + 1, by omega, by go_num, by rw [HS.out]; rfl, by trivial⟩
   case measure => simp [intOf]; omega
  ·have hr : l.take k = l := List.take_of_length_le (by omega); rw [hr]; clear hr
   go_wp2
   go_ret
   exact ⟨rfl, rfl⟩
theorem eight_any (n : Int) (w : World) : Calls Tryz.prog 154 #[.int .u64 n] w fun e w' => ∃ v, e = .returned v ∧ OwnK .u8 5 w' w.heap.size v (octL n) ∧ Below w.heap.size w w' := by
 obtain ⟨i0, hi, hz0, hz1, hz2⟩ := info_parts infoB
 go_enter Tryz.func154, Tryz.ntmps154
 go_wp2
 go_loopw [3, 4] (fun b i wr => ∃ k : Nat, k ≤ 8 ∧ i = .int .i64 (56 - 8 * (k : Int)) ∧ OwnK .u8 5 wr w.heap.size b ((octL n).take k) ∧ Below w.heap.size w wr) (fun _ i _ => (intOf i + 8).toNat)
 case atStart => exact ⟨0, by omega, rfl, OwnK.nil, Below.refl _ _⟩
 case round =>
  obtain ⟨k, hk, rfl, ho, hb⟩ := hrel; have HO := hide ho; have HL := hide hb; have hs := hb.size; clear ho hb; rcases (show k = 0 ∨ k = 1 ∨ k = 2 ∨ k = 3 ∨ k = 4 ∨ k = 5 ∨ k = 6 ∨ k = 7 ∨ k = 8 by omega) with rfl | rfl | rfl | rfl | rfl | rfl | rfl | rfl | rfl
  ·go_wp2_with (at_builtin; refine wpList_append_rd _ rfl _ _ 174 rfl w.heap.size 5 i0 _ 1 1 Tryz.underlying174 hi hz0 hz1 hz2 rfl (by decide) _ _ _ rfl (OwnK.below HO.out ((Below.refl _ _).alloc (Nat.le_refl _) _)) (some ⟨wr.heap.size, 0, none⟩) 1 1 [.int .u8 (oct n 0)] rfl rfl (Rd.new_row _ _ _) (by simp [Value.oneCell']) (by simp [octL, maxLen]) (by simp [octL]) (by simp; omega) ?_; intro v' w6 hown' hgrow _)
   have b6 : Below w.heap.size w w6 := (HL.out.alloc hs _).grown hgrow (by simp; omega) (fun g hg => (HO.out.lt g hg).1)
   go_wp2
   go_roundw
   case rel => exact ⟨1, by omega, rfl, by simpa [OwnK, octL] using hown', b6⟩
   case measure => simp [intOf]
  ·go_wp2_with (at_builtin; refine wpList_append_rd _ rfl _ _ 174 rfl w.heap.size 5 i0 _ 1 1 Tryz.underlying174 hi hz0 hz1 hz2 rfl (by decide) _ _ _ rfl (OwnK.below HO.out ((Below.refl _ _).alloc (Nat.le_refl _) _)) (some ⟨wr.heap.size, 0, none⟩) 1 1 [.int .u8 (oct n 1)] rfl rfl (Rd.new_row _ _ _) (by simp [Value.oneCell']) (by simp [octL, maxLen]) (by simp [octL]) (by simp; omega) ?_; intro v' w6 hown' hgrow _)
   have b6 : Below w.heap.size w w6 := (HL.out.alloc hs _).grown hgrow (by simp; omega) (fun g hg => (HO.out.lt g hg).1)
   go_wp2
   go_roundw
   case rel => exact ⟨2, by omega, rfl, by simpa [OwnK, octL] using hown', b6⟩
   case measure => simp [intOf]
  ·go_wp2_with (at_builtin; refine wpList_append_rd _ rfl _ _ 174 rfl w.heap.size 5 i0 _ 1 1 Tryz.underlying174 hi hz0 hz1 hz2 rfl (by decide) _ _ _ rfl (OwnK.below HO.out ((Below.refl _ _).alloc (Nat.le_refl _) _)) (some ⟨wr.heap.size, 0, none⟩) 1 1 [.int .u8 (oct n 2)] rfl rfl (Rd.new_row _ _ _) (by simp [Value.oneCell']) (by simp [octL, maxLen]) (by simp [octL]) (by simp; omega) ?_; intro v' w6 hown' hgrow _)
   have b6 : Below w.heap.size w w6 := (HL.out.alloc hs _).grown hgrow (by simp; omega) (fun g hg => (HO.out.lt g hg).1)
   go_wp2
   go_roundw
   case rel => exact ⟨3, by omega, rfl, by simpa [OwnK, octL] using hown', b6⟩
   case measure => simp [intOf]
  ·go_wp2_with (at_builtin; refine wpList_append_rd _ rfl _ _ 174 rfl w.heap.size 5 i0 _ 1 1 Tryz.underlying174 hi hz0 hz1 hz2 rfl (by decide) _ _ _ rfl (OwnK.below HO.out ((Below.refl _ _).alloc (Nat.le_refl _) _)) (some ⟨wr.heap.size, 0, none⟩) 1 1 [.int .u8 (oct n 3)] rfl rfl (Rd.new_row _ _ _) (by simp [Value.oneCell']) (by simp [octL, maxLen]) (by simp [octL]) (by simp; omega) ?_; intro v' w6 hown' hgrow _)
   have b6 : Below w.heap.size w w6 := (HL.out.alloc hs _).grown hgrow (by simp; omega) (fun g hg => (HO.out.lt g hg).1)
   go_wp2
   go_roundw
   case rel => exact ⟨4, by omega, rfl, by simpa [OwnK, octL] using hown', b6⟩
   case measure => simp [intOf]
  ·go_wp2_with (at_builtin; refine wpList_append_rd _ rfl _ _ 174 rfl w.heap.size 5 i0 _ 1 1 Tryz.underlying174 hi hz0 hz1 hz2 rfl (by decide) _ _ _ rfl (OwnK.below HO.out ((Below.refl _ _).alloc (Nat.le_refl _) _)) (some ⟨wr.heap.size, 0, none⟩) 1 1 [.int .u8 (oct n 4)] rfl rfl (Rd.new_row _ _ _) (by simp [Value.oneCell']) (by simp [octL, maxLen]) (by simp [octL]) (by simp; omega) ?_; intro v' w6 hown' hgrow _)
   have b6 : Below w.heap.size w w6 := (HL.out.alloc hs _).grown hgrow (by simp; omega) (fun g hg => (HO.out.lt g hg).1)
   go_wp2
   go_roundw
   case rel => exact ⟨5, by omega, rfl, by simpa [OwnK, octL] using hown', b6⟩
   case measure => simp [intOf]
  ·go_wp2_with (at_builtin; refine wpList_append_rd _ rfl _ _ 174 rfl w.heap.size 5 i0 _ 1 1 Tryz.underlying174 hi hz0 hz1 hz2 rfl (by decide) _ _ _ rfl (OwnK.below HO.out ((Below.refl _ _).alloc (Nat.le_refl _) _)) (some ⟨wr.heap.size, 0, none⟩) 1 1 [.int .u8 (oct n 5)] rfl rfl (Rd.new_row _ _ _) (by simp [Value.oneCell']) (by simp [octL, maxLen]) (by simp [octL]) (by simp; omega) ?_; intro v' w6 hown' hgrow _)
   have b6 : Below w.heap.size w w6 := (HL.out.alloc hs _).grown hgrow (by simp; omega) (fun g hg => (HO.out.lt g hg).1)
   go_wp2
   go_roundw
   case rel => exact ⟨6, by omega, rfl, by simpa [OwnK, octL] using hown', b6⟩
   case measure => simp [intOf]
  ·go_wp2_with (at_builtin; refine wpList_append_rd _ rfl _ _ 174 rfl w.heap.size 5 i0 _ 1 1 Tryz.underlying174 hi hz0 hz1 hz2 rfl (by decide) _ _ _ rfl (OwnK.below HO.out ((Below.refl _ _).alloc (Nat.le_refl _) _)) (some ⟨wr.heap.size, 0, none⟩) 1 1 [.int .u8 (oct n 6)] rfl rfl (Rd.new_row _ _ _) (by simp [Value.oneCell']) (by simp [octL, maxLen]) (by simp [octL]) (by simp; omega) ?_; intro v' w6 hown' hgrow _)
   have b6 : Below w.heap.size w w6 := (HL.out.alloc hs _).grown hgrow (by simp; omega) (fun g hg => (HO.out.lt g hg).1)
   go_wp2
   go_roundw
   case rel => exact ⟨7, by omega, rfl, by simpa [OwnK, octL] using hown', b6⟩
   case measure => simp [intOf]
  ·go_wp2_with (at_builtin; refine wpList_append_rd _ rfl _ _ 174 rfl w.heap.size 5 i0 _ 1 1 Tryz.underlying174 hi hz0 hz1 hz2 rfl (by decide) _ _ _ rfl (OwnK.below HO.out ((Below.refl _ _).alloc (Nat.le_refl _) _)) (some ⟨wr.heap.size, 0, none⟩) 1 1 [.int .u8 (n % 256)] rfl rfl (Rd.new_row _ _ _) (by simp [Value.oneCell']) (by simp [octL, maxLen]) (by simp [octL]) (by simp; omega) ?_; intro v' w6 hown' hgrow _)
   have b6 : Below w.heap.size w w6 := (HL.out.alloc hs _).grown hgrow (by simp; omega) (fun g hg => (HO.out.lt g hg).1)
   go_wp2
   go_roundw
   case rel => exact ⟨8, by omega, rfl, by simpa [OwnK, octL, show oct n 7 = n % 256 by unfold oct; simp] using hown', b6⟩
   case measure => simp [intOf]
  ·go_wp2
   go_ret
   exact ⟨_, rfl, by simpa [octL] using HO.out, HL.out⟩
theorem decimal0 (w : World) : Calls Tryz.prog 156 #[.int .i64 0] w fun e w' => e = .returned (.string ⟨#[48]⟩) ∧ Below w.heap.size w w' := by
 have hcv := run_convert_bytes_back (P := Tryz.prog) (w.alloc (.cells #[.int .u8 48] 5)) 174 9 5 ⟨w.heap.size, 0, none⟩ 1 [48] Tryz.underlying174 Tryz.underlying5 Tryz.underlying9 (fun j hj => by
  obtain rfl : j = 0 := by simpa using hj
  exact cell_at w _ _ _ 0 rfl)
 simp only [List.length_cons, List.length_nil, Nat.zero_add] at hcv
 go_enter Tryz.func156, Tryz.ntmps156
 go_wp2
 go_ret
 exact ⟨rfl, (Below.refl _ _).alloc (Nat.le_refl _) _⟩
theorem rText0 (B : Option Addr) (d : Nat) (w : World) (h' : KS .i64 w B [0]) :
  Calls Tryz.prog 125 #[.slice B 1 d] w fun e w' => ∃ v, e = .returned v ∧ OwnK .u8 5 w' w.heap.size v [48, 32] ∧ Below w.heap.size w w' := by
 obtain ⟨i0, hi, hz0, hz1, hz2⟩ := info_parts infoB; obtain ⟨b, o, rfl, hbl, hc⟩ := h'.at_ (i := 0) (by simp); have c0 := hc 0 (by simp); simp only [Nat.add_zero, List.getElem_cons_zero] at c0; clear hc
 go_enter Tryz.func125, Tryz.ntmps125
 go_wp2
 go_loopw [3, 4] (fun u i wr => (i = .int .i64 0 ∧ u = .slice none 0 0 ∧ wr = w) ∨ (i = .int .i64 1 ∧ OwnK .u8 5 wr w.heap.size u [48, 32] ∧ Below w.heap.size w wr)) (fun _ i _ => 1 - (intOf i).toNat)
 case atStart => exact .inl ⟨rfl, rfl, rfl⟩
 case round =>
  rcases hrel with ⟨rfl, rfl, rfl⟩ | ⟨rfl, ho, hb⟩
  ·go_wp2_with (first
    | (go_at_call 156; refine (decimal0 _).mono ?_; rintro e w2 ⟨rfl, hb2⟩; have HB := hide hb2; have hs2 := hb2.size; clear hb2)
    | (at_builtin; refine wpList_append_src_grows _ rfl _ _ 174 9 rfl 5 i0 _ 1 1 Tryz.underlying174 hi hz0 hz1 hz2 rfl none 0 0 rfl [] rfl (Rd.nil _ _) (.string ⟨#[48]⟩) 1 [.int .u8 48] rfl (Src.ofString _ Tryz.underlying9 ⟨#[48]⟩) (by omega) (by simp [maxLen]) (by omega) ?_; intro v3 w3 hown3 hgrow3; have HO := hide (show OwnK .u8 5 w3 w2.heap.size v3 [48] from hown3); have HB := hide (HB.out.trans ((Below.of_grown hgrow3).mono hs2)); have hs3 := HB.out.size; have hs23 := (Below.of_grown hgrow3).size; clear hown3 hgrow3)
    | (at_builtin; refine wpList_append_rd _ rfl _ _ 174 rfl w2.heap.size 5 i0 _ 1 1 Tryz.underlying174 hi hz0 hz1 hz2 rfl (by decide) _ _ _ rfl (OwnK.below HO.out ((Below.refl _ _).alloc (Nat.le_refl _) _)) (some ⟨w3.heap.size, 0, none⟩) 1 1 [.int .u8 32] rfl rfl (Rd.new_row _ _ _) (by simp [Value.oneCell']) (by simp [maxLen]) (by simp) (by simp; omega) ?_; intro v' w6 hown' hgrow _))
   have b6 : Below wr.heap.size wr w6 := (HB.out.alloc hs3 _).grown hgrow (by simp; omega) (fun g hg => by have := (HO.out.lt g hg).1; omega); have ho6 : OwnK .u8 5 w6 wr.heap.size v' [48, 32] := by
    have h6 : w6.ownsRow w2.heap.size 5 1 v' 2 [.int .u8 48, .int .u8 32] := by simpa using hown'
    refine ⟨rfl, ?_⟩; rcases h6.2 with h2 | ⟨g, cap, cur, hv, hg, r⟩
    ·exact .inl h2
    ·exact .inr ⟨g, cap, cur, hv, by omega, r⟩
   have H6 := hide ho6; clear hown' hgrow ho6
   go_wp2
   go_roundw
   case rel => exact .inr ⟨rfl, H6.out, b6⟩
   case measure => simp [intOf]
  ·have HO := hide ho; have HB := hide hb; clear ho hb
   go_wp2
   go_ret
   exact ⟨_, rfl, HO.out, HB.out⟩
theorem rNext0 (n : Int) (B : Option Addr) (d : Nat) (w : World) (h' : KS .i64 w B [0]) :
  Calls Tryz.prog 122 #[.int .u64 n, .slice B 1 d] w fun e w' => e = .returned (.int .u64 (leafF n)) ∧ Below w.heap.size w w' := by
 obtain ⟨i0, hi, hz0, hz1, hz2⟩ := info_parts infoB; have HI := hide h'; have HS := hide fun A c l W hn s => rSum_any A c l W hn s
 clear h'
 go_enter Tryz.func122, Tryz.ntmps122
 go_wp2_with (first
  | (go_at_call 154; refine (eight_any n _).mono ?_; rintro e w2 ⟨v2, rfl, ho2, hb2⟩; have O2 := hide ho2; have B2 := hide hb2; have I2 := hide (HI.out.then_ hb2); clear ho2 hb2)
  | (go_at_call 125; refine (rText0 B d _ I2.out).mono ?_; rintro e w3 ⟨v3, rfl, ho3, hb3⟩; have O3 := hide (OwnK.below O2.out hb3); have B3 := hide (B2.out.trans (hb3.mono B2.out.size)); obtain ⟨A3, c3, rfl, hl3, hm3, hk3⟩ := ho3.form; have K3 := hide hk3; clear ho3 hb3 hk3)
  | (at_builtin; refine wpList_append_rd _ rfl _ _ 174 rfl w.heap.size 5 i0 _ 1 1 Tryz.underlying174 hi hz0 hz1 hz2 rfl (by decide) _ _ _ rfl O3.out A3 2 c3 [.int .u8 48, .int .u8 32] rfl rfl K3.out (by simp [Value.oneCell']) (by simp [maxLen, octL]) (by simp [octL]) B3.out.size ?_; intro v6 w6 hown6 hgrow6 _; have O6 := hide (show OwnK .u8 5 w6 w.heap.size v6 (octL n ++ [48] ++ [32]) from hown6); have B6 := hide (B3.out.grown hgrow6 B3.out.size (fun g hg => (O3.out.lt g hg).1)); obtain ⟨A6, c6, rfl, hl6, hm6, hk6⟩ := O6.out.form; have K6 := hide hk6; clear hown6 hgrow6 hk6)
  | (go_at_call 124; refine (HS.out A6 c6 _ _ (by simp [octL]) K6.out).mono ?_; rintro e w4 ⟨rfl, rfl⟩))
 go_ret
 exact ⟨rfl, B6.out⟩
theorem rLeaf_any (n : Int) (w : World) : Calls Tryz.prog 164 #[.int .u64 n] w fun e w' => e = .returned (.int .u64 (leafF n)) ∧ Below w.heap.size w w' := by
 have K := hide (show KS .i64 (w.alloc (.cells #[.int .i64 0] 3)) (some ⟨w.heap.size, 0, none⟩) [0] from Rd.new_row w 3 #[.int .i64 0])
 go_enter Tryz.func164, Tryz.ntmps164
 go_wp2_with (go_at_call 122; refine (rNext0 n _ _ _ K.out).mono ?_; rintro e w2 ⟨rfl, hb⟩)
 go_ret
 exact ⟨rfl, ((Below.refl w.heap.size w).alloc (Nat.le_refl _) _).trans (hb.mono (by simp))⟩
end Go.Proofs.YtggaodokkcoagaaGreatDoor
namespace Go.Proofs.YtggaodokkcoagaaGreatDoor
def upT (a b : Nat) : Nat × Nat := if _h : a % 2 = 0 ∧ a ≠ 0 then upT (a / 2) (b / 2) else (a / 2, b / 2)
termination_by a
decreasing_by omega
def stripT (a b : Nat) : Nat × Nat := if _h : a % 2 = 1 then stripT (a / 2) (b / 2) else (a, b)
termination_by a
decreasing_by omega
def isR (a b : Nat) : Bool := decide (a % 2 = 1) || decide (a = b)
def wlk {S : Type} (fr fl : S → Int → S) : Nat → Nat → S → List Int → Option S
 | _, b, s, [] => if b = 0 then some s else none
 | a, b, s, p :: ps => if b = 0 then none else if isR a b = true then wlk fr fl (upT a b).1 (upT a b).2 (fr s p) ps else wlk fr fl (a / 2) (b / 2) (fl s p) ps
theorem upT_odd {a b : Nat} (h : a % 2 = 1) : upT a b = (a / 2, b / 2) := by rw [upT, dif_neg (by omega)]
theorem upT_even {a b : Nat} (h : a % 2 = 0) (h0 : a ≠ 0) : upT a b = upT (a / 2) (b / 2) := by rw [upT, dif_pos ⟨h, h0⟩]
theorem two_pow_half (e : Nat) (x : Nat) : (2 ^ (e + 1) + x) / 2 = 2 ^ e + x / 2 := by rw [Nat.pow_succ]; omega
theorem two_pow_par (e : Nat) (x : Nat) : (2 ^ (e + 1) + x) % 2 = x % 2 := by rw [Nat.pow_succ]; omega
theorem upT_top : ∀ e, upT (2 ^ e) (2 ^ e) = (0, 0)
 | 0 => by rw [Nat.pow_zero, upT_odd rfl]
 | e + 1 => by
  have h1 := two_pow_half e 0; have h2 := two_pow_par e 0; have h3 : 0 < 2 ^ (e + 1) := Nat.two_pow_pos _; simp only [Nat.add_zero, Nat.zero_div, Nat.zero_mod] at h1 h2; rw [upT_even h2 (by omega), h1]; exact upT_top e
theorem upT_lift : ∀ e a b, a ≤ b → b < 2 ^ e → 0 < b → (a % 2 = 1 ∨ a = b) →
  ∃ e', upT (2 ^ e + a) (2 ^ e + b) = (2 ^ e' + (upT a b).1, 2 ^ e' + (upT a b).2) ∧ (upT a b).1 ≤ (upT a b).2 ∧ (upT a b).2 < 2 ^ e'
 | 0, a, b, _, h2, h3, _ => by rw [Nat.pow_zero] at h2; omega
 | e + 1, a, b, h1, h2, h3, h4 => by
  have p1 := two_pow_half e a; have p2 := two_pow_half e b; have p3 := two_pow_par e a; have p4 : 2 ^ (e + 1) = 2 * 2 ^ e := by rw [Nat.pow_succ]; omega
  have p5 : 0 < 2 ^ e := Nat.two_pow_pos _
  by_cases ho : a % 2 = 1
  ·rw [upT_odd (by omega), upT_odd ho, p1, p2]; exact ⟨e, rfl, Nat.div_le_div_right h1, by omega⟩
  ·have hab : a = b := h4.resolve_left ho; rw [upT_even (a := 2 ^ (e + 1) + a) (by omega) (by omega), upT_even (a := a) (by omega) (by omega), p1, p2]; exact upT_lift e (a / 2) (b / 2) (by omega) (by omega) (by omega) (.inr (by omega))
theorem isR_lift {e a b : Nat} : isR (2 ^ (e + 1) + a) (2 ^ (e + 1) + b) = isR a b := by
 unfold isR; rw [two_pow_par]
 congr 1
 rw [Bool.eq_iff_iff, decide_eq_true_eq, decide_eq_true_eq]; omega
theorem isR_iff {a b : Nat} : isR a b = true ↔ a % 2 = 1 ∨ a = b := by unfold isR; simp
section
variable {S : Type} {fr fl : S → Int → S}
theorem wlk_nil {a b : Nat} {s : S} (h : b ≠ 0) : wlk fr fl a b s [] = none := by rw [wlk, if_neg h]
theorem wlk_nil0 {a : Nat} {s : S} : wlk fr fl a 0 s [] = some s := by rw [wlk, if_pos rfl]
theorem wlk_cons {a b : Nat} {s : S} {p : Int} {ps : List Int} : wlk fr fl a b s (p :: ps) = if b = 0 then none else if isR a b = true then wlk fr fl (upT a b).1 (upT a b).2 (fr s p) ps else wlk fr fl (a / 2) (b / 2) (fl s p) ps := by rw [wlk]
theorem wlk_end {a : Nat} {s : S} {p : Int} {ps : List Int} : wlk fr fl a 0 s (p :: ps) = none := by rw [wlk, if_pos rfl]
theorem wlk_end2 {a : Nat} {s : S} {ps : List Int} (h : ps ≠ []) : wlk fr fl a 0 s ps = none := by
 cases ps with
 | nil => exact absurd rfl h
 | cons p ps => exact wlk_end
theorem wlk_01 {s : S} {p : Int} : wlk fr fl 0 1 s [p] = some (fl s p) := by rw [wlk_cons, if_neg (by omega), if_neg (by simp [isR]), show 1 / 2 = 0 from rfl, wlk_nil0]
theorem wlk_01_more {s : S} {p : Int} {ps : List Int} (h : ps ≠ []) : wlk fr fl 0 1 s (p :: ps) = none := by rw [wlk_cons, if_neg (by omega), if_neg (by simp [isR]), show 1 / 2 = 0 from rfl, wlk_end2 h]
theorem wlk_right (p : Int) : ∀ (ps : List Int) (e a b : Nat) (s : S), a ≤ b → b < 2 ^ e → wlk fr fl (2 ^ e + a) (2 ^ e + b) s (ps ++ [p]) = (wlk fr fl a b s ps).map (fun s => fr s p)
 | ps, 0, a, b, s, h1, h2 => by
  rw [Nat.pow_zero] at h2; obtain rfl : b = 0 := by omega
  obtain rfl : a = 0 := by omega
  cases ps with
  | nil =>
   rw [List.nil_append, wlk_cons, if_neg (by simp), if_pos (isR_iff.2 (.inr rfl)), upT_top 0, wlk_nil0, wlk_nil0]; rfl
  | cons q qs =>
   rw [List.cons_append, wlk_cons, if_neg (by simp), if_pos (isR_iff.2 (.inr rfl)), upT_top 0, wlk_end, wlk_end2 (by simp)]; rfl
 | ps, e + 1, a, b, s, h1, h2 => by
  have p1 := two_pow_half e a; have p2 := two_pow_half e b; have p4 : 2 ^ (e + 1) = 2 * 2 ^ e := by rw [Nat.pow_succ]; omega
  have p5 : 0 < 2 ^ e := Nat.two_pow_pos _
  by_cases hb : b = 0
  ·subst hb; obtain rfl : a = 0 := by omega
   rw [Nat.add_zero]; cases ps with
   | nil =>
    rw [List.nil_append, wlk_cons, if_neg (by omega), if_pos (isR_iff.2 (.inr rfl)), upT_top, wlk_nil0, wlk_nil0]; rfl
   | cons q qs =>
    rw [List.cons_append, wlk_cons, if_neg (by omega), if_pos (isR_iff.2 (.inr rfl)), upT_top, wlk_end, wlk_end2 (by simp)]; rfl
  ·cases ps with
   | nil =>
    rw [List.nil_append, wlk_nil hb, wlk_cons, if_neg (by omega), isR_lift]
    by_cases hr : isR a b = true
    ·rw [if_pos hr]; obtain ⟨e', he, _, _⟩ := upT_lift (e + 1) a b h1 h2 (by omega) (isR_iff.1 hr); have : 0 < 2 ^ e' := Nat.two_pow_pos _; rw [he, wlk_nil (by dsimp only; omega)]; rfl
    ·rw [if_neg hr, p2, wlk_nil (by omega)]; rfl
   | cons q qs =>
    rw [List.cons_append, wlk_cons, if_neg (by omega), isR_lift, wlk_cons, if_neg hb]
    by_cases hr : isR a b = true
    ·rw [if_pos hr, if_pos hr]; obtain ⟨e', he, h3, h4⟩ := upT_lift (e + 1) a b h1 h2 (by omega) (isR_iff.1 hr); rw [he]; exact wlk_right p qs e' _ _ _ h3 h4
    ·rw [if_neg hr, if_neg hr, p1, p2]; exact wlk_right p qs e _ _ _ (Nat.div_le_div_right h1) (by omega)
theorem wlk_left (p : Int) : ∀ (ps : List Int) (e a b : Nat) (s : S), a < 2 ^ e → 2 ^ e ≤ b → b < 2 ^ (e + 1) → wlk fr fl a b s (ps ++ [p]) = (wlk fr fl a (2 ^ e - 1) s ps).map (fun s => fl s p)
 | ps, 0, a, b, s, h1, h2, h3 => by
  rw [Nat.pow_zero] at h1 h2; rw [Nat.pow_succ, Nat.pow_zero] at h3; obtain rfl : a = 0 := by omega
  obtain rfl : b = 1 := by omega
  cases ps with
  | nil =>
   rw [List.nil_append, wlk_cons, if_neg (by simp), if_neg (by simp [isR]), show 2 ^ 0 - 1 = 0 from rfl, show 1 / 2 = 0 from rfl, wlk_nil0, wlk_nil0]; rfl
  | cons q qs =>
   rw [List.cons_append, wlk_cons, if_neg (by simp), if_neg (by simp [isR])]; rw [show 2 ^ 0 - 1 = 0 from rfl, wlk_end, wlk_end2 (by simp)]; rfl
 | ps, e + 1, a, b, s, h1, h2, h3 => by
  have p4 : 2 ^ (e + 1) = 2 * 2 ^ e := by rw [Nat.pow_succ]; omega
  have p6 : 2 ^ (e + 1 + 1) = 2 * (2 * 2 ^ e) := by rw [Nat.pow_succ, Nat.pow_succ]; omega
  have p5 : 0 < 2 ^ e := Nat.two_pow_pos _; have p7 : (2 ^ (e + 1) - 1) / 2 = 2 ^ e - 1 := by omega
  cases ps with
  | nil =>
   rw [List.nil_append, wlk_nil (by omega), wlk_cons, if_neg (by omega)]
   by_cases ho : a % 2 = 1
   ·rw [if_pos (isR_iff.2 (.inl ho)), upT_odd ho, wlk_nil (by dsimp only; omega)]; rfl
   ·rw [if_neg (fun h => by rcases isR_iff.1 h with h | h; exact ho h; omega), wlk_nil (by omega)]; rfl
  | cons q qs =>
   have hb0 : b ≠ 0 := by omega
   have hb1 : 2 ^ (e + 1) - 1 ≠ 0 := by omega
   rw [List.cons_append, wlk_cons (b := b), wlk_cons (b := 2 ^ (e + 1) - 1), if_neg hb0, if_neg hb1]
   by_cases ho : a % 2 = 1
   ·have hr1 : isR a b = true := isR_iff.2 (.inl ho); have hr2 : isR a (2 ^ (e + 1) - 1) = true := isR_iff.2 (.inl ho); rw [if_pos hr1, if_pos hr2, upT_odd ho, upT_odd ho]
    dsimp only
    rw [p7]; exact wlk_left p qs e _ _ _ (by omega) (by omega) (by omega)
   ·have hr1 : ¬isR a b = true := fun h => by rcases isR_iff.1 h with h | h; exact ho h; omega
    have hr2 : ¬isR a (2 ^ (e + 1) - 1) = true := fun h => by rcases isR_iff.1 h with h | h; exact ho h; omega
    rw [if_neg hr1, if_neg hr2, p7]; exact wlk_left p qs e _ _ _ (by omega) (by omega) (by omega)
end
theorem stripT_odd {a b : Nat} (h : a % 2 = 1) : stripT a b = stripT (a / 2) (b / 2) := by rw [stripT, dif_pos h]
theorem stripT_even {a b : Nat} (h : a % 2 = 0) : stripT a b = (a, b) := by rw [stripT, dif_neg (by omega)]
theorem strip_right : ∀ e a b, a < b → b < 2 ^ e → ∃ e', stripT (2 ^ e + a) (2 ^ e + b) = (2 ^ e' + (stripT a b).1, 2 ^ e' + (stripT a b).2) ∧ (stripT a b).1 ≤ (stripT a b).2 ∧ (stripT a b).2 < 2 ^ e'
 | 0, a, b, h1, h2 => by rw [Nat.pow_zero] at h2; omega
 | e + 1, a, b, h1, h2 => by
  have p1 := two_pow_half e a; have p2 := two_pow_half e b; have p3 := two_pow_par e a; have p4 : 2 ^ (e + 1) = 2 * 2 ^ e := by rw [Nat.pow_succ]; omega
  by_cases ho : a % 2 = 1
  ·rw [stripT_odd (by omega), stripT_odd ho, p1, p2]; exact strip_right e (a / 2) (b / 2) (by omega) (by omega)
  ·rw [stripT_even (by omega), stripT_even (by omega)]; exact ⟨e + 1, rfl, by dsimp only; omega, h2⟩
theorem strip_left : ∀ e a b, a + 1 < 2 ^ e → 2 ^ e ≤ b → b < 2 ^ (e + 1) →
  ∃ e' a' b', stripT a b = (a', b') ∧ stripT a (2 ^ e - 1) = (a', 2 ^ e' - 1) ∧ a' < 2 ^ e' ∧ 2 ^ e' ≤ b' ∧ b' < 2 ^ (e' + 1)
 | 0, a, b, h1, _, _ => by rw [Nat.pow_zero] at h1; omega
 | e + 1, a, b, h1, h2, h3 => by
  have p4 : 2 ^ (e + 1) = 2 * 2 ^ e := by rw [Nat.pow_succ]; omega
  have p6 : 2 ^ (e + 1 + 1) = 2 * (2 * 2 ^ e) := by rw [Nat.pow_succ, Nat.pow_succ]; omega
  have p5 : 0 < 2 ^ e := Nat.two_pow_pos _; have p7 : (2 ^ (e + 1) - 1) / 2 = 2 ^ e - 1 := by omega
  by_cases ho : a % 2 = 1
  ·rw [stripT_odd (by omega), stripT_odd (a := a) (b := 2 ^ (e + 1) - 1) ho, p7]; exact strip_left e (a / 2) (b / 2) (by omega) (by omega) (by omega)
  ·exact ⟨e + 1, a, b, stripT_even (by omega), stripT_even (by omega), by omega, h2, h3⟩
theorem strip_full : ∀ e b, 2 ^ e ≤ b → b < 2 ^ (e + 1) → stripT (2 ^ e - 1) b = (0, 1)
 | 0, b, h1, h2 => by
  rw [Nat.pow_zero] at h1; rw [Nat.pow_succ, Nat.pow_zero] at h2; obtain rfl : b = 1 := by omega
  exact stripT_even rfl
 | e + 1, b, h1, h2 => by
  have p4 : 2 ^ (e + 1) = 2 * 2 ^ e := by rw [Nat.pow_succ]; omega
  have p6 : 2 ^ (e + 1 + 1) = 2 * (2 * 2 ^ e) := by rw [Nat.pow_succ, Nat.pow_succ]; omega
  have p5 : 0 < 2 ^ e := Nat.two_pow_pos _; rw [stripT_odd (by omega), show (2 ^ (e + 1) - 1) / 2 = 2 ^ e - 1 by omega]; exact strip_full e (b / 2) (by omega) (by omega)
def hf (n : Nat) : Nat := 2 ^ Nat.log2 (n - 1)
theorem hf_spec {n : Nat} (h : 2 ≤ n) : 1 ≤ hf n ∧ hf n < n ∧ n ≤ 2 * hf n := by
 unfold hf; have h1 := Nat.log2_self_le (n := n - 1) (by omega); have h2 := Nat.lt_log2_self (n := n - 1); have h3 : 2 ^ (Nat.log2 (n - 1) + 1) = 2 * 2 ^ Nat.log2 (n - 1) := by rw [Nat.pow_succ]; omega
 have h4 : 0 < 2 ^ Nat.log2 (n - 1) := Nat.two_pow_pos _; omega
theorem pow_le_iff {a b : Nat} (h : 2 ^ a < 2 ^ b) : a < b := (Nat.pow_lt_pow_iff_right (by omega)).1 h
theorem hf_max {n e : Nat} (h : 2 ^ e < n) : 2 ^ e ≤ hf n := by
 have h1 := hf_spec (n := n) (by have := Nat.two_pow_pos e; omega); unfold hf at h1 ⊢; have h2 : 2 ^ e < 2 ^ (Nat.log2 (n - 1) + 1) := by rw [Nat.pow_succ]; omega
 exact Nat.pow_le_pow_right (by omega) (by have := pow_le_iff h2; omega)
section
variable (lf : Int → Int) (pr : Int → Int → Int)
def rootT (l : List Int) : Int := if _h : 2 ≤ l.length then pr (rootT (l.take (hf l.length))) (rootT (l.drop (hf l.length))) else lf (l.headD 0)
termination_by l.length
decreasing_by
 all_goals
  have := hf_spec _h
  simp
  omega
def inclT (l : List Int) (i : Nat) : List Int :=
 if _h : 2 ≤ l.length then if i < hf l.length then inclT (l.take (hf l.length)) i ++ [rootT lf pr (l.drop (hf l.length))] else inclT (l.drop (hf l.length)) (i - hf l.length) ++ [rootT lf pr (l.take (hf l.length))] else []
termination_by l.length
decreasing_by
 all_goals
  have := hf_spec _h
  simp
  omega
def extT (l : List Int) (m : Nat) (mark : Bool) : List Int :=
 if _h : 2 ≤ l.length ∧ m ≠ l.length then if m ≤ hf l.length then extT (l.take (hf l.length)) m mark ++ [rootT lf pr (l.drop (hf l.length))] else extT (l.drop (hf l.length)) (m - hf l.length) false ++ [rootT lf pr (l.take (hf l.length))]
 else if mark = true then [] else [rootT lf pr l]
termination_by l.length
decreasing_by
 all_goals
  have := hf_spec _h.1
  simp
  omega
def leadJ (d : Int) (i n : Nat) (path : List Int) : Int × Bool :=
 if _h : 2 ≤ n then
  if path = [] then (0, false)
  else if i < hf n then (pr (leadJ d i (hf n) path.dropLast).1 (path.getLastD 0), (leadJ d i (hf n) path.dropLast).2)
  else (pr (path.getLastD 0) (leadJ d (i - hf n) (n - hf n) path.dropLast).1, (leadJ d (i - hf n) (n - hf n) path.dropLast).2)
 else (lf d, path.isEmpty)
termination_by n
decreasing_by
 all_goals
  have := hf_spec _h; omega
def growJ (a : Int) (m n : Nat) (mark : Bool) (path : List Int) : Int × Int × Bool :=
 if _h : 2 ≤ n ∧ m ≠ n then
  if path = [] then (0, 0, false)
  else if m ≤ hf n then ((growJ a m (hf n) mark path.dropLast).1, pr (growJ a m (hf n) mark path.dropLast).2.1 (path.getLastD 0), (growJ a m (hf n) mark path.dropLast).2.2)
  else (pr (path.getLastD 0) (growJ a (m - hf n) (n - hf n) false path.dropLast).1, pr (path.getLastD 0) (growJ a (m - hf n) (n - hf n) false path.dropLast).2.1, (growJ a (m - hf n) (n - hf n) false path.dropLast).2.2)
 else if mark = true then (a, a, path.isEmpty) else if path.length = 1 then (path.headD 0, path.headD 0, true) else (0, 0, false)
termination_by n
decreasing_by
 all_goals
  have := hf_spec _h.1; omega
variable {lf} {pr}
theorem rootT_split {l : List Int} (h : 2 ≤ l.length) : rootT lf pr l = pr (rootT lf pr (l.take (hf l.length))) (rootT lf pr (l.drop (hf l.length))) := by rw [rootT, dif_pos h]
theorem rootT_one {l : List Int} (h : ¬2 ≤ l.length) : rootT lf pr l = lf (l.headD 0) := by rw [rootT, dif_neg h]
theorem leadJ_one {d : Int} {i n : Nat} {path : List Int} (h : ¬2 ≤ n) : leadJ lf pr d i n path = (lf d, path.isEmpty) := by rw [leadJ, dif_neg h]
theorem leadJ_nil {d : Int} {i n : Nat} (h : 2 ≤ n) : leadJ lf pr d i n [] = (0, false) := by rw [leadJ, dif_pos h, if_pos rfl]
theorem leadJ_left {d : Int} {i n : Nat} {ps : List Int} {p : Int} (h : 2 ≤ n) (hi : i < hf n) : leadJ lf pr d i n (ps ++ [p]) = (pr (leadJ lf pr d i (hf n) ps).1 p, (leadJ lf pr d i (hf n) ps).2) := by
 rw [leadJ, dif_pos h, if_neg (by simp), if_pos hi]; simp
theorem leadJ_right {d : Int} {i n : Nat} {ps : List Int} {p : Int} (h : 2 ≤ n) (hi : ¬i < hf n) : leadJ lf pr d i n (ps ++ [p]) = (pr p (leadJ lf pr d (i - hf n) (n - hf n) ps).1, (leadJ lf pr d (i - hf n) (n - hf n) ps).2) := by
 rw [leadJ, dif_pos h, if_neg (by simp), if_neg hi]; simp
theorem growJ_end {a : Int} {m n : Nat} {mark : Bool} {path : List Int} (h : ¬(2 ≤ n ∧ m ≠ n)) : growJ pr a m n mark path = if mark = true then (a, a, path.isEmpty) else if path.length = 1 then (path.headD 0, path.headD 0, true) else (0, 0, false) := by rw [growJ, dif_neg h]
theorem growJ_nil {a : Int} {m n : Nat} {mark : Bool} (h : 2 ≤ n ∧ m ≠ n) : growJ pr a m n mark [] = (0, 0, false) := by rw [growJ, dif_pos h, if_pos rfl]
theorem growJ_left {a : Int} {m n : Nat} {mark : Bool} {ps : List Int} {p : Int} (h : 2 ≤ n ∧ m ≠ n) (hm : m ≤ hf n) :
  growJ pr a m n mark (ps ++ [p]) = ((growJ pr a m (hf n) mark ps).1, pr (growJ pr a m (hf n) mark ps).2.1 p, (growJ pr a m (hf n) mark ps).2.2) := by
 rw [growJ, dif_pos h, if_neg (by simp), if_pos hm]; simp
theorem growJ_right {a : Int} {m n : Nat} {mark : Bool} {ps : List Int} {p : Int} (h : 2 ≤ n ∧ m ≠ n) (hm : ¬m ≤ hf n) :
  growJ pr a m n mark (ps ++ [p]) = (pr p (growJ pr a (m - hf n) (n - hf n) false ps).1, pr p (growJ pr a (m - hf n) (n - hf n) false ps).2.1, (growJ pr a (m - hf n) (n - hf n) false ps).2.2) := by
 rw [growJ, dif_pos h, if_neg (by simp), if_neg hm]; simp
theorem snoc_cases (path : List Int) : path = [] ∨ ∃ ps p, path = ps ++ [p] := by
 rcases List.eq_nil_or_concat path with h | ⟨ps, p, h⟩
 ·exact .inl h
 ·exact .inr ⟨ps, p, by rw [h]; simp⟩
variable (lf) (pr) in
def leadO (d : Int) (i n : Nat) (path : List Int) : Option Int := if (leadJ lf pr d i n path).2 = true then some (leadJ lf pr d i n path).1 else none
theorem lead_walk : ∀ (n : Nat) (d : Int) (i : Nat) (path : List Int), i < n → leadO lf pr d i n path = wlk (fun s p => pr p s) (fun s p => pr s p) i (n - 1) (lf d) path := by
 intro n
 induction n using Nat.strongRecOn with
 | ind n ih =>
  intro d i path hi
  by_cases hn : 2 ≤ n
  ·obtain ⟨h1, h2, h3⟩ := hf_spec hn; rcases snoc_cases path with rfl | ⟨ps, p, rfl⟩
   ·unfold leadO; rw [leadJ_nil hn, wlk_nil (by omega)]; rfl
   ·obtain ⟨e, he⟩ : ∃ e, hf n = 2 ^ e := ⟨_, rfl⟩
    by_cases hk : i < hf n
    ·have h4 := ih (hf n) h2 d i ps hk; have h5 := wlk_left (fr := fun s p => pr p s) (fl := fun s p => pr s p) p ps e i (n - 1) (lf d) (by omega) (by omega) (by rw [Nat.pow_succ]; omega); rw [h5, ← he, ← h4]; unfold leadO; rw [leadJ_left hn hk]
     dsimp only
     cases (leadJ lf pr d i (hf n) ps).2 <;> rfl
    ·have h4 := ih (n - hf n) (by omega) d (i - hf n) ps (by omega); have h5 := wlk_right (fr := fun s p => pr p s) (fl := fun s p => pr s p) p ps e (i - hf n) (n - hf n - 1) (lf d) (by omega) (by omega); rw [show 2 ^ e + (i - hf n) = i by omega, show 2 ^ e + (n - hf n - 1) = n - 1 by omega] at h5; rw [h5, ← h4]; unfold leadO; rw [leadJ_right hn hk]
     dsimp only
     cases (leadJ lf pr d (i - hf n) (n - hf n) ps).2 <;> rfl
  ·obtain rfl : n = 1 := by omega
   obtain rfl : i = 0 := by omega
   unfold leadO; rw [leadJ_one hn]; cases path with
   | nil => rw [wlk_nil0]; rfl
   | cons p ps => rw [wlk_end]; rfl
variable (pr) in
def growO (a : Int) (m n : Nat) (mark : Bool) (path : List Int) : Option (Int × Int) := if (growJ pr a m n mark path).2.2 = true then some ((growJ pr a m n mark path).1, (growJ pr a m n mark path).2.1) else none
theorem growO_left {a : Int} {m n : Nat} {mark : Bool} {ps : List Int} {p : Int} (h : 2 ≤ n ∧ m ≠ n) (hm : m ≤ hf n) :
  growO pr a m n mark (ps ++ [p]) = (growO pr a m (hf n) mark ps).map fun s => (s.1, pr s.2 p) := by
 unfold growO; rw [growJ_left h hm]
 dsimp only
 cases (growJ pr a m (hf n) mark ps).2.2 <;> rfl
theorem growO_right {a : Int} {m n : Nat} {mark : Bool} {ps : List Int} {p : Int} (h : 2 ≤ n ∧ m ≠ n) (hm : ¬m ≤ hf n) :
  growO pr a m n mark (ps ++ [p]) = (growO pr a (m - hf n) (n - hf n) false ps).map fun s => (pr p s.1, pr p s.2) := by
 unfold growO; rw [growJ_right h hm]
 dsimp only
 cases (growJ pr a (m - hf n) (n - hf n) false ps).2.2 <;> rfl
theorem growO_nil {a : Int} {m n : Nat} {mark : Bool} (h : 2 ≤ n ∧ m ≠ n) : growO pr a m n mark [] = none := by unfold growO; rw [growJ_nil h]; rfl
theorem growO_full {a : Int} {n : Nat} {path : List Int} : growO pr a n n false path = if path.length = 1 then some (path.headD 0, path.headD 0) else none := by
 unfold growO; rw [growJ_end (by omega)]
 by_cases h : path.length = 1 <;> simp [h]
theorem growO_mark {a : Int} {n : Nat} {path : List Int} : growO pr a n n true path = if path = [] then some (a, a) else none := by
 unfold growO; rw [growJ_end (by omega)]; cases path <;> simp
theorem growO_single {a c : Int} {m n : Nat} (h : 1 ≤ m) (hm : m < n) : growO pr a m n false [c] = none := by
 have hn : 2 ≤ n ∧ m ≠ n := by omega
 obtain ⟨h1, h2, h3⟩ := hf_spec hn.1; rw [show [c] = [] ++ [c] from rfl]
 by_cases hk : m ≤ hf n
 ·rw [growO_left hn hk]
  by_cases he : m = hf n
  ·rw [← he, growO_full]; rfl
  ·rw [growO_nil (by omega)]; rfl
 ·rw [growO_right hn hk, growO_nil (by omega)]; rfl
theorem grow_walk : ∀ (n : Nat) (a c : Int) (m : Nat) (ps : List Int), 1 ≤ m → m < n →
  growO pr a m n false (c :: ps) = wlk (fun s p => (pr p s.1, pr p s.2)) (fun s p => (s.1, pr s.2 p)) (stripT (m - 1) (n - 1)).1 (stripT (m - 1) (n - 1)).2 (c, c) ps := by
 intro n
 induction n using Nat.strongRecOn with
 | ind n ih =>
  intro a c m ps hm1 hm; have hn : 2 ≤ n ∧ m ≠ n := by omega
  obtain ⟨h1, h2, h3⟩ := hf_spec hn.1; obtain ⟨e, he⟩ : ∃ e, hf n = 2 ^ e := ⟨_, rfl⟩; have hpow : 2 ^ (e + 1) = 2 * 2 ^ e := by rw [Nat.pow_succ]; omega
  by_cases hk : m ≤ hf n
  ·by_cases hmk : m = hf n
   ·have hs := strip_full e (n - 1) (by omega) (by omega); rw [show 2 ^ e - 1 = m - 1 by omega] at hs; rw [hs]
    dsimp only
    rcases snoc_cases ps with rfl | ⟨qs, p, rfl⟩
    ·rw [growO_single hm1 hm, wlk_nil (by omega)]
    ·rw [← List.cons_append, growO_left hn hk, ← hmk, growO_full]; cases qs with
     | nil =>
      rw [List.nil_append, wlk_01]; rfl
     | cons q qs =>
      rw [List.cons_append, wlk_01_more (by simp)]; rfl
   ·obtain ⟨e', a', b', hs1, hs2, ha', hb1, hb2⟩ := strip_left e (m - 1) (n - 1) (by omega) (by omega) (by omega); rw [hs1]
    dsimp only
    rcases snoc_cases ps with rfl | ⟨qs, p, rfl⟩
    ·have : 0 < 2 ^ e' := Nat.two_pow_pos _; rw [growO_single hm1 hm, wlk_nil (by omega)]
    ·have h4 := ih (hf n) h2 a c m qs hm1 (by omega); rw [he, hs2] at h4; rw [← List.cons_append, growO_left hn hk, wlk_left p qs e' a' b' (c, c) ha' hb1 hb2, he, h4]
  ·obtain ⟨e', hs, ha', hb'⟩ := strip_right e (m - hf n - 1) (n - hf n - 1) (by omega) (by omega); rw [show 2 ^ e + (m - hf n - 1) = m - 1 by omega, show 2 ^ e + (n - hf n - 1) = n - 1 by omega] at hs; rw [hs]
   dsimp only
   rcases snoc_cases ps with rfl | ⟨qs, p, rfl⟩
   ·have : 0 < 2 ^ e' := Nat.two_pow_pos _; rw [growO_single hm1 hm, wlk_nil (by omega)]
   ·have h4 := ih (n - hf n) (by omega) a c (m - hf n) qs (by omega) (by omega); rw [← List.cons_append, growO_right hn hk, wlk_right p qs e' _ _ (c, c) ha' hb', h4]
def isPow (m : Nat) : Prop := ∃ e, m = 2 ^ e
theorem grow_pow : ∀ (n : Nat) (a : Int) (m : Nat) (path : List Int), isPow m → m < n → growO pr a m n true path = growO pr a m n false (a :: path) := by
 intro n
 induction n using Nat.strongRecOn with
 | ind n ih =>
  rintro a m path ⟨e, rfl⟩ hm; have hpos : 0 < 2 ^ e := Nat.two_pow_pos _; have hn : 2 ≤ n ∧ 2 ^ e ≠ n := by omega
  obtain ⟨h1, h2, h3⟩ := hf_spec hn.1; have hk := hf_max hm; rcases snoc_cases path with rfl | ⟨ps, p, rfl⟩
  ·rw [growO_nil hn, growO_single (by omega) hm]
  ·rw [← List.cons_append, growO_left hn hk, growO_left hn hk]
   by_cases he : 2 ^ e = hf n
   ·rw [← he, growO_mark, growO_full]; cases ps <;> simp
   ·rw [ih (hf n) h2 a (2 ^ e) ps ⟨e, rfl⟩ (by omega)]
theorem growJ_any : ∀ (n : Nat) (a a' : Int) (m : Nat) (path : List Int), growJ pr a m n false path = growJ pr a' m n false path := by
 intro n
 induction n using Nat.strongRecOn with
 | ind n ih =>
  intro a a' m path
  by_cases hn : 2 ≤ n ∧ m ≠ n
  ·obtain ⟨h1, h2, h3⟩ := hf_spec hn.1; rcases snoc_cases path with rfl | ⟨ps, p, rfl⟩
   ·rw [growJ_nil hn, growJ_nil hn]
   ·by_cases hk : m ≤ hf n
    ·rw [growJ_left hn hk, growJ_left hn hk, ih (hf n) h2 a a']
    ·rw [growJ_right hn hk, growJ_right hn hk, ih (n - hf n) (by omega) a a']
  ·rw [growJ_end hn, growJ_end hn]; rfl
theorem grow_other : ∀ (n : Nat) (a a' : Int) (m : Nat) (path : List Int), 1 ≤ m → ¬isPow m → m < n → growJ pr a m n true path = growJ pr a' m n false path := by
 intro n
 induction n using Nat.strongRecOn with
 | ind n ih =>
  intro a a' m path hm1 hp hm; have hn : 2 ≤ n ∧ m ≠ n := by omega
  obtain ⟨h1, h2, h3⟩ := hf_spec hn.1; rcases snoc_cases path with rfl | ⟨ps, p, rfl⟩
  ·rw [growJ_nil hn, growJ_nil hn]
  ·by_cases hk : m ≤ hf n
   ·have he : m ≠ hf n := fun e => hp ⟨_, e⟩
    rw [growJ_left hn hk, growJ_left hn hk, ih (hf n) h2 a a' m ps hm1 hp (by omega)]
   ·rw [growJ_right hn hk, growJ_right hn hk, growJ_any (n - hf n) a a']
end
section
variable {lf : Int → Int} {pr : Int → Int → Int}
theorem inclT_left {l : List Int} {i : Nat} (h : 2 ≤ l.length) (hi : i < hf l.length) : inclT lf pr l i = inclT lf pr (l.take (hf l.length)) i ++ [rootT lf pr (l.drop (hf l.length))] := by rw [inclT, dif_pos h, if_pos hi]
theorem inclT_right {l : List Int} {i : Nat} (h : 2 ≤ l.length) (hi : ¬i < hf l.length) : inclT lf pr l i = inclT lf pr (l.drop (hf l.length)) (i - hf l.length) ++ [rootT lf pr (l.take (hf l.length))] := by rw [inclT, dif_pos h, if_neg hi]
theorem inclT_one {l : List Int} {i : Nat} (h : ¬2 ≤ l.length) : inclT lf pr l i = [] := by rw [inclT, dif_neg h]
theorem extT_left {l : List Int} {m : Nat} {mark : Bool} (h : 2 ≤ l.length ∧ m ≠ l.length) (hm : m ≤ hf l.length) : extT lf pr l m mark = extT lf pr (l.take (hf l.length)) m mark ++ [rootT lf pr (l.drop (hf l.length))] := by rw [extT, dif_pos h, if_pos hm]
theorem extT_right {l : List Int} {m : Nat} {mark : Bool} (h : 2 ≤ l.length ∧ m ≠ l.length) (hm : ¬m ≤ hf l.length) : extT lf pr l m mark = extT lf pr (l.drop (hf l.length)) (m - hf l.length) false ++ [rootT lf pr (l.take (hf l.length))] := by rw [extT, dif_pos h, if_neg hm]
theorem extT_end {l : List Int} {m : Nat} {mark : Bool} (h : ¬(2 ≤ l.length ∧ m ≠ l.length)) : extT lf pr l m mark = if mark = true then [] else [rootT lf pr l] := by rw [extT, dif_neg h]
def plen (i n : Nat) : Nat := if _h : 2 ≤ n then if i < hf n then plen i (hf n) + 1 else plen (i - hf n) (n - hf n) + 1 else 0
termination_by n
decreasing_by
 all_goals
  have := hf_spec _h; omega
def glen (m n : Nat) (mark : Bool) : Nat := if _h : 2 ≤ n ∧ m ≠ n then if m ≤ hf n then glen m (hf n) mark + 1 else glen (m - hf n) (n - hf n) false + 1 else if mark = true then 0 else 1
termination_by n
decreasing_by
 all_goals
  have := hf_spec _h.1; omega
theorem incl_len : ∀ (n : Nat) (l : List Int), l.length = n → ∀ i, (inclT lf pr l i).length = plen i n := by
 intro n
 induction n using Nat.strongRecOn with
 | ind n ih =>
  intro l hl i; subst hl; rw [plen]
  by_cases hn : 2 ≤ l.length
  ·obtain ⟨h1, h2, h3⟩ := hf_spec hn; rw [dif_pos hn]
   by_cases hk : i < hf l.length
   ·rw [if_pos hk, inclT_left hn hk, List.length_append, ih (hf l.length) h2 _ (by simp; omega)]; rfl
   ·rw [if_neg hk, inclT_right hn hk, List.length_append, ih (l.length - hf l.length) (by omega) _ (by simp)]; rfl
  ·rw [dif_neg hn, inclT_one hn]; rfl
theorem ext_len : ∀ (n : Nat) (l : List Int), l.length = n → ∀ m mark, (extT lf pr l m mark).length = glen m n mark := by
 intro n
 induction n using Nat.strongRecOn with
 | ind n ih =>
  intro l hl m mark; subst hl; rw [glen]
  by_cases hn : 2 ≤ l.length ∧ m ≠ l.length
  ·obtain ⟨h1, h2, h3⟩ := hf_spec hn.1; rw [dif_pos hn]
   by_cases hk : m ≤ hf l.length
   ·rw [if_pos hk, extT_left hn hk, List.length_append, ih (hf l.length) h2 _ (by simp; omega)]; rfl
   ·rw [if_neg hk, extT_right hn hk, List.length_append, ih (l.length - hf l.length) (by omega) _ (by simp)]; rfl
  ·rw [dif_neg hn, extT_end hn]; cases mark <;> rfl
theorem lead_len : ∀ (n : Nat) (d : Int) (i : Nat) (path : List Int), (leadJ lf pr d i n path).2 = decide (path.length = plen i n) := by
 intro n
 induction n using Nat.strongRecOn with
 | ind n ih =>
  intro d i path; rw [plen]
  by_cases hn : 2 ≤ n
  ·obtain ⟨h1, h2, h3⟩ := hf_spec hn; rw [dif_pos hn]; rcases snoc_cases path with rfl | ⟨ps, p, rfl⟩
   ·rw [leadJ_nil hn]
    by_cases hk : i < hf n
    ·rw [if_pos hk]; simp
    ·rw [if_neg hk]; simp
   ·by_cases hk : i < hf n
    ·rw [leadJ_left hn hk, if_pos hk, ih (hf n) h2, List.length_append, Bool.eq_iff_iff]; simp
    ·rw [leadJ_right hn hk, if_neg hk, ih (n - hf n) (by omega), List.length_append, Bool.eq_iff_iff]; simp
  ·rw [dif_neg hn, leadJ_one hn]; cases path <;> simp
theorem grow_len : ∀ (n : Nat) (a : Int) (m : Nat) (mark : Bool) (path : List Int), (growJ pr a m n mark path).2.2 = decide (path.length = glen m n mark) := by
 intro n
 induction n using Nat.strongRecOn with
 | ind n ih =>
  intro a m mark path; rw [glen]
  by_cases hn : 2 ≤ n ∧ m ≠ n
  ·obtain ⟨h1, h2, h3⟩ := hf_spec hn.1; rw [dif_pos hn]; rcases snoc_cases path with rfl | ⟨ps, p, rfl⟩
   ·rw [growJ_nil hn]
    by_cases hk : m ≤ hf n
    ·rw [if_pos hk]; simp
    ·rw [if_neg hk]; simp
   ·by_cases hk : m ≤ hf n
    ·rw [growJ_left hn hk, if_pos hk, ih (hf n) h2, List.length_append, Bool.eq_iff_iff]; simp
    ·rw [growJ_right hn hk, if_neg hk, ih (n - hf n) (by omega), List.length_append, Bool.eq_iff_iff]; simp
  ·rw [dif_neg hn, growJ_end hn]; cases mark
   ·by_cases h1 : path.length = 1 <;> simp [h1]
   ·cases path <;> simp
theorem plen_le : ∀ (e n i : Nat), n ≤ 2 ^ e → plen i n ≤ e
 | 0, n, i, h => by rw [Nat.pow_zero] at h; rw [plen, dif_neg (by omega)]; exact Nat.le_refl _
 | e + 1, n, i, h => by
  rw [plen]
  by_cases hn : 2 ≤ n
  ·obtain ⟨h1, h2, h3⟩ := hf_spec hn; have h4 : hf n ≤ 2 ^ e := by
    have h5 : hf n < 2 ^ (e + 1) := by omega
    unfold hf at h5 ⊢; exact Nat.pow_le_pow_right (by omega) (by have := pow_le_iff h5; omega)
   rw [dif_pos hn]
   split
   ·have := plen_le e (hf n) i h4; omega
   ·have := plen_le e (n - hf n) (i - hf n) (by omega); omega
  ·rw [dif_neg hn]; omega
theorem glen_le : ∀ (e n m : Nat) (mark : Bool), n ≤ 2 ^ e → glen m n mark ≤ e + 1
 | 0, n, m, mark, h => by rw [Nat.pow_zero] at h; rw [glen, dif_neg (by omega)]; split <;> omega
 | e + 1, n, m, mark, h => by
  rw [glen]
  by_cases hn : 2 ≤ n ∧ m ≠ n
  ·obtain ⟨h1, h2, h3⟩ := hf_spec hn.1; have h4 : hf n ≤ 2 ^ e := by
    have h5 : hf n < 2 ^ (e + 1) := by omega
    unfold hf at h5 ⊢; exact Nat.pow_le_pow_right (by omega) (by have := pow_le_iff h5; omega)
   rw [dif_pos hn]
   split
   ·have := glen_le e (hf n) m mark h4; omega
   ·have := glen_le e (n - hf n) (m - hf n) false (by omega); omega
  ·rw [dif_neg hn]; split <;> omega
end
end Go.Proofs.YtggaodokkcoagaaGreatDoor
namespace Go.Proofs.YtggaodokkcoagaaGreatDoor
open Go.RowKit
theorem bitLenAux_eq : ∀ (f x : Nat), x < 2 ^ f → Lib.bitLenAux f x = if x = 0 then 0 else Nat.log2 x + 1
 | 0, x, h => by
  rw [Nat.pow_zero] at h; obtain rfl : x = 0 := by omega
  rfl
 | f + 1, x, h => by
  rw [Lib.bitLenAux, bitLenAux_eq f (x / 2) (by rw [Nat.pow_succ] at h; omega)]
  by_cases h0 : x = 0
  ·simp [h0]
  ·rw [if_neg h0, if_neg h0]
   by_cases h1 : x / 2 = 0
   ·rw [if_pos h1]; obtain rfl : x = 1 := by omega
    rfl
   ·rw [if_neg h1, Nat.log2_def (n := x), if_pos (by omega)]; omega
theorem bitLen_eq {x : Nat} (h0 : 0 < x) (h : x < 10000) : Lib.bitLen x = Nat.log2 x + 1 := by
 unfold Lib.bitLen; rw [bitLenAux_eq 64 x (by omega), if_neg (by omega)]
theorem half_any (n : Nat) (w : World) (h : 2 ≤ n) (hn : n ≤ 10000) : Calls Tryz.prog 119 #[.int .i64 n] w fun e w' => e = .returned (.int .i64 (hf n)) ∧ w = w' := by
 have hb := bitLen_eq (x := n - 1) (by omega) (by omega); have hb2 : Nat.log2 (n - 1) < 14 := by
  have h1 := Nat.log2_self_le (n := n - 1) (by omega); refine Nat.lt_of_not_le fun h2 => ?_
  have h3 : 2 ^ 14 ≤ 2 ^ Nat.log2 (n - 1) := Nat.pow_le_pow_right (by omega) h2; omega
 have hl := Tryz.bits_Len ((n : Int) - 1)  w (by omega) (by omega); rw [show ((n : Int) - 1).toNat = n - 1 by omega, hb] at hl; have H := hide hl; have h1 : (0 : Int) ≤ (n : Int) - 1 := by omega
 have h2 : (n : Int) - 1 ≤ 10000 := by omega
 unfold hf; obtain ⟨e, he⟩ : ∃ e, e = Nat.log2 (n - 1) := ⟨_, rfl⟩; rw [← he] at H hb2 ⊢; clear hb hl he
 go_enter Tryz.func119, Tryz.ntmps119
 go_wp2_with (go_at_call 120; refine H.out.mono ?_; rintro e w2 ⟨rfl, rfl⟩)
 go_ret
 exact ⟨congrArg (fun x => Ending.returned (.int .i64 x)) ((by decide +kernel : ∀ e < 14, wrap64 ((2 : Int) ^ e) = ((2 ^ e : Nat) : Int)) e hb2), rfl⟩
theorem parts_any (b o c n : Nat) (w : World) (h : 2 ≤ n) (hn : n ≤ 10000) (hc : n ≤ c) : Calls Tryz.prog 68 #[.slice (some ⟨b, o, none⟩) n c] w fun e w' =>
  e = .returned (.tuple #[.slice (some ⟨b, o, none⟩) (hf n) (hf n), .slice (some ⟨b, o + hf n, none⟩) (n - hf n) (n - hf n)]) ∧ Below w.heap.size w w' := by
 have HH := hide fun W => half_any n W h hn
 obtain ⟨s1, s2, s3⟩ := hf_spec h; obtain ⟨k, hk⟩ : ∃ k, k = hf n := ⟨_, rfl⟩; rw [← hk] at HH s1 s2 s3 ⊢; have p1 : (0 : Int) ≤ k := by omega
 have p2 : (k : Int) ≤ n := by omega
 have p3 : (k : Int) ≤ c := by omega
 have p4 : (n : Int) ≤ c := by omega
 have p5 : ¬ n = k := by omega
 have p6 : ¬ c = k := by omega
 clear hk
 go_enter Tryz.func68, Tryz.ntmps68
 go_upto_region 3 with (go_at_call 119; refine (HH.out _).mono ?_; rintro e w2 ⟨rfl, rfl⟩)
 go_region
 all_goals
  go_wp2
  go_ret2
  exact ⟨rfl, (Below.refl _ _).drew⟩
def rootF (l : List Int) : Int := rootT leafF pairF l
theorem root_any : ∀ (n : Nat) (A : Option Addr) (c : Nat) (l : List Int) (w : World), l.length = n → 1 ≤ n → n ≤ 10000 → n ≤ c → KS .u64 w A l →
  Calls Tryz.prog 69 #[.slice A n c] w fun e w' => e = .returned (.int .u64 (rootF l)) ∧ Below w.heap.size w w' := by
 intro n
 induction n using Nat.strongRecOn with
 | ind n ih =>
  intro A c l w hl h1 hn hc h; obtain ⟨b, o, rfl, hbl, hcell⟩ := h.at_ (i := 0) (by omega)
  by_cases hn2 : 2 ≤ n
  ·have hsp := rootT_split (lf := leafF) (pr := pairF) (l := l) (by omega); rw [hl] at hsp; obtain ⟨s1, s2, s3⟩ := hf_spec hn2; have PP := hide fun W => parts_any b o c n W hn2 hn hc
   have hsh := KS.shift (n := hf n) h (by omega); obtain ⟨k, hk⟩ : ∃ k, k = hf n := ⟨_, rfl⟩; rw [← hk] at PP s1 s2 s3 hsp hsh; have hne : ((n : Int) == 1) = false := by simp; omega
   have R1 := hide fun W (s : KS .u64 W (some ⟨b, o, none⟩) (l.take k)) => ih k s2 (some ⟨b, o, none⟩) k (l.take k) W (by simp; omega) s1 (by omega) (Nat.le_refl _) s
   have R2 := hide fun W (s : KS .u64 W (some ⟨b, o + k, none⟩) (l.drop k)) => ih (n - k) (by omega) (some ⟨b, o + k, none⟩) (n - k) (l.drop k) W (by simp; omega) (by omega) (by omega) (Nat.le_refl _) s
   have K1 := hide (h.pre k); have K2 := hide hsh; have HSP := hide hsp; clear hsp ih hk hsh hcell h; obtain ⟨x, hx⟩ : ∃ x, x = rootF (l.take k) := ⟨_, rfl⟩; obtain ⟨y, hy⟩ : ∃ x, x = rootF (l.drop k) := ⟨_, rfl⟩; have HX := hide hx; have HY := hide hy; rw [← hx] at R1; rw [← hy] at R2; clear hx hy
   go_enter Tryz.func69, Tryz.ntmps69
   go_wp2_with (first
    | (go_at_call 68; refine (PP.out _).mono ?_; rintro e w2 ⟨rfl, hb⟩; have K1 := hide (K1.out.then_ hb); have K2 := hide (K2.out.then_ hb); have BB := hide hb; clear hb)
    | (go_at_call 69; with_reducible refine (R1.out _ K1.out).mono ?_; rintro e w3 ⟨rfl, hb⟩; have K2 := hide (K2.out.then_ hb); have BB := hide (BB.out.trans (hb.mono BB.out.size)); clear hb K1)
    | (go_at_call 69; with_reducible refine (R2.out _ K2.out).mono ?_; rintro e w4 ⟨rfl, hb⟩; have BB := hide (BB.out.trans (hb.mono BB.out.size)); clear hb)
    | (go_at_call 92; refine (pair_any _ _ _).mono ?_; rintro e w5 ⟨rfl, hb⟩; have BB := hide (BB.out.trans (hb.mono BB.out.size)); clear hb))
   go_ret
   exact ⟨by rw [show rootF l = pairF x y by rw [HX.out, HY.out]; exact HSP.out]; rfl, BB.out⟩
  ·obtain rfl : n = 1 := by omega
   have hr : rootF l = leafF l[0] := by
    unfold rootF; rw [rootT_one (by omega)]
    congr 1
    cases l with
    | nil => simp at hl
    | cons x l => rfl
   rw [hr]; have c0 := hcell 0 (by omega); rw [Nat.add_zero] at c0; clear hr hcell ih
   go_enter Tryz.func69, Tryz.ntmps69
   go_wp2_with (go_at_call 121; refine (leaf_any _ _).mono ?_; rintro e w2 ⟨rfl, hb⟩)
   go_ret
   exact ⟨rfl, hb⟩
def checkS (l : List Int) : Int := if l.length = 0 then 1 else if 4096 < l.length then 2 else 0
theorem check_any (A : Option Addr) (c : Nat) (l : List Int) (w : World) : Calls Tryz.prog 67 #[.slice A l.length c] w fun e w' => e = .returned (.int .i64 (checkS l)) ∧ w = w' := by
 unfold checkS; obtain ⟨n, hn⟩ : ∃ n, n = l.length := ⟨_, rfl⟩; rw [← hn]; clear hn
 by_cases h0 : n = 0
 ·subst h0
  go_enter Tryz.func67, Tryz.ntmps67
  go_wp2
  go_ret
  exact ⟨rfl, rfl⟩
 ·have q0 : ((n : Int) == 0) = false := by simp; omega
  by_cases h1 : 4096 < n
  ·have q1 : decide (4096 < (n : Int)) = true := by simp; omega
   rw [if_neg h0, if_pos h1]
   go_enter Tryz.func67, Tryz.ntmps67
   go_wp2
   go_ret
   exact ⟨rfl, rfl⟩
  ·have q1 : decide (4096 < (n : Int)) = false := by simp; omega
   rw [if_neg h0, if_neg h1]
   go_enter Tryz.func67, Tryz.ntmps67
   go_wp2
   go_ret
   exact ⟨rfl, rfl⟩
def rootS (l : List Int) : Int × Int := if checkS l ≠ 0 then (0, checkS l) else (rootF l, 0)
theorem checkS_ok {l : List Int} (h : checkS l = 0) : 1 ≤ l.length ∧ l.length ≤ 4096 := by
 unfold checkS at h
 split at h
 ·cases h
 ·split at h
  ·cases h
  ·omega
theorem Root_any (A : Option Addr) (c : Nat) (l : List Int) (w : World) (hc : l.length ≤ c) (h : KS .u64 w A l) :
  Calls Tryz.prog 114 #[.slice A l.length c] w fun e w' => e = .returned (.tuple #[.int .u64 (rootS l).1, .int .i64 (rootS l).2]) ∧ Below w.heap.size w w' := by
 have HC := hide fun W => check_any A c l W
 unfold rootS
 by_cases hk : checkS l = 0
 ·obtain ⟨h1, h2⟩ := checkS_ok hk; have R := hide (root_any l.length A c l w rfl h1 (by omega) hc h); rw [if_neg (by simpa using hk)]; rw [hk] at HC; clear hk
  go_enter Tryz.func114, Tryz.ntmps114
  go_wp2_with (first
   | (go_at_call 67; refine (HC.out _).mono ?_; rintro e w2 ⟨rfl, rfl⟩)
   | (go_at_call 69; refine R.out.mono ?_; rintro e w3 ⟨rfl, hb⟩))
  go_ret2
  exact ⟨rfl, hb⟩
 ·rw [if_pos hk]; obtain ⟨x, hx⟩ : ∃ x, x = checkS l := ⟨_, rfl⟩; rw [← hx] at HC hk ⊢; have q : (x != 0) = true := by simp [hk]
  clear hk hx
  go_enter Tryz.func114, Tryz.ntmps114
  go_wp2_with (go_at_call 67; refine (HC.out _).mono ?_; rintro e w2 ⟨rfl, rfl⟩)
  go_ret2
  exact ⟨rfl, Below.refl _ _⟩
theorem grown_set {w wr : World} {g : Nat} (h : w.grownBy wr (some g)) (i : Nat) (u : Value) : w.grownBy (wr.setCell ⟨g, i, none⟩ u) (some g) :=
 ⟨h.os, h.tape, h.output, by show w.heap.size ≤ (wr.heap.modify _ _).size; rw [Array.size_modify]; exact h.size, fun k hk hr => (Below.heap_setCell wr ⟨g, i, none⟩ u k (fun e => hr (congrArg some e))).trans (h.block k hk hr)⟩
theorem grown_drew {w wr : World} {row : Option Nat} (h : w.grownBy wr row) : w.grownBy wr.drew row := ⟨h.os, h.tape, h.output, h.size, h.block⟩
theorem grown_self (w : World) (row : Option Nat) : w.grownBy w row := ⟨rfl, rfl, rfl, Nat.le_refl _, fun _ _ _ => rfl⟩
theorem wraps63 (n : Int) (h₀ : 0 ≤ n) (h₁ : n < 2 ^ 63) : IntKind.u64.wrap n = n := by rw [IntKind.wrap_u64]; omega
theorem and1 (a : Nat) (h : a < 10000) : bits .and .u64 (a : Int) 1 = ((a % 2 : Nat) : Int) := by
 have := (bits_nat .u64 63 (by decide) wraps63 a 1 (by omega) (by decide)).1; rw [Nat.and_one_is_mod] at this; exact this
abbrev W2 (w : World) (g a b : Nat) : Prop := Blk w g 147 #[.int .u64 a, .int .u64 b]
theorem isR_odd {a b : Nat} (h : a % 2 = 1) : isR a b = true := isR_iff.2 (.inl h)
theorem right_any (g a b : Nat) (w : World) (h : W2 w g a b) (ha : a < 10000) : Calls Tryz.prog 91 #[.pointer (some ⟨g, 0, none⟩)] w fun e w' => e = .returned (.bool (isR a b)) ∧ Below w.heap.size w w' := by
 have c0 : w.cell? ⟨g, 0, none⟩ = some (.int .u64 a) := h.cell 0; have c1 : w.cell? ⟨g, 1, none⟩ = some (.int .u64 b) := h.cell 1; have hl := h.lt; have n0 := fun x : Fut w.heap.size w => (x.cell g 0 hl).trans c0
 have n1 := fun x : Fut w.heap.size w => (x.cell g 1 hl).trans c1
 have hbit := and1 a ha
 by_cases ho : a % 2 = 1
 ·rw [isR_odd ho]; rw [ho] at hbit; clear ho
  go_enter Tryz.func91, Tryz.ntmps91
  go_wp2_with fail
  refine wp_region_fut w.heap.size (by kernel_rfl) (by kernel_rfl) ?_
  repeat (go_big_quiet_step ((first | fail)))
  refine wpQuiet_nil ?_; intro w4 hq'; have hb4 := Fut.of hq'; clear hq'
  go_wp2
  go_ret
  exact ⟨rfl, hb4⟩
 ·rw [show a % 2 = 0 by omega] at hbit; have hr : isR a b = ((a : Int) == (b : Int)) := by
   unfold isR; rw [Bool.eq_iff_iff]
   simp
   omega
  rw [hr]; clear ho hr; cases hq : ((a : Int) == (b : Int))
  all_goals
   go_enter Tryz.func91, Tryz.ntmps91
   go_wp2_with fail
   refine wp_region_fut w.heap.size (by kernel_rfl) (by kernel_rfl) ?_
   repeat (go_big_quiet_step ((first | fail)))
   refine wpQuiet_nil ?_; intro w4 hq'; have hb4 := Fut.of hq'; clear hq'
   go_wp2
   go_ret
   exact ⟨rfl, hb4⟩
def cellN (w : World) (g : Nat) : Nat := match w.cell? ⟨g, 0, none⟩ with | some (.int _ n) => n.toNat | _ => 0
theorem cellN_eq {w : World} {g a b : Nat} (h : W2 w g a b) : cellN w g = a := by
 have c0 : w.cell? ⟨g, 0, none⟩ = some (.int .u64 a) := h.cell 0; unfold cellN; rw [c0]; rfl
theorem w2_half {w : World} {g a b : Nat} (h : W2 w g a b) : W2 ((w.setCell ⟨g, 0, none⟩ (.int .u64 ((a : Int) / 2))).setCell ⟨g, 1, none⟩ (.int .u64 ((b : Int) / 2))).drew g (a / 2) (b / 2) := by
 have := (Blk.set_ (Blk.set_ h 0 (.int .u64 ((a : Int) / 2))) 1 (.int .u64 ((b : Int) / 2))).drew; have e1 : ((a / 2 : Nat) : Int) = (a : Int) / 2 := by omega
 have e2 : ((b / 2 : Nat) : Int) = (b : Int) / 2 := by omega
 unfold W2; rw [e1, e2]; exact this
theorem up_any (g a b : Nat) (lonely : Bool) (w : World) (h : W2 w g a b) (ha : a < 10000) : Calls Tryz.prog 90 #[.pointer (some ⟨g, 0, none⟩), .bool lonely] w fun e w' => (∃ v, e = .returned v) ∧ W2 w' g (if lonely = true then (upT a b).1 else a / 2) (if lonely = true then (upT a b).2 else b / 2) ∧ w.grownBy w' (some g) := by
 go_enter Tryz.func90, Tryz.ntmps90
 go_wp2
 go_loopw [] (fun wr => ∃ a' b' : Nat, W2 wr g a' b' ∧ a' < 10000 ∧ (lonely = false → a' = a ∧ b' = b) ∧ (lonely = true → upT a' b' = upT a b) ∧ w.grownBy wr (some g)) (fun wr => cellN wr g)
 case atStart => exact ⟨a, b, h, ha, fun _ => ⟨rfl, rfl⟩, fun _ => rfl, grown_self _ _⟩
 case round =>
  obtain ⟨a', b', hw, ha', h1, h2, hg⟩ := hrel; have c0 : wr.cell? ⟨g, 0, none⟩ = some (.int .u64 a') := hw.cell 0; have c1 : wr.cell? ⟨g, 1, none⟩ = some (.int .u64 b') := hw.cell 1; have f0 := hw.frozen 0; have f1 := hw.frozen 1; have hbit := and1 a' ha'; have HW := hide hw; have HG := hide hg; have hfin : W2 ((wr.setCell ⟨g, 0, none⟩ (.int .u64 ((a' : Int) / 2))).setCell ⟨g, 1, none⟩ (.int .u64 ((b' : Int) / 2))).drew g (a' / 2) (b' / 2) ∧ w.grownBy ((wr.setCell ⟨g, 0, none⟩ (.int .u64 ((a' : Int) / 2))).setCell ⟨g, 1, none⟩ (.int .u64 ((b' : Int) / 2))).drew (some g) := ⟨w2_half hw, grown_drew (grown_set (grown_set hg _ _) _ _)⟩; have HF := hide hfin; clear hw hg hfin; cases lonely
  ·obtain ⟨rfl, rfl⟩ := h1 rfl; clear h1 h2
   go_wp2_with fail
   go_region
   all_goals
    go_wp2
    go_end0
    exact ⟨⟨_, rfl⟩, HF.out⟩
  ·have hup := h2 rfl; have HU := hide hup; clear h1 h2 hup
   by_cases ho : a' % 2 = 1
   ·rw [ho] at hbit; have HR := hide (upT_odd (b := b') ho); clear ho
    go_wp2_with fail
    go_region
    all_goals
     go_wp2
     go_end0
     exact ⟨⟨_, rfl⟩, by rw [← HU.out, HR.out]; exact HF.out⟩
   ·rw [show a' % 2 = 0 by omega] at hbit
    by_cases hz : a' = 0
    ·subst hz; have HR := hide (show upT 0 b' = (0 / 2, b' / 2) by rw [upT, dif_neg (by omega)]); clear ho
     go_wp2_with fail
     go_region
     all_goals
      go_wp2
      go_end0
      exact ⟨⟨_, rfl⟩, by rw [← HU.out, HR.out]; exact HF.out⟩
    ·have qz : ((a' : Int) != 0) = true := by simp; omega
     have HR := hide (upT_even (b := b') (show a' % 2 = 0 by omega) hz); have HM := hide (cellN_eq HW.out); have HM2 := hide (cellN_eq HF.out.1); have hlt : a' / 2 < a' := by omega
     have HZ := hide hz; clear ho hz
     go_wp2_with fail
     go_region
     all_goals
      go_wp2
      go_roundw
      case rel => exact ⟨a' / 2, b' / 2, HF.out.1, by omega, fun h => (by cases h), fun _ => (by rw [← HU.out, HR.out]), HF.out.2⟩
      case measure => rw [HM.out, HM2.out]; exact hlt
theorem upT_le : ∀ (n a b : Nat), a ≤ n → (upT a b).1 ≤ a
 | 0, a, b, h => by
  obtain rfl : a = 0 := by omega
  rw [upT, dif_neg (by omega)]; exact Nat.le_refl _
 | n + 1, a, b, h => by
  by_cases hc : a % 2 = 0 ∧ a ≠ 0
  ·rw [upT_even hc.1 hc.2]; exact Nat.le_trans (upT_le n (a / 2) (b / 2) (by omega)) (by omega)
  ·rw [upT, dif_neg hc]
   dsimp only
   omega
def frI (s p : Int) : Int := pairF p s
def flI (s p : Int) : Int := pairF s p
def inclS (root leaf i n : Int) (path : List Int) : Bool := if n < 1 ∨ 4096 < n ∨ i < 0 ∨ n ≤ i then false else decide (wlk frI flI i.toNat (n.toNat - 1) (leafF leaf) path = some root)
theorem included_any (root leaf i n : Int) (A : Option Addr) (c : Nat) (path : List Int) (w : World) (hp : path.length ≤ 9223372036854775807) (h : KS .u64 w A path) :
  Calls Tryz.prog 127 #[.int .u64 root, .int .u64 leaf, .int .i64 i, .int .i64 n, .slice A path.length c] w fun e w' => e = .returned (.bool (inclS root leaf i n path)) ∧ Below w.heap.size w w' := by
 by_cases hbad : n < 1 ∨ 4096 < n ∨ i < 0 ∨ n ≤ i
 ·have hr : inclS root leaf i n path = false := if_pos hbad; rw [hr]; have hcase : decide (n < 1) = true ∨ decide (n < 1) = false ∧ decide (4096 < n) = true ∨ decide (n < 1) = false ∧ decide (4096 < n) = false ∧ decide (i < 0) = true ∨ decide (n < 1) = false ∧ decide (4096 < n) = false ∧ decide (i < 0) = false ∧ decide (n ≤ i) = true := by
   simp only [decide_eq_true_eq, decide_eq_false_iff_not]; omega
  clear hr hbad; rcases hcase with q1 | ⟨q1, q2⟩ | ⟨q1, q2, q3⟩ | ⟨q1, q2, q3, q4⟩
  all_goals
   go_enter Tryz.func127, Tryz.ntmps127
   go_wp2
   go_ret
   exact ⟨rfl, Below.refl _ _⟩
 ·obtain ⟨j, rfl⟩ : ∃ j : Nat, i = j := ⟨i.toNat, by omega⟩; obtain ⟨m, rfl⟩ : ∃ m : Nat, n = m := ⟨n.toNat, by omega⟩; have hr : inclS root leaf j m path = decide (wlk frI flI j (m - 1) (leafF leaf) path = some root) := by unfold inclS; rw [if_neg hbad]; rfl
  have q1 : decide ((m : Int) < 1) = false := decide_eq_false (by omega); have q2 : decide (4096 < (m : Int)) = false := decide_eq_false (by omega); have q3 : decide ((j : Int) < 0) = false := decide_eq_false (by omega); have q4 : decide ((m : Int) ≤ j) = false := decide_eq_false (by omega); have q5 : decide (m ≤ j) = false := decide_eq_false (by omega); have hj : j < 10000 := by omega
  have hm : m ≤ 4096 := by omega
  have hm1 : 1 ≤ m := by omega
  rw [hr]; obtain ⟨res, hres⟩ : ∃ r, r = wlk frI flI j (m - 1) (leafF leaf) path := ⟨_, rfl⟩; rw [← hres]; have HRES := hide hres; have K := hide h; have HK0 := hide h; have BB := hide (Below.refl w.heap.size w); have e1 : ((m - 1 : Nat) : Int) = (m : Int) - 1 := by omega
  have E1 := hide e1; clear hr hbad hres h e1
  go_enter Tryz.func127, Tryz.ntmps127
  go_wp2_with (go_at_call 121; refine (leaf_any _ _).mono ?_; rintro e w2 ⟨rfl, hb⟩; have BB := hide (((Below.refl w.heap.size w).alloc (Nat.le_refl _) (.cells #[.int .u64 (j : Int), .int .u64 ((m : Int) - 1)] 147)).trans (hb.mono (by simp))); have K := hide ((K.out.alloc (.cells #[.int .u64 (j : Int), .int .u64 ((m : Int) - 1)] 147)).then_ hb); have WW := hide (show W2 w2 w.heap.size j (m - 1) by unfold W2; rw [E1.out]; exact (Blk.new w 147 #[.int .u64 (j : Int), .int .u64 ((m : Int) - 1)]).below hb (by simp)); clear hb)
  go_loopw [12, 14, 41] (fun d _ i wr => ∃ (k a b : Nat) (dv : Int), k ≤ path.length ∧ i = .int .i64 k ∧ d = .int .u64 dv ∧ W2 wr w.heap.size a b ∧ a < 10000 ∧ wlk frI flI a b dv (path.drop k) = res ∧ KS .u64 wr A path ∧ Below w.heap.size w wr) (fun _ _ i _ => path.length - (intOf i).toNat)
  case atStart => exact ⟨0, j, m - 1, leafF leaf, Nat.zero_le _, rfl, rfl, WW.out, hj, by rw [HRES.out]; rfl, K.out, BB.out⟩
  case round =>
   clear K BB WW; obtain ⟨k, a, b, dv, hk, rfl, rfl, hw, ha, hwlk, hks, hb⟩ := hrel; have c0 : wr.cell? ⟨w.heap.size, 0, none⟩ = some (.int .u64 a) := hw.cell 0; have c1 : wr.cell? ⟨w.heap.size, 1, none⟩ = some (.int .u64 b) := hw.cell 1; have hlw := hw.lt
   by_cases hlt : k < path.length
   ·obtain ⟨b', o, rfl, hbl, hc⟩ := hks.at_ hlt; have c2 := hc k hlt; rw [List.drop_eq_getElem_cons hlt] at hwlk; obtain ⟨p, hpp⟩ : ∃ p, p = path[k] := ⟨_, rfl⟩; rw [← hpp] at c2 hwlk; clear hc hpp
    by_cases hz : b = 0
    ·subst hz; rw [wlk_end] at hwlk; subst hwlk
     go_wp2
     go_ret
     exact ⟨rfl, hb⟩
    ·have qz : ((b : Int) == 0) = false := by simp; omega
     rw [wlk_cons, if_neg hz] at hwlk; have HW := hide hw; have HB := hide hb; have HK := hide hks; have HR := hide fun W (hh : W2 W w.heap.size a b) => right_any w.heap.size a b W hh ha
     clear hw hb hks; cases hr : isR a b
     ·rw [hr] at HR hwlk; rw [if_neg (by simp)] at hwlk; have HL := hide hwlk; have HU := hide fun W (hh : W2 W w.heap.size a b) => up_any w.heap.size a b false W hh ha
      clear hwlk hr
      go_wp2_with (first
       | (go_at_call 91; refine (HR.out _ HW.out).mono ?_; rintro e w3 ⟨rfl, hb⟩; have HW := hide (HW.out.below hb HW.out.lt); have HB := hide (HB.out.trans (hb.mono HB.out.size)); have HK := hide (HK.out.then_ hb); clear hb)
       | (go_at_call 92; refine (pair_any _ _ _).mono ?_; rintro e w4 ⟨rfl, hb⟩; have HW := hide (HW.out.below hb HW.out.lt); have HB := hide (HB.out.trans (hb.mono HB.out.size)); have HK := hide (HK.out.then_ hb); clear hb)
       | (go_at_call 90; refine (HU.out _ HW.out).mono ?_; rintro e w5 ⟨⟨_, rfl⟩, hw5, hg5⟩; have HB5 := hide (HB.out.grown hg5 HB.out.size (fun g hg => by injection hg with hg; omega)); have HK5 := hide (HK0.out.then_ HB5.out); have HW5 := hide hw5; clear hw5 hg5))
      go_roundw
      case rel => exact ⟨k + 1, a / 2, b / 2, pairF dv p, by omega, by go_num, rfl, HW5.out, by omega, HL.out, HK5.out, HB5.out⟩
      case measure => simp [intOf]; omega
     ·rw [hr] at HR hwlk; rw [if_pos rfl] at hwlk; have HL := hide hwlk; have HU := hide fun W (hh : W2 W w.heap.size a b) => up_any w.heap.size a b true W hh ha
      have hle := upT_le a a b (Nat.le_refl _); clear hwlk hr
      go_wp2_with (first
       | (go_at_call 91; refine (HR.out _ HW.out).mono ?_; rintro e w3 ⟨rfl, hb⟩; have HW := hide (HW.out.below hb HW.out.lt); have HB := hide (HB.out.trans (hb.mono HB.out.size)); have HK := hide (HK.out.then_ hb); clear hb)
       | (go_at_call 92; refine (pair_any _ _ _).mono ?_; rintro e w4 ⟨rfl, hb⟩; have HW := hide (HW.out.below hb HW.out.lt); have HB := hide (HB.out.trans (hb.mono HB.out.size)); have HK := hide (HK.out.then_ hb); clear hb)
       | (go_at_call 90; refine (HU.out _ HW.out).mono ?_; rintro e w5 ⟨⟨_, rfl⟩, hw5, hg5⟩; have HB5 := hide (HB.out.grown hg5 HB.out.size (fun g hg => by injection hg with hg; omega)); have HK5 := hide (HK0.out.then_ HB5.out); have HW5 := hide hw5; clear hw5 hg5))
      go_roundw
      case rel => exact ⟨k + 1, (upT a b).1, (upT a b).2, pairF p dv, by omega, by go_num, rfl, HW5.out, by omega, HL.out, HK5.out, HB5.out⟩
      case measure => simp [intOf]; omega
   ·have hd : path.drop k = [] := List.drop_eq_nil_of_le (by omega); rw [hd] at hwlk
    by_cases hz : b = 0
    ·subst hz; rw [wlk_nil0] at hwlk; subst hwlk; have hre : decide (some dv = some root) = (dv == root) := by rw [Bool.eq_iff_iff]; simp
     have HE := hide hre; clear hre
     go_wp2
     go_ret
     exact ⟨by rw [HE.out]; rfl, hb⟩
    ·have qz : ((b : Int) == 0) = false := by simp; omega
     rw [wlk_nil hz] at hwlk; subst hwlk
     go_wp2
     go_ret
     exact ⟨rfl, hb⟩
def rvAt (l : List Int) (k i : Nat) : Int := if i < k ∨ l.length ≤ i + k then l.getD (l.length - 1 - i) 0 else l.getD i 0
theorem rvAt_step {l : List Int} {k i : Nat} (hk : (k : Int) < (l.length : Int) - 1 - k) (_ : i < l.length) :
  rvAt l (k + 1) i = if i = l.length - 1 - k then rvAt l k k else if i = k then rvAt l k (l.length - 1 - k) else rvAt l k i := by
 unfold rvAt
 by_cases h1 : i = l.length - 1 - k
 ·subst h1; rw [if_pos rfl, if_pos (by omega), if_neg (by omega), show l.length - 1 - (l.length - 1 - k) = k by omega]
 ·rw [if_neg h1]
  by_cases h2 : i = k
  ·subst h2; rw [if_pos rfl, if_pos (by omega), if_neg (by omega)]
  ·rw [if_neg h2]
   by_cases h3 : i < k ∨ l.length ≤ i + k
   ·rw [if_pos h3, if_pos (by omega)]
   ·rw [if_neg h3, if_neg (by omega)]
theorem rvAt_done {l : List Int} {k i : Nat} (hk : ¬(k : Int) < (l.length : Int) - 1 - k) (hi : i < l.length) : rvAt l k i = l.getD (l.length - 1 - i) 0 := by
 unfold rvAt
 by_cases h3 : i < k ∨ l.length ≤ i + k
 ·rw [if_pos h3]
 ·rw [if_neg h3, show l.length - 1 - i = i by omega]
theorem revK_any (base : Nat) (A : Option Addr) (n c : Nat) (l : List Int) (w : World) (hn : l.length ≤ 10000) (h : OwnK .u64 23 w base (.slice A n c) l) :
  Calls Tryz.prog 70 #[.slice A n c] w fun e w' => (∃ v, e = .returned v) ∧ OwnK .u64 23 w' base (.slice A n c) l.reverse ∧ ∃ row, w.grownBy w' row ∧ ∀ r, row = some r → base ≤ r := by
 obtain ⟨hl, hform⟩ := h; rcases hform with ⟨hv, h0⟩ | ⟨g, cap, cur, hv, hg, hh, hnc, hcm, hcs, htake⟩
 ·injection hv with hA hn0 hc0
  subst hA; subst hn0; subst hc0; obtain rfl : l = [] := List.eq_nil_of_length_eq_zero h0
  go_enter Tryz.func70, Tryz.ntmps70
  go_wp2
  go_loopw [2, 3] (fun i j wr => i = .int .i64 0 ∧ j = .int .i64 (-1) ∧ wr = w) (fun _ _ _ => 0)
  case atStart => exact ⟨rfl, rfl, rfl⟩
  case round =>
   obtain ⟨rfl, rfl, rfl⟩ := hrel
   go_wp2
   go_end0
   exact ⟨⟨_, rfl⟩, World.ownsRow_nil _ _ _ _, none, grown_self _ _, fun r e => by cases e⟩
 ·injection hv with hA hn0 hc0
  subst hA; subst hn0; subst hc0; have hB : Blk w g 23 cur := hh; have hst : ∀ i (hi : i < l.length), cur[i]? = some (.int .u64 (rvAt l 0 i)) := fun i hi => by
   have h1 : (cur.toList.take (l.length * 1))[i]? = (l.map (Value.int .u64))[i]? := by rw [htake]
   rw [List.getElem?_take_of_lt (by omega), Array.getElem?_toList, List.getElem?_map, List.getElem?_eq_getElem hi] at h1; rw [h1, show rvAt l 0 i = l[i] by unfold rvAt; rw [if_neg (by omega), List.getD_eq_getElem?_getD, List.getElem?_eq_getElem hi]; rfl]; rfl
  have HST := hide hst; clear hst
  go_enter Tryz.func70, Tryz.ntmps70
  go_wp2
  go_loopw [2, 3] (fun i j wr => ∃ (k : Nat) (cs : Array Value), k ≤ l.length ∧ i = .int .i64 k ∧ j = .int .i64 ((l.length : Int) - 1 - k) ∧ Blk wr g 23 cs ∧ cs.size = c * 1 ∧ (∀ i, i < l.length → cs[i]? = some (.int .u64 (rvAt l k i))) ∧ w.grownBy wr (some g)) (fun i _ _ => l.length - (intOf i).toNat)
  case atStart => exact ⟨0, cur, Nat.zero_le _, rfl, by simp, hB, hcs, HST.out, grown_self _ _⟩
  case round =>
   obtain ⟨k, cs, hk, rfl, rfl, hb, hsz, hat, hgr⟩ := hrel
   by_cases hlt : (k : Int) < (l.length : Int) - 1 - k
   ·have hkl : k < l.length := by omega
    have hml : l.length - 1 - k < l.length := by omega
    have d1 : decide ((k : Int) < (l.length : Int) - 1 - k) = true := by simpa using hlt
    have hm0 : (0 : Int) ≤ (l.length : Int) - 1 - (k : Int) := by omega
    have hm1 : (l.length : Int) - 1 - (k : Int) < l.length := by omega
    have hm2 : (k : Int) ≤ (l.length : Int) - 1 := by omega
    have ck := hat k hkl; have cm := hat _ hml; obtain ⟨x, hx⟩ : ∃ x, x = rvAt l k k := ⟨_, rfl⟩; obtain ⟨y, hy⟩ : ∃ x, x = rvAt l k (l.length - 1 - k) := ⟨_, rfl⟩; rw [← hx] at ck; rw [← hy] at cm; have a0 := (hb.cell k).trans ck; have b0 := (hb.cell (l.length - 1 - k)).trans cm; have f0 := hb.frozen k; have g0 := hb.frozen (l.length - 1 - k); have HB := hide hb; have HA := hide hat; have HX := hide hx; have HY := hide hy; have HL := hide hlt; clear hat hx hy ck cm htake hb
    go_wp2_with fail
    go_region_law (fail)
    all_goals
     go_wp2
     go_roundw
     case rel =>
      refine ⟨k + 1, (cs.setIfInBounds k (.int .u64 y)).setIfInBounds (l.length - 1 - k) (.int .u64 x), by omega, by go_num, by simp; omega, ?_, by simpa using hsz, fun i hi => ?_, ?_⟩
      ·with_reducible exact ((HB.out.set_ k (.int .u64 y)).set_ (l.length - 1 - k) (.int .u64 x)).drew
      ·rw [rvAt_step HL.out hi]
       by_cases h1 : i = l.length - 1 - k
       ·rw [if_pos h1, h1, ← HX.out, Array.getElem?_setIfInBounds_self_of_lt (by simp; omega)]
       ·rw [if_neg h1, Array.getElem?_setIfInBounds_ne (by omega)]
        by_cases h2 : i = k
        ·rw [if_pos h2, h2, ← HY.out, Array.getElem?_setIfInBounds_self_of_lt (by omega)]
        ·rw [if_neg h2, Array.getElem?_setIfInBounds_ne (by omega)]; exact HA.out i hi
      ·with_reducible exact grown_drew (grown_set (grown_set hgr _ _) _ _)
     case measure => simp [intOf]; omega
   ·have d1 : decide ((k : Int) < (l.length : Int) - 1 - k) = false := by simpa using hlt
    have HA := hide hat; have HB := hide hb; have HN := hide hlt; clear hat hb hlt
    go_wp2
    go_end0
    refine ⟨⟨_, rfl⟩, ⟨by simp, .inr ⟨g, c, cs, by rw [List.length_reverse], hg, HB.out, by rw [List.length_reverse]; exact hnc, hcm, hsz, ?_⟩⟩, some g, hgr, fun r e => by cases e; exact hg⟩; rw [List.length_reverse, Nat.mul_one]; refine List.ext_getElem? fun i => ?_
    by_cases hi : i < l.length
    ·rw [List.getElem?_take_of_lt hi, Array.getElem?_toList, HA.out i hi, rvAt_done (Int.not_lt.2 HN.out) hi, List.getElem?_map, List.getElem?_reverse hi, List.getD_eq_getElem?_getD, List.getElem?_eq_getElem (by omega)]; rfl
    ·rw [List.getElem?_eq_none (by simp; omega), List.getElem?_eq_none (by simp; omega)]
theorem infoU : (Tryz.prog.info? 23).map (fun i => (i.zero, i.size, i.bytes)) = some (some (.int .u64 0), 1, 8) := by kernel_rfl
theorem cloneK_any (A : Option Addr) (c : Nat) (l : List Int) (w : World) (hn : l.length ≤ 100000) (h : KS .u64 w A l) :
  Calls Tryz.prog 89 #[.slice A l.length c] w fun e w' => ∃ v, e = .returned v ∧ OwnK .u64 23 w' w.heap.size v l ∧ Below w.heap.size w w' := by
 obtain ⟨i0, hi, hz0, hz1, hz2⟩ := info_parts infoU; have hne := fun w' => Lib.run_eql_slice_nil (P := Tryz.prog) w' 32 23 A l.length c 0 0 Tryz.underlying32
 cases hA : A.isNone
 ·rw [hA] at hne
  go_enter Tryz.func89, Tryz.ntmps89
  go_wp2_with (at_builtin; refine wpList_append_rd _ rfl _ _ 32 rfl w.heap.size 23 i0 _ 1 8 Tryz.underlying32 hi hz0 hz1 hz2 rfl (by decide) _ 0 [] rfl (World.ownsRow_made w #[] 0 (Nat.le_refl _) (by simp [maxLen]) rfl) A l.length c (l.map (Value.int .u64)) rfl (by simp) (h.alloc _) (kone l) ?_ ?_ ?_ ?_)
  ·simp only [maxLen]; omega
  ·omega
  ·simp
  ·intro v1 w1 ho hg _
   go_wp2
   go_ret
   refine ⟨v1, rfl, by simpa [OwnK] using ho, ((Below.refl _ _).alloc (Nat.le_refl _) _).grown hg (by simp) (fun k hk => by simp [Value.ownBlock] at hk; omega)⟩
 ·rw [hA] at hne; obtain rfl : A = none := by simpa using hA
  have hl : l = [] := KS.nil_of h; subst hl; simp only [List.length_nil] at hne
  go_enter Tryz.func89, Tryz.ntmps89
  go_wp2
  go_ret
  exact ⟨.slice none 0 0, rfl, OwnK.nil, Below.refl _ _⟩
theorem run_overlaps {P : Program} (w : World) (t u : TypeId) (rs : Array TypeId) (elem : TypeId) (size : Nat) (hu : P.underlying t = some (.slice elem)) (hs : (P.info? elem).map (·.size) = some size)
  (g1 g2 o1 o2 n1 n2 c1 c2 : Nat) (t1 t2 : TypeId) (cs1 cs2 : Array Value) (h1 : Blk w g1 t1 cs1) (h2 : Blk w g2 t2 cs2) (hne : g1 ≠ g2) :
  (Extern.SlicesOverlaps.overlaps #[t, u] rs #[.slice (some ⟨g1, o1, none⟩) n1 c1, .slice (some ⟨g2, o2, none⟩) n2 c2]).run P w = .ok (.bool false) w := by
 have f1 := fun o => h1.frozen o
 have f2 := fun o => h2.frozen o
 have s1 : w.shape? g1 = some (t1, cs1.size) := by unfold Blk at h1; simp [World.shape?, h1]
 have s2 : w.shape? g2 = some (t2, cs2.size) := by unfold Blk at h2; simp [World.shape?, h2]
 cases hq : P.info? elem with
 | none => simp [hq] at hs
 | some i =>
  conv => lhs; arg 2; whnf
  simp [Sem.run_bind', hu, sizeOf, typeInfo, hq, hne, f1, f2, s1, s2, noView, viewAt, mayBeOne, stringish, shape, frozen, Sem.run]
theorem ov_call (args : Array Value) (w : World) : (callFunc 131 args).run Tryz.prog w =
  ((Extern.SlicesOverlaps.overlaps #[32, 32] #[4] args).run Tryz.prog w).andThen fun v w' => .ok (.value v) w' :=
 run_callFunc_extern Tryz.func131 (by kernel_rfl) (by kernel_rfl) (by kernel_rfl) (by kernel_rfl) args w
theorem OwnK.rd {k : IntKind} {e : TypeId} {w : World} {base n c : Nat} {A : Option Addr} {l : List Int} (h : OwnK k e w base (.slice A n c) l) : KS k w A l := by
 obtain ⟨A', c', hv, _, _, hk⟩ := h.form
 injection hv with e1 e2 e3
 subst e1; exact hk
theorem insertK_end (A : Option Addr) (c : Nat) (x : Int) (g base : Nat) (w : World) (ho : OwnK .u64 23 w base (.slice A 0 c) []) (hbase : base ≤ w.heap.size)
  (hx : Blk w g 23 #[.int .u64 x]) :
  Calls Tryz.prog 88 #[.slice A 0 c, .int .i64 0, .slice (some ⟨g, 0, none⟩) 1 1] w
   fun e w' => ∃ v, e = .returned v ∧ OwnK .u64 23 w' base v [x] ∧ Below base w w' := by
 obtain ⟨i0, hi, hz0, hz1, hz2⟩ := info_parts infoU; obtain ⟨_, _, hv, hlc, hcm, _⟩ := ho.form
 injection hv with e1 e2 e3
 subst e1 e3; clear e2; unfold maxLen at hcm; have HO := hide ho; have HX := hide (show KS .u64 w (some ⟨g, 0, none⟩) [x] from Rd.of_blk hx); clear ho hx; have hcase : A = none ∧ c = 0 ∨ ∃ g0, A = some ⟨g0, 0, none⟩ := by
  rcases HO.out.2 with ⟨hv, _⟩ | ⟨g0, cap, cur, hv, _⟩
  ·injection hv with e1 e2 e3; exact .inl ⟨e1, e3⟩
  ·injection hv with e1 e2 e3; exact .inr ⟨g0, e1⟩
 have fin : ∀ v1 w1, World.ownsRow w1 base 23 1 v1 (0 + 1) ([] ++ [.int .u64 x]) → w.grownBy w1 (Value.slice A 0 c).ownBlock → OwnK .u64 23 w1 base v1 [x] ∧ Below base w w1 := fun v1 w1 h1 hg =>
  ⟨by simpa [OwnK] using h1, (Below.refl _ _).grown hg hbase (fun k hk => (HO.out.lt k (by cases A <;> (simp [Value.ownBlock] at hk ⊢; try exact hk))).1)⟩
 have FIN := hide fin; clear fin; rcases hcase with ⟨rfl, rfl⟩ | ⟨g0, rfl⟩
 ·go_enter Tryz.func88, Tryz.ntmps88
  go_wp2_with (at_builtin; refine wpList_append_rd _ rfl _ _ 32 rfl base 23 i0 _ 1 8 Tryz.underlying32 hi hz0 hz1 hz2 rfl (by decide) _ 0 [] rfl HO.out (some ⟨g, 0, none⟩) 1 1 [.int .u64 x] rfl rfl HX.out (kone [x]) (by unfold maxLen; omega) (by omega) hbase ?_; intro v1 w1 h1 hg _; have H1 := hide (FIN.out v1 w1 h1 hg); clear h1 hg)
  go_ret
  exact ⟨_, rfl, H1.out⟩
 ·cases c with
  | zero =>
   go_enter Tryz.func88, Tryz.ntmps88
   go_wp2_with (at_builtin; refine wpList_append_rd _ rfl _ _ 32 rfl base 23 i0 _ 1 8 Tryz.underlying32 hi hz0 hz1 hz2 rfl (by decide) _ 0 [] rfl HO.out (some ⟨g, 0, none⟩) 1 1 [.int .u64 x] rfl rfl HX.out (kone [x]) (by unfold maxLen; omega) (by omega) hbase ?_; intro v1 w1 h1 hg _; have H1 := hide (FIN.out v1 w1 h1 hg); clear h1 hg)
   go_ret
   exact ⟨_, rfl, H1.out⟩
  | succ c =>
   have p0 : ¬ c + 1 = 0 := by omega
   go_enter Tryz.func88, Tryz.ntmps88
   go_wp2_with (at_builtin; refine wpList_append_rd _ rfl _ _ 32 rfl base 23 i0 _ 1 8 Tryz.underlying32 hi hz0 hz1 hz2 rfl (by decide) _ 0 [] rfl HO.out (some ⟨g, 0, none⟩) 1 1 [.int .u64 x] rfl rfl HX.out (kone [x]) (by unfold maxLen; omega) (by omega) hbase ?_; intro v1 w1 h1 hg _; have H1 := hide (FIN.out v1 w1 h1 hg); clear h1 hg)
   go_ret
   exact ⟨_, rfl, H1.out⟩
theorem insertK_grow (A : Option Addr) (l : List Int) (x : Int) (g base : Nat) (w : World) (ho : OwnK .u64 23 w base (.slice A l.length l.length) l) (hbase : base ≤ w.heap.size)
  (hil : 0 < l.length) (hl : l.length < 100000) (hx : Blk w g 23 #[.int .u64 x]) :
  Calls Tryz.prog 88 #[.slice A l.length l.length, .int .i64 0, .slice (some ⟨g, 0, none⟩) 1 1] w
   fun e w' => ∃ v, e = .returned v ∧ OwnK .u64 23 w' base v (x :: l) ∧ Below base w w' := by
 obtain ⟨i0, hi, hz0, hz1, hz2⟩ := info_parts infoU; have hne : ((0 : Int) == (l.length : Int)) = false := by simp; omega
 have hw1 : IntKind.i64.wrap 1 = 1 := IntWalk.i64_in _ (by omega); have hw3 : (1 : Int) ≤ (l.length : Int) + 1 := by omega
 have hw4 : (0 : Int) ≤ (l.length : Int) + 1 := by omega
 have hnl : ¬ l.length = 0 := by omega
 obtain ⟨g0, rfl, hg0⟩ : ∃ g0, A = some ⟨g0, 0, none⟩ ∧ base ≤ g0 := by
  rcases ho.2 with ⟨_, h⟩ | ⟨g0, _, _, h, hb, _⟩
  ·omega
  ·injection h with h _ _; exact ⟨g0, h, hb⟩
 have HS := hide ho.rd; have HX := hide (show KS .u64 w (some ⟨g, 0, none⟩) [x] from Rd.of_blk hx); clear ho hx
 go_enter Tryz.func88, Tryz.ntmps88
 go_upto_region 11 with (first
  | (at_builtin; refine wpList_append_zeros rfl _ _ 32 3 rfl 23 .i64 i0 _ 1 8 Tryz.underlying32 Tryz.underlying3 hi hz0 hz1 hz2 rfl (some ⟨g0, 0, none⟩) 0 l.length (l.length + 1) ((l.length : Int) + 1) rfl rfl (by omega) [] rfl (Rd.nil _ _) (l.length + 1) (by omega) (by omega) (by omega) (by omega) (by omega) (by omega) ?_; intro cells cap w1 k1 k2 k3 k4 k5 k6 k7; have hci : ¬ cap = 0 := (by omega); have hci1 : ¬ cap = 1 := (by omega); have HK := hide k3; have HK7 := hide k7; have K5 := hide k5; have K6 := hide k6; clear k3 k4 k5 k6 k7)
  | (with_reducible refine wpList_copyN rfl (.tmp 43) (.tmp 44) 32 32 rfl 23 1 Tryz.underlying32 (by kernel_rfl) _ _ _ _ _ _ rfl rfl w.heap.size 0 cells 23 K5.out [.int .u64 x] ?_ ?_ ?_ ?_ ?_ ?_))
 ·simp only [List.length_cons, List.length_nil]; rw [show Nat.min 1 (l.length + 1) = 1 from Nat.min_eq_left (by omega)]
 ·exact HX.out.below (Below.of_grown K6.out) (Nat.le_refl _)
 ·rw [HK.out]; simp only [List.length_cons, List.length_nil]; omega
 ·exact kone [x]
 intro w2 q1 q2 q3; have HQ3 := hide q3; have HQ1 := hide q1; have HQ2 := hide q2; clear q1 q2 q3
 go_upto_region 11 with fail
 have b2 : Below w.heap.size w w2 := (Below.of_grown K6.out).trans ((Below.refl _ _).grown HQ2.out (by have := HK7.out; omega) (fun k hk => by cases hk; exact Nat.le_refl _)); have HB2 := hide b2; clear b2; have HC := hide (show cells.toList.length = cap by rw [Array.length_toList, HK.out, Nat.mul_one]); have HZ := hide (show cells.size = cap by rw [HK.out, Nat.mul_one]); have HS1 := hide (show (splice cells.toList 0 [.int .u64 x]).length = cap by rw [length_splice _ _ _ (by have := HC.out; have := HZ.out; simp; omega), HC.out]); have F1 := hide (show (l.map (Value.int .u64)).length = Nat.min l.length l.length * 1 by simp); have F2 := hide (show Rd w2.drew (some ⟨g0, 0, none⟩) (l.map (Value.int .u64)) from Rd.below (HS.out.then_ HB2.out) (Below.refl _ _).drew (Nat.le_refl _)); have F3 := hide (show 1 + (l.map (Value.int .u64)).length ≤ (splice cells.toList 0 [.int .u64 x]).toArray.size by rw [List.size_toArray, HS1.out, List.length_map]; omega)
 go_region_held3 (fun _ => True) (trivial) ((refine step_copyN rfl (.tmp 50) (.tmp 53) 32 32 rfl 23 1 Tryz.underlying32 (by kernel_rfl) _ _ _ _ _ _ rfl rfl w.heap.size 1 (splice cells.toList 0 [.int .u64 x]).toArray 23 HQ1.out.drew (l.map (Value.int .u64)) F1.out (fun _ => by simp) F2.out F3.out (kone _) ?_; intro w3 r1 r2 r3))
 go_wp2
 go_ret
 have b3 : Below w.heap.size w w3 := HB2.out.drew.trans ((Below.refl _ _).grown r2 HB2.out.size (fun k hk => by cases hk; exact Nat.le_refl _)); refine ⟨_, rfl, ⟨by simp, .inr ⟨w.heap.size, cap, _, rfl, hbase, r1, by simpa using k1, k2, ?_, ?_⟩⟩, b3.mono hbase⟩
 ·rw [List.size_toArray, length_splice _ _ _ (by show 1 + (l.map (Value.int .u64)).length ≤ (splice cells.toList 0 [.int .u64 x]).length; rw [HS1.out, List.length_map]; omega)]
  show (splice cells.toList 0 [.int .u64 x]).length = cap * 1
  rw [HS1.out, Nat.mul_one]
 ·have := splice_two (C := cells.toList) (P := []) (X := [.int .u64 x]) (R := l.map (Value.int .u64)) (p := 0) (m := 1) rfl rfl rfl (by have := HC.out; have := HZ.out; simp; omega); simp only [Nat.zero_add, List.length_map, List.nil_append] at this; rw [List.length_cons, Nat.mul_one, Nat.add_comm l.length 1]; exact this
theorem insertK_room (A : Option Addr) (l : List Int) (c : Nat) (x : Int) (g base : Nat) (w : World) (ho : OwnK .u64 23 w base (.slice A l.length c) l) (hbase : base ≤ w.heap.size)
  (hil : 0 < l.length) (hl : l.length < 100000) (hc : l.length + 1 ≤ c) (hx : Blk w g 23 #[.int .u64 x]) (hgo : ∀ a, A = some a → a.block ≠ g) :
  Calls Tryz.prog 88 #[.slice A l.length c, .int .i64 0, .slice (some ⟨g, 0, none⟩) 1 1] w
   fun e w' => ∃ v, e = .returned v ∧ OwnK .u64 23 w' base v (x :: l) ∧ Below base w w' := by
 have hne : ((0 : Int) == (l.length : Int)) = false := by simp; omega
 have hw1 : IntKind.i64.wrap 1 = 1 := IntWalk.i64_in _ (by omega); have hw3 : (1 : Int) ≤ (l.length : Int) + 1 := by omega
 have hw4 : (0 : Int) ≤ (l.length : Int) + 1 := by omega
 obtain ⟨g0, cur, rfl, hg0, hblk, hcm, hcs, htake⟩ : ∃ g0 cur, A = some ⟨g0, 0, none⟩ ∧ base ≤ g0 ∧ Blk w g0 23 cur ∧ c ≤ maxLen ∧ cur.size = c * 1 ∧ cur.toList.take (l.length * 1) = l.map (Value.int .u64) := by
  rcases ho.2 with ⟨_, h⟩ | ⟨g0, cap, cur, h, hb, hh, hnc, hcm, hcs, ht⟩
  ·omega
  ·injection h with h1 _ h3; subst h3; exact ⟨g0, cur, h1, hb, hh, hcm, hcs, ht⟩
 have hgg : g0 ≠ g := fun e => hgo _ rfl e
 have ov := fun (n : Nat) (m o : Nat) => (ov_call #[.slice (some ⟨g, 0, none⟩) 1 1, .slice (some ⟨g0, o, none⟩) n m] w).trans (by rw [run_overlaps (P := Tryz.prog) w 32 32 #[4] 23 1 Tryz.underlying32 (by kernel_rfl) g g0 0 o 1 n 1 m _ _ _ _ hx hblk (Ne.symm hgg)])
 unfold maxLen at hcm; have hci : ¬ c = 0 := by omega
 have hci1 : ¬ c = 1 := by omega
 have HS := hide ho.rd; have HX := hide hx; have HBK := hide hblk; clear ho hx hgo
 go_enter Tryz.func88, Tryz.ntmps88
 have HT := hide htake; have HC := hide (show cur.toList.length = c by rw [Array.length_toList, hcs, Nat.mul_one]); have HZ := hide (show cur.size = c by rw [hcs, Nat.mul_one]); clear htake hcs hblk
 go_upto_region 15 with fail
 have F1 := hide (show (l.map (Value.int .u64)).length = Nat.min l.length l.length * 1 by simp); have F2 := hide (show Rd w.drew (some ⟨g0, 0, none⟩) (l.map (Value.int .u64)) from Rd.below HS.out (Below.refl _ _).drew (Nat.le_refl _)); have F3 := hide (show 1 + (l.map (Value.int .u64)).length ≤ cur.size by rw [← Array.length_toList, HC.out, List.length_map]; omega)
 go_region_held3 (fun _ => True) (trivial) ((refine step_copyN rfl (.tmp 73) (.tmp 76) 32 32 rfl 23 1 Tryz.underlying32 (by kernel_rfl) _ _ _ _ _ _ rfl rfl g0 1 cur 23 HBK.out.drew (l.map (Value.int .u64)) (by first | exact F1.out | (simp; done) | (simp [Nat.min_def]; done) | (simp [Nat.min_def]; omega)) (fun _ => by simp) F2.out F3.out (kone _) ?_; intro w3 r1 r2 r3))
 have hxw : Blk w3 g 23 #[.int .u64 x] := (r2.block g (by simpa using HX.out.lt) (fun e => hgg (by injection e with e; exact e.symm))).trans HX.out; have R3 := hide r3; have R2 := hide r2; have R1 := hide r1; have HXW := hide (show KS .u64 w3 (some ⟨g, 0, none⟩) [x] from Rd.of_blk hxw); have HL1 := hide (show (splice cur.toList 1 (l.map (Value.int .u64))).length = c by rw [length_splice _ _ _ (by have := HC.out; have := HZ.out; simp; omega), HC.out]); clear r1 r2 r3 hxw ov
 go_upto_region 17 with (with_reducible refine wpList_copyN rfl (.tmp 80) (.tmp 81) 32 32 rfl 23 1 Tryz.underlying32 (by kernel_rfl) _ _ _ _ _ _ rfl rfl g0 0 _ 23 R1.out [.int .u64 x] ?_ ?_ ?_ ?_ ?_ ?_)
 ·simp only [List.length_cons, List.length_nil]; rw [show Nat.min 1 (l.length + 1) = 1 from Nat.min_eq_left (by omega)]
 ·exact HXW.out
 ·rw [List.size_toArray, HL1.out]; simp only [List.length_cons, List.length_nil]; omega
 ·exact kone [x]
 intro w4 q1 q2 q3
 go_wp2
 go_ret
 have b4 : Below base w w4 := (((Below.refl base w).drew).grown R2.out (by simpa using hbase) (fun k hk => by cases hk; exact hg0)).grown q2 (by rw [R3.out]; simpa using hbase) (fun k hk => by cases hk; exact hg0); refine ⟨_, rfl, ⟨by simp, .inr ⟨g0, c, _, rfl, hg0, q1, by simpa using hc, by unfold maxLen; omega, ?_, ?_⟩⟩, b4⟩
 ·rw [List.size_toArray, length_splice _ _ _ (by show 0 + 1 ≤ (splice cur.toList 1 (l.map (Value.int .u64))).length; rw [HL1.out]; omega)]; rw [Nat.mul_one]; exact HL1.out
 ·have := splice_two' (C := cur.toList) (P := []) (X := [.int .u64 x]) (R := l.map (Value.int .u64)) (p := 0) (m := 1) rfl rfl rfl (by have := HC.out; have := HZ.out; simp; omega); simp only [Nat.zero_add, List.length_map, List.nil_append] at this; rw [List.length_cons, Nat.mul_one, Nat.add_comm l.length 1]; exact this
theorem insertK_any (A : Option Addr) (c : Nat) (l : List Int) (x : Int) (g base : Nat) (w : World) (ho : OwnK .u64 23 w base (.slice A l.length c) l) (hbase : base ≤ w.heap.size)
  (hl : l.length < 100000) (hx : Blk w g 23 #[.int .u64 x]) (hgo : ∀ a, A = some a → a.block ≠ g) :
  Calls Tryz.prog 88 #[.slice A l.length c, .int .i64 0, .slice (some ⟨g, 0, none⟩) 1 1] w
   fun e w' => ∃ v, e = .returned v ∧ OwnK .u64 23 w' base v (x :: l) ∧ Below base w w' := by
 by_cases h0 : 0 < l.length
 ·obtain ⟨_, c', hv, hlc, _, _⟩ := ho.form
  injection hv with e1 e2 e3
  subst e1 e3
  by_cases hc : l.length + 1 ≤ c
  ·exact insertK_room A l c x g base w ho hbase h0 hl hc hx hgo
  ·obtain rfl : c = l.length := by omega
   exact insertK_grow A l x g base w ho hbase h0 hl hx
 ·obtain rfl : l = [] := List.eq_nil_of_length_eq_zero (by omega); exact insertK_end A c x g base w ho hbase hx
def lenV : Value → Nat | .slice _ n _ => n | _ => 0
theorem OwnK.weak {k : IntKind} {e : TypeId} {w : World} {b1 b2 : Nat} {v : Value} {l : List Int} (h : OwnK k e w b1 v l) (hb : b2 ≤ b1) : OwnK k e w b2 v l := by
 refine ⟨h.1, ?_⟩; rcases h.2 with h2 | ⟨g, cap, cur, hv, hg, r⟩
 ·exact .inl h2
 ·exact .inr ⟨g, cap, cur, hv, by omega, r⟩
def inclF (l : List Int) (i : Nat) : List Int := inclT leafF pairF l i
theorem inclF_left {l : List Int} {i : Nat} (h : 2 ≤ l.length) (hi : i < hf l.length) : inclF l i = inclF (l.take (hf l.length)) i ++ [rootF (l.drop (hf l.length))] := inclT_left h hi
theorem inclF_right {l : List Int} {i : Nat} (h : 2 ≤ l.length) (hi : ¬i < hf l.length) : inclF l i = inclF (l.drop (hf l.length)) (i - hf l.length) ++ [rootF (l.take (hf l.length))] := inclT_right h hi
def incS (l : List Int) (i : Int) : List Int × Int := if checkS l ≠ 0 then ([], checkS l) else if i < 0 ∨ (l.length : Int) ≤ i then ([], 1) else (inclF l i.toNat, 0)
theorem Include_anyF (A : Option Addr) (c : Nat) (l : List Int) (i : Int) (w : World) (hc : l.length ≤ c) (h : KS .u64 w A l) :
  Calls Tryz.prog 64 #[.slice A l.length c, .int .i64 i] w fun e w' => ∃ A' c', e = .returned (.tuple #[.slice A' (incS l i).1.length c', .int .i64 (incS l i).2]) ∧ (incS l i).1.length ≤ c' ∧ c' ≤ maxLen ∧ (KS .u64 w' A' (incS l i).1 ∧ FrA w A') ∧ Below w.heap.size w w' := by
 have HC := hide fun W => check_any A c l W
 unfold incS
 by_cases hk : checkS l = 0
 ·obtain ⟨h1, h2⟩ := checkS_ok hk; rw [if_neg (by simpa using hk)]; rw [hk] at HC; clear hk
  by_cases hbad : i < 0 ∨ (l.length : Int) ≤ i
  ·rw [if_pos hbad]; have hcase : decide (i < 0) = true ∨ decide (i < 0) = false ∧ decide ((l.length : Int) ≤ i) = true := by
    simp only [decide_eq_true_eq, decide_eq_false_iff_not]; omega
   clear hbad; rcases hcase with q1 | ⟨q1, q2⟩
   all_goals
    go_enter Tryz.func64, Tryz.ntmps64
    go_wp2_with (go_at_call 67; refine (HC.out _).mono ?_; rintro e w2 ⟨rfl, rfl⟩)
    go_ret2
    exact ⟨none, 0, rfl, Nat.le_refl _, by simp [maxLen], ⟨Rd.nil _ _, fun _ _ h => by cases h⟩, Below.refl _ _⟩
  ·rw [if_neg hbad]; obtain ⟨j, rfl⟩ : ∃ j : Nat, i = j := ⟨i.toNat, by omega⟩; have q1 : decide ((j : Int) < 0) = false := decide_eq_false (by omega); have q2 : decide ((l.length : Int) ≤ j) = false := decide_eq_false (by omega); have q3 : decide (l.length ≤ j) = false := decide_eq_false (by omega); obtain ⟨b, o, rfl, hbl, hcell⟩ := h.at_ (i := 0) (by omega); have hjl : j < l.length := by omega
   obtain ⟨res, hres⟩ : ∃ r, r = inclF l j := ⟨_, rfl⟩; obtain ⟨i0, hi, hz0, hz1, hz2⟩ := info_parts infoU; rw [Int.toNat_natCast, ← hres]; have HRES := hide hres; have K := hide h; clear hbad hcell h hres
   go_enter Tryz.func64, Tryz.ntmps64
   go_wp2_with (go_at_call 67; refine (HC.out _).mono ?_; rintro e w2 ⟨rfl, rfl⟩)
   go_loopw [0, 1, 7, 8, 9] (fun u0 u1 u7 _ _ wr => ∃ (b' o' c' : Nat) (l' : List Int) (i' : Nat) (path : List Int), u0 = .slice (some ⟨b', o', none⟩) l'.length c' ∧ l'.length ≤ c' ∧ 1 ≤ l'.length ∧ u1 = .int .i64 i' ∧ i' < l'.length ∧ KS .u64 w (some ⟨b', o', none⟩) l' ∧ OwnK .u64 23 wr w.heap.size u7 path ∧ path.length + l'.length ≤ l.length ∧ inclF l' i' ++ path.reverse = res ∧ Below w.heap.size w wr) (fun u0 _ _ _ _ _ => lenV u0)
   case atStart => exact ⟨b, o, c, l, j, [], rfl, hc, h1, rfl, hjl, K.out, OwnK.nil, by simp, by simp [HRES.out], Below.refl _ _⟩
   case round =>
    clear K HRES hbl hc HC
    rename World => wo
    obtain ⟨b', o', c', l', i', path, rfl, hlc, hl1, rfl, hil, hks, ho, hpl, hpath, hb⟩ := hrel
    by_cases hn : 2 ≤ l'.length
    ·have d1 : decide (1 < (l'.length : Int)) = true := decide_eq_true (by omega); have d2 : decide (1 < l'.length) = true := decide_eq_true (by omega); obtain ⟨s1, s2, s3⟩ := hf_spec hn; have PP := hide fun W => parts_any b' o' c' l'.length W hn (by omega) hlc
     have K1 := hide (KS.pre hks (hf l'.length)); have K2 := hide (KS.shift hks (n := hf l'.length) (by omega)); have HB := hide hb; have HO := hide ho; have HL := hide (@inclF_left l' i' hn); have HR := hide (@inclF_right l' i' hn); have HP := hide hpath; have R1 := hide fun W (s : KS .u64 W (some ⟨b', o', none⟩) (l'.take (hf l'.length))) => root_any (hf l'.length) (some ⟨b', o', none⟩) (hf l'.length) _ W (by simp; omega) s1 (by omega) (Nat.le_refl _) s
     have R2 := hide fun W (s : KS .u64 W (some ⟨b', o' + hf l'.length, none⟩) (l'.drop (hf l'.length))) => root_any (l'.length - hf l'.length) (some ⟨b', o' + hf l'.length, none⟩) (l'.length - hf l'.length) _ W (by simp) (by omega) (by omega) (Nat.le_refl _) s
     clear hks hb ho hpath hlc; obtain ⟨k, hk⟩ : ∃ k, k = hf l'.length := ⟨_, rfl⟩; rw [← hk] at PP s1 s2 s3 K1 K2 HL HR R1 R2; clear hk
     by_cases hik : i' < k
     ·have d3 : decide ((i' : Int) < (k : Int)) = true := decide_eq_true (by omega); have d4 : decide (i' < k) = true := decide_eq_true (by omega); have HP2 := hide (show inclF (l'.take k) i' ++ (path ++ [rootF (l'.drop k)]).reverse = res by rw [← HP.out, HL.out hik]; simp); clear HL HR R1 HP
      go_wp2_with (first
       | (go_at_call 68; refine (PP.out _).mono ?_; rintro e w2 ⟨rfl, hb⟩; have HB := hide (HB.out.trans (hb.mono HB.out.size)); have HO := hide (HO.out.below hb); clear hb)
       | (go_at_call 69; with_reducible refine (R2.out _ (K2.out.then_ HB.out)).mono ?_; rintro e w3 ⟨rfl, hb⟩; have HB := hide (HB.out.trans (hb.mono HB.out.size)); have HO := hide (HO.out.below hb); clear hb)
       | (at_builtin; refine wpList_append_rd _ rfl _ _ 32 rfl w.heap.size 23 i0 _ 1 8 Tryz.underlying32 hi hz0 hz1 hz2 rfl (by decide) _ _ _ rfl (OwnK.below HO.out ((Below.refl _ _).alloc (Nat.le_refl _) _)) (some ⟨w3.heap.size, 0, none⟩) 1 1 [.int .u64 (rootF (l'.drop k))] rfl rfl (Rd.new_row _ _ _) (by simp [Value.oneCell']) (by simp only [maxLen]; omega) (by omega) (by have := HB.out.size; simp; omega) ?_; intro v' w6 hown' hgrow _; have HB6 := hide ((HB.out.alloc HB.out.size _).grown hgrow (by have := HB.out.size; simp; omega) (fun g hg => (HO.out.lt g hg).1)); have HO6 := hide (OwnK.snoc hown' rfl rfl); clear hown' hgrow))
      go_roundw
      case rel => exact ⟨b', o', k, l'.take k, i', path ++ [rootF (l'.drop k)], by rw [List.length_take, Nat.min_eq_left (by omega)], by simp; omega, by simp; omega, rfl, by rw [List.length_take, Nat.min_eq_left (by omega)]; exact hik, K1.out, HO6.out, by simp; omega, HP2.out, HB6.out⟩
      case measure => simp [lenV]; omega
     ·have d3 : decide ((i' : Int) < (k : Int)) = false := decide_eq_false (by omega); have d4 : decide (i' < k) = false := decide_eq_false (by omega); have HP2 := hide (show inclF (l'.drop k) (i' - k) ++ (path ++ [rootF (l'.take k)]).reverse = res by rw [← HP.out, HR.out hik]; simp); have p1 : (0 : Int) ≤ (i' : Int) - k := by omega
      have p2 : (i' : Int) - k ≤ 10000 := by omega
      have p3 := hide (show ((i' - k : Nat) : Int) = (i' : Int) - k by omega); clear HL HR R2 HP
      go_wp2_with (first
       | (go_at_call 68; refine (PP.out _).mono ?_; rintro e w2 ⟨rfl, hb⟩; have HB := hide (HB.out.trans (hb.mono HB.out.size)); have HO := hide (HO.out.below hb); clear hb)
       | (go_at_call 69; with_reducible refine (R1.out _ (K1.out.then_ HB.out)).mono ?_; rintro e w3 ⟨rfl, hb⟩; have HB := hide (HB.out.trans (hb.mono HB.out.size)); have HO := hide (HO.out.below hb); clear hb)
       | (at_builtin; refine wpList_append_rd _ rfl _ _ 32 rfl w.heap.size 23 i0 _ 1 8 Tryz.underlying32 hi hz0 hz1 hz2 rfl (by decide) _ _ _ rfl (OwnK.below HO.out ((Below.refl _ _).alloc (Nat.le_refl _) _)) (some ⟨w3.heap.size, 0, none⟩) 1 1 [.int .u64 (rootF (l'.take k))] rfl rfl (Rd.new_row _ _ _) (by simp [Value.oneCell']) (by simp only [maxLen]; omega) (by omega) (by have := HB.out.size; simp; omega) ?_; intro v' w6 hown' hgrow _; have HB6 := hide ((HB.out.alloc HB.out.size _).grown hgrow (by have := HB.out.size; simp; omega) (fun g hg => (HO.out.lt g hg).1)); have HO6 := hide (OwnK.snoc hown' rfl rfl); clear hown' hgrow))
      go_roundw
      case rel => exact ⟨b', o' + k, l'.length - k, l'.drop k, i' - k, path ++ [rootF (l'.take k)], by rw [List.length_drop], by simp, by simp; omega, by rw [p3.out], by simp; omega, K2.out, HO6.out, by simp; omega, HP2.out, HB6.out⟩
      case measure => simp [lenV]; omega
    ·have d1 : decide (1 < (l'.length : Int)) = false := decide_eq_false (by omega); have d2 : decide (1 < l'.length) = false := decide_eq_false (by omega); rw [show inclF l' i' = [] from inclT_one hn, List.nil_append] at hpath; subst hpath; obtain ⟨A7, c7, rfl, hl7, hm7, hk7⟩ := ho.form; have REV := hide (fun W (s : OwnK .u64 23 W w.heap.size (.slice A7 path.length c7) path) => revK_any w.heap.size A7 path.length c7 path W (by omega) s); have HO := hide ho; have HB := hide hb; clear hn hk7 ho hb hks
     go_wp2_with (go_at_call 70; refine (REV.out _ HO.out).mono ?_; rintro e w2 ⟨⟨_, rfl⟩, ho2, row, hg2, hr2⟩; have HO := hide ho2; have HB := hide (HB.out.grown hg2 HB.out.size hr2); clear ho2 hg2 hr2)
     go_ret2
     obtain ⟨A8, c8, h8, hl8, hm8, hk8⟩ := HO.out.form
     injection h8 with h8a h8b h8c
     subst h8a h8c; exact ⟨A7, c7, by rw [List.length_reverse]; rfl, hl8, hm8, ⟨hk8, HO.out.fresh⟩, HB.out⟩
 ·rw [if_pos hk]; obtain ⟨x, hx⟩ : ∃ x, x = checkS l := ⟨_, rfl⟩; rw [← hx] at HC hk ⊢; have q : (x != 0) = true := by simp [hk]
  clear hk hx
  go_enter Tryz.func64, Tryz.ntmps64
  go_wp2_with (go_at_call 67; refine (HC.out _).mono ?_; rintro e w2 ⟨rfl, rfl⟩)
  go_ret2
  exact ⟨none, 0, rfl, Nat.le_refl _, by simp [maxLen], ⟨Rd.nil _ _, fun _ _ h => by cases h⟩, Below.refl _ _⟩
end Go.Proofs.YtggaodokkcoagaaGreatDoor
