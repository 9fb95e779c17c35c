/-
  A walk by rules: what is known of the slots and of the world, and one rule for each kind of operation.
-/
import Derived.Test.YtficjpfhakggmaaBase
namespace Go.Proofs.Ytficjpfhakggmaa
open Go.RowKit
/-- runs by loads alone: takes the values that are loaded, gives what is asked of the cells -/
def sx {α : Type} (P : Program) : Sem α → List Value → Option (α × List (Addr × Value))
  | .pure a, [] => some (a, [])
  | .load _ a k, v :: vs => (sx P (k v) vs).map fun r => (r.1, (a, v) :: r.2)
  | .program k, vs => sx P (k P) vs
  | .mark _ k, vs => sx P k vs
  | _, _ => none
def Obs (w : World) : List (Addr × Value) → Prop
  | [] => True
  | p :: l => w.cell? p.1 = some p.2 ∧ Obs w l
theorem sx_run {α : Type} {P : Program} {w : World} : ∀ (s : Sem α) {vs : List Value} {r : α} {obs : List (Addr × Value)}, sx P s vs = some (r, obs) → Obs w obs → s.run P w = .ok r w := by
  intro s
  induction s with
  | pure a =>
    intro vs r obs h _
    cases vs with
    | nil => simp only [sx, Option.some.injEq, Prod.mk.injEq] at h; simp [Sem.run, h.1]
    | cons _ _ => simp [sx] at h
  | load m a k ih =>
    intro vs r obs h ho
    cases vs with
    | nil => simp [sx] at h
    | cons v vs =>
      simp only [sx, Option.map_eq_some_iff] at h
      obtain ⟨⟨r', obs'⟩, h1, h2⟩ := h
      simp only [Prod.mk.injEq] at h2
      obtain ⟨rfl, rfl⟩ := h2
      simp only [Sem.run, ho.1]
      exact ih v h1 ho.2
  | program k ih =>
    intro vs r obs h ho
    simp only [sx] at h
    simp only [Sem.run]
    exact ih P h ho
  | mark m k ih =>
    intro vs r obs h ho
    simp only [sx] at h
    simp only [Sem.run]
    exact ih h ho
  | _ => intro vs r obs h _; cases vs <;> simp [sx] at h
/-- makes one block, else without the world -/
def sn {α : Type} (P : Program) (g : Nat) : Sem α → Option (α × Obj)
  | .new o k => (sx P (k g) []).map fun r => (r.1, o)
  | .program k => sn P g (k P)
  | .mark _ k => sn P g k
  | _ => none
theorem sn_run {α : Type} {P : Program} {w : World} : ∀ (s : Sem α) {r : α} {o : Obj}, sn P w.heap.size s = some (r, o) → s.run P w = .ok r (w.alloc o) := by
  intro s
  induction s with
  | new o k =>
    intro r o' h
    simp only [sn, Option.map_eq_some_iff] at h
    obtain ⟨⟨r', obs⟩, h1, h2⟩ := h
    simp only [Prod.mk.injEq] at h2
    obtain ⟨rfl, rfl⟩ := h2
    have e : obs = [] := by
      have : ∀ {β : Type} (s : Sem β) {r : β} {obs : List (Addr × Value)}, sx P s [] = some (r, obs) → obs = [] := by
        intro β s
        induction s with
        | pure a => intro r obs h; simp only [sx, Option.some.injEq, Prod.mk.injEq] at h; exact h.2.symm
        | program k ih => intro r obs h; simp only [sx] at h; exact ih P h
        | mark m k ih => intro r obs h; simp only [sx] at h; exact ih h
        | _ => intro r obs h; simp [sx] at h
      exact this _ h1
    subst e
    simp only [Sem.run]
    exact sx_run (w := w.alloc o) (k w.heap.size) h1 trivial
  | program k ih => intro r o h; simp only [sn] at h; simp only [Sem.run]; exact ih P h
  | mark m k ih => intro r o h; simp only [sn] at h; simp only [Sem.run]; exact ih h
  | _ => intro r o h; simp [sn] at h
/-- runs by stores alone -/
def ss {α : Type} (P : Program) : Sem α → Option (α × List (Addr × Value))
  | .pure a => some (a, [])
  | .store _ a v k => match v.oneCell' with
    | true => (ss P k).map fun r => (r.1, (a, v) :: r.2)
    | false => none
  | .program k => ss P (k P)
  | .mark _ k => ss P k
  | _ => none
def stsW (w : World) (l : List (Addr × Value)) : World := l.foldl (fun w p => w.setCell p.1 p.2) w
theorem run_store1 {α : Type} {P : Program} {w : World} {m : Mode} {a : Addr} {v c : Value} {k : Sem α} (hv : v.oneCell' = true) (hc : w.cell? a = some c) (hf : w.frozen? a = false) : (Sem.store m a v k).run P w = k.run P (w.setCell a v) := by
  cases v <;> first | (simp [Value.oneCell'] at hv; done) | simp [Sem.run, hc, hf]
/-- stores into one block of cells -/
def sets (cs : Array Value) (l : List (Nat × Value)) : Array Value := l.foldl (fun cs p => cs.setIfInBounds p.1 p.2) cs
theorem ss_run {α : Type} {P : Program} {g : Nat} {t : TypeId} : ∀ (s : Sem α) {w : World} {cs : Array Value} {r : α} {l : List (Nat × Value)}, Blk w g t cs → ss P s = some (r, l.map fun p => (⟨g, p.1, none⟩, p.2)) → l.all (fun p => Nat.blt p.1 cs.size) = true →
    s.run P w = .ok r (stsW w (l.map fun p => (⟨g, p.1, none⟩, p.2))) ∧ Blk (stsW w (l.map fun p => (⟨g, p.1, none⟩, p.2))) g t (sets cs l) := by
  intro s
  induction s with
  | pure a =>
    intro w cs r l hb h _
    simp only [ss, Option.some.injEq, Prod.mk.injEq] at h
    obtain ⟨rfl, h2⟩ := h
    have e : l = [] := by cases l with | nil => rfl | cons _ _ => simp at h2
    subst e
    exact ⟨rfl, hb⟩
  | store m a v k ih =>
    intro w cs r l hb h hl
    unfold ss at h
    cases hv : v.oneCell' with
    | false => rw [hv] at h; simp at h
    | true =>
      rw [hv] at h
      simp only [Option.map_eq_some_iff] at h
      obtain ⟨⟨r', l'⟩, h1, h2⟩ := h
      cases l with
      | nil => simp at h2
      | cons p l =>
        obtain ⟨i, u⟩ := p
        simp only [List.map_cons, Prod.mk.injEq, List.cons.injEq] at h2
        obtain ⟨rfl, ⟨rfl, rfl⟩, rfl⟩ := h2
        simp only [List.all_cons, Bool.and_eq_true] at hl
        have hi : i < cs.size := by have := hl.1; rwa [Nat.blt_eq] at this
        have hc : w.cell? ⟨g, i, none⟩ = some cs[i] := by rw [hb.cell, Array.getElem?_eq_getElem hi]
        have hb' : Blk (w.setCell ⟨g, i, none⟩ v) g t (cs.setIfInBounds i v) := hb.set_ i v
        have := ih hb' h1 (by
          rw [List.all_eq_true] at hl ⊢
          intro q hq
          have := hl.2 q hq
          simpa using this)
        rw [run_store1 hv hc (hb.frozen i)]
        exact this
  | program k ih => intro w cs r l hb h hl; simp only [ss] at h; simp only [Sem.run]; exact ih P hb h hl
  | mark m k ih => intro w cs r l hb h hl; simp only [ss] at h; simp only [Sem.run]; exact ih hb h hl
  | _ => intro w cs r l _ h _; simp [ss] at h
theorem stsW_other {g : Nat} : ∀ (l : List (Nat × Value)) {w : World}, (stsW w (l.map fun p => (⟨g, p.1, none⟩, p.2))).heap.size = w.heap.size ∧ (∀ k, k ≠ g → (stsW w (l.map fun p => (⟨g, p.1, none⟩, p.2))).heap[k]? = w.heap[k]?) ∧ Below g w (stsW w (l.map fun p => (⟨g, p.1, none⟩, p.2)))
  | [], w => ⟨rfl, fun _ _ => rfl, Below.refl _ _⟩
  | p :: l, w' => by
    have h := stsW_other (g := g) l (w := w'.setCell ⟨g, p.1, none⟩ p.2)
    refine ⟨h.1.trans (by simp [World.setCell]), fun k hk => (h.2.1 k hk).trans (Below.heap_setCell _ _ _ _ hk), ((Below.refl _ _).setCell (p := ⟨g, p.1, none⟩) (Nat.le_refl _) _).trans h.2.2⟩
/-! what is known of the slots -/
def look : List (Nat × Value) → Nat → Option Value
  | [], _ => none
  | p :: l, j => match Nat.beq p.1 j with
    | true => some p.2
    | false => look l j
def rho (K : List (Nat × Value)) (J : Nat → Value) : Operand → Value
  | .tmp t => match look K t with
    | some v => v
    | none => J t
  | .const v => v
  | .global g => .pointer (some ⟨g, 0, none⟩)
  | .func f => .func (.func f) #[] #[]
structure Kn (n : Nat) (K : List (Nat × Value)) (a : Act) : Prop where
  d : a.defers = []
  s : a.tmps.size = n
  k : ∀ i v, look K i = some v → a.tmps[i]? = some v
section
variable {n : Nat} {K K' : List (Nat × Value)} {a : Act} {P : Program} {w w0 : World} {ops : Array Oper} {Q : Exit → Act → World → Prop} {o : Oper} {rest : List Oper} {d : Nat} {v v' : Value}
theorem Kn.slot (h : Kn n K a) : (fun t => a.tmps.getD t undef) = fun t => rho K (fun t => a.tmps.getD t undef) (.tmp t) := by
  funext t
  show _ = match look K t with
    | some v => v
    | none => a.tmps.getD t undef
  cases hl : look K t with
  | none => rfl
  | some v => have := h.k t v hl; simp [Array.getD_eq_getD_getElem?, this]
theorem Kn.eval (h : Kn n K a) : a.eval = rho K (fun t => a.tmps.getD t undef) := by
  funext x
  cases x with
  | tmp t => exact congrFun h.slot t
  | _ => rfl
theorem Kn.put (h : Kn n K a) (hd : Nat.blt d n = true) (v : Value) : Kn n ((d, v) :: K) (a.put (some d) v) := by
  have hd' : d < n := by rwa [Nat.blt_eq] at hd
  refine ⟨h.d, by simpa [Act.put] using h.s, fun i u hu => ?_⟩
  unfold look at hu
  simp only [Act.put]
  cases hb : Nat.beq d i with
  | true =>
    rw [hb] at hu
    have e : d = i := Nat.eq_of_beq_eq_true hb
    subst e
    simp only [Option.some.injEq] at hu
    subst hu
    rw [Array.getElem?_setIfInBounds_self_of_lt (by rw [h.s]; exact hd')]
  | false =>
    rw [hb] at hu
    have e : d ≠ i := Nat.ne_of_beq_eq_false hb
    rw [Array.getElem?_setIfInBounds_ne e]
    exact h.k i u hu
def inK (K : List (Nat × Value)) : List (Nat × Value) → Prop
  | [] => True
  | p :: l => look K p.1 = some p.2 ∧ inK K l
theorem inK_look : ∀ {K' : List (Nat × Value)}, inK K K' → ∀ i v, look K' i = some v → look K i = some v
  | [], _, i, v, h => by simp [look] at h
  | p :: l, hi, i, v, h => by
    unfold look at h
    cases hb : Nat.beq p.1 i with
    | true =>
      rw [hb] at h
      have e : p.1 = i := Nat.eq_of_beq_eq_true hb
      simp only [Option.some.injEq] at h
      subst e
      rw [← h]
      exact hi.1
    | false =>
      rw [hb] at h
      exact inK_look hi.2 i v h
theorem Kn.weak (h : Kn n K a) (hs : inK K K') : Kn n K' a := ⟨h.d, h.s, fun i v hv => h.k i v (inK_look hs i v hv)⟩
theorem Kn.sub (h : Kn n K a) (hl : look K d = some v) (hv : v = v') : Kn n ((d, v') :: K) a := by
  refine ⟨h.d, h.s, fun i u hu => ?_⟩
  unfold look at hu
  cases hb : Nat.beq d i with
  | true =>
    rw [hb] at hu
    have e : d = i := Nat.eq_of_beq_eq_true hb
    simp only [Option.some.injEq] at hu
    subst e
    rw [← hu, ← hv]
    exact h.k _ _ hl
  | false => rw [hb] at hu; exact h.k i u hu
def gd (ops : Array Oper) (K : List (Nat × Value)) (o : Oper) : Option Bool :=
  match o.guard with
  | none => some true
  | some (j, want) => match (ops[j]?).bind (·.dst) with
    | none => none
    | some d => match look K d with
      | some (.bool c) => some (c == want)
      | some _ => some false
      | none => none
theorem Kn.wanted (h : Kn n K a) {b : Bool} (hg : gd ops K o = some b) : Region.wanted o (yielded ops a.tmps) = b := by
  unfold gd at hg
  unfold Region.wanted
  split at hg
  · next hgd => rw [hgd]; simpa using hg
  · next j want hgd =>
    rw [hgd]
    split at hg
    · simp at hg
    · next d hd =>
      split at hg
      · next c hc =>
        have := h.k _ _ hc
        simp only [yielded, hd, Option.bind_some, this, Option.some.injEq] at hg ⊢
        rw [← hg]
        rfl
      · next u hnb hc =>
        have := h.k _ _ hc
        simp only [Option.some.injEq] at hg
        subst hg
        simp only [yielded, hd, Option.bind_some, this]
        cases u <;> first | rfl | exact absurd rfl (hnb _)
      · simp at hg
/-! what is known of the world -/
inductive It where
  | blk (g : Nat) (t : TypeId) (cs : Array Value)
  | own (e : TypeId) (m : Nat) (v : Value) (k : Nat) (xs : List Value)
  | dat (p : World → Prop)
def apart (x : Option Nat) : List It → Prop
  | [] => True
  | .own _ _ v _ _ :: l => (∀ k, x = some k → v.ownBlock ≠ some k) ∧ apart x l
  | _ :: l => apart x l
/-- p holds, and goes on to hold as long as nothing below m turns -/
def Dt (p : World → Prop) (m : Nat) (w : World) : Prop := ∀ W, Below m w W → p W
/-- the facts, the latest first; all that they speak of lies below n -/
def Ok (B : Nat) (w : World) : Nat → List It → Prop
  | n, [] => B ≤ n
  | n, .blk g t cs :: l => g < n ∧ Blk w g t cs ∧ apart (some g) l ∧ Ok B w g l
  | n, .own e m v k xs :: l => ∃ b, b ≤ n ∧ w.ownsRow b e m v k xs ∧ apart v.ownBlock l ∧ Ok B w b l
  | n, .dat p :: l => ∃ m, m ≤ n ∧ Dt p m w ∧ Ok B w m l
structure Ev (w0 w : World) (l : List It) : Prop where
  b : Below w0.heap.size w0 w
  k : Ok w0.heap.size w w.heap.size l
theorem Ok.le {B : Nat} {w : World} : ∀ {l : List It} {n : Nat}, Ok B w n l → B ≤ n
  | [], _, h => h
  | .blk g _ _ :: l, n, h => Nat.le_trans (Ok.le h.2.2.2) (Nat.le_of_lt h.1)
  | .own _ _ _ _ _ :: l, n, h => by obtain ⟨b, h1, _, _, h4⟩ := h; exact Nat.le_trans (Ok.le h4) h1
  | .dat _ :: l, n, h => by obtain ⟨m, h1, _, h3⟩ := h; exact Nat.le_trans (Ok.le h3) h1
theorem Ok.mono {B : Nat} {w : World} : ∀ {l : List It} {n n' : Nat}, Ok B w n l → n ≤ n' → Ok B w n' l
  | [], _, _, h, hn => Nat.le_trans h hn
  | .blk g _ _ :: l, n, n', h, hn => ⟨Nat.lt_of_lt_of_le h.1 hn, h.2⟩
  | .own _ _ _ _ _ :: l, n, n', h, hn => by obtain ⟨b, h1, h2⟩ := h; exact ⟨b, Nat.le_trans h1 hn, h2⟩
  | .dat _ :: l, n, n', h, hn => by obtain ⟨m, h1, h2⟩ := h; exact ⟨m, Nat.le_trans h1 hn, h2⟩
theorem own_keep {w w' : World} {b : Nat} {e : TypeId} {m n : Nat} {v : Value} {xs : List Value} (h : w.ownsRow b e m v n xs) (hk : ∀ k, v.ownBlock = some k → w'.heap[k]? = w.heap[k]?) : w'.ownsRow b e m v n xs := by
  obtain ⟨h1, h2⟩ := h
  refine ⟨h1, ?_⟩
  rcases h2 with h2 | ⟨g, cap, cur, hv, hg, hh, r⟩
  · exact Or.inl h2
  · exact Or.inr ⟨g, cap, cur, hv, hg, by rw [hk g (by rw [hv]; rfl)]; exact hh, r⟩
theorem own_lt {w : World} {b : Nat} {e : TypeId} {m n : Nat} {v : Value} {xs : List Value} (h : w.ownsRow b e m v n xs) {k : Nat} (hk : v.ownBlock = some k) : b ≤ k ∧ k < w.heap.size := by
  rcases h.2 with ⟨rfl, _⟩ | ⟨g, cap, cur, rfl, hg, hh, _⟩
  · cases hk
  · injection hk with hk
    subst hk
    exact ⟨hg, (Array.getElem?_eq_some_iff.1 hh).1⟩
/-- what turns no old block keeps all -/
theorem Ok.keep {B : Nat} {w w' : World} (hb : Below w.heap.size w w') : ∀ {l : List It} {n : Nat}, n ≤ w.heap.size → Ok B w n l → Ok B w' n l
  | [], _, _, h => h
  | .blk g _ _ :: l, n, hn, h => ⟨h.1, h.2.1.below hb (Nat.lt_of_lt_of_le h.1 hn), h.2.2.1, Ok.keep hb (by have := h.1; omega) h.2.2.2⟩
  | .own _ _ v _ _ :: l, n, hn, h => by
    obtain ⟨b, h1, h2, h3, h4⟩ := h
    exact ⟨b, h1, own_keep h2 (fun k hk => hb.block k (own_lt h2 hk).2), h3, Ok.keep hb (by omega) h4⟩
  | .dat p :: l, n, hn, h => by
    obtain ⟨m, h1, h2, h3⟩ := h
    exact ⟨m, h1, fun W hW => h2 W ((hb.mono (by omega)).trans hW), Ok.keep hb (by omega) h3⟩
variable {l l' : List It}
theorem Ev.start (w : World) : Ev w w [] := ⟨Below.refl _ _, Nat.le_refl _⟩
theorem Ev.call (h : Ev w0 w l) {w' : World} (hb : Below w.heap.size w w') : Ev w0 w' l := ⟨h.b.trans (hb.mono (h.b.size)), (Ok.keep hb (Nat.le_refl _) h.k).mono hb.size⟩
theorem Ev.dat (h : Ev w0 w l) {p : World → Prop} (hp : ∀ W, Below w.heap.size w W → p W) : Ev w0 w (.dat p :: l) := ⟨h.b, w.heap.size, Nat.le_refl _, hp, h.k⟩
theorem Ev.own0 (h : Ev w0 w l) (e : TypeId) (m : Nat) : Ev w0 w (.own e m (.slice none 0 0) 0 [] :: l) := ⟨h.b, w.heap.size, Nat.le_refl _, ⟨by simp, .inl ⟨rfl, rfl⟩⟩, by
  have : ∀ l : List It, apart (Value.slice none 0 0).ownBlock l := by
    intro l
    induction l with
    | nil => trivial
    | cons x l ih => cases x with
      | own _ _ _ _ _ => exact ⟨fun k hk => (by cases hk), ih⟩
      | _ => exact ih
  exact this l, h.k⟩
theorem Ok.apart_new {B : Nat} {w : World} {g : Nat} (hg : w.heap.size ≤ g) : ∀ {l : List It} {n : Nat}, Ok B w n l → apart (some g) l
  | [], _, _ => trivial
  | .blk _ _ _ :: l, n, h => Ok.apart_new (l := l) hg h.2.2.2
  | .dat _ :: l, n, h => by obtain ⟨m, _, _, h3⟩ := h; exact Ok.apart_new (l := l) hg h3
  | .own _ _ v _ _ :: l, n, h => by
    obtain ⟨b, h1, h2, h3, h4⟩ := h
    refine ⟨fun k hk hv => ?_, Ok.apart_new (l := l) hg h4⟩
    injection hk with hk
    have := (own_lt h2 hv).2
    omega
theorem Ev.alloc (h : Ev w0 w l) (cs : Array Value) (t : TypeId) : Ev w0 (w.alloc (.cells cs t)) (.blk w.heap.size t cs :: l) := by
  have hb : Below w.heap.size w (w.alloc (.cells cs t)) := (Below.refl _ _).alloc (Nat.le_refl _) _
  refine ⟨h.b.trans (hb.mono h.b.size), by simp, Blk.new _ _ _, ?_, Ok.keep hb (Nat.le_refl _) h.k⟩
  exact Ok.apart_new (Nat.le_refl _) h.k
theorem Ok.get {B : Nat} {w : World} : ∀ {l : List It} {n : Nat} (i : Nat) {x : It}, Ok B w n l → l[i]? = some x → match x with
    | .blk g t cs => Blk w g t cs ∧ B ≤ g
    | .own e m v k xs => ∃ b, B ≤ b ∧ w.ownsRow b e m v k xs
    | .dat p => p w
  | [], _, i, x, _, hx => by simp at hx
  | y :: l, n, 0, x, h, hx => by
    simp only [List.getElem?_cons_zero, Option.some.injEq] at hx
    subst hx
    cases y with
    | blk g t cs => exact ⟨h.2.1, h.2.2.2.le⟩
    | own e m v k xs => obtain ⟨b, _, h2, _, h4⟩ := h; exact ⟨b, h4.le, h2⟩
    | dat p => obtain ⟨m, _, h2, _⟩ := h; exact h2 w (Below.refl _ _)
  | y :: l, n, i + 1, x, h, hx => by
    simp only [List.getElem?_cons_succ] at hx
    cases y with
    | blk g t cs => exact Ok.get i h.2.2.2 hx
    | own e m v k xs => obtain ⟨b, _, _, _, h4⟩ := h; exact Ok.get i h4 hx
    | dat p => obtain ⟨m, _, _, h3⟩ := h; exact Ok.get i h3 hx
theorem Ev.blk (h : Ev w0 w l) (i : Nat) {g : Nat} {t : TypeId} {cs : Array Value} (hi : l[i]? = some (.blk g t cs)) : Blk w g t cs := (Ok.get i h.k hi).1
theorem Ev.get (h : Ev w0 w l) (i : Nat) {p : World → Prop} (hi : l[i]? = some (.dat p)) : p w := Ok.get i h.k hi
theorem Ev.row (h : Ev w0 w l) (i : Nat) {e : TypeId} {m k : Nat} {v : Value} {xs : List Value} (hi : l[i]? = some (.own e m v k xs)) : ∃ b, w0.heap.size ≤ b ∧ w.ownsRow b e m v k xs := Ok.get i h.k hi
/-- a store into the block at i: the facts behind it, if none of the later ones is of data -/
def setAt (cs : Array Value) : Nat → List It → Option (List It)
  | 0, .blk g t _ :: l => some (.blk g t cs :: l)
  | i + 1, .blk g t c :: l => (setAt cs i l).map fun l' => .blk g t c :: l'
  | i + 1, .own e m v k xs :: l => (setAt cs i l).map fun l' => .own e m v k xs :: l'
  | _, _ => none
theorem apart_set {cs : Array Value} : ∀ {i : Nat} {l l' : List It}, setAt cs i l = some l' → ∀ x, apart x l → apart x l'
  | 0, .blk g t c :: l, l', h, x, ha => by simp only [setAt, Option.some.injEq] at h; subst h; exact ha
  | i + 1, .blk g t c :: l, l', h, x, ha => by
    simp only [setAt, Option.map_eq_some_iff] at h
    obtain ⟨m, h1, rfl⟩ := h
    exact apart_set h1 x ha
  | i + 1, .own e m v k xs :: l, l', h, x, ha => by
    simp only [setAt, Option.map_eq_some_iff] at h
    obtain ⟨m, h1, rfl⟩ := h
    exact ⟨ha.1, apart_set h1 x ha.2⟩
theorem apart_of : ∀ {l : List It} {x : Nat} {i : Nat} {e : TypeId} {m k : Nat} {v : Value} {xs : List Value}, apart (some x) l → l[i]? = some (.own e m v k xs) → v.ownBlock ≠ some x
  | .own _ _ _ _ _ :: l, x, 0, e, m, k, v, xs, h, hi => by
    simp only [List.getElem?_cons_zero, Option.some.injEq, It.own.injEq] at hi
    obtain ⟨_, _, rfl, _, _⟩ := hi
    exact h.1 x rfl
  | .own _ _ _ _ _ :: l, x, i + 1, e, m, k, v, xs, h, hi => apart_of (l := l) h.2 (by simpa using hi)
  | .blk _ _ _ :: l, x, 0, e, m, k, v, xs, h, hi => by simp at hi
  | .dat _ :: l, x, 0, e, m, k, v, xs, h, hi => by simp at hi
  | .blk _ _ _ :: l, x, i + 1, e, m, k, v, xs, h, hi => apart_of (l := l) h (by simpa using hi)
  | .dat _ :: l, x, i + 1, e, m, k, v, xs, h, hi => apart_of (l := l) h (by simpa using hi)
theorem Ok.low {B : Nat} {w w' : World} {g : Nat} (hk : ∀ k, k ≠ g → w'.heap[k]? = w.heap[k]?) (hbg : Below g w w') : ∀ {l : List It} {n : Nat}, n ≤ g → apart (some g) l → Ok B w n l → Ok B w' n l
  | [], _, _, _, h => h
  | .blk _ _ _ :: l, n, hn, ha, h => ⟨h.1, h.2.1.below hbg (by have := h.1; omega), h.2.2.1, Ok.low hk hbg (by have := h.1; omega) ha h.2.2.2⟩
  | .own _ _ v _ _ :: l, n, hn, ha, h => by
    obtain ⟨b, h1, h2, h3, h4⟩ := h
    exact ⟨b, h1, own_keep h2 (fun k hk' => hk k (fun e => ha.1 g rfl (e ▸ hk'))), h3, Ok.low hk hbg (by omega) ha.2 h4⟩
  | .dat _ :: l, n, hn, ha, h => by
    obtain ⟨m, h1, h2, h3⟩ := h
    exact ⟨m, h1, fun W hW => h2 W ((hbg.mono (by omega)).trans hW), Ok.low hk hbg (by omega) ha h3⟩
theorem Ok.lt_of {B : Nat} {w : World} : ∀ {l : List It} {n i : Nat} {g : Nat} {t : TypeId} {cs : Array Value}, Ok B w n l → l[i]? = some (.blk g t cs) → g < n
  | [], _, i, _, _, _, _, hi => by simp at hi
  | .blk _ _ _ :: l, n, 0, g, t, cs, h, hi => by
    simp only [List.getElem?_cons_zero, Option.some.injEq, It.blk.injEq] at hi
    obtain ⟨rfl, _, _⟩ := hi
    exact h.1
  | .own _ _ _ _ _ :: l, n, 0, g, t, cs, h, hi => by simp at hi
  | .dat _ :: l, n, 0, g, t, cs, h, hi => by simp at hi
  | .blk _ _ _ :: l, n, i + 1, g, t, cs, h, hi => Nat.lt_trans (Ok.lt_of h.2.2.2 (by simpa using hi)) h.1
  | .own _ _ _ _ _ :: l, n, i + 1, g, t, cs, h, hi => by obtain ⟨b, h1, _, _, h4⟩ := h; exact Nat.lt_of_lt_of_le (Ok.lt_of h4 (by simpa using hi)) h1
  | .dat _ :: l, n, i + 1, g, t, cs, h, hi => by obtain ⟨b, h1, _, h4⟩ := h; exact Nat.lt_of_lt_of_le (Ok.lt_of h4 (by simpa using hi)) h1
theorem Ok.set {B : Nat} {w w' : World} {g : Nat} {t : TypeId} {cs0 cs : Array Value} (hk : ∀ k, k ≠ g → w'.heap[k]? = w.heap[k]?) (hbg : Below g w w') (hn : Blk w' g t cs) :
    ∀ {l l' : List It} {n i : Nat}, Ok B w n l → l[i]? = some (.blk g t cs0) → setAt cs i l = some l' → Ok B w' n l'
  | [], _, _, i, _, hi, _ => by simp at hi
  | .dat _ :: l, l', n, i, h, hi, hs => by cases i <;> simp [setAt] at hs
  | .own _ _ _ _ _ :: l, l', n, 0, h, hi, hs => by simp [setAt] at hs
  | .blk g' t' c' :: l, l', n, 0, h, hi, hs => by
    simp only [List.getElem?_cons_zero, Option.some.injEq, It.blk.injEq] at hi
    obtain ⟨rfl, rfl, _⟩ := hi
    simp only [setAt, Option.some.injEq] at hs
    subst hs
    exact ⟨h.1, hn, h.2.2.1, Ok.low hk hbg (Nat.le_refl _) h.2.2.1 h.2.2.2⟩
  | .blk g' t' c' :: l, l', n, i + 1, h, hi, hs => by
    simp only [setAt, Option.map_eq_some_iff] at hs
    obtain ⟨m, h1, rfl⟩ := hs
    have hi' : l[i]? = some (.blk g t cs0) := by simpa using hi
    have hlt := Ok.lt_of h.2.2.2 hi'
    exact ⟨h.1, (hk g' (by omega)).trans h.2.1, apart_set h1 _ h.2.2.1, Ok.set hk hbg hn h.2.2.2 hi' h1⟩
  | .own e m v k xs :: l, l', n, i + 1, h, hi, hs => by
    simp only [setAt, Option.map_eq_some_iff] at hs
    obtain ⟨m', h1, rfl⟩ := hs
    have hi' : l[i]? = some (.blk g t cs0) := by simpa using hi
    obtain ⟨b, h2, h3, h4, h5⟩ := h
    have hlt := Ok.lt_of h5 hi'
    exact ⟨b, h2, own_keep h3 (fun j hj => hk j (by have := (own_lt h3 hj).1; omega)), apart_set h1 _ h4, Ok.set hk hbg hn h5 hi' h1⟩
/-- a store into the block at i -/
theorem Ev.set (h : Ev w0 w l) {g : Nat} {t : TypeId} {cs : Array Value} (i : Nat) (hi : l[i]? = some (.blk g t cs)) (ivs : List (Nat × Value)) (hl : setAt (sets cs ivs) i l = some l')
    (hb : Blk (stsW w (ivs.map fun p => (⟨g, p.1, none⟩, p.2))) g t (sets cs ivs)) : Ev w0 (stsW w (ivs.map fun p => (⟨g, p.1, none⟩, p.2))) l' := by
  have ho := stsW_other (g := g) ivs (w := w)
  have hg := (Ok.get i h.k hi).2
  refine ⟨h.b.trans (ho.2.2.mono hg), ?_⟩
  rw [ho.1]
  exact Ok.set ho.2.1 ho.2.2 hb h.k hi hl
/-- fewer facts -/
theorem Ok.drop {B : Nat} {w : World} : ∀ {l l' : List It} {n : Nat}, List.Sublist l' l → Ok B w n l → Ok B w n l' := by
  have ap : ∀ {l l' : List It}, List.Sublist l' l → ∀ x, apart x l → apart x l' := by
    intro l l' hs
    induction hs with
    | slnil => intro _ h; exact h
    | cons y _ ih => intro x h; cases y with
      | own _ _ _ _ _ => exact ih x h.2
      | _ => exact ih x h
    | cons_cons y _ ih => intro x h; cases y with
      | own _ _ _ _ _ => exact ⟨h.1, ih x h.2⟩
      | _ => exact ih x h
  intro l l' n hs
  induction hs generalizing n with
  | slnil => intro h; exact h
  | cons y _ ih => intro h; cases y with
    | blk g t cs => exact (ih h.2.2.2).mono (Nat.le_of_lt h.1)
    | own e m v k xs => obtain ⟨b, h1, _, _, h4⟩ := h; exact (ih h4).mono h1
    | dat p => obtain ⟨b, h1, _, h4⟩ := h; exact (ih h4).mono h1
  | cons_cons y hs ih => intro h; cases y with
    | blk g t cs => exact ⟨h.1, h.2.1, ap hs _ h.2.2.1, ih h.2.2.2⟩
    | own e m v k xs => obtain ⟨b, h1, h2, h3, h4⟩ := h; exact ⟨b, h1, h2, ap hs _ h3, ih h4⟩
    | dat p => obtain ⟨b, h1, h2, h4⟩ := h; exact ⟨b, h1, h2, ih h4⟩
theorem Ev.drop (h : Ev w0 w l) (hs : List.Sublist l' l) : Ev w0 w l' := ⟨h.b, Ok.drop hs h.k⟩
/-! the rules -/
theorem st_of (hK : Kn n K a) {b : Bool} (hg : gd ops K o = some b) (h : if b = true then o.wp P a w (wpList P ops Q rest) Q else wpList P ops Q rest (a.put o.dst undef) w) : wpList P ops Q (o :: rest) a w := by
  refine wpList_step fun Kx hx => ?_
  rw [hK.wanted hg]
  cases b with
  | true =>
    simp only [if_true] at h ⊢
    unfold Oper.wp Oper.upon at h ⊢
    revert h
    split <;> first | exact hx _ _ | exact id | (intro h; refine h.mono fun e w' hr => ?_; cases e <;> first | exact hx _ _ hr | exact hr) | (intro h; exact Rows.mono h fun v w' hr => hx _ _ hr) | (intro h; exact h)
  | false => simpa using hx _ _ (by simpa using h)
theorem st_op {vs : List Value} {obs : List (Addr × Value)} (hK : Kn n K a) (hg : gd ops K o = some true) (he : ∀ J, sx P (execOp (rho K J) o) vs = some (.value v', obs)) (ho : Obs w obs) (hv : v' = v) (hd : o.dst = some d) (hn : Nat.blt d n = true)
    (h : ∀ a', Kn n ((d, v) :: K) a' → wpList P ops Q rest a' w) : wpList P ops Q (o :: rest) a w := by
  refine st_of hK hg ?_
  rw [if_pos rfl]
  unfold Oper.wp Oper.upon
  rw [hK.eval, sx_run _ (he _) ho, hd, hv]
  exact h _ (hK.put hn v)
theorem st_skip (hK : Kn n K a) (hg : gd ops K o = some false) (hd : o.dst = some d) (hn : Nat.blt d n = true) (h : ∀ a', Kn n ((d, undef) :: K) a' → wpList P ops Q rest a' w) : wpList P ops Q (o :: rest) a w := by
  refine st_of hK hg ?_
  rw [if_neg (by simp), hd]
  exact h _ (hK.put hn undef)
theorem st_skip0 (hK : Kn n K a) (hg : gd ops K o = some false) (hd : o.dst = none) (h : wpList P ops Q rest a w) : wpList P ops Q (o :: rest) a w := by
  refine st_of hK hg ?_
  rw [if_neg (by simp), hd]
  exact h
theorem st_new {v : Nat → Value} {cs : Array Value} {t : TypeId} (hK : Kn n K a) (hE : Ev w0 w l) (hg : gd ops K o = some true) (he : ∀ J g, sn P g (execOp (rho K J) o) = some (.value (v g), .cells cs t)) (hd : o.dst = some d) (hn : Nat.blt d n = true)
    (h : ∀ a' g w', Below w.heap.size w w' → w.heap.size = g → Kn n ((d, v g) :: K) a' → Ev w0 w' (.blk g t cs :: l) → wpList P ops Q rest a' w') : wpList P ops Q (o :: rest) a w := by
  refine st_of hK hg ?_
  rw [if_pos rfl]
  unfold Oper.wp Oper.upon
  rw [hK.eval, sn_run _ (he _ _), hd]
  exact h _ _ _ ((Below.refl _ _).alloc (Nat.le_refl _) _) rfl (hK.put hn _) (hE.alloc cs t)
theorem st_store {g : Nat} {t : TypeId} {cs : Array Value} (i : Nat) (ivs : List (Nat × Value)) (hK : Kn n K a) (hE : Ev w0 w l) (hg : gd ops K o = some true) (hi : l[i]? = some (.blk g t cs))
    (he : ∀ J, ss P (execOp (rho K J) o) = some (.skip, ivs.map fun p => (⟨g, p.1, none⟩, p.2))) (hin : ivs.all (fun p => Nat.blt p.1 cs.size) = true) (hl : setAt (sets cs ivs) i l = some l') (hd : o.dst = none)
    (h : ∀ w', Ev w0 w' l' → wpList P ops Q rest a w') : wpList P ops Q (o :: rest) a w := by
  refine st_of hK hg ?_
  rw [if_pos rfl]
  have hr := ss_run (P := P) _ (hE.blk i hi) (he (fun t => a.tmps.getD t undef)) hin
  unfold Oper.wp Oper.upon
  rw [hK.eval, hr.1, hd]
  exact h _ (hE.set i hi ivs hl hr.2)
theorem st_call {f : FuncId} {args : Array Value} {R : Ending → World → Prop} (hK : Kn n K a) (hg : gd ops K o = some true) (he : ∀ J, sx P (execOp (rho K J) o) [] = some (.enter f args, [])) (hd : o.dst = some d) (hn : Nat.blt d n = true)
    (hc : Calls P f args w R) (h : ∀ e w', R e w' → ∃ v, e = .returned v ∧ ∀ a', Kn n ((d, v) :: K) a' → wpList P ops Q rest a' w') : wpList P ops Q (o :: rest) a w := by
  refine st_of hK hg ?_
  rw [if_pos rfl]
  unfold Oper.wp Oper.upon
  rw [hK.eval, sx_run _ (he _) trivial, hd]
  refine hc.mono fun e w' hr => ?_
  obtain ⟨v, rfl, hk⟩ := h e w' hr
  exact hk _ (hK.put hn v)
/-! regions that draw their order and only read: whatever their calls make lies above B -/
theorem qs_op {B : Nat} {Q : Act → Prop} {vs : List Value} {obs : List (Addr × Value)} (hK : Kn n K a) (hg : gd ops K o = some true) (he : ∀ J, sx P (execOp (rho K J) o) vs = some (.value v', obs)) (ho : ∀ x : Fut B w, Obs x.v obs) (hv : v' = v) (hd : o.dst = some d) (hn : Nat.blt d n = true)
    (h : ∀ a', Kn n ((d, v) :: K) a' → wpQuiet P ops (fun w' => ∃ x : Fut B w, w' = x.v) Q rest a') : wpQuiet P ops (fun w' => ∃ x : Fut B w, w' = x.v) Q (o :: rest) a := by
  refine wpQuiet_step fun Kx hx => ?_
  rw [hK.wanted hg, if_pos rfl]
  refine ⟨v, ?_, hx _ (by rw [hd]; exact h _ (hK.put hn v))⟩
  rintro _ ⟨x, rfl⟩
  unfold Oper.quietAt
  rw [hK.eval, sx_run _ (he _) (ho x), hv]
  exact ⟨rfl, rfl⟩
theorem qs_skip {C : World → Prop} {Q : Act → Prop} (hK : Kn n K a) (hg : gd ops K o = some false) (hd : o.dst = some d) (hn : Nat.blt d n = true) (h : ∀ a', Kn n ((d, undef) :: K) a' → wpQuiet P ops C Q rest a') : wpQuiet P ops C Q (o :: rest) a := by
  refine wpQuiet_step fun Kx hx => ?_
  rw [hK.wanted hg, if_neg (by simp), hd]
  exact hx _ (h _ (hK.put hn undef))
theorem qs_call {B : Nat} {Q : Act → Prop} {f : FuncId} {args : Array Value} (hK : Kn n K a) (hg : gd ops K o = some true) (he : ∀ J, sx P (execOp (rho K J) o) [] = some (.enter f args, [])) (hd : o.dst = some d) (hn : Nat.blt d n = true)
    (hc : ∀ x : Fut B w, Calls P f args x.v fun e w' => e = .returned v ∧ ∃ y : Fut B w, w' = y.v) (h : ∀ a', Kn n ((d, v) :: K) a' → wpQuiet P ops (fun w' => ∃ x : Fut B w, w' = x.v) Q rest a') : wpQuiet P ops (fun w' => ∃ x : Fut B w, w' = x.v) Q (o :: rest) a := by
  refine wpQuiet_step fun Kx hx => ?_
  rw [hK.wanted hg, if_pos rfl]
  refine ⟨v, ?_, hx _ (by rw [hd]; exact h _ (hK.put hn v))⟩
  rintro _ ⟨x, rfl⟩
  unfold Oper.quietAt
  rw [hK.eval, sx_run _ (he _) trivial]
  exact ⟨rfl, (hc x).mono fun e w' h => h⟩
/-- the region's beginning; behind it the world is another -/
theorem rg_quiet {id : Nat} {ls : List Oper} (hE : Ev w0 w l) (hm : P.follows .mixedOrders = true) (hB : Region.lexB .any ls.toArray = true)
    (h : wpQuiet P ls.toArray (fun w' => ∃ x : Fut w.heap.size w, w' = x.v) (fun a' => ∀ w', Ev w0 w' l → Below w.heap.size w w' → Q .normal a' w') ls a) : (Code.region id ls.toArray true).wp P Q a w := by
  refine wp_region_fut w.heap.size hm hB ?_
  revert h
  have mono : ∀ (r : List Oper) (a : Act), wpQuiet P ls.toArray (fun w' => ∃ x : Fut w.heap.size w, w' = x.v) (fun a' => ∀ w', Ev w0 w' l → Below w.heap.size w w' → Q .normal a' w') r a →
      wpQuiet P ls.toArray (fun w' => ∃ x : Fut w.heap.size w, w' = x.v) (fun a' => ∀ w', (∃ x : Fut w.heap.size w, w' = x.v) → Q .normal a' w') r a := by
    intro r
    induction r with
    | nil =>
      intro a h w' hw'
      have hb := Fut.of hw'
      exact h w' (hE.call hb) hb
    | cons o r ih =>
      intro a h
      unfold wpQuiet at h ⊢
      split
      · next hw => rw [if_pos hw] at h; obtain ⟨v, h1, h2⟩ := h; exact ⟨v, h1, ih _ h2⟩
      · next hw => rw [if_neg hw] at h; exact ih _ h
  exact mono ls a
/-! code -/
theorem xb_hit {id : Nat} {a : Act} {w : World} (h : Q .normal a w) : Exit.inBlock id Q (.exit id) a w := by
  simp only [Exit.inBlock, if_true]; exact h
theorem xb_miss {id id' : Nat} {a : Act} {w : World} (hi : Nat.beq id' id = false) (h : Q (.exit id') a w) : Exit.inBlock id Q (.exit id') a w := by
  simp only [Exit.inBlock, if_neg (Nat.ne_of_beq_eq_false hi)]; exact h
theorem xt_ret {Kx : Act → World → Prop} {a : Act} {w : World} (h : Q .ret a w) : Exit.then Kx Q .ret a w := h
theorem xt_exit {Kx : Act → World → Prop} {id : Nat} {a : Act} {w : World} (h : Q (.exit id) a w) : Exit.then Kx Q (.exit id) a w := h
theorem xt_norm {Kx : Act → World → Prop} {a : Act} {w : World} (h : Kx a w) : Exit.then Kx Q .normal a w := h
theorem xb_ret {id : Nat} {a : Act} {w : World} (h : Q .ret a w) : Exit.inBlock id Q .ret a w := h
theorem xb_norm {id : Nat} {a : Act} {w : World} (h : Q .normal a w) : Exit.inBlock id Q .normal a w := h
theorem vc_cond {c : Operand} {x y : Code} {t : Bool} (hK : Kn n K a) (hc : ∀ J, rho K J c = .bool t) (h : (if t = true then x else y).wp P Q a w) : (Code.cond c x y).wp P Q a w :=
  wp_cond (t := t) (by rw [hK.eval]; exact hc _) h
/-- a loop with a ghost -/
theorem vc_loop {γ : Type} {c : Code} (I : γ → Act → World → Prop) (μ : γ → Nat) (x0 : γ) (h0 : I x0 a w)
    (round : ∀ x a w, I x a w → c.wp P (Exit.then (fun a' w' => ∃ y, I y a' w' ∧ μ y < μ x) Q) a w) : (Code.loop c).wp P Q a w := by
  intro b k cs
  have key : ∀ m x a w, μ x = m → I x a w → ∃ e a' w', Q e a' w' ∧ Arrives P (lone (b.at a (.code c :: .inLoop c :: k)) cs w) b k cs e a' w' := by
    intro m
    induction m using Nat.strongRecOn with
    | _ m ih =>
      intro x a w hx hI
      obtain ⟨e, a₁, w₁, hq, harr⟩ := round x a w hI b (.inLoop c :: k) cs
      cases e with
      | normal =>
        obtain ⟨y, hI₁, hlt⟩ := hq
        obtain ⟨e₂, a₂, w₂, hq₂, harr₂⟩ := ih (μ y) (hx ▸ hlt) y a₁ w₁ rfl hI₁
        exact ⟨e₂, a₂, w₂, hq₂, .of_steps (Steps.trans harr (.one step_inLoop)) harr₂⟩
      | exit id => exact ⟨_, a₁, w₁, hq, .pass (x := .inLoop c) rfl (fun _ _ => .inl (by simp)) harr⟩
      | goto l => exact ⟨_, a₁, w₁, hq, .pass (x := .inLoop c) rfl (fun _ _ => .inl (by simp)) harr⟩
      | ret => exact ⟨_, a₁, w₁, hq, .pass (x := .inLoop c) rfl (fun _ _ => .inl (by simp)) harr⟩
      | panic ch => exact ⟨_, a₁, w₁, hq, .pass (x := .inLoop c) rfl (fun _ _ => .inl (by simp)) harr⟩
      | outgrown => exact ⟨_, a₁, w₁, hq, .pass (x := .inLoop c) rfl (fun _ _ => .inl (by simp)) harr⟩
  obtain ⟨e, a', w', hq, harr⟩ := key _ x0 a w rfl h0
  exact ⟨e, a', w', hq, .of_steps (.one step_loop) harr⟩
/-- the rounds of a loop, from its head -/
def LoopW (P : Program) (c : Code) (Q : Exit → Act → World → Prop) (a : Act) (w : World) : Prop :=
  ∀ (b : Frame) (k : List Item) (cs : List Frame), ∃ e a' w', Q e a' w' ∧ Arrives P (lone (b.at a (.code c :: .inLoop c :: k)) cs w) b k cs e a' w'
theorem vc_unroll {c : Code} (h : LoopW P c Q a w) : (Code.loop c).wp P Q a w := fun b k cs => by
  obtain ⟨e, a', w', hq, harr⟩ := h b k cs
  exact ⟨e, a', w', hq, .of_steps (.one step_loop) harr⟩
theorem vc_round {c : Code} (h : c.wp P (Exit.then (LoopW P c Q) Q) a w) : LoopW P c Q a w := fun b k cs => by
  obtain ⟨e, a₁, w₁, hq, harr⟩ := h b (.inLoop c :: k) cs
  cases e with
  | normal =>
    obtain ⟨e₂, a₂, w₂, hq₂, harr₂⟩ := hq b k cs
    exact ⟨e₂, a₂, w₂, hq₂, .of_steps (Steps.trans harr (.one step_inLoop)) harr₂⟩
  | exit id => exact ⟨_, a₁, w₁, hq, .pass (x := .inLoop c) rfl (fun _ _ => .inl (by simp)) harr⟩
  | goto l => exact ⟨_, a₁, w₁, hq, .pass (x := .inLoop c) rfl (fun _ _ => .inl (by simp)) harr⟩
  | ret => exact ⟨_, a₁, w₁, hq, .pass (x := .inLoop c) rfl (fun _ _ => .inl (by simp)) harr⟩
  | panic ch => exact ⟨_, a₁, w₁, hq, .pass (x := .inLoop c) rfl (fun _ _ => .inl (by simp)) harr⟩
  | outgrown => exact ⟨_, a₁, w₁, hq, .pass (x := .inLoop c) rfl (fun _ _ => .inl (by simp)) harr⟩
/-! entry and return -/
def argK : List Value → Nat → List (Nat × Value)
  | [], _ => []
  | v :: l, i => (i, v) :: argK l (i + 1)
theorem argK_look : ∀ (l : List Value) (i j : Nat) (v : Value), look (argK l i) j = some v → i ≤ j ∧ l[j - i]? = some v
  | [], _, _, _, h => by simp [argK, look] at h
  | u :: l, i, j, v, h => by
    unfold argK look at h
    cases hb : Nat.beq i j with
    | true =>
      simp only [hb, Option.some.injEq] at h
      have e : i = j := Nat.eq_of_beq_eq_true hb
      subst e h
      simp
    | false =>
      simp only [hb] at h
      obtain ⟨h1, h2⟩ := argK_look l (i + 1) j v h
      refine ⟨by omega, ?_⟩
      rw [show j - i = (j - (i + 1)) + 1 by omega]
      simpa using h2
theorem vc_enter {f : FuncId} {fn : Func} {c : Code} {args : List Value} {R : Ending → World → Prop} (hf : P.funcs[f]? = some fn) (hb : fn.body = some c) (hn : fn.ntmps = n) (hs : Nat.ble args.length n = true)
    (h : ∀ a, Kn n (argK args 0) a → c.wp P (bodyPost P fn R) a w) : Calls P f args.toArray w R := by
  refine calls_of_wp hf hb (h _ ⟨rfl, ?_, fun i v hv => ?_⟩)
  · have : args.length ≤ n := Nat.le_of_ble_eq_true hs
    simp [hn]; omega
  · obtain ⟨_, h2⟩ := argK_look args 0 i v hv
    have hi : i < args.length := by
      have := (List.getElem?_eq_some_iff.1 h2).1
      omega
    rw [Array.getElem?_append_left (by simpa using hi)]
    simpa using h2
def resF (fn : Func) (f : Nat → Value) : Sem Value := do
  let vs ← fn.results.mapM fun
    | .tmp t => pure (f t)
    | .cell a t => do loadVar t (← asAddr (f a))
  pure (if h : vs.size = 1 then vs[0] else .tuple vs)
theorem vc_ret {fn : Func} {R : Ending → World → Prop} {vs : List Value} {obs : List (Addr × Value)} (hK : Kn n K a) (he : ∀ J, sx P (resF fn fun t => rho K J (.tmp t)) vs = some (v', obs)) (ho : Obs w obs) (hv : v' = v) (hR : R (.returned v) w) : bodyPost P fn R .ret a w := by
  refine ⟨hK.d, v, ?_, hR⟩
  have e : results fn a.tmps = resF fn fun t => a.tmps.getD t undef := rfl
  rw [e, hK.slot, ← hv]
  exact sx_run _ (he _) ho
end
end Go.Proofs.Ytficjpfhakggmaa
namespace Go.Proofs.Ytficjpfhakggmaa
open Go.RowKit
section
variable {n : Nat} {K K' : List (Nat × Value)} {a : Act} {P : Program} {w w0 : World} {ops : Array Oper} {Q : Exit → Act → World → Prop} {o : Oper} {rest : List Oper} {d : Nat} {v v' : Value} {l l' : List It}
/-- the cells of a record -/
def Rec (w : World) (b o : Nat) (cs : List Value) : Prop := ∀ j v, cs[j]? = some v → w.cell? ⟨b, o + j, none⟩ = some v
/-- a row of records is read -/
theorem row_open {α : Type} {f : α → List Value} {m : Nat} {w : World} {A : Option Addr} {l : List α} {k : Nat} {x : α} (hm : ∀ x, (f x).length = m) (h : ∀ W, Below w.heap.size w W → Rd W A (l.flatMap f)) (h0 : 0 < m) (hx : l[k]? = some x) :
    ∃ b o, A = some ⟨b, o, none⟩ ∧ ∀ W, Below w.heap.size w W → ∀ i x, l[i]? = some x → Rec W b (o + i * m) (f x) := by
  have hk : k < l.length := (List.getElem?_eq_some_iff.1 hx).1
  have flen : ∀ l : List α, (l.flatMap f).length = l.length * m := by
    intro l
    induction l with
    | nil => simp
    | cons x l ih => rw [List.flatMap_cons, List.length_append, hm, ih, List.length_cons, Nat.add_mul, Nat.one_mul, Nat.add_comm]
  have fget : ∀ (l : List α) (i j : Nat) (x : α), l[i]? = some x → j < m → (l.flatMap f)[i * m + j]? = (f x)[j]? := by
    intro l
    induction l with
    | nil => intro i j x h; simp at h
    | cons y l ih =>
      intro i j x h hj
      rw [List.flatMap_cons]
      cases i with
      | zero =>
        simp only [List.getElem?_cons_zero, Option.some.injEq] at h
        subst h
        rw [Nat.zero_mul, Nat.zero_add, List.getElem?_append_left (by rw [hm]; exact hj)]
      | succ i =>
        simp only [List.getElem?_cons_succ] at h
        rw [List.getElem?_append_right (by rw [hm, Nat.add_mul]; omega), hm, show (i + 1) * m + j - m = i * m + j by rw [Nat.add_mul]; omega]
        exact ih i j x h hj
  have hne : l.flatMap f ≠ [] := by
    intro e
    have := flen l
    rw [e] at this
    simp only [List.length_nil] at this
    have := Nat.mul_pos (show 0 < l.length by omega) h0
    omega
  obtain ⟨b, o, rfl, _, _⟩ := h w (Below.refl _ _) hne
  refine ⟨b, o, rfl, fun W hW i x hx j v hv => ?_⟩
  obtain ⟨b', o', e, _, hc⟩ := h W hW hne
  injection e with e
  injection e with e1 e2
  subst e1 e2
  have hj : j < m := by have := (List.getElem?_eq_some_iff.1 hv).1; rwa [hm] at this
  rw [Nat.add_assoc]
  exact hc _ _ (by rw [fget l i j x hx hj]; exact hv)
theorem add_addr (b off j : Nat) : (⟨b, off, none⟩ : Addr).add j = ⟨b, off + j, none⟩ := by
  unfold Addr.add
  split
  · next h => rw [h, Nat.add_zero]
  · rfl
theorem ix_slice {P : Program} {T e : TypeId} {i : TypeInfo} {b off len c j m : Nat} {k : IntKind} (hT : P.underlying T = some (.slice e)) (hi : P.info? e = some i) (hm : i.size = m) (hj : j < len) :
    sx P (Instr.indexAt T (.slice (some ⟨b, off, none⟩) len c) (.int k (j : Int))) [] = some (.pointer (some ⟨b, off + j * m, none⟩), []) := by
  have h1 : (0 : Int) ≤ (j : Int) ∧ (j : Int) < (len : Int) := by omega
  simp only [Instr.indexAt, asIntOf, underlying, program, bind, Sem.bind, pure, sx, hT, h1, and_self, if_true, sizeOf, typeInfo, hi, hm, add_addr, Int.toNat_natCast]
theorem st_ix {T e : TypeId} {i : TypeInfo} {b off len c j m : Nat} {k : IntKind} {x ix : Operand} {z : Int} (hK : Kn n K a) (hg : gd ops K o = some true) (hop : o.op = .indexAddr T x ix) (hx : ∀ J, rho K J x = .slice (some ⟨b, off, none⟩) len c) (hix : ∀ J, rho K J ix = .int k z) (hz : z = (j : Int)) (hj : j < len)
    (hT : P.underlying T = some (.slice e)) (hi : P.info? e = some i) (hm : i.size = m) (hd : o.dst = some d) (hn : Nat.blt d n = true)
    (h : ∀ a', Kn n ((d, .pointer (some ⟨b, off + j * m, none⟩)) :: K) a' → wpList P ops Q rest a' w) : wpList P ops Q (o :: rest) a w := by
  have he : ∀ J, sx P (execOp (rho K J) o) [] = some (.value (.pointer (some ⟨b, off + j * m, none⟩)), []) := fun J => by
    have h1 : execOp (rho K J) o = (do pure (.value (← Instr.indexAt T (rho K J x) (rho K J ix)))) := by unfold execOp; rw [hop]
    rw [h1, hx, hix, hz]
    have h2 := ix_slice (P := P) (k := k) (b := b) (off := off) (c := c) hT hi hm hj
    have bindx : ∀ {α β : Type} (s : Sem α) (f : α → Sem β) {r : α} {r' : β}, sx P s [] = some (r, []) → sx P (f r) [] = some (r', []) → sx P (s.bind f) [] = some (r', []) := by
      intro α β s f
      induction s with
      | pure a => intro r r' h1 h2; simp only [sx, Option.some.injEq, Prod.mk.injEq] at h1; rw [Sem.bind, h1.1]; exact h2
      | program k ih => intro r r' h1 h2; simp only [sx] at h1; simp only [Sem.bind, sx]; exact ih P h1 h2
      | mark m k ih => intro r r' h1 h2; simp only [sx] at h1; simp only [Sem.bind, sx]; exact ih h1 h2
      | _ => intro r r' h1; simp [sx] at h1
    exact bindx _ _ h2 rfl
  exact st_op (vs := []) (obs := []) hK hg he trivial rfl hd hn h
theorem qs_ix {B : Nat} {Q : Act → Prop} {T e : TypeId} {i : TypeInfo} {b off len c j m : Nat} {k : IntKind} {x ix : Operand} {z : Int} (hK : Kn n K a) (hg : gd ops K o = some true) (hop : o.op = .indexAddr T x ix) (hx : ∀ J, rho K J x = .slice (some ⟨b, off, none⟩) len c) (hix : ∀ J, rho K J ix = .int k z) (hz : z = (j : Int)) (hj : j < len)
    (hT : P.underlying T = some (.slice e)) (hi : P.info? e = some i) (hm : i.size = m) (hd : o.dst = some d) (hn : Nat.blt d n = true)
    (h : ∀ a', Kn n ((d, .pointer (some ⟨b, off + j * m, none⟩)) :: K) a' → wpQuiet P ops (fun w' => ∃ x : Fut B w, w' = x.v) Q rest a') : wpQuiet P ops (fun w' => ∃ x : Fut B w, w' = x.v) Q (o :: rest) a := by
  have he : ∀ J, sx P (execOp (rho K J) o) [] = some (.value (.pointer (some ⟨b, off + j * m, none⟩)), []) := fun J => by
    have h1 : execOp (rho K J) o = (do pure (.value (← Instr.indexAt T (rho K J x) (rho K J ix)))) := by unfold execOp; rw [hop]
    rw [h1, hx, hix, hz]
    have h2 := ix_slice (P := P) (k := k) (b := b) (off := off) (c := c) hT hi hm hj
    have bindx : ∀ {α β : Type} (s : Sem α) (f : α → Sem β) {r : α} {r' : β}, sx P s [] = some (r, []) → sx P (f r) [] = some (r', []) → sx P (s.bind f) [] = some (r', []) := by
      intro α β s f
      induction s with
      | pure a => intro r r' h1 h2; simp only [sx, Option.some.injEq, Prod.mk.injEq] at h1; rw [Sem.bind, h1.1]; exact h2
      | program k ih => intro r r' h1 h2; simp only [sx] at h1; simp only [Sem.bind, sx]; exact ih P h1 h2
      | mark m k ih => intro r r' h1 h2; simp only [sx] at h1; simp only [Sem.bind, sx]; exact ih h1 h2
      | _ => intro r r' h1; simp [sx] at h1
    exact bindx _ _ h2 rfl
  exact qs_op (vs := []) (obs := []) hK hg he (fun _ => trivial) rfl hd hn h
/-- a row of the call's own, appended to -/
theorem Ev.grow (h : Ev w0 w l) (i : Nat) : True := trivial
end
end Go.Proofs.Ytficjpfhakggmaa

namespace Go.Proofs.Ytficjpfhakggmaa
open Go.RowKit
section
variable {n : Nat} {K K' : List (Nat × Value)} {a : Act} {P : Program} {w w0 : World} {ops : Array Oper} {Q : Exit → Act → World → Prop} {o : Oper} {rest : List Oper} {d : Nat} {v v' : Value} {l l' : List It}
/-- the row at i, grown -/
def growAt (v : Value) (k : Nat) (xs : List Value) : Nat → List It → Option (List It)
  | 0, .own e m _ _ _ :: l => some (.own e m v k xs :: l)
  | i + 1, .blk g t c :: l => (growAt v k xs i l).map fun l' => .blk g t c :: l'
  | i + 1, .own e m u j ys :: l => (growAt v k xs i l).map fun l' => .own e m u j ys :: l'
  | _, _ => none
theorem apart_grow {v u : Value} {k j m : Nat} {e : TypeId} {xs ys : List Value} : ∀ {i : Nat} {l l' : List It}, growAt v k xs i l = some l' → l[i]? = some (.own e m u j ys) → ∀ x, (∀ g, x = some g → v.ownBlock ≠ some g) → apart x l → apart x l'
  | 0, .own e' m' u' j' ys' :: l, l', h, hi, x, hx, ha => by simp only [growAt, Option.some.injEq] at h; subst h; exact ⟨hx, ha.2⟩
  | i + 1, .blk g t c :: l, l', h, hi, x, hx, ha => by
    simp only [growAt, Option.map_eq_some_iff] at h
    obtain ⟨q, h1, rfl⟩ := h
    exact apart_grow (l := l) h1 (by simpa using hi) x hx ha
  | i + 1, .own e' m' u' j' ys' :: l, l', h, hi, x, hx, ha => by
    simp only [growAt, Option.map_eq_some_iff] at h
    obtain ⟨q, h1, rfl⟩ := h
    exact ⟨ha.1, apart_grow (l := l) h1 (by simpa using hi) x hx ha.2⟩
theorem Ok.older {B : Nat} {w w' : World} {b : Nat} {r : Option Nat} (hg : w.grownBy w' r) (hr : ∀ k, r = some k → b ≤ k) (hbs : b ≤ w.heap.size) : ∀ {l : List It} {n : Nat}, n ≤ b → apart r l → Ok B w n l → Ok B w' n l
  | [], _, _, _, h => h
  | .blk g t cs :: l, n, hn, ha, h => ⟨h.1, (hg.block g (by have := h.1; omega) (fun e => by have := hr g e.symm; have := h.1; omega)).trans h.2.1, h.2.2.1, Ok.older hg hr hbs (by have := h.1; omega) ha h.2.2.2⟩
  | .own _ _ u _ _ :: l, n, hn, ha, h => by
    obtain ⟨c, h1, h2, h3, h4⟩ := h
    refine ⟨c, h1, own_keep h2 (fun k hk => hg.block k (own_lt h2 hk).2 (fun e => ?_)), h3, Ok.older hg hr hbs (by omega) ha.2 h4⟩
    exact ha.1 k e.symm hk
  | .dat p :: l, n, hn, ha, h => by
    obtain ⟨m, h1, h2, h3⟩ := h
    have hb : Below m w w' := (Below.refl m w).grown hg (by omega) (fun k hk => by have := hr k hk; omega)
    exact ⟨m, h1, fun W hW => h2 W (hb.trans hW), Ok.older hg hr hbs (by omega) ha h3⟩
theorem Ok.grow {B : Nat} {w w' : World} {v u : Value} {k j m : Nat} {e : TypeId} {xs ys : List Value} (hg : w.grownBy w' u.ownBlock) (hv : v.ownBlock = u.ownBlock ∨ v.ownBlock = some w.heap.size) (hn : ∀ b, w.ownsRow b e m u j ys → b ≤ w.heap.size → w'.ownsRow b e m v k xs) :
    ∀ {l l' : List It} {n i : Nat}, n ≤ w.heap.size → Ok B w n l → l[i]? = some (.own e m u j ys) → growAt v k xs i l = some l' → Ok B w' n l'
  | [], _, _, i, _, _, hi, _ => by simp at hi
  | .dat _ :: l, l', n, i, _, h, hi, hs => by cases i <;> simp [growAt] at hs
  | .blk g t c :: l, l', n, 0, _, h, hi, hs => by simp [growAt] at hs
  | .own e' m' u' j' ys' :: l, l', n, 0, hns, h, hi, hs => by
    simp only [List.getElem?_cons_zero, Option.some.injEq, It.own.injEq] at hi
    obtain ⟨rfl, rfl, rfl, rfl, rfl⟩ := hi
    simp only [growAt, Option.some.injEq] at hs
    subst hs
    obtain ⟨b, h1, h2, h3, h4⟩ := h
    have hlow : apart v.ownBlock l := by
      rcases hv with hv | hv
      · rw [hv]; exact h3
      · rw [hv]; exact Ok.apart_new (Nat.le_refl _) h4
    exact ⟨b, h1, hn b h2 (by omega), hlow, Ok.older hg (fun k hk => (own_lt h2 hk).1) (by omega) (Nat.le_refl _) h3 h4⟩
  | .blk g t c :: l, l', n, i + 1, hns, h, hi, hs => by
    simp only [growAt, Option.map_eq_some_iff] at hs
    obtain ⟨q, h1, rfl⟩ := hs
    have hi' : l[i]? = some (.own e m u j ys) := by simpa using hi
    have hne : u.ownBlock ≠ some g := apart_of h.2.2.1 hi'
    have hgs : g < w.heap.size := Nat.lt_of_lt_of_le h.1 hns
    refine ⟨h.1, (hg.block g hgs (fun e => hne e.symm)).trans h.2.1, apart_grow h1 hi' _ (fun g' e hv' => ?_) h.2.2.1, Ok.grow hg hv hn (by omega) h.2.2.2 hi' h1⟩
    injection e with e
    subst e
    rcases hv with hv | hv
    · exact hne (hv ▸ hv')
    · rw [hv] at hv'; injection hv' with hv'; omega
  | .own e' m' u' j' ys' :: l, l', n, i + 1, hns, h, hi, hs => by
    simp only [growAt, Option.map_eq_some_iff] at hs
    obtain ⟨q, h1, rfl⟩ := hs
    have hi' : l[i]? = some (.own e m u j ys) := by simpa using hi
    obtain ⟨b, h2, h3, h4, h5⟩ := h
    have hne : ∀ g, u'.ownBlock = some g → u.ownBlock ≠ some g := fun g hg' => apart_of (hg' ▸ h4) hi'
    refine ⟨b, h2, own_keep h3 (fun g hg' => hg.block g (own_lt h3 hg').2 (fun e => hne g hg' e.symm)), apart_grow h1 hi' _ (fun g' e hv' => ?_) h4, Ok.grow hg hv hn (by omega) h5 hi' h1⟩
    rcases hv with hv | hv
    · exact hne g' e (hv ▸ hv')
    · rw [hv] at hv'; injection hv' with hv'; have := (own_lt h3 e).2; omega
theorem Ev.grow1 (h : Ev w0 w l) {w' : World} {v u : Value} {i k j m : Nat} {e : TypeId} {xs ys : List Value} (hg : w.grownBy w' u.ownBlock) (hv : v.ownBlock = u.ownBlock ∨ v.ownBlock = some w.heap.size) (hn : ∀ b, w.ownsRow b e m u j ys → b ≤ w.heap.size → w'.ownsRow b e m v k xs)
    (hi : l[i]? = some (.own e m u j ys)) (hs : growAt v k xs i l = some l') : Ev w0 w' l' := by
  obtain ⟨b, hb, hr⟩ := h.row i hi
  exact ⟨h.b.grown hg h.b.size (fun k hk => Nat.le_trans hb (own_lt hr hk).1), (Ok.grow hg hv hn (Nat.le_refl _) h.k hi hs).mono hg.size⟩
/-- what an append onto a row of the call's own does -/
theorem run_append_ev {P : Program} {T e : TypeId} {ti : TypeInfo} {z : Value} {m bytes k mm c i : Nat} {A : Option Addr} {ys news : List Value} {ty : TypeId} (hT : P.underlying T = some (.slice e)) (hti : P.info? e = some ti) (hz : ti.zero = some z) (hsz : ti.size = m) (hby : ti.bytes = bytes) (hzs : z.cells.size = m) (hm0 : 0 < m)
    (hE : Ev w0 w l) (hi : l[i]? = some (.own e m v k ys)) (hl : news.length = mm * m) (hr : Rd w A news) (h1 : ∀ u ∈ news, u.oneCell' = true) (h63 : k + mm ≤ maxLen) (hbytes : (k + mm) * bytes ≤ 140737488355328) :
    ∃ A' c' w', (Builtin.append_ #[T, T] ty #[v, .slice A mm c]).run P w = .ok (.slice A' (k + mm) c') w' ∧ k + mm ≤ c' ∧ c' ≤ maxLen ∧ (w.grownBy w' v.ownBlock ∧ ((Value.slice A' (k + mm) c').ownBlock = v.ownBlock ∨ (Value.slice A' (k + mm) c').ownBlock = some w.heap.size)) ∧ ∀ l', growAt (.slice A' (k + mm) c') (k + mm) (ys ++ news) i l = some l' → Ev w0 w' l' := by
  obtain ⟨b, hb, hrow⟩ := hE.row i hi
  have hbs : b ≤ w.heap.size ∨ ∃ b', b' ≤ w.heap.size ∧ w.ownsRow b' e m v k ys := by
    rcases Nat.le_total b w.heap.size with h | h
    · exact .inl h
    · rcases hrow.2 with ⟨rfl, rfl⟩ | ⟨g, cap, cur, hv, hg, hh, r⟩
      · exact .inr ⟨w.heap.size, Nat.le_refl _, hrow.1, .inl ⟨rfl, rfl⟩⟩
      · have := (Array.getElem?_eq_some_iff.1 hh).1; exact .inl (by omega)
  have key : ∀ b, b ≤ w.heap.size → w.ownsRow b e m v k ys → ∃ v' w', (Builtin.append_ #[T, T] ty #[v, .slice A mm c]).run P w = .ok v' w' ∧ w'.ownsRow b e m v' (k + mm) (ys ++ news) ∧ w.grownBy w' v.ownBlock ∧ (v'.ownBlock = v.ownBlock ∨ v'.ownBlock = some w.heap.size) :=
    fun b hb h => run_append_rd (P := P) w b T ty e ti z m bytes hT hti hz hsz hby hzs hm0 v k ys h A mm c news hl hr h1 h63 hbytes hb
  obtain ⟨b, hbs, hrow⟩ : ∃ b, b ≤ w.heap.size ∧ w.ownsRow b e m v k ys := by
    rcases hbs with h | h
    · exact ⟨b, h, hrow⟩
    · exact h
  obtain ⟨v', w', hrun, ho, hgr, hv'⟩ := key b hbs hrow
  obtain ⟨A', c', rfl, hc1, hc2, _⟩ := own_form ho
  refine ⟨A', c', w', hrun, hc1, hc2, ⟨hgr, hv'⟩, fun l' hs => hE.grow1 hgr hv' (fun b' hb' hbs' => ?_) hi hs⟩
  obtain ⟨v2, w2, hrun2, ho2, _, _⟩ := key b' hbs' hb'
  rw [hrun] at hrun2
  injection hrun2 with e1 e2
  subst e1 e2
  exact ho2
theorem wp_append_ev {P : Program} {T e : TypeId} {ti : TypeInfo} {z : Value} {m bytes k mm c i : Nat} {A : Option Addr} {ys news : List Value} {s x : Operand} {Kx : Act → World → Prop}
    (hK : Kn n K a) (hop : o.op = .call { callee := .builtin .append, args := #[s, x], argTypes := #[T, T] }) (hs : ∀ J, rho K J s = v) (hx : ∀ J, rho K J x = .slice A mm c) (hT : P.underlying T = some (.slice e)) (hti : P.info? e = some ti) (hz : ti.zero = some z) (hsz : ti.size = m) (hby : ti.bytes = bytes) (hzs : z.cells.size = m) (hm0 : 0 < m)
    (hE : Ev w0 w l) (hi : l[i]? = some (.own e m v k ys)) (hl : news.length = mm * m) (hr : Rd w A news) (h1 : ∀ u ∈ news, u.oneCell' = true) (h63 : k + mm ≤ maxLen) (hbytes : (k + mm) * bytes ≤ 140737488355328) (hd : o.dst = some d) (hn : Nat.blt d n = true)
    (h : ∀ A' c' a' w', k + mm ≤ c' → c' ≤ maxLen → Kn n ((d, .slice A' (k + mm) c') :: K) a' → (∀ l', growAt (.slice A' (k + mm) c') (k + mm) (ys ++ news) i l = some l' → Ev w0 w' l') → (w.grownBy w' v.ownBlock ∧ ((Value.slice A' (k + mm) c').ownBlock = v.ownBlock ∨ (Value.slice A' (k + mm) c').ownBlock = some w.heap.size)) → Kx a' w') : o.wp P a w Kx Q := by
  obtain ⟨A', c', w', hrun, hc1, hc2, hgv, hev⟩ := run_append_ev (P := P) (ty := o.type) (c := c) hT hti hz hsz hby hzs hm0 hE hi hl hr h1 h63 hbytes
  have hs' : a.eval s = v := by rw [hK.eval]; exact hs _
  have hx' : a.eval x = .slice A mm c := by rw [hK.eval]; exact hx _
  unfold Oper.wp execOp
  simp only [hop, resolve, invoke, builtin, Sem.run_bind, Sem.run_pure, Result.andThen_ok, List.map_toArray, List.map_cons, List.map_nil, hs', hx', hrun]
  unfold Oper.upon
  rw [hd]
  exact h A' c' _ _ hc1 hc2 (hK.put hn _) hev hgv
theorem st_append {T e : TypeId} {ti : TypeInfo} {z : Value} {m bytes k mm c k2 : Nat} {A : Option Addr} {ys news xs2 : List Value} {s x : Operand} (i : Nat) (hk2 : k + mm = k2) (hx2 : ys ++ news = xs2)
    (hK : Kn n K a) (hE : Ev w0 w l) (hg : gd ops K o = some true) (hop : o.op = .call { callee := .builtin .append, args := #[s, x], argTypes := #[T, T] }) (hs : ∀ J, rho K J s = v) (hx : ∀ J, rho K J x = .slice A mm c) (hT : P.underlying T = some (.slice e)) (hti : P.info? e = some ti) (hz : ti.zero = some z) (hsz : ti.size = m) (hby : ti.bytes = bytes) (hzs : z.cells.size = m) (hm0 : 0 < m)
    (hi : l[i]? = some (.own e m v k ys)) (hl : news.length = mm * m) (hr : Rd w A news) (h1 : ∀ u ∈ news, u.oneCell' = true) (h63 : k + mm ≤ maxLen) (hbytes : (k + mm) * bytes ≤ 140737488355328) (hd : o.dst = some d) (hn : Nat.blt d n = true)
    (h : ∀ A' c' a' w', k2 ≤ c' → c' ≤ maxLen → Kn n ((d, .slice A' k2 c') :: K) a' → (∀ l', growAt (.slice A' k2 c') k2 xs2 i l = some l' → Ev w0 w' l') → wpList P ops Q rest a' w') : wpList P ops Q (o :: rest) a w := by
  subst hk2 hx2
  refine st_of hK hg ?_
  rw [if_pos rfl]
  exact wp_append_ev hK hop hs hx hT hti hz hsz hby hzs hm0 hE hi hl hr h1 h63 hbytes hd hn fun A' c' a' w' h1 h2 h3 h4 _ => h A' c' a' w' h1 h2 h3 h4
/-- a new block, taken as a row of the call's own -/
theorem Ev.toOwn {g : Nat} {t : TypeId} {cs : Array Value} (h : Ev w0 w (.blk g t cs :: l)) (m k : Nat) (hs : cs.size = k * m) (hk : k ≤ maxLen) : Ev w0 w (.own t m (.slice (some ⟨g, 0, none⟩) k k) k cs.toList :: l) := by
  obtain ⟨h1, h2, h3, h4⟩ := h.k
  refine ⟨h.b, g, Nat.le_of_lt h1, ⟨by simp [hs], .inr ⟨g, k, cs, rfl, Nat.le_refl _, h2, Nat.le_refl _, hk, hs, ?_⟩⟩, h3, h4⟩
  rw [List.take_of_length_le (by simp [hs])]
theorem Ev.rd (h : Ev w0 w l) (i : Nat) {e : TypeId} {m k c : Nat} {A : Option Addr} {xs : List Value} (hi : l[i]? = some (.own e m (.slice A k c) k xs)) : Rd w A xs := by
  obtain ⟨b, _, hr⟩ := h.row i hi
  exact Rd.of_own hr
/-! regions that draw their order and make memory: one way after the other -/
/-- number i comes up -/
theorem hd_of {i : Nat} (ho : ops[i]? = some o) (hK : Kn n K a) (hg : gd ops K o = some true) {Kx : Act → World → Prop} (h : o.wp P a w Kx Q) : wpOp P ops Q i Kx a w := by
  unfold wpOp
  simp only [ho]
  rw [hK.wanted hg, if_pos rfl]
  exact .inl h
theorem hd_begin {id : Nat} {ls : List Oper} (hm : P.follows .mixedOrders = true) (h : wpAnyH P .any ls.toArray Q (fun w' => Below w.heap.size w w') ls.length (Array.replicate ls.length false) a w.drew) : (Code.region id ls.toArray true).wp P Q a w :=
  wp_region_held hm (by simpa using h)
theorem Ev.drew (h : Ev w0 w l) : Ev w0 w.drew l := h.call (Below.refl _ _).drew
theorem hd_take {B : World} {md : Region.Mode} {i fuel : Nat} {listed : Array Bool} (listed' : Array Bool) (hli : listed.setIfInBounds i true = listed') {vs : List Value} {obs : List (Addr × Value)} (hK : Kn n K a) (hS : Below B.heap.size B w) (ho : ops[i]? = some o) (hs : Region.noSelect ops = true) (hf : Region.free md ops listed i = true) (hr : (Region.ready md ops listed).contains i = true) (hg : gd ops K o = some true)
    (hQ : ∀ c a w, Q (.panic c) (a.put o.dst v) w → Q (.panic c) a w) (he : ∀ J, sx P (execOp (rho K J) o) vs = some (.value v', obs)) (hobs : ∀ W, Below B.heap.size B W → Obs W obs) (hv : v' = v) (hd : o.dst = some d) (hn : Nat.blt d n = true)
    (h : ∀ a', Kn n ((d, v) :: K) a' → wpAnyH P md ops Q (fun w' => Below B.heap.size B w') fuel listed' a' w) : wpAnyH P md ops Q (fun w' => Below B.heap.size B w') (fuel + 1) listed a w := by
  subst hli
  refine wpAnyH_take (v := v) ho hs hf hr hQ (.inl ⟨hK.wanted hg, fun W hW => ?_⟩) hS (by rw [hd]; exact h _ (hK.put hn v))
  rw [hK.eval, sx_run _ (he _) (hobs W hW), hv]
theorem hd_skip {B : World} {md : Region.Mode} {i fuel : Nat} {listed : Array Bool} (listed' : Array Bool) (hli : listed.setIfInBounds i true = listed') (hK : Kn n K a) (hS : Below B.heap.size B w) (ho : ops[i]? = some o) (hs : Region.noSelect ops = true) (hf : Region.free md ops listed i = true) (hr : (Region.ready md ops listed).contains i = true) (hg : gd ops K o = some false)
    (hQ : ∀ c a w, Q (.panic c) (a.put o.dst undef) w → Q (.panic c) a w) (hd : o.dst = some d) (hn : Nat.blt d n = true)
    (h : ∀ a', Kn n ((d, undef) :: K) a' → wpAnyH P md ops Q (fun w' => Below B.heap.size B w') fuel listed' a' w) : wpAnyH P md ops Q (fun w' => Below B.heap.size B w') (fuel + 1) listed a w := by
  subst hli
  exact wpAnyH_take (v := undef) ho hs hf hr hQ (.inr ⟨hK.wanted hg, rfl⟩) hS (by rw [hd]; exact h _ (hK.put hn undef))
def allOf (p : Nat → Prop) : List Nat → Prop
  | [] => True
  | i :: l => p i ∧ allOf p l
theorem allOf_mem {p : Nat → Prop} : ∀ {l : List Nat}, allOf p l → ∀ i ∈ l, p i
  | _ :: l, h, i, hi => by
    rcases List.mem_cons.1 hi with rfl | hi
    · exact h.1
    · exact allOf_mem h.2 i hi
theorem hd_all {B : World} {md : Region.Mode} {fuel : Nat} {listed : Array Bool} (rs : List Nat) (hr : Region.ready md ops listed = rs) (hne : rs ≠ [])
    (h : allOf (fun i => wpOp P ops Q i (fun a' w' => Below B.heap.size B w' ∧ wpAnyH P md ops Q (fun w' => Below B.heap.size B w') fuel (listed.setIfInBounds i true) a' w') a w) rs) : wpAnyH P md ops Q (fun w' => Below B.heap.size B w') (fuel + 1) listed a w :=
  wpAnyH_all hr hne (allOf_mem h)
theorem hd_new {B : World} {i : Nat} {v : Nat → Value} {cs : Array Value} {t : TypeId} {Kx : Act → World → Prop} (ho : ops[i]? = some o) (hK : Kn n K a) (hE : Ev w0 w l) (hS : Below B.heap.size B w) (hg : gd ops K o = some true) (he : ∀ J g, sn P g (execOp (rho K J) o) = some (.value (v g), .cells cs t)) (hd : o.dst = some d) (hn : Nat.blt d n = true)
    (h : ∀ a' g w', Below B.heap.size B w' → w.heap.size = g → Kn n ((d, v g) :: K) a' → Ev w0 w' (.blk g t cs :: l) → Kx a' w') : wpOp P ops Q i (fun a' w' => Below B.heap.size B w' ∧ Kx a' w') a w := by
  refine hd_of ho hK hg ?_
  unfold Oper.wp Oper.upon
  rw [hK.eval, sn_run _ (he _ _), hd]
  have hb : Below B.heap.size B (w.alloc (.cells cs t)) := hS.alloc hS.size _
  exact ⟨hb, h _ _ _ hb rfl (hK.put hn _) (hE.alloc cs t)⟩
theorem hd_call {B : World} {i : Nat} {f : FuncId} {args : Array Value} {R : Ending → World → Prop} {Kx : Act → World → Prop} (ho : ops[i]? = some o) (hK : Kn n K a) (hS : Below B.heap.size B w) (hg : gd ops K o = some true) (he : ∀ J, sx P (execOp (rho K J) o) [] = some (.enter f args, [])) (hd : o.dst = some d) (hn : Nat.blt d n = true)
    (hc : Calls P f args w R) (h : ∀ e w', R e w' → ∃ v, e = .returned v ∧ Below w.heap.size w w' ∧ ∀ a', Kn n ((d, v) :: K) a' → Below B.heap.size B w' → Kx a' w') : wpOp P ops Q i (fun a' w' => Below B.heap.size B w' ∧ Kx a' w') a w := by
  refine hd_of ho hK hg ?_
  unfold Oper.wp Oper.upon
  rw [hK.eval, sx_run _ (he _) trivial, hd]
  refine hc.mono fun e w' hr => ?_
  obtain ⟨v, rfl, hb, hk⟩ := h e w' hr
  have hb' : Below B.heap.size B w' := hS.trans (hb.mono hS.size)
  exact ⟨hb', hk _ (hK.put hn v) hb'⟩
theorem hd_done {B : World} {md : Region.Mode} {listed : Array Bool} (hr : Region.ready md ops listed = []) (h : Q .normal a w) (fuel : Nat) : wpAnyH P md ops Q (fun w' => Below B.heap.size B w') fuel listed a w := wpAnyH_done hr h fuel
/-- the facts, taken from a later world on -/
theorem Ev.rebase (h : Ev w0 w l) : Ev w w (l.filter fun x => match x with | .dat _ => true | _ => false) := by
  have : ∀ (l : List It) (n : Nat), n ≤ w.heap.size → Ok w0.heap.size w n l → Ok w.heap.size w w.heap.size (l.filter fun x => match x with | .dat _ => true | _ => false) := by
    intro l
    induction l with
    | nil => intro n _ _; exact Nat.le_refl _
    | cons x l ih =>
      intro n hn h
      cases x with
      | blk g t cs => exact ih _ (by have := h.1; omega) h.2.2.2
      | own e m v k xs => obtain ⟨b, h1, _, _, h4⟩ := h; exact ih _ (by omega) h4
      | dat p =>
        obtain ⟨m, h1, h2, h4⟩ := h
        exact ⟨w.heap.size, Nat.le_refl _, fun W hW => h2 W (hW.mono (by omega)), ih _ (by omega) h4⟩
  exact ⟨Below.refl _ _, this l _ (Nat.le_refl _) h.k⟩
end
end Go.Proofs.Ytficjpfhakggmaa
namespace Go.Proofs.Ytficjpfhakggmaa
open Go.RowKit
section
variable {n : Nat} {K K' : List (Nat × Value)} {a : Act} {P : Program} {w w0 : World} {ops : Array Oper} {Q : Exit → Act → World → Prop} {o : Oper} {rest : List Oper} {d : Nat} {v v' : Value} {l l' : List It}
/-- the block at i, taken as a row of the call's own -/
def ownAt (m k : Nat) : Nat → List It → Option (List It)
  | 0, .blk g t cs :: l => some (.own t m (.slice (some ⟨g, 0, none⟩) k k) k cs.toList :: l)
  | i + 1, .blk g t c :: l => (ownAt m k i l).map fun l' => .blk g t c :: l'
  | i + 1, .own e m' u j ys :: l => (ownAt m k i l).map fun l' => .own e m' u j ys :: l'
  | i + 1, .dat p :: l => (ownAt m k i l).map fun l' => .dat p :: l'
  | _, _ => none
theorem apart_ownAt {m k g : Nat} {t : TypeId} {cs : Array Value} : ∀ {i : Nat} {l l' : List It}, ownAt m k i l = some l' → l[i]? = some (.blk g t cs) → ∀ x, (∀ j, x = some j → j ≠ g) → apart x l → apart x l'
  | 0, .blk g' t' c' :: l, l', h, hi, x, hx, ha => by
    simp only [List.getElem?_cons_zero, Option.some.injEq, It.blk.injEq] at hi
    obtain ⟨rfl, rfl, rfl⟩ := hi
    simp only [ownAt, Option.some.injEq] at h
    subst h
    refine ⟨fun j hj e => hx j hj ?_, ha⟩
    simp only [Value.ownBlock, Option.some.injEq] at e
    exact e.symm
  | i + 1, .blk _ _ _ :: l, l', h, hi, x, hx, ha => by
    simp only [ownAt, Option.map_eq_some_iff] at h
    obtain ⟨q, h1, rfl⟩ := h
    exact apart_ownAt (l := l) h1 (by simpa using hi) x hx ha
  | i + 1, .dat _ :: l, l', h, hi, x, hx, ha => by
    simp only [ownAt, Option.map_eq_some_iff] at h
    obtain ⟨q, h1, rfl⟩ := h
    exact apart_ownAt (l := l) h1 (by simpa using hi) x hx ha
  | i + 1, .own _ _ _ _ _ :: l, l', h, hi, x, hx, ha => by
    simp only [ownAt, Option.map_eq_some_iff] at h
    obtain ⟨q, h1, rfl⟩ := h
    exact ⟨ha.1, apart_ownAt (l := l) h1 (by simpa using hi) x hx ha.2⟩
theorem Ok.ownAt_ {B : Nat} {w : World} {m k g : Nat} {t : TypeId} {cs : Array Value} (hs : cs.size = k * m) (hk : k ≤ maxLen) : ∀ {l l' : List It} {n i : Nat}, Ok B w n l → l[i]? = some (.blk g t cs) → ownAt m k i l = some l' → Ok B w n l'
  | [], _, _, i, _, hi, _ => by simp at hi
  | .blk g' t' c' :: l, l', n, 0, h, hi, ho => by
    simp only [List.getElem?_cons_zero, Option.some.injEq, It.blk.injEq] at hi
    obtain ⟨rfl, rfl, rfl⟩ := hi
    simp only [ownAt, Option.some.injEq] at ho
    subst ho
    obtain ⟨h1, h2, h3, h4⟩ := h
    exact ⟨g', Nat.le_of_lt h1, ⟨by simp [hs], .inr ⟨g', k, c', rfl, Nat.le_refl _, h2, Nat.le_refl _, hk, hs, by rw [List.take_of_length_le (by simp [hs])]⟩⟩, h3, h4⟩
  | .own _ _ _ _ _ :: l, l', n, 0, h, hi, ho => by simp at hi
  | .dat _ :: l, l', n, 0, h, hi, ho => by simp at hi
  | .blk g' t' c' :: l, l', n, i + 1, h, hi, ho => by
    simp only [ownAt, Option.map_eq_some_iff] at ho
    obtain ⟨q, h1, rfl⟩ := ho
    have hi' : l[i]? = some (.blk g t cs) := by simpa using hi
    have hlt := Ok.lt_of h.2.2.2 hi'
    exact ⟨h.1, h.2.1, apart_ownAt h1 hi' _ (fun j hj e => by injection hj with hj; omega) h.2.2.1, Ok.ownAt_ hs hk h.2.2.2 hi' h1⟩
  | .dat p :: l, l', n, i + 1, h, hi, ho => by
    simp only [ownAt, Option.map_eq_some_iff] at ho
    obtain ⟨q, h1, rfl⟩ := ho
    obtain ⟨b, h2, h3, h4⟩ := h
    exact ⟨b, h2, h3, Ok.ownAt_ hs hk h4 (by simpa using hi) h1⟩
  | .own _ _ u _ _ :: l, l', n, i + 1, h, hi, ho => by
    simp only [ownAt, Option.map_eq_some_iff] at ho
    obtain ⟨q, h1, rfl⟩ := ho
    have hi' : l[i]? = some (.blk g t cs) := by simpa using hi
    obtain ⟨b, h2, h3, h4, h5⟩ := h
    have hlt := Ok.lt_of h5 hi'
    exact ⟨b, h2, h3, apart_ownAt h1 hi' _ (fun j hj e => by have := (own_lt h3 hj).1; omega) h4, Ok.ownAt_ hs hk h5 hi' h1⟩
theorem Ev.own (h : Ev w0 w l) (i m k : Nat) {g : Nat} {t : TypeId} {cs : Array Value} (hi : l[i]? = some (.blk g t cs)) (hs : cs.size = k * m) (hk : k ≤ maxLen) (ho : ownAt m k i l = some l') : Ev w0 w l' := ⟨h.b, Ok.ownAt_ hs hk h.k hi ho⟩
theorem hd_op {B : World} {j : Nat} {vs : List Value} {obs : List (Addr × Value)} {Kx : Act → World → Prop} (ho : ops[j]? = some o) (hK : Kn n K a) (hS : Below B.heap.size B w) (hg : gd ops K o = some true) (he : ∀ J, sx P (execOp (rho K J) o) vs = some (.value v', obs)) (hobs : Obs w obs) (hv : v' = v) (hd : o.dst = some d) (hn : Nat.blt d n = true)
    (h : ∀ a', Kn n ((d, v) :: K) a' → Kx a' w) : wpOp P ops Q j (fun a' w' => Below B.heap.size B w' ∧ Kx a' w') a w := by
  refine hd_of ho hK hg ?_
  unfold Oper.wp Oper.upon
  rw [hK.eval, sx_run _ (he _) hobs, hd, hv]
  exact ⟨hS, h _ (hK.put hn v)⟩
theorem hd_ap {B : World} {j : Nat} {T e : TypeId} {ti : TypeInfo} {z : Value} {m bytes k mm c k2 : Nat} {A : Option Addr} {ys news xs2 : List Value} {s x : Operand} {Kx : Act → World → Prop} (i : Nat) (hk2 : k + mm = k2) (hx2 : ys ++ news = xs2) (ho : ops[j]? = some o) (hS : Below B.heap.size B w)
    (hK : Kn n K a) (hE : Ev w0 w l) (hg : gd ops K o = some true) (hop : o.op = .call { callee := .builtin .append, args := #[s, x], argTypes := #[T, T] }) (hs : ∀ J, rho K J s = v) (hx : ∀ J, rho K J x = .slice A mm c) (hT : P.underlying T = some (.slice e)) (hti : P.info? e = some ti) (hz : ti.zero = some z) (hsz : ti.size = m) (hby : ti.bytes = bytes) (hzs : z.cells.size = m) (hm0 : 0 < m)
    (hi : l[i]? = some (.own e m v k ys)) (hrow : ∀ g, v.ownBlock = some g → B.heap.size ≤ g) (hl : news.length = mm * m) (hr : Rd w A news) (h1 : ∀ u ∈ news, u.oneCell' = true) (h63 : k + mm ≤ maxLen) (hbytes : (k + mm) * bytes ≤ 140737488355328) (hd : o.dst = some d) (hn : Nat.blt d n = true)
    (h : ∀ A' c' a' w', k2 ≤ c' → c' ≤ maxLen → Below B.heap.size B w' → (∀ g, (Value.slice A' k2 c').ownBlock = some g → B.heap.size ≤ g) → Kn n ((d, .slice A' k2 c') :: K) a' → (∀ l', growAt (.slice A' k2 c') k2 xs2 i l = some l' → Ev w0 w' l') → Kx a' w') : wpOp P ops Q j (fun a' w' => Below B.heap.size B w' ∧ Kx a' w') a w := by
  subst hk2 hx2
  refine hd_of ho hK hg (wp_append_ev hK hop hs hx hT hti hz hsz hby hzs hm0 hE hi hl hr h1 h63 hbytes hd hn fun A' c' a' w' hc1 hc2 hK' hev hgv => ?_)
  have hb : Below B.heap.size B w' := hS.grown hgv.1 hS.size hrow
  refine ⟨hb, h A' c' a' w' hc1 hc2 hb (fun g hg' => ?_) hK' hev⟩
  rcases hgv.2 with e | e
  · exact hrow g (e ▸ hg')
  · rw [e] at hg'; injection hg' with hg'; have := hS.size; omega
end
end Go.Proofs.Ytficjpfhakggmaa
namespace Go.Proofs.Ytficjpfhakggmaa
open Go.RowKit
section
variable {n : Nat} {K : List (Nat × Value)} {a : Act} {P : Program} {w w0 : World} {ops : Array Oper} {Q : Exit → Act → World → Prop} {o : Oper} {rest : List Oper} {d : Nat} {v v' : Value} {l l' : List It}
/-- as st_store, and what else has become of the world -/
theorem st_store2 {g : Nat} {t : TypeId} {cs : Array Value} (i : Nat) (ivs : List (Nat × Value)) (hK : Kn n K a) (hE : Ev w0 w l) (hg : gd ops K o = some true) (hi : l[i]? = some (.blk g t cs))
    (he : ∀ J, ss P (execOp (rho K J) o) = some (.skip, ivs.map fun p => (⟨g, p.1, none⟩, p.2))) (hin : ivs.all (fun p => Nat.blt p.1 cs.size) = true) (hl : setAt (sets cs ivs) i l = some l') (hd : o.dst = none)
    (h : ∀ w', w.heap.size ≤ w'.heap.size → (∀ k, k ≠ g → w'.heap[k]? = w.heap[k]?) → Ev w0 w' l' → wpList P ops Q rest a w') : wpList P ops Q (o :: rest) a w := by
  refine st_of hK hg ?_
  rw [if_pos rfl]
  have hr := ss_run (P := P) _ (hE.blk i hi) (he (fun t => a.tmps.getD t undef)) hin
  have ho := stsW_other (g := g) ivs (w := w)
  unfold Oper.wp Oper.upon
  rw [hK.eval, hr.1, hd]
  exact h _ (Nat.le_of_eq ho.1.symm) ho.2.1 (hE.set i hi ivs hl hr.2)
end
end Go.Proofs.Ytficjpfhakggmaa

namespace Go.Proofs.Ytficjpfhakggmaa
open Go.RowKit
section
variable {n : Nat} {K : List (Nat × Value)} {a : Act} {P : Program} {w w0 : World} {ops : Array Oper} {Q : Exit → Act → World → Prop} {o : Oper} {rest : List Oper} {d : Nat} {v v' : Value} {l l' : List It}
theorem st_run (hK : Kn n K a) (hg : gd ops K o = some true) (hr : ∀ J W, (execOp (rho K J) o).run P W = .ok (.value v') W) (hv : v' = v) (hd : o.dst = some d) (hn : Nat.blt d n = true)
    (h : ∀ a', Kn n ((d, v) :: K) a' → wpList P ops Q rest a' w) : wpList P ops Q (o :: rest) a w := by
  refine st_of hK hg ?_
  rw [if_pos rfl]
  unfold Oper.wp Oper.upon
  rw [hK.eval, hr, hd, hv]
  exact h _ (hK.put hn v)
theorem qs_run {B : Nat} {Q : Act → Prop} (hK : Kn n K a) (hg : gd ops K o = some true) (hr : ∀ J W, (execOp (rho K J) o).run P W = .ok (.value v') W) (hv : v' = v) (hd : o.dst = some d) (hn : Nat.blt d n = true)
    (h : ∀ a', Kn n ((d, v) :: K) a' → wpQuiet P ops (fun w' => ∃ x : Fut B w, w' = x.v) Q rest a') : wpQuiet P ops (fun w' => ∃ x : Fut B w, w' = x.v) Q (o :: rest) a := by
  refine wpQuiet_step fun Kx hx => ?_
  rw [hK.wanted hg, if_pos rfl]
  refine ⟨v, ?_, hx _ (by rw [hd]; exact h _ (hK.put hn v))⟩
  rintro _ ⟨x, rfl⟩
  unfold Oper.quietAt
  rw [hK.eval, hr, hv]
  exact ⟨rfl, rfl⟩
theorem hd_run {B : World} {md : Region.Mode} {i fuel : Nat} {listed : Array Bool} (listed' : Array Bool) (hli : listed.setIfInBounds i true = listed') (hK : Kn n K a) (hS : Below B.heap.size B w) (ho : ops[i]? = some o) (hs : Region.noSelect ops = true) (hf : Region.free md ops listed i = true) (hrd : (Region.ready md ops listed).contains i = true) (hg : gd ops K o = some true)
    (hQ : ∀ c a w, Q (.panic c) (a.put o.dst v) w → Q (.panic c) a w) (hr : ∀ J W, (execOp (rho K J) o).run P W = .ok (.value v') W) (hv : v' = v) (hd : o.dst = some d) (hn : Nat.blt d n = true)
    (h : ∀ a', Kn n ((d, v) :: K) a' → wpAnyH P md ops Q (fun w' => Below B.heap.size B w') fuel listed' a' w) : wpAnyH P md ops Q (fun w' => Below B.heap.size B w') (fuel + 1) listed a w := by
  subst hli
  refine wpAnyH_take (v := v) ho hs hf hrd hQ (.inl ⟨hK.wanted hg, fun W _ => ?_⟩) hS (by rw [hd]; exact h _ (hK.put hn v))
  rw [hK.eval, hr, hv]
theorem run_v {α : Type} {s : Sem α} {f : α → Next} {r : α} {W : World} (h : s.run P W = .ok r W) : Sem.run P (do pure (f (← s))) W = .ok (f r) W := by
  rw [Sem.run_bind, h]
  rfl
theorem ex_eq {bop : BinOp} {T yT : TypeId} {x y : Operand} {u1 u2 r : Value} (hop : o.op = .binOp bop T x y yT) (hx : ∀ J, rho K J x = u1) (hy : ∀ J, rho K J y = u2) (hg : sx P (eqGuard bop T x y u1 u2) [] = some ((), [])) (hr : ∀ W, (binOp bop T u1 u2).run P W = .ok r W) :
    ∀ J W, (execOp (rho K J) o).run P W = .ok (.value r) W := fun J W => by
  have e : execOp (rho K J) o = (do pure (.value (← (do eqGuard bop T x y (rho K J x) (rho K J y); binOp bop T (rho K J x) (rho K J y))))) := by unfold execOp; rw [hop]
  rw [e, hx, hy]
  refine run_v ?_
  rw [Sem.run_bind, sx_run _ hg trivial]
  exact hr W
theorem ex_int {bop : BinOp} {T yT : TypeId} {x y : Operand} {k : IntKind} {p q : Int} {r : Value} (hop : o.op = .binOp bop T x y yT) (hx : ∀ J, rho K J x = .int k p) (hy : ∀ J, rho K J y = .int k q) (hg : sx P (eqGuard bop T x y (.int k p) (.int k q)) [] = some ((), [])) (hr : ∀ W, (binOp bop T (.int k p) (.int k q)).run P W = .ok r W) :
    ∀ J W, (execOp (rho K J) o).run P W = .ok (.value r) W := ex_eq hop hx hy hg hr
theorem run_rem {T : TypeId} {k : IntKind} {p q : Int} (hq : q ≠ 0) (W : World) : (binOp .rem T (.int k p) (.int k q)).run P W = .ok (.int k (p.tmod q)) W := by
  simp [binOp, Op.intDiv, hq, pure, Sem.run]
theorem run_quo {T : TypeId} {k : IntKind} {p q : Int} (hq : q ≠ 0) (W : World) : (binOp .quo T (.int k p) (.int k q)).run P W = .ok (.int k (k.wrap (p.tdiv q))) W := by
  simp [binOp, Op.intDiv, hq, pure, Sem.run]
end
end Go.Proofs.Ytficjpfhakggmaa

namespace Go.Proofs.Ytficjpfhakggmaa
open Go.RowKit
/-- a fact more, ahead of number i -/
def insAt (p : World → Prop) : Nat → List It → List It
  | 0, l => .dat p :: l
  | i + 1, x :: l => x :: insAt p i l
  | _ + 1, [] => []
theorem apart_ins {p : World → Prop} {x : Option Nat} : ∀ (i : Nat) {l : List It}, apart x l → apart x (insAt p i l)
  | 0, l, h => h
  | i + 1, [], h => h
  | i + 1, .blk _ _ _ :: l, h => apart_ins (l := l) i h
  | i + 1, .dat _ :: l, h => apart_ins (l := l) i h
  | i + 1, .own _ _ _ _ _ :: l, h => ⟨h.1, apart_ins (l := l) i h.2⟩
theorem Ok.ins {B : Nat} {w : World} {p q : World → Prop} (hp : ∀ W, q W → p W) : ∀ (i : Nat) {l : List It} {n : Nat}, Ok B w n l → l[i]? = some (.dat q) → Ok B w n (insAt p i l)
  | 0, [], n, h, hi => by simp at hi
  | 0, .blk _ _ _ :: l, n, h, hi => by simp at hi
  | 0, .own _ _ _ _ _ :: l, n, h, hi => by simp at hi
  | 0, .dat r :: l, n, h, hi => by
    simp only [List.getElem?_cons_zero, Option.some.injEq, It.dat.injEq] at hi
    subst hi
    obtain ⟨m, h1, h2, h3⟩ := h
    exact ⟨m, h1, fun W hW => hp W (h2 W hW), m, Nat.le_refl _, h2, h3⟩
  | i + 1, [], n, h, hi => by simp at hi
  | i + 1, .blk _ _ _ :: l, n, h, hi => ⟨h.1, h.2.1, apart_ins i h.2.2.1, Ok.ins hp i h.2.2.2 (by simpa using hi)⟩
  | i + 1, .own _ _ _ _ _ :: l, n, h, hi => by
    obtain ⟨b, h1, h2, h3, h4⟩ := h
    exact ⟨b, h1, h2, apart_ins i h3, Ok.ins hp i h4 (by simpa using hi)⟩
  | i + 1, .dat _ :: l, n, h, hi => by
    obtain ⟨b, h1, h2, h4⟩ := h
    exact ⟨b, h1, h2, Ok.ins hp i h4 (by simpa using hi)⟩
theorem Ev.from_ {w0 w : World} {l : List It} (h : Ev w0 w l) (i : Nat) {p q : World → Prop} (hi : l[i]? = some (.dat q)) (hp : ∀ W, q W → p W) : Ev w0 w (insAt p i l) := ⟨h.b, Ok.ins hp i h.k hi⟩
theorem rd_some {w : World} {A : Option Addr} {cs : List Value} (h : Rd w A cs) (hn : cs ≠ []) : ∃ b o, A = some ⟨b, o, none⟩ := by
  obtain ⟨b, o, h1, _⟩ := h hn
  exact ⟨b, o, h1⟩
theorem row_some {α : Type} {f : α → List Value} {m : Nat} {w : World} {A : Option Addr} {l : List α} {k : Nat} {x : α} (hm : ∀ x, (f x).length = m) (h : Rd w A (l.flatMap f)) (h0 : 0 < m) (hx : l[k]? = some x) : ∃ b o, A = some ⟨b, o, none⟩ := by
  refine rd_some h fun e => ?_
  have hmem := List.mem_of_getElem? hx
  have : f x = [] := by
    have := List.flatMap_eq_nil_iff.1 e x hmem
    exact this
  have h1 := hm x
  rw [this] at h1
  simp at h1
  omega
theorem row_recs {α : Type} {f : α → List Value} {m : Nat} {W : World} {A : Option Addr} {l : List α} {b o : Nat} (hm : ∀ x, (f x).length = m) (h0 : 0 < m) (hA : A = some ⟨b, o, none⟩) (h : Rd W A (l.flatMap f)) : ∀ i x, l[i]? = some x → Rec W b (o + i * m) (f x) := by
  intro i x hx
  have hd : ∀ V, Below W.heap.size W V → Rd V A (l.flatMap f) := fun V hV => h.below hV (Nat.le_refl _)
  obtain ⟨b', o', e, hr⟩ := row_open hm hd h0 hx
  rw [hA] at e
  injection e with e
  injection e with e1 e2
  subst e1 e2
  exact hr W (Below.refl _ _) i x hx
end Go.Proofs.Ytficjpfhakggmaa
