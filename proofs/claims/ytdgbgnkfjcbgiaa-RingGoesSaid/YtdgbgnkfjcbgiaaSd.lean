/-
  Regions that draw their order: one walk in the order of the text, each operation told by what it hangs on alone.
-/
import Derived.Test.YtdgbgnkfjcbgiaaSu
import Derived.Orders
set_option linter.unusedVariables false
set_option linter.unusedSimpArgs false
namespace Go.Proofs.Ytdgbgnkfjcbgiaa.Sx
open Go Go.RowKit

abbrev Ext (w w' : World) : Prop := Below w.heap.size w w'
theorem Ext.trans {w w1 w2 : World} (h : Ext w w1) (h' : Ext w1 w2) : Ext w w2 := Below.trans h (Below.mono h' h.size)

structure Full (n : Nat) (l : List (Nat × Value)) (a : Act) : Prop where
  has : Has n l a
  all : ∀ t, t < n → (lookq l t).isSome = true

theorem Full.put {n d : Nat} {v : Value} {l : List (Nat × Value)} {a a' : Act} (h : Full n l a) (hd : Nat.blt d n = true) (h' : Has n ((d, v) :: l) a') : a' = a.put (some d) v := by
  have hdn : d < n := by simpa [Nat.blt_eq] using hd
  have e1 : a'.tmps = (a.put (some d) v).tmps := by
    apply Array.ext
    · simp [Act.put, h'.size, h.has.size]
    · intro t h1 h2
      rw [h'.size] at h1
      by_cases e : t = d
      · subst e
        have := h'.at_ t v (by simp [lookq])
        rw [Array.getElem?_eq_getElem (by rw [h'.size]; exact h1)] at this
        simp at this
        simp [Act.put, this]
      · obtain ⟨u, hu⟩ := Option.isSome_iff_exists.1 (h.all t h1)
        have hb : Nat.beq t d = false := by
          cases hb : Nat.beq t d
          · rfl
          · exact absurd (Nat.eq_of_beq_eq_true hb) e
        have h3 := h'.at_ t u (by simp [lookq, hb, hu])
        have h4 := h.has.at_ t u hu
        rw [Array.getElem?_eq_getElem (by rw [h'.size]; exact h1)] at h3
        rw [Array.getElem?_eq_getElem (by rw [h.has.size]; exact h1)] at h4
        simp at h3 h4
        simp only [Act.put]
        rw [Array.getElem_setIfInBounds_ne (by rw [h.has.size]; exact h1) (fun h => e h.symm)]
        rw [h3, h4]
  have e2 : a'.defers = (a.put (some d) v).defers := by simp [Act.put, h'.defers, h.has.defers]
  cases a'
  simp only [Act.put] at *
  subst e1
  subst e2
  rfl

theorem HQ.add {q : Act → World → Prop} {n t : Nat} {v : Value} {l : List (Nat × Value)} {w : World} (h : lookq l t = some v) (H : HQ q n ((t, v) :: l) w) : HQ q n l w := fun a ha =>
  H a ⟨ha.size, ha.defers, fun u x hu => by
    simp only [lookq] at hu
    cases hb : Nat.beq u t
    · rw [hb] at hu; exact ha.at_ u x hu
    · rw [hb] at hu
      simp only [cond_true, Option.some.injEq] at hu
      subst hu
      rw [Nat.eq_of_beq_eq_true hb]
      exact ha.at_ t v h⟩
theorem Full.add {n t : Nat} {v : Value} {l : List (Nat × Value)} {a : Act} (h : Full n l a) (hl : lookq l t = some v) : Full n ((t, v) :: l) a :=
  ⟨⟨h.has.size, h.has.defers, fun u x hu => by
    simp only [lookq] at hu
    cases hb : Nat.beq u t
    · rw [hb] at hu; exact h.has.at_ u x hu
    · rw [hb] at hu
      simp only [cond_true, Option.some.injEq] at hu
      subst hu
      rw [Nat.eq_of_beq_eq_true hb]
      exact h.has.at_ t v hl⟩, fun u hu => by
    simp only [lookq]
    cases Nat.beq u t
    · exact h.all u hu
    · rfl⟩
/-- What stands in a slot is what the frame's list says. -/
theorem Full.look {n t : Nat} {v : Value} {l : List (Nat × Value)} {a : Act} (h : Full n l a) (hv : a.tmps[t]? = some v) : lookq l t = some v := by
  have hlt : t < n := by rw [← h.has.size]; exact (Array.getElem?_eq_some_iff.1 hv).1
  obtain ⟨u, hu⟩ := Option.isSome_iff_exists.1 (h.all t hlt)
  have := h.has.at_ t u hu
  rw [hv] at this
  simp at this
  rw [hu, this]

def slots (a : Act) : List (Nat × Value) := (List.range a.tmps.size).map fun i => (i, a.tmps.getD i undef)
theorem lookq_map (f : Nat → Value) : ∀ (xs : List Nat) (t : Nat), lookq (xs.map fun i => (i, f i)) t = if t ∈ xs then some (f t) else none
  | [], t => by simp [lookq]
  | x :: xs, t => by
    simp only [List.map_cons, lookq]
    cases hb : Nat.beq t x
    · have hne : t ≠ x := fun e => by subst e; simp at hb
      simp [lookq_map f xs t, hne]
    · have e := Nat.eq_of_beq_eq_true hb
      subst e
      simp
theorem lookq_append (l l' : List (Nat × Value)) (t : Nat) : lookq (l ++ l') t = match lookq l t with | some v => some v | none => lookq l' t := by
  induction l with
  | nil => rfl
  | cons p l ih =>
    obtain ⟨d, v⟩ := p
    simp only [List.cons_append, lookq]
    cases Nat.beq t d
    · exact ih
    · rfl
theorem full_slots {n : Nat} {l : List (Nat × Value)} {a : Act} (h : Has n l a) : Full n (l ++ slots a) a := by
  have hs : ∀ t, lookq (slots a) t = if t < n then some (a.tmps.getD t undef) else none := by
    intro t
    unfold slots
    rw [lookq_map (fun i => a.tmps.getD i undef)]
    simp [h.size]
  refine ⟨⟨h.size, h.defers, fun t v hv => ?_⟩, fun t ht => ?_⟩
  · rw [lookq_append] at hv
    cases hl : lookq l t with
    | some u => rw [hl] at hv; simp at hv; subst hv; exact h.at_ t u hl
    | none =>
      rw [hl] at hv
      simp only [hs] at hv
      split at hv
      · rename_i hlt
        simp at hv
        subst hv
        rw [Array.getElem?_eq_getElem (by rw [h.size]; exact hlt)]
        simp
      · cases hv
  · rw [lookq_append, hs t, if_pos ht]
    cases lookq l t <;> rfl

/-! ### The walk -/
def looks (ops : Array Oper) (o : Oper) (t : Nat) : Bool := (o.looksAt ops).any (Nat.beq t)
def filt (ops : Array Oper) (o : Oper) : List (Nat × Value) → List (Nat × Value)
  | [] => []
  | p :: l => bif looks ops o p.1 then p :: filt ops o l else filt ops o l

abbrev Pr := Value → World → Prop
def Kn (ops : Array Oper) (o : Oper) (G : List (Nat × Pr)) (a : Act) (w : World) : Prop := ∀ p ∈ G, looks ops o p.1 = true → ∃ v, a.tmps[p.1]? = some v ∧ p.2 v w
/-- What an operation leaves: its slot alone is turned, the world has grown. -/
def QD (a : Act) (w' : World) (dst : Option Tmp) (Φ : Pr) : Exit → Act → World → Prop := fun e a' w'' => e = .normal ∧ ∃ v, a' = a.put dst v ∧ Ext w' w'' ∧ Φ v w''
def Stable (Φ : Pr) : Prop := ∀ v w w', Φ v w → Ext w w' → Φ v w'
def Obl (P : Program) (ops : Array Oper) (n : Nat) (l : List (Nat × Value)) (w : World) (o : Oper) (lx : List (Nat × Value)) (G : List (Nat × Pr)) (Φ : Pr) : Prop :=
  ∀ w' a lz, Ext w w' → Full n (filt ops o lx ++ (l ++ lz)) a → Kn ops o G a w' → HQ (wpList P ops (QD a w' o.dst Φ) [o]) n (filt ops o lx ++ (l ++ lz)) w'

def DagW (P : Program) (ops : Array Oper) (n : Nat) (l : List (Nat × Value)) (w : World) (E : List (Nat × Value) → List (Nat × Pr) → Prop) : List Oper → List (Nat × Value) → List (Nat × Pr) → Prop
  | [], lx, G => E lx G
  | o :: os, lx, G => ∃ d, o.dst = some d ∧
      ((∃ v, Obl P ops n l w o lx G (fun u _ => u = v) ∧ DagW P ops n l w E os ((d, v) :: lx) G) ∨
       (∃ Φ, Stable Φ ∧ Obl P ops n l w o lx G Φ ∧ DagW P ops n l w E os lx ((d, Φ) :: G)))

section
variable {P : Program} {ops : Array Oper} {n : Nat} {l lx : List (Nat × Value)} {w : World} {E : List (Nat × Value) → List (Nat × Pr) → Prop} {os : List Oper} {G : List (Nat × Pr)}
  {d ty : Nat} {op : Op} {pos : String} {after : Array Edge} {g : Option (Nat × Bool)}
theorem dag_nil (h : E lx G) : DagW P ops n l w E [] lx G := h
theorem dag_is {v : Value} (ho : Obl P ops n l w ⟨some d, op, ty, pos, after, g⟩ lx G (fun u _ => u = v)) (h : DagW P ops n l w E os ((d, v) :: lx) G) : DagW P ops n l w E (⟨some d, op, ty, pos, after, g⟩ :: os) lx G := ⟨d, rfl, .inl ⟨v, ho, h⟩⟩
theorem dag_ok (Φ : Pr) (hs : Stable Φ) (ho : Obl P ops n l w ⟨some d, op, ty, pos, after, g⟩ lx G Φ) (h : DagW P ops n l w E os lx ((d, Φ) :: G)) : DagW P ops n l w E (⟨some d, op, ty, pos, after, g⟩ :: os) lx G := ⟨d, rfl, .inr ⟨Φ, hs, ho, h⟩⟩
theorem dag_callv {P : Program} {ops : Array Oper} {n d ty f : Nat} {pos : String} {after : Array Edge} {w' : World} {a : Act} {v : Value} {lz : List (Nat × Value)} {os : List Operand} {vs : List Value} {ats : Array TypeId} (hF : Full n lz a) [hf : Entered P f] (he : evargs lz os = some vs) (hC : Calls P f vs.toArray w' (RetV w' v)) (hd : Nat.blt d n = true := by with_unfolding_all rfl) :
    HQ (wpList P ops (QD a w' (some d) (fun u _ => u = v)) [⟨some d, .call { callee := .value (.func f), args := os.toArray, argTypes := ats }, ty, pos, after, none⟩]) n lz w' :=
  st_call he hC (fun _ w1 hr => ⟨v, hr.1, hq_nil fun a' ha' => ⟨rfl, v, hF.put hd ha', hr.2.below, rfl⟩⟩) hd
theorem dag_end {w' w'' : World} {a : Act} {Φ : Pr} {v : Value} {lz : List (Nat × Value)} (hF : Full n lz a) (hE : Ext w' w'') (hΦ : Φ v w'') (hd : Nat.blt d n = true := by with_unfolding_all rfl) : HQ (QD a w' (some d) Φ .normal) n ((d, v) :: lz) w'' :=
  fun a' ha' => ⟨rfl, v, hF.put hd ha', hE, hΦ⟩
theorem dag_endis {w' : World} {a : Act} {v : Value} {lz : List (Nat × Value)} (hF : Full n lz a) (hd : Nat.blt d n = true := by with_unfolding_all rfl) : HQ (QD a w' (some d) (fun u _ => u = v) .normal) n ((d, v) :: lz) w' :=
  dag_end hF (Below.refl _ _) rfl hd
end

/-! ### Soundness -/
def predsB (o : Oper) : List Nat := (o.after.toList.filter (Region.binds .any ·)).map (·.on)
/-- Edges lead back; whoever reads a slot of the region comes behind its writer; nobody writes a slot twice. -/
def dagChk (n : Nat) (ops : Array Oper) (os : List Oper) : Bool :=
  (os.zipIdx.all fun p => (predsB p.1).all (fun i => Nat.blt i p.2) && (match p.1.dst with | some d => Nat.blt d n | none => true) && os.zipIdx.all fun q => match q.1.dst with
    | some t => !looks ops p.1 t || (predsB p.1).contains q.2
    | none => true) &&
  (os.zipIdx.all fun p => os.zipIdx.all fun q => q.2 == p.2 || match p.1.dst, q.1.dst with | some s, some t => !Nat.beq s t | _, _ => true)
def freshChk (os : List Oper) (l : List (Nat × Value)) : Bool := os.all fun o => match o.dst with | some d => l.all fun p => !Nat.beq p.1 d | none => true

inductive Fact where
  | is (v : Value)
  | ok (Φ : Pr)
def Fact.pr : Fact → Pr
  | .is v => fun u _ => u = v
  | .ok Φ => Φ
theorem Fact.stable {f : Fact} (h : ∀ Φ, f = .ok Φ → Stable Φ) : Stable f.pr := by
  cases f with
  | is v => exact fun _ _ _ h _ => h
  | ok Φ => exact h Φ rfl

def pushx : List (Nat × Fact) → List (Nat × Value)
  | [] => []
  | (d, .is v) :: fs => (d, v) :: pushx fs
  | (_, .ok _) :: fs => pushx fs
def pushG : List (Nat × Fact) → List (Nat × Pr)
  | [] => []
  | (_, .is _) :: fs => pushG fs
  | (d, .ok Φ) :: fs => (d, Φ) :: pushG fs
theorem pushx_mem : ∀ {fs : List (Nat × Fact)} {p : Nat × Value}, p ∈ pushx fs → (p.1, Fact.is p.2) ∈ fs
  | (d, .is v) :: fs, p, h => by
    simp only [pushx, List.mem_cons] at h
    rcases h with rfl | h
    · exact List.mem_cons_self ..
    · exact List.mem_cons_of_mem _ (pushx_mem h)
  | (_, .ok _) :: fs, p, h => List.mem_cons_of_mem _ (pushx_mem (by simpa [pushx] using h))
theorem pushG_mem : ∀ {fs : List (Nat × Fact)} {p : Nat × Pr}, p ∈ pushG fs → (p.1, Fact.ok p.2) ∈ fs
  | (d, .ok v) :: fs, p, h => by
    simp only [pushG, List.mem_cons] at h
    rcases h with rfl | h
    · exact List.mem_cons_self ..
    · exact List.mem_cons_of_mem _ (pushG_mem h)
  | (_, .is _) :: fs, p, h => List.mem_cons_of_mem _ (pushG_mem (by simpa [pushG] using h))

section
variable {P : Program} {ops : Array Oper} {n : Nat} {l : List (Nat × Value)} {w : World} {E : List (Nat × Value) → List (Nat × Pr) → Prop}

/-- The facts that the walk has picked, one an operation; each operation's own duty, in what came ahead of it. -/
theorem dagw_facts : ∀ (os : List Oper) (fs : List (Nat × Fact)), DagW P ops n l w E os (pushx fs) (pushG fs) →
    ∃ F : List (Nat × Fact), F.length = os.length ∧
      (∀ j o p, os[j]? = some o → F[j]? = some p → o.dst = some p.1 ∧ (∀ Φ, p.2 = .ok Φ → Stable Φ) ∧ Obl P ops n l w o (pushx ((F.take j).reverse ++ fs)) (pushG ((F.take j).reverse ++ fs)) p.2.pr) ∧
      E (pushx (F.reverse ++ fs)) (pushG (F.reverse ++ fs))
  | [], fs, h => ⟨[], rfl, by simp, h⟩
  | o :: os, fs, h => by
    obtain ⟨d, hd, h⟩ := h
    obtain ⟨f, hs, hob, hrest⟩ : ∃ f : Fact, (∀ Φ, f = .ok Φ → Stable Φ) ∧ Obl P ops n l w o (pushx fs) (pushG fs) f.pr ∧ DagW P ops n l w E os (pushx ((d, f) :: fs)) (pushG ((d, f) :: fs)) := by
      rcases h with ⟨v, ho, h⟩ | ⟨Φ, hs, ho, h⟩
      · exact ⟨.is v, by simp, ho, h⟩
      · exact ⟨.ok Φ, fun Φ' e => by injection e with e; subst e; exact hs, ho, h⟩
    obtain ⟨F, hl, hF, hE⟩ := dagw_facts os ((d, f) :: fs) hrest
    refine ⟨(d, f) :: F, by simp [hl], ?_, by simpa using hE⟩
    intro j o' p ho' hp
    cases j with
    | zero =>
      simp at ho' hp
      subst ho'; subst hp
      exact ⟨hd, hs, by simpa using hob⟩
    | succ j =>
      simp at ho' hp
      have := hF j o' p ho' hp
      simpa [List.take_succ_cons] using this
end

section
variable {P : Program} {n : Nat} {l : List (Nat × Value)} {w : World} {os tail : List Oper} {F : List (Nat × Fact)} {Q : Exit → Act → World → Prop}

/-- At a place of whatever order. -/
structure Inv (os tail : List Oper) (n : Nat) (l : List (Nat × Value)) (w : World) (F : List (Nat × Fact)) (listed : Array Bool) (a : Act) (w' : World) : Prop where
  ext : Ext w w'
  has : Has n l a
  fact : ∀ (j : Nat) (p : Nat × Fact), F[j]? = some p → listed.getD j false = true → ∃ v, a.tmps[p.1]? = some v ∧ p.2.pr v w'
  size : listed.size = (os ++ tail).length
  closed : ∀ (j : Nat) (o : Oper), os[j]? = some o → listed.getD j false = true → ∀ i ∈ predsB o, listed.getD i false = true

theorem filt_mem {ops : Array Oper} {o : Oper} : ∀ {lx : List (Nat × Value)} {p : Nat × Value}, p ∈ filt ops o lx → p ∈ lx ∧ looks ops o p.1 = true
  | q :: lx, p, h => by
    simp only [filt] at h
    cases hq : looks ops o q.1 with
    | true =>
      rw [hq] at h
      simp only [cond_true, List.mem_cons] at h
      rcases h with rfl | h
      · exact ⟨List.mem_cons_self .., hq⟩
      · exact ⟨List.mem_cons_of_mem _ (filt_mem h).1, (filt_mem h).2⟩
    | false =>
      rw [hq] at h
      simp only [cond_false] at h
      exact ⟨List.mem_cons_of_mem _ (filt_mem h).1, (filt_mem h).2⟩

theorem getD_set_self {listed : Array Bool} {i : Nat} (h : i < listed.size) : (listed.setIfInBounds i true).getD i false = true := by simp [h]
theorem getD_set_other {listed : Array Bool} {i j : Nat} (h : j ≠ i) (b : Bool) : (listed.setIfInBounds i true).getD j b = listed.getD j b := by
  simp [Array.getElem?_setIfInBounds_ne (fun e => h e.symm)]
theorem getD_set_mono {listed : Array Bool} {i j : Nat} (h : listed.getD j false = true) : (listed.setIfInBounds i true).getD j false = true := by
  by_cases e : j = i
  · subst e
    rcases Nat.lt_or_ge j listed.size with hl | hl
    · exact getD_set_self hl
    · simp [Array.getElem?_eq_none hl] at h
  · rw [getD_set_other e]; exact h

theorem Oper.wp_change {o : Oper} {a : Act} {w : World} {K K' : Act → World → Prop} {Q Q' : Exit → Act → World → Prop} (h : ∀ a w, K a w → K' a w) (hq : ∀ e a w, e ≠ .normal → ¬ Q e a w)
    (hh : o.wp P a w K Q) : o.wp P a w K' Q' := by
  unfold Oper.wp at *
  generalize (execOp a.eval o).run P w = r at *
  cases r with
  | ok m w' =>
    cases m <;> simp only [Oper.upon] at hh ⊢ <;>
      first
        | exact h _ _ hh
        | exact Calls.mono hh (fun e w'' he => by
            cases e with
            | returned v => exact h _ _ he
            | panicked c => exact absurd he (hq _ _ _ (by simp))
            | outgrown => obtain ⟨a, w, he⟩ := he; exact absurd he (hq _ _ _ (by simp)))
        | exact Rows.mono hh (fun _ _ he => h _ _ he)
  | halt x w' => cases x <;> simp only [Oper.upon] at hh ⊢ <;> exact absurd hh (hq _ _ _ (by simp))

theorem dag_step (hchk : dagChk n (os ++ tail).toArray os = true) (hfr : freshChk os l = true) (hlen : F.length = os.length)
    (hF : ∀ (j : Nat) (o : Oper) (p : Nat × Fact), os[j]? = some o → F[j]? = some p → o.dst = some p.1 ∧ (∀ Φ, p.2 = .ok Φ → Stable Φ) ∧ Obl P (os ++ tail).toArray n l w o (pushx ((F.take j).reverse)) (pushG ((F.take j).reverse)) p.2.pr)
    {listed : Array Bool} {a : Act} {w' : World} (I : Inv os tail n l w F listed a w') {j : Nat} {o : Oper} (ho : os[j]? = some o) (hr : j ∈ Region.ready .any (os ++ tail).toArray listed)
    {K : Act → World → Prop} (hK : ∀ a' w'', Inv os tail n l w F (listed.setIfInBounds j true) a' w'' → K a' w'') : wpOp P (os ++ tail).toArray Q j K a w' := by
  simp only [dagChk, Bool.and_eq_true, List.all_eq_true] at hchk
  obtain ⟨hc1, hc2⟩ := hchk
  have hjl : j < os.length := (List.getElem?_eq_some_iff.1 ho).1
  have hops : (os ++ tail).toArray[j]? = some o := by simp [List.getElem?_append_left hjl, ho]
  obtain ⟨p, hp⟩ : ∃ p, F[j]? = some p := ⟨F[j]'(by omega), by rw [List.getElem?_eq_getElem]⟩
  obtain ⟨hdst, hst, hob⟩ := hF j o p ho hp
  have hoz : (o, j) ∈ os.zipIdx := by rw [List.mem_zipIdx_iff_getElem?]; exact ho
  obtain ⟨⟨hA0, hAd⟩, hA2⟩ := hc1 (o, j) hoz
  simp only [hdst] at hAd
  have hdn : p.1 < n := by simpa [Nat.blt_eq] using hAd
  have hready : ∀ i ∈ predsB o, listed.getD i false = true := by
    intro i hi
    obtain ⟨_, o', ho', hall⟩ := mem_ready.1 hr
    have e : o' = o := by rw [hops] at ho'; simpa using ho'.symm
    subst e
    simp only [predsB, List.mem_map, List.mem_filter] at hi
    obtain ⟨e, ⟨he, hb⟩, rfl⟩ := hi
    exact hall e (by simpa using he) hb
  have known : ∀ (i : Nat) (q : Nat × Fact), F[i]? = some q → looks (os ++ tail).toArray o q.1 = true → ∃ v, a.tmps[q.1]? = some v ∧ q.2.pr v w' := by
    intro i q hq hl
    have hil : i < os.length := by rw [← hlen]; exact (List.getElem?_eq_some_iff.1 hq).1
    obtain ⟨oi, hoi⟩ : ∃ oi, os[i]? = some oi := ⟨os[i], by rw [List.getElem?_eq_getElem]⟩
    have hd := (hF i oi q hoi hq).1
    have := hA2 (oi, i) (by rw [List.mem_zipIdx_iff_getElem?]; exact hoi)
    simp only [hd, hl, Bool.not_true, Bool.false_or, List.contains_iff_mem] at this
    exact I.fact i q hq (hready i this)
  have memF : ∀ q : Nat × Fact, q ∈ (F.take j).reverse → ∃ i : Nat, F[i]? = some q := by
    intro q hq
    have := List.mem_of_mem_take (List.mem_reverse.1 hq)
    obtain ⟨i, hi⟩ := List.getElem?_of_mem this
    exact ⟨i, hi⟩
  have hFull : Full n (filt (os ++ tail).toArray o (pushx (F.take j).reverse) ++ (l ++ slots a)) a := by
    have h0 := full_slots I.has
    refine ⟨⟨h0.has.size, h0.has.defers, fun t v hv => ?_⟩, fun t ht => ?_⟩
    · rw [lookq_append] at hv
      cases hl : lookq (filt (os ++ tail).toArray o (pushx (F.take j).reverse)) t with
      | none => rw [hl] at hv; exact h0.has.at_ t v hv
      | some u =>
        rw [hl] at hv
        simp at hv
        subst hv
        have hm := filt_mem (lookq_mem hl)
        obtain ⟨i, hi⟩ := memF _ (pushx_mem hm.1)
        obtain ⟨x, hx1, hx2⟩ := known i _ hi hm.2
        simp only [Fact.pr] at hx2
        rw [hx1, hx2]
    · rw [lookq_append]
      cases lookq (filt (os ++ tail).toArray o (pushx (F.take j).reverse)) t with
      | none => exact h0.all t ht
      | some u => rfl
  have hKn : Kn (os ++ tail).toArray o (pushG (F.take j).reverse) a w' := by
    intro q hq hl
    obtain ⟨i, hi⟩ := memF _ (pushG_mem hq)
    obtain ⟨v, h1, h2⟩ := known i _ hi hl
    exact ⟨v, h1, h2⟩
  have H := hob w' a (slots a) I.ext hFull hKn a hFull.has
  have fin : ∀ v w'', Ext w' w'' → p.2.pr v w'' → K (a.put o.dst v) w'' := by
    intro v w'' hE hΦ
    rw [hdst]
    refine hK _ _ ⟨I.ext.trans hE, ⟨by simp [Act.put, I.has.size], by simp [Act.put, I.has.defers], fun t u hu => ?_⟩, fun i q hq hli => ?_, by simp [I.size], fun i oi hoi hli k hk => ?_⟩
    · have hne : t ≠ p.1 := by
        simp only [freshChk, List.all_eq_true] at hfr
        have := hfr o (List.mem_of_getElem? ho)
        simp only [hdst, List.all_eq_true] at this
        have := this _ (lookq_mem hu)
        intro e
        simp [e] at this
      simp only [Act.put]
      rw [Array.getElem?_setIfInBounds_ne (fun e => hne e.symm)]
      exact I.has.at_ t u hu
    · by_cases e : i = j
      · subst e
        rw [hp] at hq
        injection hq with hq
        subst hq
        exact ⟨v, by simp [Act.put, I.has.size, hdn], hΦ⟩
      · rw [getD_set_other e] at hli
        obtain ⟨x, h1, h2⟩ := I.fact i q hq hli
        have hil : i < os.length := by rw [← hlen]; exact (List.getElem?_eq_some_iff.1 hq).1
        obtain ⟨oi, hoi⟩ : ∃ oi, os[i]? = some oi := ⟨os[i], by rw [List.getElem?_eq_getElem]⟩
        obtain ⟨hdi, hsi, _⟩ := hF i oi q hoi hq
        refine ⟨x, ?_, Fact.stable hsi x w' w'' h2 hE⟩
        have hne : q.1 ≠ p.1 := by
          have := hc2 (o, j) hoz (oi, i) (by rw [List.mem_zipIdx_iff_getElem?]; exact hoi)
          simp only [hdst, hdi, Bool.or_eq_true, beq_iff_eq, e, false_or] at this
          intro h
          rw [h] at this
          simp at this
        simp only [Act.put]
        rw [Array.getElem?_setIfInBounds_ne (fun e => hne e.symm)]
        exact h1
    · by_cases e : i = j
      · subst e
        rw [ho] at hoi
        injection hoi with hoi
        subst hoi
        exact getD_set_mono (hready k hk)
      · rw [getD_set_other e] at hli
        exact getD_set_mono (I.closed i oi hoi hli k hk)
  unfold wpOp
  simp only [hops]
  unfold wpList at H
  split
  · rename_i hw
    rw [if_pos hw] at H
    rcases H with H | ⟨_, x, y, hQ⟩
    · refine .inl (Oper.wp_change (fun a' w'' h => ?_) (fun e a' w'' he h => he h.1) H)
      obtain ⟨_, v, rfl, hE, hΦ⟩ := h
      exact fin v w'' hE hΦ
    · exact absurd hQ.1 (by simp)
  · rename_i hw
    rw [if_neg hw] at H
    obtain ⟨_, v, hv, hE, hΦ⟩ := H
    rw [hv]
    exact fin v w' hE hΦ

def cntF (listed : Array Bool) : Nat := listed.toList.countP (fun b => !b)
theorem cntF_set {listed : Array Bool} {i : Nat} (h : i < listed.size) (hf : listed.getD i true = false) : cntF (listed.setIfInBounds i true) + 1 = cntF listed := by
  have hi : listed[i] = false := by simpa [h] using hf
  unfold cntF
  rw [Array.toList_setIfInBounds, List.countP_set (by simpa using h)]
  have hp : 0 < listed.toList.countP (fun b => !b) := List.countP_pos_iff.2 ⟨listed[i], by simp, by simp [hi]⟩
  have hi' : listed.toList[i]'(by simpa using h) = false := by simpa using hi
  rw [hi']
  simp only [Bool.not_false, if_true, Bool.not_true, Bool.false_eq_true, if_false]
  omega
theorem all_of_cnt {listed : Array Bool} (h : cntF listed = 0) {i : Nat} (hi : i < listed.size) : listed.getD i false = true := by
  unfold cntF at h
  rw [List.countP_eq_zero] at h
  have := h listed[i] (by simp)
  simpa [hi] using this

/-- Whatever has not come up yet and waits for nothing that has not is ready: the least one. -/
theorem ready_nil_all (hback : ∀ (j : Nat) (o : Oper), (os ++ tail)[j]? = some o → ∀ i ∈ predsB o, i < j) {listed : Array Bool} (hs : listed.size = (os ++ tail).length) (h : Region.ready .any (os ++ tail).toArray listed = []) :
    ∀ j, j < (os ++ tail).length → listed.getD j false = true := by
  intro j
  induction j using Nat.strongRecOn with
  | _ j ih =>
    intro hj
    cases hb : listed.getD j false with
    | true => rfl
    | false =>
      exfalso
      have hm : j ∈ Region.ready .any (os ++ tail).toArray listed := by
        refine mem_ready.2 ⟨?_, (os ++ tail)[j], by simp [hj], fun e he hbd => ?_⟩
        · have hjs : j < listed.size := by omega
          simpa [hjs] using hb
        · have hp : e.on ∈ predsB (os ++ tail)[j] := by
            simp only [predsB, List.mem_map, List.mem_filter]
            exact ⟨e, ⟨by simpa using he, hbd⟩, rfl⟩
          have hlt := hback j _ (List.getElem?_eq_getElem hj) _ hp
          exact ih _ hlt (by omega)
      rw [h] at hm
      cases hm

/-- The end of the walk: whatever the order was. -/
def DEnd (q : Act → World → Prop) (n : Nat) (l : List (Nat × Value)) (w : World) (lx : List (Nat × Value)) (G : List (Nat × Pr)) : Prop :=
  ∀ w' a, Ext w w' → Has n (lx ++ l) a → (∀ p ∈ G, ∃ v, a.tmps[p.1]? = some v ∧ p.2 v w') → q a w'

theorem dag_done {q : Act → World → Prop} {lx : List (Nat × Value)} {G : List (Nat × Pr)} (h : ∀ w', Ext w w' → HQ q n (lx ++ l) w') : DEnd q n l w lx G := fun w' a hE ha _ => h w' hE a ha
theorem dag_done1 {q : Act → World → Prop} {lx : List (Nat × Value)} {t : Nat} {Φ : Pr} (h : ∀ w' v, Ext w w' → Φ v w' → HQ q n ((t, v) :: (lx ++ l)) w') : DEnd q n l w lx [(t, Φ)] := fun w' a hE ha hG => by
  obtain ⟨v, hv, hΦ⟩ := hG (t, Φ) (by simp)
  refine h w' v hE hΦ a ⟨ha.size, ha.defers, fun u x hu => ?_⟩
  simp only [lookq] at hu
  cases hb : Nat.beq u t
  · rw [hb] at hu; exact ha.at_ u x hu
  · rw [hb] at hu
    simp only [cond_true, Option.some.injEq] at hu
    subst hu
    rw [Nat.eq_of_beq_eq_true hb]
    exact hv

theorem inv_end (hlen : F.length = os.length) {listed : Array Bool} {a : Act} {w' : World} (I : Inv os tail n l w F listed a w') (hall : ∀ j, j < os.length → listed.getD j false = true) {q : Act → World → Prop}
    (hE : DEnd q n l w (pushx F.reverse) (pushG F.reverse)) : q a w' := by
  have hk : ∀ p ∈ F, ∃ v, a.tmps[p.1]? = some v ∧ p.2.pr v w' := fun p hp => by
    obtain ⟨i, hi⟩ := List.getElem?_of_mem hp
    exact I.fact i p hi (hall i (by rw [← hlen]; exact (List.getElem?_eq_some_iff.1 hi).1))
  refine hE w' a I.ext ⟨I.has.size, I.has.defers, fun t v hv => ?_⟩ fun p hp => ?_
  · rw [lookq_append] at hv
    cases hl : lookq (pushx F.reverse) t with
    | none => rw [hl] at hv; exact I.has.at_ t v hv
    | some u =>
      rw [hl] at hv
      simp at hv
      subst hv
      obtain ⟨x, h1, h2⟩ := hk _ (List.mem_reverse.1 (pushx_mem (lookq_mem hl)))
      simp only [Fact.pr] at h2
      rw [h1, h2]
  · exact hk _ (List.mem_reverse.1 (pushG_mem hp))

theorem dag_any (hchk : dagChk n os.toArray os = true) (hfr : freshChk os l = true) (hlen : F.length = os.length)
    (hF : ∀ (j : Nat) (o : Oper) (p : Nat × Fact), os[j]? = some o → F[j]? = some p → o.dst = some p.1 ∧ (∀ Φ, p.2 = .ok Φ → Stable Φ) ∧ Obl P os.toArray n l w o (pushx ((F.take j).reverse)) (pushG ((F.take j).reverse)) p.2.pr)
    (hE : DEnd (Q .normal) n l w (pushx F.reverse) (pushG F.reverse)) :
    ∀ (fuel : Nat) (listed : Array Bool) (a : Act) (w' : World), cntF listed = fuel → Inv os [] n l w F listed a w' → wpAny P .any os.toArray Q fuel listed a w' := by
  have hback : ∀ (j : Nat) (o : Oper), (os ++ [])[j]? = some o → ∀ i ∈ predsB o, i < j := by
    intro j o ho i hi
    simp only [dagChk, Bool.and_eq_true, List.all_eq_true] at hchk
    have := (hchk.1 (o, j) (by rw [List.mem_zipIdx_iff_getElem?]; simpa using ho)).1.1 i hi
    simpa [Nat.blt_eq] using this
  intro fuel
  induction fuel with
  | zero =>
    intro listed a w' hc I
    have hall : ∀ j, j < listed.size → listed.getD j false = true := fun j hj => all_of_cnt hc hj
    have hsz : listed.size = os.length := by simpa using I.size
    refine ⟨?_, inv_end hlen I (fun j hj => hall j (by omega)) hE⟩
    cases hr : Region.ready .any os.toArray listed with
    | nil => rfl
    | cons j js =>
      exfalso
      obtain ⟨h1, o, h2, _⟩ := mem_ready.1 (by rw [hr]; exact List.mem_cons_self .. : j ∈ Region.ready .any os.toArray listed)
      have hj : j < os.length := by
        have := (Array.getElem?_eq_some_iff.1 h2).1
        simpa using this
      have h3 := hall j (by omega)
      have hjs : j < listed.size := by omega
      simp [hjs] at h1 h3
      rw [h1] at h3
      cases h3
  | succ fuel ih =>
    intro listed a w' hc I
    have hsz : listed.size = os.length := by simpa using I.size
    refine ⟨fun hr => inv_end hlen I (fun j hj => ready_nil_all (tail := []) hback I.size (by simpa using hr) j (by simpa using hj)) hE, fun j hj => ?_⟩
    obtain ⟨h1, o, h2, _⟩ := mem_ready.1 hj
    have hjl : j < os.length := by
      have := (Array.getElem?_eq_some_iff.1 h2).1
      simpa using this
    have := dag_step (Q := Q) (tail := []) (by simpa using hchk) hfr hlen (by simpa using hF) I (j := j) (o := o) (by simpa using h2) (by simpa using hj)
      (K := wpAny P .any os.toArray Q fuel (listed.setIfInBounds j true)) (fun a' w'' I' => ih _ a' w'' (by have := cntF_set (listed := listed) (i := j) (by omega) h1; omega) I')
    simpa using this

class MixC (P : Program) : Prop where h : P.follows .mixedOrders = true
theorem hq_dag {id : Nat} (l' : List (Nat × Value)) [hm : MixC P]
    (h : DagW P os.toArray n l' w (DEnd (Q .normal) n l' w) os [] []) (hsub : Sub l' l := by repeat (first | exact Sub.nil _ | refine Sub.cons rfl ?_)) (hchk : dagChk n os.toArray os = true := by first | decide +kernel | with_unfolding_all rfl) (hfr : freshChk os l' = true := by with_unfolding_all rfl) : HQ ((Code.region id os.toArray true).wp P Q) n l w := by
  intro a ha
  obtain ⟨F, hlen, hF, hE⟩ := dagw_facts os [] h
  refine wp_region_any hm.h ?_
  have hsz : os.toArray.size = os.length := by simp
  rw [hsz]
  refine dag_any (F := F) (w := w) hchk hfr hlen (by simpa using hF) (by simpa using hE) os.length (Array.replicate os.length false) a _ (by simp [cntF, List.countP_replicate]) ⟨Below.drew (Below.refl _ _), ha.sub hsub, fun j p hp hl => ?_, by simp, fun j o ho hl => ?_⟩
  · exfalso
    simp [Array.getElem?_replicate] at hl
    split at hl <;> simp at hl
  · exfalso
    simp [Array.getElem?_replicate] at hl
    split at hl <;> simp at hl

/-- Everybody is waited for. -/
def tailChk (os : List Oper) (last : Oper) : Bool :=
  ((predsB last).all fun i => Nat.blt i os.length) && (List.range os.length).all fun i => (predsB last).contains i || os.any fun o => (predsB o).contains i
theorem hq_dag_tail {id : Nat} {last : Oper} (l' : List (Nat × Value)) [hm : MixC P]
    (h : DagW P (os ++ [last]).toArray n l' w (DEnd (wpList P (os ++ [last]).toArray Q [last]) n l' w) os [] []) (hsub : Sub l' l := by repeat (first | exact Sub.nil _ | refine Sub.cons rfl ?_)) (hchk : dagChk n (os ++ [last]).toArray os = true := by with_unfolding_all rfl) (htl : tailChk os last = true := by with_unfolding_all rfl) (hfr : freshChk os l' = true := by with_unfolding_all rfl) : HQ ((Code.region id (os ++ [last]).toArray true).wp P Q) n l w := by
  intro a ha
  obtain ⟨F, hlen, hF, hE⟩ := dagw_facts os [] h
  have hF' : ∀ (j : Nat) (o : Oper) (p : Nat × Fact), os[j]? = some o → F[j]? = some p → o.dst = some p.1 ∧ (∀ Φ, p.2 = .ok Φ → Stable Φ) ∧ Obl P (os ++ [last]).toArray n l' w o (pushx ((F.take j).reverse)) (pushG ((F.take j).reverse)) p.2.pr := by simpa using hF
  have hback0 : ∀ (j : Nat) (o : Oper), os[j]? = some o → ∀ i ∈ predsB o, i < j := by
    intro j o ho i hi
    simp only [dagChk, Bool.and_eq_true, List.all_eq_true] at hchk
    have := (hchk.1 (o, j) (by rw [List.mem_zipIdx_iff_getElem?]; exact ho)).1.1 i hi
    simpa [Nat.blt_eq] using this
  simp only [tailChk, Bool.and_eq_true, List.all_eq_true] at htl
  have hback : ∀ (j : Nat) (o : Oper), (os ++ [last])[j]? = some o → ∀ i ∈ predsB o, i < j := by
    intro j o ho i hi
    rcases Nat.lt_or_ge j os.length with h | h
    · rw [List.getElem?_append_left h] at ho
      exact hback0 j o ho i hi
    · rw [List.getElem?_append_right h] at ho
      have hj : j - os.length = 0 := by
        rcases Nat.eq_zero_or_pos (j - os.length) with h | h
        · exact h
        · rw [List.getElem?_eq_none (by simp; omega)] at ho; cases ho
      rw [hj] at ho
      simp at ho
      subst ho
      have := htl.1 i hi
      simp [Nat.blt_eq] at this
      omega
  -- where the last one may come up all others have
  have hlast : ∀ (listed : Array Bool) (a : Act) (w' : World), Inv os [last] n l' w F listed a w' → (∀ i ∈ predsB last, listed.getD i false = true) → ∀ j, j < os.length → listed.getD j false = true := by
    intro listed a w' I hp
    have key : ∀ m j, os.length - j = m → j < os.length → listed.getD j false = true := by
      intro m
      induction m using Nat.strongRecOn with
      | _ m ih =>
        intro j hm hj
        have := htl.2 j (by simpa using hj)
        simp only [Bool.or_eq_true, List.contains_iff_mem, List.any_eq_true] at this
        rcases this with h | ⟨o, ho, h⟩
        · exact hp j h
        · obtain ⟨k, hk⟩ := List.getElem?_of_mem ho
          have hkl : k < os.length := (List.getElem?_eq_some_iff.1 hk).1
          have hlt := hback0 k o hk j h
          exact I.closed k o hk (ih (os.length - k) (by omega) k rfl hkl) j h
    exact fun j hj => key _ j rfl hj
  have any : ∀ (fuel : Nat) (listed : Array Bool) (a : Act) (w' : World), cntF listed = fuel + 1 → listed.getD os.length true = false → Inv os [last] n l' w F listed a w' → wpAny P .any (os ++ [last]).toArray Q (fuel + 1) listed a w' := by
    intro fuel
    induction fuel with
    | zero =>
      intro listed a w' hc hlf I
      have hsz : listed.size = os.length + 1 := by simpa using I.size
      refine ⟨fun hr => ?_, fun j hj => ?_⟩
      · exfalso
        have := ready_nil_all hback I.size hr os.length (by simp)
        have hs : os.length < listed.size := by omega
        simp [hs] at this hlf
        rw [hlf] at this
        cases this
      · obtain ⟨h1, o, h2, h3⟩ := mem_ready.1 hj
        have hjl : j < os.length + 1 := by
          have := (Array.getElem?_eq_some_iff.1 h2).1
          simpa using this
        have hcs := cntF_set (listed := listed) (i := j) (by omega) h1
        by_cases e : j = os.length
        · subst e
          have ho : o = last := by simp at h2; exact h2.symm
          subst ho
          have hall := hlast listed a w' I (fun i hi => by
            simp only [predsB, List.mem_map, List.mem_filter] at hi
            obtain ⟨e, ⟨he, hb⟩, rfl⟩ := hi
            exact h3 e (by simpa using he) hb)
          have HE := inv_end hlen I hall (by simpa using hE)
          have hnil : Region.ready .any (os ++ [o]).toArray (listed.setIfInBounds os.length true) = [] := by
            cases hr : Region.ready .any (os ++ [o]).toArray (listed.setIfInBounds os.length true) with
            | nil => rfl
            | cons k ks =>
              exfalso
              obtain ⟨k1, o', k2, _⟩ := mem_ready.1 (by rw [hr]; exact List.mem_cons_self .. : k ∈ Region.ready .any (os ++ [o]).toArray (listed.setIfInBounds os.length true))
              have hkl : k < os.length + 1 := by
                have := (Array.getElem?_eq_some_iff.1 k2).1
                simpa using this
              have := all_of_cnt (listed := listed.setIfInBounds os.length true) (by omega) (i := k) (by simp; omega)
              have hks : k < (listed.setIfInBounds os.length true).size := by simp; omega
              simp only [Array.getD_eq_getD_getElem?, Array.getElem?_eq_getElem hks, Option.getD_some] at k1 this
              rw [k1] at this
              cases this
          unfold wpOp
          simp only [h2]
          unfold wpList at HE
          split
          · rename_i hw
            rw [if_pos hw] at HE
            exact HE.imp (Oper.wp_mono fun a w h => ⟨hnil, h⟩) (fun h => h)
          · rename_i hw
            rw [if_neg hw] at HE
            exact ⟨hnil, HE⟩
        · exfalso
          have h4 : os.length < (listed.setIfInBounds j true).size := by simp; omega
          have h5 := all_of_cnt (listed := listed.setIfInBounds j true) (by omega) h4
          rw [getD_set_other (fun h => e h.symm)] at h5
          have hs : os.length < listed.size := by omega
          simp [hs] at h5 hlf
          rw [hlf] at h5
          cases h5
    | succ fuel ih =>
      intro listed a w' hc hlf I
      have hsz : listed.size = os.length + 1 := by simpa using I.size
      refine ⟨fun hr => ?_, fun j hj => ?_⟩
      · exfalso
        have := ready_nil_all hback I.size hr os.length (by simp)
        have hs : os.length < listed.size := by omega
        simp [hs] at this hlf
        rw [hlf] at this
        cases this
      · obtain ⟨h1, o, h2, h3⟩ := mem_ready.1 hj
        have hjl : j < os.length + 1 := by
          have := (Array.getElem?_eq_some_iff.1 h2).1
          simpa using this
        have hcs := cntF_set (listed := listed) (i := j) (by omega) h1
        by_cases e : j = os.length
        · exfalso
          subst e
          have ho : o = last := by simp at h2; exact h2.symm
          subst ho
          have hall := hlast listed a w' I (fun i hi => by
            simp only [predsB, List.mem_map, List.mem_filter] at hi
            obtain ⟨e, ⟨he, hb⟩, rfl⟩ := hi
            exact h3 e (by simpa using he) hb)
          have : cntF (listed.setIfInBounds os.length true) = 0 := by
            unfold cntF
            rw [List.countP_eq_zero]
            intro b hb
            obtain ⟨k, hk, rfl⟩ := List.getElem_of_mem hb
            have hk' : k < os.length + 1 := by simp at hk; omega
            have h6 : (listed.setIfInBounds os.length true).getD k false = true := by
              by_cases ek : k = os.length
              · subst ek; exact getD_set_self (by omega)
              · rw [getD_set_other ek]; exact hall k (by omega)
            have hks : k < (listed.setIfInBounds os.length true).size := by simpa using hk
            simp only [Array.getD_eq_getD_getElem?, Array.getElem?_eq_getElem hks, Option.getD_some] at h6
            have h7 : (listed.setIfInBounds os.length true).toList[k] = true := by rw [Array.getElem_toList]; exact h6
            rw [h7]; simp
          omega
        · have ho : os[j]? = some o := by
            simpa [List.getElem?_append_left (show j < os.length by omega)] using h2
          exact dag_step (Q := Q) (by simpa using hchk) hfr hlen hF' I ho hj (fun a' w'' I' => ih _ a' w'' (by omega) (by rw [getD_set_other (fun h => e h.symm)]; exact hlf) I')
  refine wp_region_any hm.h ?_
  have hsz : (os ++ [last]).toArray.size = os.length + 1 := by simp
  rw [hsz]
  refine any os.length _ a _ (by simp [cntF, List.countP_replicate]) (by simp [Array.getElem?_replicate]) ⟨Below.drew (Below.refl _ _), ha.sub hsub, fun j p hp hl => ?_, by simp, fun j o ho hl => ?_⟩
  · exfalso
    simp [Array.getElem?_replicate] at hl
    split at hl <;> simp at hl
  · exfalso
    simp [Array.getElem?_replicate] at hl
    split at hl <;> simp at hl
class Spl (all : List Oper) (os : outParam (List Oper)) (last : outParam Oper) : Prop where h : all = os ++ [last]
instance spl0 (o : Oper) : Spl [o] [] o := ⟨rfl⟩
instance splS (o o' : Oper) (all os : List Oper) (last : Oper) [h : Spl (o' :: all) os last] : Spl (o :: o' :: all) (o :: os) last := ⟨by rw [h.h]; rfl⟩
/-- The last operation is a store: told behind the others. -/
theorem hq_dagt {id : Nat} {all os : List Oper} {last : Oper} (l' : List (Nat × Value)) [hm : MixC P] [hsp : Spl all os last]
    (h : DagW P all.toArray n l' w (DEnd (wpList P all.toArray Q [last]) n l' w) os [] []) (hsub : Sub l' l := by repeat (first | exact Sub.nil _ | refine Sub.cons rfl ?_)) (hchk : dagChk n all.toArray os = true := by first | decide +kernel | with_unfolding_all rfl)
    (htl : tailChk os last = true := by first | decide +kernel | with_unfolding_all rfl) (hfr : freshChk os l' = true := by with_unfolding_all rfl) : HQ ((Code.region id all.toArray true).wp P Q) n l w := by
  have e := hsp.h
  subst e
  exact hq_dag_tail l' h hsub hchk htl hfr
end
end Go.Proofs.Ytdgbgnkfjcbgiaa.Sx
