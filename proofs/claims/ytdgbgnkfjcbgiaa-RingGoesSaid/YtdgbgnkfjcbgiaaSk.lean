/-
  Regions that draw their order: a store into a block that the region has made, in the middle.
-/
import Derived.Test.YtdgbgnkfjcbgiaaSi
set_option linter.unusedVariables false
set_option linter.unusedSimpArgs false
namespace Go.Proofs.Ytdgbgnkfjcbgiaa.Sx
open Go Go.RowKit

theorem Full.same {n : Nat} {l : List (Nat × Value)} {a a' : Act} (h : Full n l a) (h' : Has n l a') : a' = a := by
  have e1 : a'.tmps = a.tmps := by
    apply Array.ext
    · rw [h'.size, h.has.size]
    · intro t h1 h2
      rw [h'.size] at h1
      obtain ⟨u, hu⟩ := Option.isSome_iff_exists.1 (h.all t h1)
      have h3 := h'.at_ t u hu
      have h4 := h.has.at_ t u hu
      rw [Array.getElem?_eq_getElem (by rw [h'.size]; exact h1)] at h3
      rw [Array.getElem?_eq_getElem (by rw [h.has.size]; exact h1)] at h4
      simp at h3 h4
      rw [h3, h4]
  have e2 : a'.defers = a.defers := by rw [h'.defers, h.has.defers]
  cases a
  cases a'
  simp only at e1 e2
  subst e1
  subst e2
  rfl
/-- A block that the region has made, whatever it holds. -/
def BlkW (B sz ty : Nat) : Pr := fun v w => ∃ g arr, v = .pointer (some ⟨g, 0, none⟩) ∧ arr.length = sz ∧ (Ent.blk g arr ty).ok w ∧ B ≤ g
theorem BlkW.stable (B sz ty : Nat) : Stable (BlkW B sz ty) := fun v w w' ⟨g, arr, e, hl, h, hb⟩ hE => ⟨g, arr, e, hl, Ent.ok_of_same h (fun k hk => hE.block k (Ent.lt h k hk)), hb⟩
theorem mem_pushG : ∀ {fs : List (Nat × Fact)} {d : Nat} {Φ : Pr}, (d, Fact.ok Φ) ∈ fs → (d, Φ) ∈ pushG fs
  | (d', .ok Φ') :: fs, d, Φ, h => by
    simp only [pushG, List.mem_cons] at h ⊢
    rcases h with h | h
    · left
      injection h with h1 h2
      injection h2 with h2
      rw [h1, h2]
    · right; exact mem_pushG h
  | (_, .is _) :: fs, d, Φ, h => by
    simp only [pushG, List.mem_cons] at h ⊢
    rcases h with h | h
    · injection h with h1 h2; cases h2
    · exact mem_pushG h

section
variable {P : Program} {n : Nat} {l : List (Nat × Value)} {w : World} {os : List Oper} {F : List (Nat × Fact)} {Q : Exit → Act → World → Prop}
/-- The store has been made. -/
def StD (w : World) (sp : Nat) (vs : List Value) (tb : Nat) (a : Act) (w' : World) : Prop := ∃ g, a.tmps[sp]? = some (.pointer (some ⟨g, 0, none⟩)) ∧ w.heap.size ≤ g ∧ (Ent.blk g vs tb).ok w'
structure InvM (os : List Oper) (s n : Nat) (l : List (Nat × Value)) (w : World) (F : List (Nat × Fact)) (sp : Nat) (vs : List Value) (tb : Nat) (listed : Array Bool) (a : Act) (w' : World) : Prop where
  ext : Ext w w'
  has : Has n l a
  fact : ∀ (j : Nat) (p : Nat × Fact), F[j]? = some p → j ≠ s → listed.getD j false = true → ∃ v, a.tmps[p.1]? = some v ∧ p.2.pr v w'
  size : listed.size = os.length
  closed : ∀ (j : Nat) (o : Oper), os[j]? = some o → listed.getD j false = true → ∀ i ∈ predsB o, listed.getD i false = true
  stored : listed.getD s false = true → StD w sp vs tb a w'

theorem store_step {ops : Array Oper} {t ty sz sp sv tb g : Nat} {pos : String} {after : Array Edge} {arr vs : List Value} {a : Act} {w' : World} [hs : SzC P t sz] (hE : Ext w w') (ha : Has n l a) (h1 : a.tmps[sp]? = some (.pointer (some ⟨g, 0, none⟩))) (h2 : a.tmps[sv]? = some (.agg vs.toArray)) (hb : w.heap.size ≤ g) (hB : (Ent.blk g arr tb).ok w') (hl : arr.length = sz) (hv : vs.length = sz) (hu : vs.all (fun u => u.oneCell') = true) :
    wpList P ops (fun e a' w'' => e = .normal ∧ a' = a ∧ Ext w w'' ∧ (Ent.blk g vs tb).ok w'') [⟨none, .store t (.tmp sp) (.tmp sv), ty, pos, after, none⟩] a w' := by
  have hF := full_slots ha
  have l1 : evq (l ++ slots a) (.tmp sp) = some (.pointer (some ⟨g, 0, none⟩)) := hF.look h1
  have l2 : evq (l ++ slots a) (.tmp sv) = some (.agg vs.toArray) := hF.look h2
  have H : HQ (wpList P ops (fun e a' w'' => e = .normal ∧ a' = a ∧ Ext w w'' ∧ (Ent.blk g vs tb).ok w'') [⟨none, .store t (.tmp sp) (.tmp sv), ty, pos, after, none⟩]) n (l ++ slots a) w' :=
    st_storeAgg0 (Mem.adopt hB) (fun w1 M1 => hq_nil fun a' ha' => ⟨rfl, hF.same ha', ⟨M1.os.trans hE.os, M1.tape.trans hE.tape, M1.output.trans hE.output, Nat.le_trans hE.size M1.size, fun k hk => (M1.old k (Nat.lt_of_lt_of_le hk hE.size) (by simp; omega)).trans (hE.block k hk)⟩, M1.b0⟩) l1 l2 (hl := hv) (hu := hu) (ho := hl)
  exact H a hF.has

theorem dag_stepM {s sp tb sz : Nat} {vs : List Value} {st : Oper} (hst : os[s]? = some st) (hsd : st.dst = none) (hlsp : looks os.toArray st sp = true) (hdum : ∀ o ∈ os, looks os.toArray o n = false)
    (hchk : dagChk n os.toArray os = true) (hfr : freshChk os l = true) (hlen : F.length = os.length) (hFs : F[s]? = some (n, .is undef)) (hsp : ∃ sa, sa ≠ s ∧ F[sa]? = some (sp, .ok (BlkW w.heap.size sz tb)))
    (hF : ∀ (j : Nat) (o : Oper) (p : Nat × Fact), os[j]? = some o → F[j]? = some p → j ≠ s → o.dst = some p.1 ∧ (∀ Φ, p.2 = .ok Φ → Stable Φ) ∧ Obl P os.toArray n l w o (pushx ((F.take j).reverse)) (pushG ((F.take j).reverse)) p.2.pr)
    {listed : Array Bool} {a : Act} {w' : World} (I : InvM os s n l w F sp vs tb listed a w') {j : Nat} {o : Oper} (ho : os[j]? = some o) (hjs : j ≠ s) (hr : j ∈ Region.ready .any os.toArray listed)
    {K : Act → World → Prop} (hK : ∀ a' w'', InvM os s n l w F sp vs tb (listed.setIfInBounds j true) a' w'' → K a' w'') : wpOp P os.toArray Q j K a w' := by
  simp only [dagChk, Bool.and_eq_true, List.all_eq_true] at hchk
  obtain ⟨hc1, hc2⟩ := hchk
  have hjl : j < os.length := (List.getElem?_eq_some_iff.1 ho).1
  have hops : os.toArray[j]? = some o := by simp [ho]
  obtain ⟨p, hp⟩ : ∃ p, F[j]? = some p := ⟨F[j]'(by omega), by rw [List.getElem?_eq_getElem]⟩
  obtain ⟨hdst, hst', hob⟩ := hF j o p ho hp hjs
  have hoz : (o, j) ∈ os.zipIdx := by rw [List.mem_zipIdx_iff_getElem?]; exact ho
  obtain ⟨⟨hA0, hAd⟩, hA2⟩ := hc1 (o, j) hoz
  simp only [hdst] at hAd
  have hdn : p.1 < n := by simpa [Nat.blt_eq] using hAd
  obtain ⟨hunl, hready⟩ : listed.getD j true = false ∧ ∀ i ∈ predsB o, listed.getD i false = true := by
    obtain ⟨hu, o', ho', hall⟩ := mem_ready.1 hr
    refine ⟨hu, ?_⟩
    intro i hi
    have e : o' = o := by rw [hops] at ho'; simpa using ho'.symm
    subst e
    simp only [predsB, List.mem_map, List.mem_filter] at hi
    obtain ⟨e, ⟨he, hb⟩, rfl⟩ := hi
    exact hall e (by simpa using he) hb
  have known : ∀ (i : Nat) (q : Nat × Fact), F[i]? = some q → looks os.toArray o q.1 = true → ∃ v, a.tmps[q.1]? = some v ∧ q.2.pr v w' := by
    intro i q hq hl
    have his : i ≠ s := by
      rintro rfl
      rw [hFs] at hq
      injection hq with hq
      subst hq
      rw [hdum o (List.mem_of_getElem? ho)] at hl
      cases hl
    have hil : i < os.length := by rw [← hlen]; exact (List.getElem?_eq_some_iff.1 hq).1
    obtain ⟨oi, hoi⟩ : ∃ oi, os[i]? = some oi := ⟨os[i], by rw [List.getElem?_eq_getElem]⟩
    have hd := (hF i oi q hoi hq his).1
    have := hA2 (oi, i) (by rw [List.mem_zipIdx_iff_getElem?]; exact hoi)
    simp only [hd, hl, Bool.not_true, Bool.false_or, List.contains_iff_mem] at this
    exact I.fact i q hq his (hready i this)
  have memF : ∀ q : Nat × Fact, q ∈ (F.take j).reverse → ∃ i : Nat, F[i]? = some q := by
    intro q hq
    have := List.mem_of_mem_take (List.mem_reverse.1 hq)
    obtain ⟨i, hi⟩ := List.getElem?_of_mem this
    exact ⟨i, hi⟩
  have hFull : Full n (filt os.toArray o (pushx (F.take j).reverse) ++ (l ++ slots a)) a := by
    have h0 := full_slots I.has
    refine ⟨⟨h0.has.size, h0.has.defers, fun t v hv => ?_⟩, fun t ht => ?_⟩
    · rw [lookq_append] at hv
      cases hl : lookq (filt os.toArray o (pushx (F.take j).reverse)) t with
      | none => rw [hl] at hv; exact h0.has.at_ t v hv
      | some u =>
        rw [hl] at hv
        simp at hv
        subst hv
        have hm := filt_mem (lookq_mem hl)
        obtain ⟨i, hi⟩ := memF _ (pushx_mem hm.1)
        obtain ⟨x, hx1, hx2⟩ := known i _ hi hm.2
        simp only [Fact.pr] at hx2
        rw [hx1, hx2]
    · rw [lookq_append]
      cases lookq (filt os.toArray o (pushx (F.take j).reverse)) t with
      | none => exact h0.all t ht
      | some u => rfl
  have hKn : Kn os.toArray o (pushG (F.take j).reverse) a w' := by
    intro q hq hl
    obtain ⟨i, hi⟩ := memF _ (pushG_mem hq)
    obtain ⟨v, h1, h2⟩ := known i _ hi hl
    exact ⟨v, h1, h2⟩
  have H := hob w' a (slots a) I.ext hFull hKn a hFull.has
  have fin : ∀ v w'', Ext w' w'' → p.2.pr v w'' → K (a.put o.dst v) w'' := by
    intro v w'' hE hΦ
    rw [hdst]
    refine hK _ _ ⟨I.ext.trans hE, ⟨by simp [Act.put, I.has.size], by simp [Act.put, I.has.defers], fun t u hu => ?_⟩, fun i q hq his hli => ?_, by simp [I.size], fun i oi hoi hli k hk => ?_, fun hls => ?_⟩
    · have hne : t ≠ p.1 := by
        simp only [freshChk, List.all_eq_true] at hfr
        have := hfr o (List.mem_of_getElem? ho)
        simp only [hdst, List.all_eq_true] at this
        have := this _ (lookq_mem hu)
        intro e
        simp [e] at this
      simp only [Act.put]
      rw [Array.getElem?_setIfInBounds_ne (fun e => hne e.symm)]
      exact I.has.at_ t u hu
    · by_cases e : i = j
      · subst e
        rw [hp] at hq
        injection hq with hq
        subst hq
        exact ⟨v, by simp [Act.put, I.has.size, hdn], hΦ⟩
      · rw [getD_set_other e] at hli
        obtain ⟨x, h1, h2⟩ := I.fact i q hq his hli
        have hil : i < os.length := by rw [← hlen]; exact (List.getElem?_eq_some_iff.1 hq).1
        obtain ⟨oi, hoi⟩ : ∃ oi, os[i]? = some oi := ⟨os[i], by rw [List.getElem?_eq_getElem]⟩
        obtain ⟨hdi, hsi, _⟩ := hF i oi q hoi hq his
        refine ⟨x, ?_, Fact.stable hsi x w' w'' h2 hE⟩
        have hne : q.1 ≠ p.1 := by
          have := hc2 (o, j) hoz (oi, i) (by rw [List.mem_zipIdx_iff_getElem?]; exact hoi)
          simp only [hdst, hdi, Bool.or_eq_true, beq_iff_eq, e, false_or] at this
          intro h
          rw [h] at this
          simp at this
        simp only [Act.put]
        rw [Array.getElem?_setIfInBounds_ne (fun e => hne e.symm)]
        exact h1
    · by_cases e : i = j
      · subst e
        rw [ho] at hoi
        injection hoi with hoi
        subst hoi
        exact getD_set_mono (hready k hk)
      · rw [getD_set_other e] at hli
        exact getD_set_mono (I.closed i oi hoi hli k hk)
    · rw [getD_set_other (fun e => hjs e.symm)] at hls
      obtain ⟨g, h1, h2, h3⟩ := I.stored hls
      have hne : sp ≠ p.1 := by
        intro e
        obtain ⟨sa, hsas, hsaF⟩ := hsp
        have hsal : sa < os.length := by rw [← hlen]; exact (List.getElem?_eq_some_iff.1 hsaF).1
        obtain ⟨oa, hoa⟩ : ∃ oa, os[sa]? = some oa := ⟨os[sa], by rw [List.getElem?_eq_getElem]⟩
        have hda := (hF sa oa _ hoa hsaF hsas).1
        -- sa is j, and the store waits for it
        have hsaj : sa = j := by
          by_cases e2 : sa = j
          · exact e2
          · exfalso
            have := hc2 (o, j) hoz (oa, sa) (by rw [List.mem_zipIdx_iff_getElem?]; exact hoa)
            simp only [hdst, hda, Bool.or_eq_true, beq_iff_eq, e2, false_or] at this
            rw [e] at this
            simp at this
        subst hsaj
        have hsz : (st, s) ∈ os.zipIdx := by rw [List.mem_zipIdx_iff_getElem?]; exact hst
        have := (hc1 (st, s) hsz).2 (oa, sa) (by rw [List.mem_zipIdx_iff_getElem?]; exact hoa)
        simp only [hda, hlsp, Bool.not_true, Bool.false_or, List.contains_iff_mem] at this
        have hli := I.closed s st hst hls sa this
        have hlt : sa < listed.size := by rw [I.size]; exact hsal
        simp [hlt] at hunl hli
        rw [hunl] at hli
        cases hli
      refine ⟨g, ?_, h2, Ent.ok_of_same h3 fun k hk => hE.block k (Ent.lt h3 k hk)⟩
      simp only [Act.put]
      rw [Array.getElem?_setIfInBounds_ne (fun e => hne e.symm)]
      exact h1
  unfold wpOp
  simp only [hops]
  unfold wpList at H
  split
  · rename_i hw
    rw [if_pos hw] at H
    rcases H with H | ⟨_, x, y, hQ⟩
    · refine .inl (Oper.wp_change (fun a' w'' h => ?_) (fun e a' w'' he h => he h.1) H)
      obtain ⟨_, v, rfl, hE, hΦ⟩ := h
      exact fin v w'' hE hΦ
    · exact absurd hQ.1 (by simp)
  · rename_i hw
    rw [if_neg hw] at H
    obtain ⟨_, v, hv, hE, hΦ⟩ := H
    rw [hv]
    exact fin v w' hE hΦ

theorem dag_anyM {s t ty sp sv tb sz : Nat} {pos : String} {after : Array Edge} {vs : List Value} [hsC : SzC P t sz] (hst : os[s]? = some ⟨none, .store t (.tmp sp) (.tmp sv), ty, pos, after, none⟩)
    (hlsp : looks os.toArray ⟨none, .store t (.tmp sp) (.tmp sv), ty, pos, after, none⟩ sp = true) (hlsv : looks os.toArray ⟨none, .store t (.tmp sp) (.tmp sv), ty, pos, after, none⟩ sv = true) (hdum : ∀ o ∈ os, looks os.toArray o n = false)
    (hchk : dagChk n os.toArray os = true) (hfr : freshChk os l = true) (hlen : F.length = os.length) (hFs : F[s]? = some (n, .is undef)) (hsp : ∃ sa, sa ≠ s ∧ F[sa]? = some (sp, .ok (BlkW w.heap.size sz tb))) (hsv : ∃ sa, sa ≠ s ∧ F[sa]? = some (sv, .is (.agg vs.toArray)))
    (hok : ∀ d Φ, (d, Fact.ok Φ) ∈ F → d = sp ∧ Φ = BlkW w.heap.size sz tb) (hvs : vs.length = sz) (hu : vs.all (fun u => u.oneCell') = true)
    (hF : ∀ (j : Nat) (o : Oper) (p : Nat × Fact), os[j]? = some o → F[j]? = some p → j ≠ s → o.dst = some p.1 ∧ (∀ Φ, p.2 = .ok Φ → Stable Φ) ∧ Obl P os.toArray n l w o (pushx ((F.take j).reverse)) (pushG ((F.take j).reverse)) p.2.pr)
    (hE : ∀ (w' : World) (g : Nat), Ext w w' → w.heap.size ≤ g → (Ent.blk g vs tb).ok w' → HQ (Q .normal) n ((sp, .pointer (some ⟨g, 0, none⟩)) :: ((pushx F.reverse).filter (fun p => !Nat.beq p.1 n) ++ l)) w') :
    ∀ (fuel : Nat) (listed : Array Bool) (a : Act) (w' : World), cntF listed = fuel → InvM os s n l w F sp vs tb listed a w' → wpAny P .any os.toArray Q fuel listed a w' := by
  have hsl : s < os.length := (List.getElem?_eq_some_iff.1 hst).1
  have hback : ∀ (j : Nat) (o : Oper), (os ++ [])[j]? = some o → ∀ i ∈ predsB o, i < j := by
    intro j o ho i hi
    simp only [dagChk, Bool.and_eq_true, List.all_eq_true] at hchk
    have := (hchk.1 (o, j) (by rw [List.mem_zipIdx_iff_getElem?]; simpa using ho)).1.1 i hi
    simpa [Nat.blt_eq] using this
  have fin : ∀ (listed : Array Bool) (a : Act) (w' : World), InvM os s n l w F sp vs tb listed a w' → (∀ j, j < os.length → listed.getD j false = true) → Q .normal a w' := by
    intro listed a w' I hall
    obtain ⟨g, h1, h2, h3⟩ := I.stored (hall s hsl)
    refine hE w' g I.ext h2 h3 a ⟨I.has.size, I.has.defers, fun u v hv => ?_⟩
    simp only [lookq] at hv
    cases hb : Nat.beq u sp with
    | true =>
      rw [hb] at hv
      simp only [cond_true, Option.some.injEq] at hv
      subst hv
      rw [Nat.eq_of_beq_eq_true hb]
      exact h1
    | false =>
      rw [hb] at hv
      simp only [cond_false] at hv
      rw [lookq_append] at hv
      cases hl : lookq ((pushx F.reverse).filter (fun p => !Nat.beq p.1 n)) u with
      | none => rw [hl] at hv; exact I.has.at_ u v hv
      | some x =>
        rw [hl] at hv
        simp at hv
        subst hv
        obtain ⟨hm, hne⟩ := List.mem_filter.1 (lookq_mem hl)
        obtain ⟨i, hi⟩ := List.getElem?_of_mem (List.mem_reverse.1 (pushx_mem hm))
        have his : i ≠ s := by
          rintro rfl
          rw [hFs] at hi
          injection hi with hi
          injection hi with hi
          subst hi
          simp at hne
        have hil : i < os.length := by rw [← hlen]; exact (List.getElem?_eq_some_iff.1 hi).1
        obtain ⟨y, h4, h5⟩ := I.fact i _ hi his (hall i hil)
        simp only [Fact.pr] at h5
        rw [h4, h5]
  intro fuel
  induction fuel with
  | zero =>
    intro listed a w' hc I
    have hall : ∀ j, j < listed.size → listed.getD j false = true := fun j hj => all_of_cnt hc hj
    have hsz : listed.size = os.length := I.size
    refine ⟨?_, fin listed a w' I (fun j hj => hall j (by omega))⟩
    cases hr : Region.ready .any os.toArray listed with
    | nil => rfl
    | cons j js =>
      exfalso
      obtain ⟨h1, o, h2, _⟩ := mem_ready.1 (by rw [hr]; exact List.mem_cons_self .. : j ∈ Region.ready .any os.toArray listed)
      have hj : j < os.length := by
        have := (Array.getElem?_eq_some_iff.1 h2).1
        simpa using this
      have h3 := hall j (by omega)
      have hjs : j < listed.size := by omega
      simp [hjs] at h1 h3
      rw [h1] at h3
      cases h3
  | succ fuel ih =>
    intro listed a w' hc I
    have hsz : listed.size = os.length := I.size
    refine ⟨fun hr => fin listed a w' I (fun j hj => ready_nil_all (tail := []) hback (by simpa using I.size) (by simpa using hr) j (by simpa using hj)), fun j hj => ?_⟩
    obtain ⟨h1, o, h2, h3⟩ := mem_ready.1 hj
    have hjl : j < os.length := by
      have := (Array.getElem?_eq_some_iff.1 h2).1
      simpa using this
    have hcs := cntF_set (listed := listed) (i := j) (by omega) h1
    by_cases hjs : j = s
    · subst hjs
      have hst' : os.toArray[j]? = some ⟨none, .store t (.tmp sp) (.tmp sv), ty, pos, after, none⟩ := by simp [hst]
      have ho : o = ⟨none, .store t (.tmp sp) (.tmp sv), ty, pos, after, none⟩ := by rw [hst'] at h2; exact (Option.some.inj h2).symm
      subst ho
      have hready : ∀ i ∈ predsB (⟨none, .store t (.tmp sp) (.tmp sv), ty, pos, after, none⟩ : Oper), listed.getD i false = true := by
        intro i hi
        simp only [predsB, List.mem_map, List.mem_filter] at hi
        obtain ⟨e, ⟨he, hb⟩, rfl⟩ := hi
        exact h3 e (by simpa using he) hb
      have hpre : ∀ (d : Nat) (f : Fact) (i : Nat), i ≠ j → F[i]? = some (d, f) → looks os.toArray ⟨none, .store t (.tmp sp) (.tmp sv), ty, pos, after, none⟩ d = true → ∃ v, a.tmps[d]? = some v ∧ f.pr v w' := by
        intro d f i hij hFi hlk
        have hil : i < os.length := by rw [← hlen]; exact (List.getElem?_eq_some_iff.1 hFi).1
        obtain ⟨oi, hoi⟩ : ∃ oi, os[i]? = some oi := ⟨os[i], by rw [List.getElem?_eq_getElem]⟩
        have hd := (hF i oi _ hoi hFi hij).1
        simp only [dagChk, Bool.and_eq_true, List.all_eq_true] at hchk
        have := (hchk.1 (_, j) (by rw [List.mem_zipIdx_iff_getElem?]; exact hst)).2 (oi, i) (by rw [List.mem_zipIdx_iff_getElem?]; exact hoi)
        simp only [hd, hlk, Bool.not_true, Bool.false_or, List.contains_iff_mem] at this
        exact I.fact i _ hFi hij (hready i this)
      obtain ⟨sa, hsas, hsaF⟩ := hsp
      obtain ⟨sb, hsbs, hsbF⟩ := hsv
      obtain ⟨v1, t1, g, arr, rfl, hal, hblk, hgb⟩ := hpre _ _ sa hsas hsaF hlsp
      obtain ⟨v2, t2, h5⟩ := hpre _ _ sb hsbs hsbF hlsv
      simp only [Fact.pr] at h5
      subst h5
      have H := store_step (P := P) (ops := os.toArray) (ty := ty) (pos := pos) (after := after) (t := t) I.ext I.has t1 t2 hgb hblk hal hvs hu
      have fin2 : ∀ a' w'', a' = a → Ext w w'' → (Ent.blk g vs tb).ok w'' → wpAny P .any os.toArray Q fuel (listed.setIfInBounds j true) a' w'' := by
        rintro a' w'' rfl hE2 hB2
        refine ih _ _ _ (by omega) ⟨hE2, I.has, fun i q hq hij hli => ?_, by simp [I.size], fun i oi hoi hli k hk => ?_, fun _ => ⟨g, t1, hgb, hB2⟩⟩
        · rw [getD_set_other hij] at hli
          obtain ⟨x, k1, k2⟩ := I.fact i q hq hij hli
          refine ⟨x, k1, ?_⟩
          obtain ⟨d, f⟩ := q
          cases f with
          | is u => exact k2
          | ok Φ =>
            obtain ⟨rfl, rfl⟩ := hok d Φ (List.mem_of_getElem? hq)
            dsimp only at k1
            rw [t1] at k1
            injection k1 with k1
            subst k1
            exact ⟨g, vs, rfl, hvs, hB2, hgb⟩
        · by_cases e : i = j
          · subst e
            rw [hst] at hoi
            injection hoi with hoi
            subst hoi
            exact getD_set_mono (hready k hk)
          · rw [getD_set_other e] at hli
            exact getD_set_mono (I.closed i oi hoi hli k hk)
      unfold wpOp
      simp only [hst']
      unfold wpList at H
      split
      · rename_i hw
        rw [if_pos hw] at H
        rcases H with H | ⟨_, x, y, hQ⟩
        · exact .inl (Oper.wp_change (fun a' w'' h => fin2 a' w'' h.2.1 h.2.2.1 h.2.2.2) (fun e a' w'' he h => he h.1) H)
        · exact absurd hQ.1 (by simp)
      · rename_i hw
        exact absurd (by simp [Region.wanted]) hw
    · exact dag_stepM (Q := Q) hst rfl hlsp hdum hchk hfr hlen hFs hsp hF I (o := o) (by simpa using h2) hjs hj (fun a' w'' I' => ih _ a' w'' (by omega) I')

class Mid (all : List Oper) (s : Nat) (pre post : outParam (List Oper)) (st : outParam Oper) : Prop where h : all = pre ++ st :: post ∧ pre.length = s
instance mid0 (o : Oper) (os : List Oper) : Mid (o :: os) 0 [] os o := ⟨rfl, rfl⟩
instance midS (o : Oper) (all pre post : List Oper) (st : Oper) (s : Nat) [h : Mid all s pre post st] : Mid (o :: all) (s + 1) (o :: pre) post st := ⟨by rw [h.h.1]; rfl, by simp [h.h.2]⟩

/-- The operation number s is a store into a block that the region makes. -/
theorem hq_dag_mid {id : Nat} {all pre post : List Oper} {t ty sp sv tb sz : Nat} {pos : String} {after : Array Edge} {vs : List Value} (s : Nat) (l' : List (Nat × Value)) [hm : MixC P] [hmid : Mid all s pre post ⟨none, .store t (.tmp sp) (.tmp sv), ty, pos, after, none⟩] [hsC : SzC P t sz]
    (h : DagW P all.toArray n l' w (fun lx G => lookq lx sv = some (.agg vs.toArray) ∧ G = [(sp, BlkW w.heap.size sz tb)] ∧
      DagW P all.toArray n l' w (fun lx2 G2 => G2 = [(sp, BlkW w.heap.size sz tb)] ∧ ∀ (w' : World) (g : Nat), Ext w w' → w.heap.size ≤ g → (Ent.blk g vs tb).ok w' → HQ (Q .normal) n ((sp, .pointer (some ⟨g, 0, none⟩)) :: (lx2.filter (fun p => !Nat.beq p.1 n) ++ l')) w') post ((n, undef) :: lx) G) pre [] [])
    (hvs : vs.length = sz := by with_unfolding_all rfl) (hu : vs.all (fun u => u.oneCell') = true := by with_unfolding_all rfl)
    (hsub : Sub l' l := by repeat (first | exact Sub.nil _ | refine Sub.cons rfl ?_)) (hchk : dagChk n all.toArray all = true := by first | decide +kernel | with_unfolding_all rfl) (hfr : freshChk all l' = true := by with_unfolding_all rfl)
    (hdum : (all.all fun o => !looks all.toArray o n) = true := by first | decide +kernel | with_unfolding_all rfl) (hlsp : looks all.toArray ⟨none, .store t (.tmp sp) (.tmp sv), ty, pos, after, none⟩ sp = true := by with_unfolding_all rfl) (hlsv : looks all.toArray ⟨none, .store t (.tmp sp) (.tmp sv), ty, pos, after, none⟩ sv = true := by with_unfolding_all rfl) :
    HQ ((Code.region id all.toArray true).wp P Q) n l w := by
  intro a ha
  obtain ⟨hall, hps⟩ := hmid.h
  obtain ⟨F1, hl1, hF1, e1, e2, h2⟩ := dagw_facts pre [] h
  simp only [List.append_nil] at hF1 e1 e2 h2
  obtain ⟨F2, hl2, hF2, e3, hE2⟩ := dagw_facts post ((n, .is undef) :: F1.reverse) h2
  have hFrev : (F1 ++ (n, .is undef) :: F2).reverse = F2.reverse ++ (n, .is undef) :: F1.reverse := by simp
  have hFs : (F1 ++ (n, Fact.is undef) :: F2)[s]? = some (n, .is undef) := by rw [← hps, ← hl1]; simp
  have hst : all[s]? = some ⟨none, .store t (.tmp sp) (.tmp sv), ty, pos, after, none⟩ := by rw [hall, ← hps]; simp
  have hlen : (F1 ++ (n, Fact.is undef) :: F2).length = all.length := by rw [hall]; simp [hl1, hl2]
  have in1 : ∀ q : Nat × Fact, q ∈ F1.reverse → ∃ sa, sa ≠ s ∧ (F1 ++ (n, Fact.is undef) :: F2)[sa]? = some q := by
    intro q hq
    obtain ⟨i, hi⟩ := List.getElem?_of_mem (List.mem_reverse.1 hq)
    have hil := (List.getElem?_eq_some_iff.1 hi).1
    exact ⟨i, by omega, by rw [List.getElem?_append_left hil]; exact hi⟩
  refine wp_region_any hm.h ?_
  have hsz : all.toArray.size = all.length := by simp
  rw [hsz]
  refine dag_anyM (F := F1 ++ (n, .is undef) :: F2) (w := w) (sz := sz) hst hlsp hlsv (fun o ho => by have := List.all_eq_true.1 hdum o ho; simpa using this) hchk hfr hlen hFs
    (in1 _ (pushG_mem (p := (sp, BlkW w.heap.size sz tb)) (by rw [e2]; simp))) (in1 _ (pushx_mem (lookq_mem e1))) (fun d Φ hd => ?_) hvs hu (fun j o p ho hp hjs => ?_) (by rw [hFrev]; exact hE2) all.length (Array.replicate all.length false) a _ (by simp [cntF, List.countP_replicate])
    ⟨Below.drew (Below.refl _ _), ha.sub hsub, fun j p hp hjs hl => ?_, by simp, fun j o ho hl => ?_, fun hl => ?_⟩
  · have := mem_pushG (fs := (F1 ++ (n, .is undef) :: F2).reverse) (List.mem_reverse.2 hd)
    rw [hFrev, e3] at this
    simp at this
    exact this
  · rcases Nat.lt_or_ge j s with hlt | hge
    · have hj1 : j < pre.length := by omega
      have ho' : pre[j]? = some o := by rw [hall, List.getElem?_append_left hj1] at ho; exact ho
      have hp' : F1[j]? = some p := by rw [List.getElem?_append_left (by omega)] at hp; exact hp
      have ht : (F1 ++ (n, Fact.is undef) :: F2).take j = F1.take j := List.take_append_of_le_length (by omega)
      rw [ht]
      exact hF1 j o p ho' hp'
    · obtain ⟨i, rfl⟩ : ∃ i, j = s + 1 + i := ⟨j - (s + 1), by omega⟩
      have ho' : post[i]? = some o := by
        rw [hall, List.getElem?_append_right (by omega), show s + 1 + i - pre.length = i + 1 from by omega] at ho
        simpa using ho
      have hp' : F2[i]? = some p := by
        rw [List.getElem?_append_right (by omega), show s + 1 + i - F1.length = i + 1 from by omega] at hp
        simpa using hp
      have ht : ((F1 ++ (n, Fact.is undef) :: F2).take (s + 1 + i)).reverse = (F2.take i).reverse ++ (n, .is undef) :: F1.reverse := by
        rw [List.take_append, show s + 1 + i - F1.length = i + 1 from by omega, List.take_of_length_le (by omega), List.take_succ_cons]
        simp
      rw [ht]
      exact hF2 i o p ho' hp'
  · exfalso
    simp [Array.getElem?_replicate] at hl
    split at hl <;> simp at hl
  · exfalso
    simp [Array.getElem?_replicate] at hl
    split at hl <;> simp at hl
  · exfalso
    simp [Array.getElem?_replicate] at hl
    split at hl <;> simp at hl
end
end Go.Proofs.Ytdgbgnkfjcbgiaa.Sx
