/-
  Memory: what a call owns ('Mem'), what a slice reads as ('View'); one rule an operation.
-/
import Derived.Test.YtdgbgnkfjcbgiaaSy
import Derived.Laws.AppendOwnNone
import Derived.Deep.Draws
set_option linter.unusedVariables false
set_option linter.unusedSimpArgs false
namespace Go.Proofs.Ytdgbgnkfjcbgiaa.Sx
open Go Go.RowKit

/-! ### What a call owns -/

inductive Ent where
  | blk (g : Nat) (arr : List Value) (ty : TypeId)
  | row (A : Option Addr) (n cap : Nat) (xs : List Value) (ty : TypeId) (sz : Nat)

def Ent.blocks : Ent → List Nat
  | .blk g _ _ => [g]
  | .row A _ _ _ _ _ => (A.map (·.block)).toList

def Ent.ok (w : World) : Ent → Prop
  | .blk g arr ty => w.heap[g]? = some (.cells arr.toArray ty (0, 0))
  | .row A n cap xs ty sz => w.ownsRow 0 ty sz (.slice A n cap) n xs

structure Mem (w0 : World) (S : List Nat) (L : List Ent) (w : World) : Prop where
  os : w.os = w0.os
  tape : w.tape = w0.tape
  output : w.output = w0.output
  size : w0.heap.size ≤ w.heap.size
  old : ∀ k, k < w0.heap.size → k ∉ S → w.heap[k]? = w0.heap[k]?
  ok : ∀ e ∈ L, e.ok w
  own : ∀ e ∈ L, ∀ k ∈ e.blocks, w0.heap.size ≤ k ∨ k ∈ S
  dis : (L.flatMap Ent.blocks).Nodup

theorem lt_of_some {w : World} {k : Nat} {o : Obj} (h : w.heap[k]? = some o) : k < w.heap.size := (Array.getElem?_eq_some_iff.1 h).1

theorem Ent.ok_of_same {w w' : World} {e : Ent} (h : e.ok w) (hs : ∀ k ∈ e.blocks, w'.heap[k]? = w.heap[k]?) : e.ok w' := by
  cases e with
  | blk g arr ty => simp only [Ent.ok] at *; rw [hs g (by simp [Ent.blocks])]; exact h
  | row A n cap xs ty sz =>
    simp only [Ent.ok] at *
    refine ⟨h.1, ?_⟩
    rcases h.2 with h1 | ⟨g, c, cur, hv, hg, hh, r⟩
    · exact .inl h1
    · refine .inr ⟨g, c, cur, hv, hg, ?_, r⟩
      injection hv with h1 h2 h3
      subst h1
      rw [hs g (by simp [Ent.blocks])]
      exact hh

theorem Ent.lt {w : World} {e : Ent} (h : e.ok w) : ∀ k ∈ e.blocks, k < w.heap.size := by
  cases e with
  | blk g arr ty => intro k hk; simp [Ent.blocks] at hk; subst hk; exact lt_of_some h
  | row A n cap xs ty sz =>
    intro k hk
    rcases h.2 with ⟨h1, _⟩ | ⟨g, c, cur, hv, hg, hh, r⟩
    · injection h1 with h1 h2 h3; subst h1; simp [Ent.blocks] at hk
    · injection hv with h1 h2 h3
      subst h1
      simp [Ent.blocks] at hk
      subst hk
      exact lt_of_some hh

theorem Mem.refl (w : World) : Mem w [] [] w := ⟨rfl, rfl, rfl, Nat.le_refl _, fun _ _ _ => rfl, by simp, by simp, by simp⟩

theorem flatMap_sublist {f : Ent → List Nat} : ∀ {R L : List Ent}, R.Sublist L → (R.flatMap f).Sublist (L.flatMap f)
  | _, _, .slnil => List.Sublist.refl _
  | _, _, .cons a h => by rw [List.flatMap_cons]; exact (flatMap_sublist h).trans (List.sublist_append_right _ _)
  | _, _, .cons_cons a h => by rw [List.flatMap_cons, List.flatMap_cons]; exact (List.Sublist.refl _).append (flatMap_sublist h)

/-- A call (whatever it wrote: 'T', and made: 'L'') behind what stands: of our own entries those in T are given up. -/
theorem Mem.step {w0 w w' : World} {S T : List Nat} {L L' R : List Ent} (M : Mem w0 S L w) (N : Mem w T L' w') (hR : R.Sublist L) (hT : ∀ k ∈ T, w0.heap.size ≤ k ∨ k ∈ S)
    (hd : ∀ e ∈ R, ∀ k ∈ e.blocks, k ∉ T) : Mem w0 S (L' ++ R) w' := by
  have hlt : ∀ e ∈ R, ∀ k ∈ e.blocks, k < w.heap.size := fun e he => Ent.lt (M.ok e (hR.subset he))
  refine ⟨N.os.trans M.os, N.tape.trans M.tape, N.output.trans M.output, Nat.le_trans M.size N.size, fun k hk hS => ?_, fun e he => ?_, fun e he k hk => ?_, ?_⟩
  · rw [N.old k (Nat.lt_of_lt_of_le hk M.size) (fun h => by rcases hT k h with h | h; omega; exact hS h)]
    exact M.old k hk hS
  · rcases List.mem_append.1 he with he | he
    · exact N.ok e he
    · exact Ent.ok_of_same (M.ok e (hR.subset he)) fun k hk => N.old k (hlt e he k hk) (hd e he k hk)
  · rcases List.mem_append.1 he with he | he
    · rcases N.own e he k hk with h | h
      · exact .inl (Nat.le_trans M.size h)
      · exact hT k h
    · exact M.own e (hR.subset he) k hk
  · rw [List.flatMap_append, List.nodup_append]
    refine ⟨N.dis, (flatMap_sublist hR).nodup M.dis, fun a ha b hb hab => ?_⟩
    subst hab
    obtain ⟨e, he, hk⟩ := List.mem_flatMap.1 ha
    obtain ⟨e', he', hk'⟩ := List.mem_flatMap.1 hb
    rcases N.own e he a hk with h | h
    · have := hlt e' he' a hk'; omega
    · exact hd e' he' a hk' h

theorem Mem.call {w0 w w' : World} {S : List Nat} {L L' : List Ent} (M : Mem w0 S L w) (N : Mem w [] L' w') : Mem w0 S (L' ++ L) w' :=
  M.step N (List.Sublist.refl _) (by simp) (by simp)
theorem Mem.call0 {w0 w w' : World} {S : List Nat} {L : List Ent} (M : Mem w0 S L w) (N : Mem w [] [] w') : Mem w0 S L w' := M.call N
theorem Mem.call1 {w0 w w' : World} {S : List Nat} {L : List Ent} {e : Ent} (M : Mem w0 S L w) (N : Mem w [] [e] w') : Mem w0 S (e :: L) w' := M.call N
theorem Mem.call2 {w0 w w' : World} {S : List Nat} {L : List Ent} {e e' : Ent} (M : Mem w0 S L w) (N : Mem w [] [e, e'] w') : Mem w0 S (e :: e' :: L) w' := M.call N

theorem Mem.front {w0 w : World} {S : List Nat} {L L' : List Ent} (M : Mem w0 S L w) (h : L.Perm L') : Mem w0 S L' w :=
  ⟨M.os, M.tape, M.output, M.size, M.old, fun e he => M.ok e (h.symm.subset he), fun e he => M.own e (h.symm.subset he), (h.flatMap_right _).nodup_iff.1 M.dis⟩
theorem Mem.f1 {w0 w : World} {S : List Nat} {a b : Ent} {L : List Ent} (M : Mem w0 S (a :: b :: L) w) : Mem w0 S (b :: a :: L) w := M.front (List.Perm.swap _ _ _)
theorem Mem.f2 {w0 w : World} {S : List Nat} {a b c : Ent} {L : List Ent} (M : Mem w0 S (a :: b :: c :: L) w) : Mem w0 S (c :: a :: b :: L) w :=
  M.front ((List.Perm.cons a (List.Perm.swap c b L)).trans (List.Perm.swap c a _))
theorem Mem.f3 {w0 w : World} {S : List Nat} {a b c e : Ent} {L : List Ent} (M : Mem w0 S (a :: b :: c :: e :: L) w) : Mem w0 S (e :: a :: b :: c :: L) w :=
  M.front ((List.Perm.cons a ((List.Perm.cons b (List.Perm.swap e c L)).trans (List.Perm.swap e b _))).trans (List.Perm.swap e a _))
theorem Mem.drop {w0 w : World} {S : List Nat} {a : Ent} {L : List Ent} (M : Mem w0 S (a :: L) w) : Mem w0 S L w :=
  ⟨M.os, M.tape, M.output, M.size, M.old, fun e he => M.ok e (List.mem_cons_of_mem _ he), fun e he => M.own e (List.mem_cons_of_mem _ he), by
    have := M.dis
    rw [List.flatMap_cons, List.nodup_append] at this
    exact this.2.1⟩
theorem Mem.dropAll {w0 w : World} {S : List Nat} {L : List Ent} (M : Mem w0 S L w) : Mem w0 S [] w :=
  ⟨M.os, M.tape, M.output, M.size, M.old, by simp, by simp, by simp⟩
theorem Mem.only {w0 w : World} {S : List Nat} {L : List Ent} (M : Mem w0 S L w) {e : Ent} (h : e ∈ L) : Mem w0 S [e] w :=
  ⟨M.os, M.tape, M.output, M.size, M.old, fun x hx => by simp at hx; subst hx; exact M.ok x h, fun x hx => by simp at hx; subst hx; exact M.own x h, by
    obtain ⟨l1, l2, rfl⟩ := List.append_of_mem h
    have := M.dis
    rw [List.flatMap_append, List.flatMap_cons, List.nodup_append] at this
    have := this.2.1
    rw [List.nodup_append] at this
    simpa using this.1⟩

/-- Whatever has only grown since. -/
theorem Mem.ext {w0 w w' : World} {S : List Nat} {L : List Ent} (M : Mem w0 S L w) (h : Below w.heap.size w w') : Mem w0 S L w' :=
  M.call0 ⟨h.os, h.tape, h.output, h.size, fun k hk _ => h.block k hk, by simp, by simp, by simp⟩
theorem Mem.below {w0 w : World} {L : List Ent} (M : Mem w0 [] L w) : Below w0.heap.size w0 w := ⟨M.os, M.tape, M.output, M.size, fun k hk => M.old k hk (by simp)⟩
theorem Mem.of_below {w w' : World} (h : Below w.heap.size w w') : Mem w [] [] w' := (Mem.refl w).ext h
theorem Mem.drew {w0 w : World} {S : List Nat} {L : List Ent} (M : Mem w0 S L w) : Mem w0 S L w.drew := M.ext (Below.refl _ _).drew
theorem Mem.drewN {w0 w : World} {S : List Nat} {L : List Ent} (M : Mem w0 S L w) (m : Nat) : Mem w0 S L (w.drewN m) := M.ext ⟨rfl, rfl, rfl, Nat.le_refl _, fun _ _ => rfl⟩

theorem Mem.alloc {w0 w : World} {S : List Nat} {L : List Ent} (M : Mem w0 S L w) (arr : List Value) (ty : TypeId) :
    Mem w0 S (.blk w.heap.size arr ty :: L) (w.alloc (.cells arr.toArray ty)) :=
  M.call1 ⟨rfl, rfl, rfl, by simp, fun k hk _ => Below.heap_alloc w _ k hk, by
      intro e he; simp at he; subst he; exact heap_alloc_new w _, by
      intro e he k hk; simp at he; subst he; simp [Ent.blocks] at hk; subst hk; exact .inl (Nat.le_refl _), by simp [Ent.blocks]⟩

/-- A block may be seen as a row, a row as its cells. -/
theorem Mem.toRow {w0 w : World} {S : List Nat} {L : List Ent} {g n cap sz : Nat} {xs ys : List Value} {ty : TypeId} (M : Mem w0 S (.blk g (xs ++ ys) ty :: L) w)
    (hx : xs.length = n * sz) (hl : (xs ++ ys).length = cap * sz) (hn : n ≤ cap) (hc : cap ≤ maxLen) : Mem w0 S (.row (some ⟨g, 0, none⟩) n cap xs ty sz :: L) w :=
  ⟨M.os, M.tape, M.output, M.size, M.old, fun e he => by
      rcases List.mem_cons.1 he with rfl | he
      · have := M.ok (.blk g (xs ++ ys) ty) (List.mem_cons_self ..)
        exact ⟨hx, .inr ⟨g, cap, _, rfl, Nat.zero_le _, this, hn, hc, by simpa using hl, by simp [← hx]⟩⟩
      · exact M.ok e (List.mem_cons_of_mem _ he), fun e he k hk => by
      rcases List.mem_cons.1 he with rfl | he
      · exact M.own (.blk g (xs ++ ys) ty) (List.mem_cons_self ..) k (by simpa [Ent.blocks] using hk)
      · exact M.own e (List.mem_cons_of_mem _ he) k hk, by simpa [Ent.blocks, List.flatMap_cons] using M.dis⟩
theorem Mem.toBlk {w0 w : World} {S : List Nat} {L : List Ent} {A : Addr} {n cap sz : Nat} {xs : List Value} {ty : TypeId} (M : Mem w0 S (.row (some A) n cap xs ty sz :: L) w) :
    ∃ g ys, A = ⟨g, 0, none⟩ ∧ (xs ++ ys).length = cap * sz ∧ Mem w0 S (.blk g (xs ++ ys) ty :: L) w := by
  have h := M.ok _ (List.mem_cons_self ..)
  rcases h.2 with ⟨h1, _⟩ | ⟨g, c, cur, hv, hg, hh, hn, hc, hs, ht⟩
  · cases h1
  · injection hv with h1 h2 h3
    injection h1 with h1
    subst h1; subst h3
    refine ⟨g, cur.toList.drop (n * sz), rfl, ?_, M.os, M.tape, M.output, M.size, M.old, fun e he => ?_, fun e he k hk => ?_, ?_⟩
    · rw [← ht, List.take_append_drop]; simpa using hs
    · rcases List.mem_cons.1 he with rfl | he
      · rw [← ht, List.take_append_drop]; simpa [Ent.ok] using hh
      · exact M.ok e (List.mem_cons_of_mem _ he)
    · rcases List.mem_cons.1 he with rfl | he
      · exact M.own _ (List.mem_cons_self ..) k (by simpa [Ent.blocks] using hk)
      · exact M.own e (List.mem_cons_of_mem _ he) k hk
    · simpa [Ent.blocks, List.flatMap_cons] using M.dis

/-! ### Reading -/
theorem cell_blk {w : World} {g o : Nat} {arr : List Value} {ty : TypeId} {v : Value} (h : (Ent.blk g arr ty).ok w) (hv : arr[o]? = some v) : w.cell? ⟨g, o, none⟩ = some v := by
  rw [cell_of_row w g o _ ty (0, 0) h]; simpa using hv
section
variable {w0 w : World} {S : List Nat} {L : List Ent} {g o : Nat} {arr : List Value} {ty : TypeId} {v : Value} {e0 e1 e2 e3 e4 e5 e6 e7 : Ent}
theorem Mem.b0 (M : Mem w0 S (.blk g arr ty :: L) w) : (Ent.blk g arr ty).ok w := M.ok _ (by simp)
theorem Mem.b1 (M : Mem w0 S (e0 :: .blk g arr ty :: L) w) : (Ent.blk g arr ty).ok w := M.ok _ (by simp)
theorem Mem.b2 (M : Mem w0 S (e0 :: e1 :: .blk g arr ty :: L) w) : (Ent.blk g arr ty).ok w := M.ok _ (by simp)
theorem Mem.b3 (M : Mem w0 S (e0 :: e1 :: e2 :: .blk g arr ty :: L) w) : (Ent.blk g arr ty).ok w := M.ok _ (by simp)
theorem Mem.b4 (M : Mem w0 S (e0 :: e1 :: e2 :: e3 :: .blk g arr ty :: L) w) : (Ent.blk g arr ty).ok w := M.ok _ (by simp)
theorem Mem.b5 (M : Mem w0 S (e0 :: e1 :: e2 :: e3 :: e4 :: .blk g arr ty :: L) w) : (Ent.blk g arr ty).ok w := M.ok _ (by simp)
theorem Mem.b6 (M : Mem w0 S (e0 :: e1 :: e2 :: e3 :: e4 :: e5 :: .blk g arr ty :: L) w) : (Ent.blk g arr ty).ok w := M.ok _ (by simp)
theorem Mem.b7 (M : Mem w0 S (e0 :: e1 :: e2 :: e3 :: e4 :: e5 :: e6 :: .blk g arr ty :: L) w) : (Ent.blk g arr ty).ok w := M.ok _ (by simp)
end

/-- The cells from address A on read as xs. -/
def View (w : World) (A : Option Addr) (xs : List Value) : Prop := ∀ (i : Nat) (v : Value), xs[i]? = some v → ∃ ad, A = some ad ∧ w.cell? (ad.add i) = some v

theorem View.nil (w : World) (A : Option Addr) : View w A [] := fun i v h => by simp at h
theorem View.ext {w w' : World} {A : Option Addr} {xs : List Value} (h : View w A xs) (hb : Below w.heap.size w w') : View w' A xs := fun i v hv => by
  obtain ⟨ad, e, hc⟩ := h i v hv
  exact ⟨ad, e, (hb.cell (World.block_lt_of_cell? w _ hc)).trans hc⟩
theorem Mem.view {w0 w : World} {L : List Ent} {A : Option Addr} {xs : List Value} (M : Mem w0 [] L w) (h : View w0 A xs) : View w A xs := h.ext M.below
/-- A view of what came in, in a call that may write the blocks S: where the view's cells lie elsewhere. -/
theorem Mem.viewS {w0 w : World} {S : List Nat} {L : List Ent} {A : Option Addr} {xs : List Value} (M : Mem w0 S L w) (h : View w0 A xs) (hS : xs = [] ∨ ∀ ad, A = some ad → ad.block ∉ S) : View w A xs := fun i v hv => by
  obtain ⟨ad, e, hc⟩ := h i v hv
  refine ⟨ad, e, ?_⟩
  have hlt := World.block_lt_of_cell? w0 _ hc
  have hblk : (ad.add i).block = ad.block := by unfold Addr.add; split <;> rfl
  rcases hS with rfl | hS
  · simp at hv
  · rw [World.cell?_of_block (M.old _ hlt (by rw [hblk]; exact hS ad e))]
    exact hc
theorem view_row {w : World} {A : Option Addr} {n cap sz : Nat} {xs : List Value} {ty : TypeId} (h : (Ent.row A n cap xs ty sz).ok w) : View w A xs := fun i v hv => by
  rcases h.2 with ⟨h1, h2⟩ | ⟨g, c, cur, hv', _⟩
  · have := h.1
    rw [h2] at this
    simp at this
    subst this
    simp at hv
  · injection hv' with h1 h2 h3
    subst h1
    exact ⟨_, rfl, World.ownsRow.cells h (by simp [Value.ownBlock]) i v hv⟩
theorem view_blk {w : World} {g : Nat} {arr : List Value} {ty : TypeId} (h : (Ent.blk g arr ty).ok w) : View w (some ⟨g, 0, none⟩) arr := fun i v hv => by
  refine ⟨_, rfl, ?_⟩
  have hadd : (⟨g, 0, none⟩ : Addr).add i = ⟨g, i, none⟩ := by unfold Addr.add; split <;> simp_all
  rw [hadd]
  exact cell_blk h hv
section
variable {w0 w : World} {S : List Nat} {L : List Ent} {A : Option Addr} {n cap sz : Nat} {xs : List Value} {ty : TypeId} {e0 e1 e2 e3 e4 e5 e6 e7 : Ent}
theorem Mem.r0 (M : Mem w0 S (.row A n cap xs ty sz :: L) w) : (Ent.row A n cap xs ty sz).ok w := M.ok _ (by simp)
theorem Mem.r1 (M : Mem w0 S (e0 :: .row A n cap xs ty sz :: L) w) : (Ent.row A n cap xs ty sz).ok w := M.ok _ (by simp)
theorem Mem.r2 (M : Mem w0 S (e0 :: e1 :: .row A n cap xs ty sz :: L) w) : (Ent.row A n cap xs ty sz).ok w := M.ok _ (by simp)
theorem Mem.r3 (M : Mem w0 S (e0 :: e1 :: e2 :: .row A n cap xs ty sz :: L) w) : (Ent.row A n cap xs ty sz).ok w := M.ok _ (by simp)
theorem Mem.r4 (M : Mem w0 S (e0 :: e1 :: e2 :: e3 :: .row A n cap xs ty sz :: L) w) : (Ent.row A n cap xs ty sz).ok w := M.ok _ (by simp)
theorem Mem.r5 (M : Mem w0 S (e0 :: e1 :: e2 :: e3 :: e4 :: .row A n cap xs ty sz :: L) w) : (Ent.row A n cap xs ty sz).ok w := M.ok _ (by simp)
end
theorem Ent.cap_le {w : World} {A : Option Addr} {n cap sz : Nat} {xs : List Value} {ty : TypeId} (h : (Ent.row A n cap xs ty sz).ok w) : n ≤ cap ∧ cap ≤ maxLen := by
  rcases h.2 with ⟨h1, h2⟩ | ⟨g, c, cur, hv', _, _, h3, h4, _⟩
  · injection h1 with h1 h2' h3; subst h3; subst h2; exact ⟨Nat.le_refl _, by simp [maxLen]⟩
  · injection hv' with h1 h2 h5; subst h5; exact ⟨h3, h4⟩
theorem Ent.len {w : World} {A : Option Addr} {n cap sz : Nat} {xs : List Value} {ty : TypeId} (h : (Ent.row A n cap xs ty sz).ok w) : xs.length = n * sz := h.1

/-! ### Where an entry stands in the list: found by instances -/
class EntIn (L : List Ent) (e : Ent) : Prop where h : e ∈ L
instance entIn0 (e : Ent) (L : List Ent) : EntIn (e :: L) e := ⟨List.mem_cons_self ..⟩
instance entInS (e e' : Ent) (L : List Ent) [EntIn L e] : EntIn (e' :: L) e := ⟨List.mem_cons_of_mem _ EntIn.h⟩
class BlkIn (L : List Ent) (g : Nat) (arr : outParam (List Value)) (ty : outParam TypeId) : Prop where h : Ent.blk g arr ty ∈ L
instance blkIn0 (g : Nat) (arr : List Value) (ty : TypeId) (L : List Ent) : BlkIn (.blk g arr ty :: L) g arr ty := ⟨List.mem_cons_self ..⟩
instance blkInS (e : Ent) (g : Nat) (arr : List Value) (ty : TypeId) (L : List Ent) [BlkIn L g arr ty] : BlkIn (e :: L) g arr ty := ⟨List.mem_cons_of_mem _ BlkIn.h⟩
class RowIn (L : List Ent) (A : Option Addr) (n cap : Nat) (xs : outParam (List Value)) (ty sz : outParam Nat) : Prop where h : Ent.row A n cap xs ty sz ∈ L
instance rowIn0 (A : Option Addr) (n cap : Nat) (xs : List Value) (ty sz : Nat) (L : List Ent) : RowIn (.row A n cap xs ty sz :: L) A n cap xs ty sz := ⟨List.mem_cons_self ..⟩
instance rowInS (e : Ent) (A : Option Addr) (n cap : Nat) (xs : List Value) (ty sz : Nat) (L : List Ent) [RowIn L A n cap xs ty sz] : RowIn (e :: L) A n cap xs ty sz := ⟨List.mem_cons_of_mem _ RowIn.h⟩
class RowOf (L : List Ent) (A : Option Addr) (n cap : outParam Nat) (xs : outParam (List Value)) (ty sz : outParam Nat) : Prop where h : Ent.row A n cap xs ty sz ∈ L
instance rowOf0 (A : Option Addr) (n cap : Nat) (xs : List Value) (ty sz : Nat) (L : List Ent) : RowOf (.row A n cap xs ty sz :: L) A n cap xs ty sz := ⟨List.mem_cons_self ..⟩
instance rowOfS (e : Ent) (A : Option Addr) (n cap : Nat) (xs : List Value) (ty sz : Nat) (L : List Ent) [RowOf L A n cap xs ty sz] : RowOf (e :: L) A n cap xs ty sz := ⟨List.mem_cons_of_mem _ RowOf.h⟩
/-- L with e in the place of e0. -/
class Repl (L : List Ent) (e0 e : Ent) (L' : outParam (List Ent)) : Prop where h : ∃ R, L.Perm (e0 :: R) ∧ (e :: R).Perm L'
instance repl0 (e0 e : Ent) (L : List Ent) : Repl (e0 :: L) e0 e (e :: L) := ⟨L, List.Perm.refl _, List.Perm.refl _⟩
instance replS (e0 e x : Ent) (L L' : List Ent) [r : Repl L e0 e L'] : Repl (x :: L) e0 e (x :: L') := ⟨by
  obtain ⟨R, h1, h2⟩ := r.h
  exact ⟨x :: R, (h1.cons x).trans (List.Perm.swap _ _ _), (List.Perm.swap _ _ _).trans (h2.cons x)⟩⟩
/-- L without e. -/
class Drop (L : List Ent) (e : Ent) (L' : outParam (List Ent)) : Prop where h : L.Perm (e :: L')
instance drop0 (e : Ent) (L : List Ent) : Drop (e :: L) e L := ⟨List.Perm.refl _⟩
instance dropS (e x : Ent) (L L' : List Ent) [r : Drop L e L'] : Drop (x :: L) e (x :: L') := ⟨(r.h.cons x).trans (List.Perm.swap _ _ _)⟩
theorem Mem.blkOk {w0 w : World} {S : List Nat} {L : List Ent} (M : Mem w0 S L w) (g : Nat) {arr : List Value} {ty : TypeId} [h : BlkIn L g arr ty] : (Ent.blk g arr ty).ok w := M.ok _ h.h
theorem Mem.rowOk {w0 w : World} {S : List Nat} {L : List Ent} (M : Mem w0 S L w) (A : Option Addr) (n cap : Nat) {xs : List Value} {ty sz : Nat} [h : RowIn L A n cap xs ty sz] : (Ent.row A n cap xs ty sz).ok w := M.ok _ h.h
theorem Mem.viewRow {w0 w : World} {S : List Nat} {L : List Ent} (M : Mem w0 S L w) (A : Option Addr) (n cap : Nat) {xs : List Value} {ty sz : Nat} [h : RowIn L A n cap xs ty sz] : View w A xs := view_row (M.ok _ h.h)
theorem Mem.without {w0 w : World} {S : List Nat} {L L' : List Ent} (M : Mem w0 S L w) (e : Ent) [h : Drop L e L'] : Mem w0 S L' w := (M.front h.h).drop

/-- The address behind a cut 'x[lo:..]'. -/
def cutA (A : Option Addr) (cap lo sz : Nat) : Option Addr := if cap = lo then A else A.map (·.add (lo * sz))
theorem Addr_add_add (a : Addr) (i j : Nat) : (a.add i).add j = a.add (i + j) := by
  unfold Addr.add
  by_cases hi : i = 0
  · subst hi; simp
  · by_cases hj : j = 0
    · subst hj; simp [hi]
    · have : ¬ (i + j = 0) := by omega
      simp [hi, hj, Nat.add_assoc]
theorem View.cut {w : World} {A : Option Addr} {xs : List Value} (h : View w A xs) {cap lo m sz : Nat} (hc : cap = lo → (xs.drop (lo * sz)).take m = []) : View w (cutA A cap lo sz) ((xs.drop (lo * sz)).take m) := fun i v hv => by
  unfold cutA
  by_cases e : cap = lo
  · rw [hc e] at hv; simp at hv
  · rw [if_neg e]
    have hv' : xs[lo * sz + i]? = some v := by
      rw [List.getElem?_take] at hv
      split at hv
      · simpa [List.getElem?_drop] using hv
      · cases hv
    obtain ⟨ad, rfl, hcell⟩ := h _ _ hv'
    exact ⟨ad.add (lo * sz), rfl, by rw [Addr_add_add]; exact hcell⟩

end Go.Proofs.Ytdgbgnkfjcbgiaa.Sx
