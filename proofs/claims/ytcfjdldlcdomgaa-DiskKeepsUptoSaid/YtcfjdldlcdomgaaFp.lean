/- What a call may write: sets of blocks; blocks known whole. Nothing of the program stands here. -/
import Derived.Test.YtcfjdldlcdomgaaTk
namespace Go.Tk
open Go Go.RowKit

/-- w' is w with new blocks and writes in S alone. -/
structure Chg (S : Nat → Prop) (w w' : World) : Prop where
  os : w'.os = w.os
  tape : w'.tape = w.tape
  output : w'.output = w.output
  size : w.heap.size ≤ w'.heap.size
  block : ∀ k, k < w.heap.size → ¬ S k → w'.heap[k]? = w.heap[k]?

/-- S, and all that is new. -/
def Gw (S : Nat → Prop) (w : World) : Nat → Prop := fun k => S k ∨ w.heap.size ≤ k

section
variable {S T : Nat → Prop} {a b c w w' w'' : World}
theorem Chg.refl (S : Nat → Prop) (w : World) : Chg S w w := ⟨rfl, rfl, rfl, Nat.le_refl _, fun _ _ _ => rfl⟩
theorem Chg.sub (h : Chg S w w') (hs : ∀ k, k < w.heap.size → S k → T k) : Chg T w w' := ⟨h.os, h.tape, h.output, h.size, fun k hk hn => h.block k hk fun e => hn (hs k hk e)⟩
/-- Two steps; what the second one may write is what the first one may, or new. -/
theorem Chg.trans (h : Chg S a b) (k : Chg T b c) (hs : ∀ x, x < a.heap.size → T x → S x) : Chg S a c :=
  ⟨k.os.trans h.os, k.tape.trans h.tape, k.output.trans h.output, Nat.le_trans h.size k.size,
   fun i hi hn => (k.block i (Nat.lt_of_lt_of_le hi h.size) fun e => hn (hs i hi e)).trans (h.block i hi hn)⟩
theorem Chg.of_mk (h : Mk w w') : Chg S w w' := ⟨h.os, h.tape, h.output, h.size, fun k hk _ => h.block k hk⟩
theorem Chg.of_grown {row : Option Nat} (h : w.grownBy w' row) (hr : ∀ k, row = some k → k < w.heap.size → S k) : Chg S w w' :=
  ⟨h.os, h.tape, h.output, h.size, fun k hk hn => h.block k hk fun e => hn (hr k e.symm hk)⟩
theorem Chg.to_mk (h : Chg S w w') (hs : ∀ k, k < w.heap.size → ¬ S k) : Mk w w' := ⟨h.os, h.tape, h.output, h.size, fun k hk => h.block k hk (hs k hk)⟩
theorem Chg.set (S : Nat → Prop) (w : World) (p : Addr) (u : Value) (hp : S p.block) : Chg S w (w.setCell p u) :=
  ⟨rfl, rfl, rfl, by simp, fun k _ hn => Below.heap_setCell _ _ _ _ fun e => hn (e ▸ hp)⟩
theorem Chg.alloc (S : Nat → Prop) (w : World) (o : Obj) : Chg S w (w.alloc o) := Chg.of_mk (mk_alloc w o)
theorem Chg.drewN (S : Nat → Prop) (w : World) (n : Nat) : Chg S w (w.drewN n) := Chg.of_mk (mk_drewN w n)
/-- Behind a step: one more, into what is of the set, or new. -/
theorem Chg.then (h : Chg S a b) (k : Chg (Gw S a) b c) : Chg S a c := h.trans k fun x hx e => by rcases e with e | e; exact e; omega
theorem Chg.thenSet (h : Chg S a b) (p : Addr) (u : Value) (hp : S p.block ∨ a.heap.size ≤ p.block) : Chg S a (b.setCell p u) := h.then (Chg.set _ _ _ _ hp)
theorem Chg.thenAlloc (h : Chg S a b) (o : Obj) : Chg S a (b.alloc o) := h.then (Chg.alloc _ _ _)
theorem Chg.thenMk (h : Chg S a b) (k : Mk b c) : Chg S a c := h.then (Chg.of_mk k)
theorem Chg.thenGrown {row : Option Nat} (h : Chg S a b) (k : b.grownBy c row) (hr : ∀ x, row = some x → S x ∨ a.heap.size ≤ x) : Chg S a c := h.then (Chg.of_grown k fun x e _ => hr x e)
theorem Chg.drew (h : Chg S a b) : Chg S a b.drew := ⟨h.os, h.tape, h.output, h.size, h.block⟩
theorem Chg.cell (h : Chg S w w') {p : Addr} {v : Value} (hc : w.cell? p = some v) (hn : ¬ S p.block) : w'.cell? p = some v :=
  (World.cell?_of_block (h.block p.block (World.block_lt_of_cell? w p hc) hn)).trans hc
end

/-- A block that is known whole. -/
def Bk (w : World) (b : Nat) (t : TypeId) (cs : Array Value) : Prop := w.heap[b]? = some (.cells cs t (0, 0))
section
variable {S : Nat → Prop} {w w' : World} {b : Nat} {t : TypeId} {cs : Array Value}
theorem Bk.lt (h : Bk w b t cs) : b < w.heap.size := (Array.getElem?_eq_some_iff.1 h).1
theorem Bk.cell (h : Bk w b t cs) (o : Nat) : w.cell? ⟨b, o, none⟩ = cs[o]? := cell_of_row _ _ _ _ _ _ h
theorem Bk.frozen (h : Bk w b t cs) (o : Nat) : w.frozen? ⟨b, o, none⟩ = false := frozen_of_row _ _ _ _ _ h
theorem Bk.keep (h : Bk w b t cs) (hc : Chg S w w') (hn : ¬ S b) : Bk w' b t cs := (hc.block b h.lt hn).trans h
theorem Bk.mk (h : Bk w b t cs) (hm : Mk w w') : Bk w' b t cs := (hm.block b h.lt).trans h
theorem Bk.set (h : Bk w b t cs) (o : Nat) (u : Value) : Bk (w.setCell ⟨b, o, none⟩ u) b t (cs.setIfInBounds o u) := by
  have hlt := h.lt
  have hv : w.heap[b] = .cells cs t (0, 0) := (Array.getElem?_eq_some_iff.1 h).2
  unfold Bk World.setCell
  rw [Array.getElem?_eq_getElem (by simpa using hlt), Array.getElem_modify]
  simp [hv]
theorem Bk.other (h : Bk w b t cs) {p : Addr} (u : Value) (hn : b ≠ p.block) : Bk (w.setCell p u) b t cs := (Below.heap_setCell _ _ _ _ hn).trans h
theorem Bk.alloc (h : Bk w b t cs) (o : Obj) : Bk (w.alloc o) b t cs := h.mk (mk_alloc w o)
theorem Bk.new (w : World) (t : TypeId) (cs : Array Value) : Bk (w.alloc (.cells cs t)) w.heap.size t cs := heap_alloc_new w _
theorem Bk.drewN (h : Bk w b t cs) (n : Nat) : Bk (w.drewN n) b t cs := h
theorem Bk.uniq {t' : TypeId} {cs' : Array Value} (h : Bk w b t cs) (h' : Bk w b t' cs') : t = t' ∧ cs = cs' := by
  unfold Bk at h h'; rw [h] at h'; cases h'; exact ⟨rfl, rfl⟩
theorem Bk.agg {P : Program} {ty : TypeId} {d : TypeDesc} (h : Bk w b t cs) (hu : P.underlying ty = some d) (hd : (match d with | .struct _ | .array _ _ => true | _ => false) = true) (hi : (P.info? ty).map (·.size) = some cs.size) :
    (loadVar ty ⟨b, 0, none⟩).run P w = .ok (.agg cs) w := run_loadVar_row w b t ty cs (0, 0) d h hu hd hi
end

/-- A row of bytes of the call's own, its block in S. -/
structure Ow (S : Nat → Prop) (w : World) (e : TypeId) (size : Nat) (v : Value) (n : Nat) (xs : List Value) : Prop where
  row : w.ownsRow 0 e size v n xs
  blk : ∀ k, v.ownBlock = some k → S k
section
variable {S T : Nat → Prop} {w w' : World} {e : TypeId} {size n : Nat} {v : Value} {xs : List Value}
theorem Ow.lt (h : Ow S w e size v n xs) {k : Nat} (hk : v.ownBlock = some k) : k < w.heap.size := (h.row.lt k hk).2
theorem row_keep (h : w.ownsRow 0 e size v n xs) (hc : Chg T w w') (hn : ∀ k, v.ownBlock = some k → ¬ T k) : w'.ownsRow 0 e size v n xs := by
  refine ⟨h.1, ?_⟩
  rcases h.2 with h2 | ⟨g, cap, cur, hv, hg, hh, r⟩
  · exact .inl h2
  · exact .inr ⟨g, cap, cur, hv, hg, (hc.block g (Array.getElem?_eq_some_iff.1 hh).1 (hn g (by subst hv; rfl))).trans hh, r⟩
theorem Ow.keep (h : Ow S w e size v n xs) (hc : Chg T w w') (hn : ∀ k, k < w.heap.size → S k → ¬ T k) : Ow S w' e size v n xs :=
  ⟨row_keep h.row hc fun k hk => hn k (h.lt hk) (h.blk k hk), h.blk⟩
theorem Ow.sub (h : Ow S w e size v n xs) (hs : ∀ k, k < w.heap.size → S k → T k) : Ow T w e size v n xs := ⟨h.row, fun k hk => hs k (h.lt hk) (h.blk k hk)⟩
theorem Ow.sl (h : Ow S w e size v n xs) : Sl w size v n xs := own_sl h.row
theorem Ow.nil (S : Nat → Prop) (w : World) (e : TypeId) (size : Nat) : Ow S w e size (.slice none 0 0) 0 [] := ⟨World.ownsRow_nil _ _ _ _, fun k hk => by cases hk⟩
/-- The first so many. -/
theorem row_cut {base : Nat} {cap m : Nat} {a : Option Addr} (h : w.ownsRow base e size (.slice a n cap) n xs) (hm : m ≤ n) : w.ownsRow base e size (.slice a m cap) m (xs.take (m * size)) := by
  obtain ⟨h1, h2⟩ := h
  refine ⟨by rw [List.length_take, h1]; exact Nat.min_eq_left (Nat.mul_le_mul_right _ hm), ?_⟩
  rcases h2 with ⟨h2, h3⟩ | ⟨g, cap', cur, hv, hg, hh, hn, hc, hs, ht⟩
  · cases h2
    obtain rfl : m = 0 := by omega
    exact .inl ⟨rfl, rfl⟩
  · cases hv
    refine .inr ⟨g, cap, cur, rfl, hg, hh, by omega, hc, hs, ?_⟩
    rw [← ht, List.take_take, Nat.min_eq_left (Nat.mul_le_mul_right _ hm)]
end
theorem sl_chg {S : Nat → Prop} {w w' : World} {size n : Nat} {v : Value} {vs : List Value} (h : Sl w size v n vs) (hc : Chg S w w') (hn : ∀ k, v.ownBlock = some k → k < w.heap.size → ¬ S k) : Sl w' size v n vs :=
  h.moved fun k hk hv => hc.block k hk (hn k hv.symm hk)
end Go.Tk
