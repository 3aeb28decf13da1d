/- Words of this seat's walks: a slice that reads as a list; append, make, copy, conversion over it. No statement of the seat is proved here. What a call may write: sets of blocks; blocks known whole. Nothing of the program stands here. Layer 4, disk: what its calls do, as plain functions on lists. Nothing of the program stands here. -/
import Derived.WalkKit
import Derived.Laws.CopyOwn
import Derived.Lib.ConvBytes
import Derived.Lib.Hide
import Derived.Deep.QuietTactic
import Derived.BigQuiet
import Derived.WalkSpells
set_option linter.unusedVariables false
set_option linter.unusedSimpArgs false
namespace Go.Tk
open Go.RowKit

/-- The value v is a slice of n elements; its cells read as vs. -/
def Sl (w : World) (size : Nat) (v : Value) (n : Nat) (vs : List Value) : Prop :=
  vs.length = n * size ∧ ∃ a cap, v = .slice a n cap ∧ n ≤ cap ∧ cap ≤ maxLen ∧ (a = none → cap = 0) ∧
    (0 < n → ∃ b off, a = some ⟨b, off, none⟩ ∧ ∀ j u, vs[j]? = some u → w.cell? ⟨b, off + j, none⟩ = some u)

/-- Bytes as values. -/
def bv (xs : List UInt8) : List Value := xs.map fun c => .int .u8 (c.toNat : Int)
theorem bv_length (xs : List UInt8) : (bv xs).length = xs.length := by simp [bv]
theorem bv_append (xs ys : List UInt8) : bv (xs ++ ys) = bv xs ++ bv ys := by simp [bv]
theorem bv_one (xs : List UInt8) : ∀ u ∈ bv xs, u.oneCell' = true := by
  intro u hu; simp [bv] at hu; obtain ⟨c, _, rfl⟩ := hu; rfl
theorem bv_get (xs : List UInt8) (j : Nat) (h : j < xs.length) : (bv xs)[j]? = some (.int .u8 ((xs[j]).toNat : Int)) := by simp [bv, h]
theorem bv_inj {xs ys : List UInt8} (h : bv xs = bv ys) : xs = ys := by
  induction xs generalizing ys with
  | nil => cases ys with
    | nil => rfl
    | cons y ys => simp [bv] at h
  | cons x xs ih => cases ys with
    | nil => simp [bv] at h
    | cons y ys =>
      simp [bv] at h
      obtain ⟨h1, h2⟩ := h
      rw [ih (by simpa [bv] using h2), UInt8.toNat_inj.1 (show x.toNat = y.toNat by omega)]

/-- A slice of bytes. -/
abbrev Bs (w : World) (v : Value) (xs : List UInt8) : Prop := Sl w 1 v xs.length (bv xs)

/-- w' is w with new blocks: of what was there nothing has turned. -/
abbrev Mk (w w' : World) : Prop := Below w.heap.size w w'

theorem Sl.cellAt {w : World} {size : Nat} {a : Option Addr} {n cap : Nat} {vs : List Value} (h : Sl w size (.slice a n cap) n vs) (hn : 0 < n) :
    ∃ b off, a = some ⟨b, off, none⟩ ∧ ∀ j u, vs[j]? = some u → w.cell? ⟨b, off + j, none⟩ = some u := by
  obtain ⟨_, a', cap', he, _, _, _, hc⟩ := h
  cases he
  exact hc hn

theorem Sl.form {w : World} {size : Nat} {v : Value} {n : Nat} {vs : List Value} (h : Sl w size v n vs) : ∃ a cap, v = .slice a n cap ∧ n ≤ cap ∧ cap ≤ maxLen := by
  obtain ⟨_, a, cap, he, h1, h2, _⟩ := h
  exact ⟨a, cap, he, h1, h2⟩

theorem Sl.moved {w w' : World} {size : Nat} {v : Value} {n : Nat} {vs : List Value} (h : Sl w size v n vs)
    (hm : ∀ k, k < w.heap.size → some k = v.ownBlock → w'.heap[k]? = w.heap[k]?) : Sl w' size v n vs := by
  obtain ⟨hl, a, cap, rfl, h1, h2, h3, hc⟩ := h
  refine ⟨hl, a, cap, rfl, h1, h2, h3, fun hn => ?_⟩
  obtain ⟨b, off, rfl, hd⟩ := hc hn
  refine ⟨b, off, rfl, fun j u hu => ?_⟩
  have h0 := hd j u hu
  have hb : b < w.heap.size := World.block_lt_of_cell? w _ h0
  rw [World.cell?_of_block (w := w) (hm b hb (by simp [Value.ownBlock]))]
  exact h0

theorem Sl.mk {w w' : World} {size : Nat} {v : Value} {n : Nat} {vs : List Value} (h : Sl w size v n vs) (hm : Mk w w') : Sl w' size v n vs :=
  h.moved fun k hk _ => hm.block k hk
theorem Sl.grown {w w' : World} {row : Option Nat} {size : Nat} {v : Value} {n : Nat} {vs : List Value} (h : Sl w size v n vs) (hg : w.grownBy w' row) (hne : v.ownBlock = none ∨ v.ownBlock ≠ row) : Sl w' size v n vs :=
  h.moved fun k hk hv => hg.block k hk (fun e => by rcases hne with h | h <;> simp_all)

theorem mk_grown {w w' : World} (h : Mk w w') : w.grownBy w' none := ⟨h.os, h.tape, h.output, h.size, fun k hk _ => h.block k hk⟩
theorem grown_mk {w w' : World} (h : w.grownBy w' none) : Mk w w' := ⟨h.os, h.tape, h.output, h.size, fun k hk => h.block k hk (by simp)⟩
theorem own_mk {w w' : World} {base : Nat} {e : TypeId} {size : Nat} {v : Value} {n : Nat} {xs : List Value} (h : w.ownsRow base e size v n xs) (hm : Mk w w') : w'.ownsRow base e size v n xs :=
  h.kept (mk_grown hm) (by cases v.ownBlock <;> simp)
theorem own_base {w : World} {base base' : Nat} {e : TypeId} {size : Nat} {v : Value} {n : Nat} {xs : List Value} (h : w.ownsRow base e size v n xs) (hb : base' ≤ base) : w.ownsRow base' e size v n xs := by
  obtain ⟨h1, h2⟩ := h
  refine ⟨h1, ?_⟩
  rcases h2 with h2 | ⟨g, cap, cur, hv, hg, r⟩
  · exact .inl h2
  · exact .inr ⟨g, cap, cur, hv, by omega, r⟩
theorem own_sl {w : World} {base : Nat} {e : TypeId} {size : Nat} {v : Value} {n : Nat} {xs : List Value} (h : w.ownsRow base e size v n xs) : Sl w size v n xs := by
  refine ⟨h.1, ?_⟩
  rcases h.2 with ⟨rfl, rfl⟩ | ⟨g, cap, cur, rfl, hb, hg, hn, hc, hs, ht⟩
  · exact ⟨none, 0, rfl, Nat.le_refl _, by simp [maxLen], fun _ => rfl, fun h => by omega⟩
  · refine ⟨_, _, rfl, hn, hc, (fun h => by cases h), fun hp => ⟨g, 0, rfl, fun j u hu => ?_⟩⟩
    have := h.cells (g := g) rfl j u hu
    have hadd : (⟨g, 0, none⟩ : Addr).add j = ⟨g, 0 + j, none⟩ := by unfold Addr.add; split <;> simp_all
    rwa [hadd] at this

/-- append onto a slice of the call's own, of whatever reads as a list. -/
theorem run_append_sl {P : Program} (w : World) (base : Nat) (t ty e : TypeId) (i : TypeInfo) (z : Value) (size bytes : Nat) (ht : P.underlying t = some (.slice e)) (hi : P.info? e = some i) (hz : i.zero = some z)
    (hsize : i.size = size) (hby : i.bytes = bytes) (hzs : z.cells.size = size) (hsz : 0 < size)
    (v : Value) (n : Nat) (xs : List Value) (hown : w.ownsRow base e size v n xs)
    (x : Value) (m : Nat) (news : List Value) (hx : Sl w size x m news) (h1 : ∀ u ∈ news, u.oneCell' = true)
    (h63 : n + m ≤ maxLen) (hbytes : (n + m) * bytes ≤ 140737488355328) (hbase : base ≤ w.heap.size) :
    ∃ v' w', (Builtin.append_ #[t, t] ty #[v, x]).run P w = .ok v' w' ∧ w'.ownsRow base e size v' (n + m) (xs ++ news) ∧ w.grownBy w' v.ownBlock ∧
      (v' = .slice none 0 0 ↔ v = .slice none 0 0 ∧ m = 0) ∧ (v'.ownBlock = v.ownBlock ∨ ∃ g, v'.ownBlock = some g ∧ w.heap.size ≤ g) := by
  obtain ⟨hl, a, cap, rfl, hmc, hcm, hnone, hc⟩ := hx
  cases a with
  | none =>
    have := hnone rfl
    obtain rfl : m = 0 := by omega
    obtain rfl : cap = 0 := this
    obtain rfl : news = [] := List.eq_nil_of_length_eq_zero (by simpa using hl)
    refine ⟨v, w, ?_, by simpa using hown, ⟨rfl, rfl, rfl, Nat.le_refl _, fun _ _ _ => rfl⟩, by simp, .inl rfl⟩
    exact run_append_owned_none (P := P) (w := w) base t ty e i size ht hi v n xs hown
  | some ad =>
    have hnews : ∀ j u, news[j]? = some u → w.cell? (ad.add j) = some u := by
      intro j u hu
      rcases Nat.eq_zero_or_pos m with rfl | hp
      · obtain rfl : news = [] := List.eq_nil_of_length_eq_zero (by simpa using hl)
        simp at hu
      · obtain ⟨b, off, he, hd⟩ := hc hp
        cases he
        have hadd : (⟨b, off, none⟩ : Addr).add j = ⟨b, off + j, none⟩ := by unfold Addr.add; split <;> simp_all
        rw [hadd]; exact hd j u hu
    have hown0 := hown
    obtain ⟨v', w', hr, ho, hg, hn⟩ := run_append_own (P := P) w base t ty e i z size bytes ht hi hz hsize hby hzs hsz v n xs hown ad m cap news hl hnews h1 h63 hbytes hbase
    refine ⟨v', w', hr, ho, hg, hn, ?_⟩
    rcases hown0.2 with ⟨rfl, rfl⟩ | ⟨g, gcap, cur, rfl, hbg, hgg, hnc, hgm, hcs, htake⟩
    · -- nil: either nothing, or a new row
      have hown1 : w.ownsRow w.heap.size e size (.slice none 0 0) 0 [] := World.ownsRow_nil w _ e size
      obtain rfl : xs = [] := List.eq_nil_of_length_eq_zero (by simpa using hown0.1)
      obtain ⟨v2, w2, hr2, ho2, _⟩ := run_append_own (P := P) w w.heap.size t ty e i z size bytes ht hi hz hsize hby hzs hsz _ 0 [] hown1 ad m cap news hl hnews h1 h63 hbytes (Nat.le_refl _)
      rw [hr] at hr2
      cases hr2
      rcases ho2.2 with ⟨rfl, _⟩ | ⟨g, _, _, rfl, hg2, _⟩
      · exact .inl rfl
      · exact .inr ⟨g, rfl, hg2⟩
    · subst hsize
      by_cases hroom : n + m ≤ gcap
      · have hfit : n * i.size + news.length ≤ cur.size := by rw [hl, hcs, ← Nat.add_mul]; exact Nat.mul_le_mul_right _ hroom
        have hr2 := run_append_room (P := P) w t ty e i ht hi g n gcap cur hgg ad m cap news hl hnews h1 hroom hfit
        rw [hr] at hr2
        cases hr2
        exact .inl rfl
      · subst hby
        have holds : ∀ j u, xs[j]? = some u → w.cell? ((⟨g, 0, none⟩ : Addr).add j) = some u := hown0.cells (g := g) rfl
        have hr2 := run_append_grow (P := P) w t ty e i z ht hi hz ⟨g, 0, none⟩ n gcap xs hown0.1 holds ad m cap news hl hnews (by omega) (by simp only [maxLen] at h63; omega) (growslice_fits (by omega) hbytes)
        rw [hr] at hr2
        cases hr2
        exact .inr ⟨_, rfl, Nat.le_refl _⟩

theorem wpList_append_sl {P : Program} {w : World} {ops : Array Oper} {rest : List Oper} {o : Oper} {a : Act} {Q : Exit → Act → World → Prop} (hgd : o.guard = none) (s x : Operand) (t : TypeId)
    (ho : o.op = .call { callee := .builtin .append, args := #[s, x], argTypes := #[t, t] })
    (base : Nat) (e : TypeId) (i : TypeInfo) (z : Value) (size bytes : Nat) (ht : P.underlying t = some (.slice e)) (hi : P.info? e = some i) (hz : i.zero = some z)
    (hsize : i.size = size) (hby : i.bytes = bytes) (hzs : z.cells.size = size) (hsz : 0 < size)
    (v : Value) (n : Nat) (xs : List Value) (hs : a.eval s = v) (hown : w.ownsRow base e size v n xs)
    (xv : Value) (m : Nat) (news : List Value) (hxe : a.eval x = xv) (hx : Sl w size xv m news) (h1 : ∀ u ∈ news, u.oneCell' = true)
    (h63 : n + m ≤ maxLen) (hbytes : (n + m) * bytes ≤ 140737488355328) (hbase : base ≤ w.heap.size)
    (h : ∀ v' w', w'.ownsRow base e size v' (n + m) (xs ++ news) → w.grownBy w' v.ownBlock → (v' = .slice none 0 0 ↔ v = .slice none 0 0 ∧ m = 0) → (v'.ownBlock = v.ownBlock ∨ ∃ g, v'.ownBlock = some g ∧ w.heap.size ≤ g) → wpList P ops Q rest (a.put o.dst v') w') :
    wpList P ops Q (o :: rest) a w := by
  refine wpList_plain hgd fun K hK => ?_
  obtain ⟨v', w', hr, h2, h3, h4, h5⟩ := run_append_sl (P := P) w base t o.type e i z size bytes ht hi hz hsize hby hzs hsz v n xs hown xv m news hx h1 h63 hbytes hbase
  unfold Oper.wp
  simp only [execOp, ho, resolve, invoke, builtin, Sem.run_bind, Sem.run_pure, Result.andThen_ok, List.map_toArray, List.map_cons, List.map_nil, hs, hxe, hr]
  exact hK _ _ (h v' w' h2 h3 h4 h5)

/-- append of bytes: the program's types by their numbers. -/
theorem wpList_append_bytes {P : Program} {w : World} {ops : Array Oper} {rest : List Oper} {o : Oper} {a : Act} {Q : Exit → Act → World → Prop} {t e : TypeId}
    (ht : P.underlying t = some (.slice e)) (hi : (P.info? e).map (fun i => (i.zero, i.size, i.bytes)) = some (some (.int .u8 0), 1, 1)) (hgd : o.guard = none) (s x : Operand)
    (ho : o.op = .call { callee := .builtin .append, args := #[s, x], argTypes := #[t, t] })
    {base : Nat} {v : Value} {n : Nat} {xs : List Value} (hs : a.eval s = v) (hown : w.ownsRow base e 1 v n xs)
    {xv : Value} {m : Nat} {news : List Value} (hxe : a.eval x = xv) (hx : Sl w 1 xv m news) (h1 : ∀ u ∈ news, u.oneCell' = true)
    (hb : n + m ≤ 140737488355328) (hbase : base ≤ w.heap.size)
    (h : ∀ v' w', w'.ownsRow base e 1 v' (n + m) (xs ++ news) → w.grownBy w' v.ownBlock → (v' = .slice none 0 0 ↔ v = .slice none 0 0 ∧ m = 0) → (v'.ownBlock = v.ownBlock ∨ ∃ g, v'.ownBlock = some g ∧ w.heap.size ≤ g) → wpList P ops Q rest (a.put o.dst v') w') :
    wpList P ops Q (o :: rest) a w := by
  obtain ⟨i0, hi1, hz0, hz1, hz2⟩ := info_parts hi
  exact wpList_append_sl hgd s x t ho base e i0 (.int .u8 0) 1 1 ht hi1 hz0 hz1 hz2 rfl (by decide) v n xs hs hown xv m news hxe hx h1 (by simp only [maxLen]; omega) (by omega) hbase h

theorem lit_own (w : World) (cs : Array Value) (e : TypeId) (h : cs.size ≤ maxLen) :
    (w.alloc (.cells cs e)).ownsRow w.heap.size e 1 (.slice (some ⟨w.heap.size, 0, none⟩) cs.size cs.size) cs.size cs.toList :=
  World.ownsRow_lit w cs cs.size (Nat.le_refl _) h (by simp)
/-- A new block that holds just these bytes. -/
theorem new_bytes (w : World) (ys : List UInt8) (cs : Array Value) (e : TypeId) (k : Nat) (hk : k = ys.length) (h : cs.toList = bv ys) (hm : k ≤ maxLen) :
    Sl (w.alloc (.cells cs e)) 1 (.slice (some ⟨w.heap.size, 0, none⟩) k k) k (bv ys) := by
  have hs : cs.size = k := by rw [← Array.length_toList, h, bv_length, hk]
  have := own_sl (lit_own w cs e (by omega))
  rw [h, hs] at this
  exact this
theorem mk_refl (w : World) : Mk w w := Below.refl _ _
theorem mk_alloc (w : World) (o : Obj) : Mk w (w.alloc o) := (Below.refl _ _).alloc (Nat.le_refl _) _
theorem mk_drewN (w : World) (n : Nat) : Mk w (w.drewN n) := ⟨rfl, rfl, rfl, Nat.le_refl _, fun _ _ => rfl⟩
theorem mk_trans {a b c : World} (h : Mk a b) (k : Mk b c) : Mk a c := h.trans (k.mono h.size)
theorem alloc_grown {w w' : World} {o : Obj} {row : Option Nat} (h : (w.alloc o).grownBy w' row) : w.grownBy w' row :=
  ⟨h.os, h.tape, h.output, by have := h.size; simp at this; omega, fun k hk hr => (h.block k (by simp; omega) hr).trans (Below.heap_alloc w o k hk)⟩
theorem own_fresh_alloc {w : World} {o : Obj} {v v' : Value} (h : v'.ownBlock = v.ownBlock ∨ ∃ g, v'.ownBlock = some g ∧ (w.alloc o).heap.size ≤ g) : v'.ownBlock = v.ownBlock ∨ ∃ g, v'.ownBlock = some g ∧ w.heap.size ≤ g := by
  rcases h with h | ⟨g, h, hg⟩
  · exact .inl h
  · exact .inr ⟨g, h, by simp at hg; omega⟩
theorem mk_own {a b c : World} {v : Value} {e : TypeId} {size n : Nat} {xs : List Value} (h : Mk a b) (ho : b.ownsRow a.heap.size e size v n xs) (hg : b.grownBy c v.ownBlock) : Mk a c :=
  h.grown hg h.size (fun k hk => (ho.lt k hk).1)
theorem mk_own' {a b c : World} {row : Option Nat} (h : Mk a b) (hr : ∀ k, row = some k → a.heap.size ≤ k) (hg : b.grownBy c row) : Mk a c := h.grown hg h.size hr
theorem run_storeVar_row {P : Program} (w : World) (g : Nat) (t ty : TypeId) (cur cs : Array Value) (hg : w.heap[g]? = some (.cells cur t (0, 0))) (hs : cur.size = cs.size) (hi : (P.info? ty).map (·.size) = some cs.size) (h1 : ∀ v ∈ cs.toList, v.oneCell' = true) :
    (storeVar ty ⟨g, 0, none⟩ (.agg cs)).run P w = .ok () (w.setRow g cs) := by
  cases hq : P.info? ty with
  | none => simp [hq] at hi
  | some i =>
    have hsz : i.size = cs.size := by simpa [hq] using hi
    have h := run_storeCells_at P g 0 t cs.toList 0 cur w hg (by simp [hs]) h1
    simp only [Nat.add_zero, Nat.zero_add, List.take_zero, List.nil_append] at h
    have hd : cur.toList.drop cs.toList.length = [] := List.drop_eq_nil_of_le (by simp [hs])
    rw [hd, List.append_nil, Array.toArray_toList] at h
    simp [storeVar, Sem.run_bind, sizeOf, typeInfo, hq, hsz, Value.cells, h]

theorem setRow_has (w : World) (g : Nat) (cur cs : Array Value) (t : TypeId) (hg : w.heap[g]? = some (.cells cur t (0, 0))) : (w.setRow g cs).heap[g]? = some (.cells cs t (0, 0)) := setRow_heap w g cur cs t (0, 0) hg
theorem mk_setRow {w w' : World} (h : Mk w w') {g : Nat} (hg : w.heap.size ≤ g) (cs : Array Value) : Mk w (w'.setRow g cs) := below_setRow h hg cs
/-- A region that draws its order, whose operations compute and whose callees only make memory: one walk, in the order of the text. -/
theorem wp_region_mk {P : Program} {id : Nat} {Q : Exit → Act → World → Prop} {a : Act} {w : World} {l : List Oper} (hm : P.follows .mixedOrders = true) (hB : Region.lexB .any l.toArray = true)
    (h : ∀ C : World → Prop, Hid (∀ w', C w' → Mk w w') → Hid (∀ w' w'', C w' → Mk w' w'' → C w'') → (∃ w', C w') → wpQuiet P l.toArray C (fun a' => ∀ w', C w' → Q .normal a' w') l a) : (Code.region id l.toArray true).wp P Q a w :=
  wp_region_quiet (C := fun w' => Mk w w') hm hB (mk_drewN w 1) (by simpa using h (fun w' => Mk w w') (fun _ h => h) (fun _ _ h k => mk_trans h k) ⟨w, mk_refl w⟩)
/-- make of no bytes, with room. -/
theorem wpList_make_bytes {P : Program} {w : World} {ops : Array Oper} {rest : List Oper} {o : Oper} {a : Act} {Q : Exit → Act → World → Prop} {t e : TypeId}
    (ht : P.underlying t = some (.slice e)) (hi : (P.info? e).map (fun i => (i.zero, i.size, i.bytes)) = some (some (.int .u8 0), 1, 1)) (hgd : o.guard = none) (l c : Operand) (hop : o.op = Op.makeSlice t l c)
    (C : Int) (n : Nat) (hl : a.eval l = .int .i64 0) (hc : a.eval c = .int .i64 C) (hC : C = (n : Int)) (hn : n ≤ 281474976710656)
    (h : ∀ w', w'.ownsRow w.heap.size e 1 (.slice (some ⟨w.heap.size, 0, none⟩) 0 n) 0 [] → Mk w w' → wpList P ops Q rest (a.put o.dst (.slice (some ⟨w.heap.size, 0, none⟩) 0 n)) w') :
    wpList P ops Q (o :: rest) a w := by
  obtain ⟨i0, hi1, hz0, hz1, hz2⟩ := info_parts hi
  exact wpList_make_own w hgd l c t hop w.heap.size e i0 _ 1 ht hi1 hz0 hz1 .i64 .i64 C n hl hc hC (by rw [hz2]; omega) (by simp only [maxLen]; omega) (Nat.le_refl _) fun w' ho hg => h w' ho (grown_mk hg)
/-- make of so many noughts. -/
theorem wpList_make_zeros {P : Program} {w : World} {ops : Array Oper} {rest : List Oper} {o : Oper} {a : Act} {Q : Exit → Act → World → Prop} {t e : TypeId}
    (ht : P.underlying t = some (.slice e)) (hi : (P.info? e).map (fun i => (i.zero, i.size, i.bytes)) = some (some (.int .u8 0), 1, 1)) (hgd : o.guard = none) (l c : Operand) (hop : o.op = Op.makeSlice t l c)
    (L C : Int) (n : Nat) (hl : a.eval l = .int .i64 L) (hc : a.eval c = .int .i64 C) (hL : L = (n : Int)) (hC : C = (n : Int)) (hn : n ≤ 281474976710656)
    (h : ∀ w', w'.ownsRow w.heap.size e 1 (.slice (some ⟨w.heap.size, 0, none⟩) n n) n (bv (List.replicate n 0)) → Mk w w' → wpList P ops Q rest (a.put o.dst (.slice (some ⟨w.heap.size, 0, none⟩) n n)) w') :
    wpList P ops Q (o :: rest) a w := by
  obtain ⟨i0, hi1, hz0, hz1, hz2⟩ := info_parts hi
  refine wpList_make_full w hgd l c t hop w.heap.size e i0 _ 1 ht hi1 hz0 hz1 .i64 .i64 L C n hl hc hL hC (by rw [hz2]; omega) (by simp only [maxLen]; omega) (Nat.le_refl _) fun w' ho hg => h w' ?_ (grown_mk hg)
  have : (madeCells (Value.int .u8 0).cells (n * 1)).toList = bv (List.replicate n 0) := by
    rw [Nat.mul_one, show (Value.int .u8 0).cells = #[.int .u8 0] from rfl, toList_madeCells_one, bv, List.map_replicate]
    rfl
  rwa [this] at ho
theorem own_form {w : World} {base : Nat} {e : TypeId} {size : Nat} {v : Value} {n : Nat} {xs : List Value} (h : w.ownsRow base e size v n xs) (hn : 0 < n) :
    ∃ g cap, v = .slice (some ⟨g, 0, none⟩) n cap ∧ n ≤ cap ∧ cap ≤ maxLen ∧ base ≤ g ∧ g < w.heap.size := by
  rcases h.2 with ⟨_, h0⟩ | ⟨g, cap, cur, hv, hb, hg, hnc, hcm, _⟩
  · omega
  · exact ⟨g, cap, hv, hnc, hcm, hb, (Array.getElem?_eq_some_iff.1 hg).1⟩
theorem own_lt {w : World} {base : Nat} {e : TypeId} {size : Nat} {v : Value} {n : Nat} {xs : List Value} (h : w.ownsRow base e size v n xs) : ∀ k, v.ownBlock = some k → base ≤ k := fun k hk => (h.lt k hk).1
/-- copy to the head of a row of the call's own, which has room for all of it. -/
theorem wpList_copy_head {P : Program} {w : World} {ops : Array Oper} {rest : List Oper} {o : Oper} {a : Act} {Q : Exit → Act → World → Prop} {t e : TypeId}
    (ht : P.underlying t = some (.slice e)) (hi : (P.info? e).map (·.size) = some 1) (hgd : o.guard = none) (d s : Operand)
    (ho : o.op = .call { callee := .builtin .copy, args := #[d, s], argTypes := #[t, t] })
    {base g n cap : Nat} {xs : List Value} (hd : a.eval d = .slice (some ⟨g, 0, none⟩) n cap) (hown : w.ownsRow base e 1 (.slice (some ⟨g, 0, none⟩) n cap) n xs)
    {xv : Value} {m : Nat} {ys : List Value} (hs : a.eval s = xv) (hx : Sl w 1 xv m ys) (h1 : ∀ u ∈ ys, u.oneCell' = true) (hmn : m ≤ n)
    (h : ∀ w', w'.ownsRow base e 1 (.slice (some ⟨g, 0, none⟩) n cap) n (ys ++ xs.drop m) → w.grownBy w' (some g) → wpList P ops Q rest (a.put o.dst (goInt m)) w') :
    wpList P ops Q (o :: rest) a w := by
  obtain ⟨hl, ao, cp, rfl, hmc, hcm, hnone, hc⟩ := hx
  have hlm : ys.length = m := by simpa using hl
  by_cases h0 : m = 0
  · subst h0
    obtain rfl : ys = [] := List.eq_nil_of_length_eq_zero hlm
    exact wpList_copy_nothing hgd d s t t ho e ht hi _ ao n cap 0 cp hd hs (by simp) (h w (by simpa using hown) ⟨rfl, rfl, rfl, Nat.le_refl _, fun _ _ _ => rfl⟩)
  · obtain ⟨b, off, rfl, hc'⟩ := hc (by omega)
    obtain ⟨hxl, hh⟩ := hown
    rcases hh with ⟨h', _⟩ | ⟨g', cap', cur, h', hb, hg, hnc, hcm', hcs, htake⟩
    · cases h'
    · cases h'
      have hcur : cur.size = cap := by simpa using hcs
      refine wpList_copy_own hgd d s t t ho e ht hi g 0 n cap ⟨b, off, none⟩ m cp hd hs cur e hg ys (by rw [hlm]; exact (Nat.min_eq_left hmn).symm) ?_ (by rw [hlm, hcur]; omega) h1 ?_
      · intro j v hv
        have hadd : (⟨b, off, none⟩ : Addr).add j = ⟨b, off + j, none⟩ := by unfold Addr.add; split <;> simp_all
        rw [hadd]; exact hc' j v hv
      · rw [hlm]
        refine h _ ⟨by simp [hlm, hxl]; omega, .inr ⟨g, cap, _, rfl, hb, setRow_heap w g cur _ e _ hg, hnc, hcm', by simp [hlm, hcur]; omega, ?_⟩⟩ ⟨rfl, rfl, rfl, by simp, fun k _ hk => setRow_other w g k _ (fun e => hk (by simp [e]))⟩
        rw [← htake]
        simp only [List.take_zero, List.nil_append, Nat.zero_add, Nat.mul_one]
        rw [List.take_append, List.take_of_length_le (by omega), List.drop_take, hlm]
theorem own_store {w : World} {base : Nat} {e : TypeId} {g n cap : Nat} {xs : List UInt8} (h : w.ownsRow base e 1 (.slice (some ⟨g, 0, none⟩) n cap) n (bv xs)) (k : Nat) (c : UInt8) :
    (w.setCell ⟨g, k, none⟩ (.int .u8 (c.toNat : Int))).ownsRow base e 1 (.slice (some ⟨g, 0, none⟩) n cap) n (bv (xs.set k c)) := by
  have := (h.stored k (.int .u8 (c.toNat : Int))).1
  rwa [show (bv xs).set k (.int .u8 (c.toNat : Int)) = bv (xs.set k c) by simp [bv]] at this
theorem own_cell {w : World} {base : Nat} {e : TypeId} {g n cap : Nat} {xs : List UInt8} (h : w.ownsRow base e 1 (.slice (some ⟨g, 0, none⟩) n cap) n (bv xs)) (k : Nat) (hk : k < xs.length) (hn : xs.length = n) :
    w.cell? ⟨g, k, none⟩ = some (.int .u8 ((xs[k]).toNat : Int)) := by
  rw [h.cellAt k (by omega)]; exact bv_get xs k hk
theorem mk_store {a b : World} {e : TypeId} {n : Nat} {xs : List Value} {g k : Nat} {u : Value} {cap : Nat} (h : Mk a b) (ho : b.ownsRow a.heap.size e 1 (.slice (some ⟨g, 0, none⟩) n cap) n xs) : Mk a (b.setCell ⟨g, k, none⟩ u) :=
  mk_own h ho (ho.stored k u).2
theorem grown_refl (w : World) (row : Option Nat) : w.grownBy w row := ⟨rfl, rfl, rfl, Nat.le_refl _, fun _ _ _ => rfl⟩
theorem grown_trans {a b c : World} {row row' : Option Nat} (h : a.grownBy b row) (k : b.grownBy c row') (hr : ∀ x, row' = some x → some x = row ∨ a.heap.size ≤ x) : a.grownBy c row :=
  ⟨k.os.trans h.os, k.tape.trans h.tape, k.output.trans h.output, Nat.le_trans h.size k.size, fun i hi hne => (k.block i (Nat.lt_of_lt_of_le hi h.size) (fun e => by
    rcases hr i e.symm with h1 | h1
    · exact hne h1
    · omega)).trans (h.block i hi hne)⟩
/-- What a slice of the call's own becomes behind appends: its own block, or a new one. -/
def Fr (w : World) (v v' : Value) : Prop := v'.ownBlock = v.ownBlock ∨ ∃ g, v'.ownBlock = some g ∧ w.heap.size ≤ g
theorem Fr.refl (w : World) (v : Value) : Fr w v v := .inl rfl
theorem Fr.trans {w w' : World} {a b c : Value} (h : Fr w a b) (k : Fr w' b c) (hs : w.heap.size ≤ w'.heap.size) : Fr w a c := by
  rcases k with k | ⟨g, k, hg⟩
  · rcases h with h | ⟨g, h, hg⟩
    · exact .inl (k.trans h)
    · exact .inr ⟨g, k.trans h, hg⟩
  · exact .inr ⟨g, k, by omega⟩
theorem grown_fr {a b c : World} {v v' : Value} (h : a.grownBy b v.ownBlock) (hf : Fr a v v') (k : b.grownBy c v'.ownBlock) : a.grownBy c v.ownBlock :=
  grown_trans h k fun x hx => by
    rcases hf with e | ⟨g, e, hg⟩
    · exact .inl (hx.symm.trans e)
    · rw [e] at hx; cases hx; exact .inr hg
end Go.Tk

namespace Go.Tk
open Go Go.RowKit

/-- w' is w with new blocks and writes in S alone. -/
structure Chg (S : Nat → Prop) (w w' : World) : Prop where
  os : w'.os = w.os
  tape : w'.tape = w.tape
  output : w'.output = w.output
  size : w.heap.size ≤ w'.heap.size
  block : ∀ k, k < w.heap.size → ¬ S k → w'.heap[k]? = w.heap[k]?

/-- S, and all that is new. -/
def Gw (S : Nat → Prop) (w : World) : Nat → Prop := fun k => S k ∨ w.heap.size ≤ k

section
variable {S T : Nat → Prop} {a b c w w' w'' : World}
theorem Chg.refl (S : Nat → Prop) (w : World) : Chg S w w := ⟨rfl, rfl, rfl, Nat.le_refl _, fun _ _ _ => rfl⟩
theorem Chg.sub (h : Chg S w w') (hs : ∀ k, k < w.heap.size → S k → T k) : Chg T w w' := ⟨h.os, h.tape, h.output, h.size, fun k hk hn => h.block k hk fun e => hn (hs k hk e)⟩
/-- Two steps; what the second one may write is what the first one may, or new. -/
theorem Chg.trans (h : Chg S a b) (k : Chg T b c) (hs : ∀ x, x < a.heap.size → T x → S x) : Chg S a c :=
  ⟨k.os.trans h.os, k.tape.trans h.tape, k.output.trans h.output, Nat.le_trans h.size k.size,
   fun i hi hn => (k.block i (Nat.lt_of_lt_of_le hi h.size) fun e => hn (hs i hi e)).trans (h.block i hi hn)⟩
theorem Chg.of_mk (h : Mk w w') : Chg S w w' := ⟨h.os, h.tape, h.output, h.size, fun k hk _ => h.block k hk⟩
theorem Chg.of_grown {row : Option Nat} (h : w.grownBy w' row) (hr : ∀ k, row = some k → k < w.heap.size → S k) : Chg S w w' :=
  ⟨h.os, h.tape, h.output, h.size, fun k hk hn => h.block k hk fun e => hn (hr k e.symm hk)⟩
theorem Chg.to_mk (h : Chg S w w') (hs : ∀ k, k < w.heap.size → ¬ S k) : Mk w w' := ⟨h.os, h.tape, h.output, h.size, fun k hk => h.block k hk (hs k hk)⟩
theorem Chg.set (S : Nat → Prop) (w : World) (p : Addr) (u : Value) (hp : S p.block) : Chg S w (w.setCell p u) :=
  ⟨rfl, rfl, rfl, by simp, fun k _ hn => Below.heap_setCell _ _ _ _ fun e => hn (e ▸ hp)⟩
theorem Chg.alloc (S : Nat → Prop) (w : World) (o : Obj) : Chg S w (w.alloc o) := Chg.of_mk (mk_alloc w o)
theorem Chg.drewN (S : Nat → Prop) (w : World) (n : Nat) : Chg S w (w.drewN n) := Chg.of_mk (mk_drewN w n)
/-- Behind a step: one more, into what is of the set, or new. -/
theorem Chg.then (h : Chg S a b) (k : Chg (Gw S a) b c) : Chg S a c := h.trans k fun x hx e => by rcases e with e | e; exact e; omega
theorem Chg.thenSet (h : Chg S a b) (p : Addr) (u : Value) (hp : S p.block ∨ a.heap.size ≤ p.block) : Chg S a (b.setCell p u) := h.then (Chg.set _ _ _ _ hp)
theorem Chg.thenAlloc (h : Chg S a b) (o : Obj) : Chg S a (b.alloc o) := h.then (Chg.alloc _ _ _)
theorem Chg.thenMk (h : Chg S a b) (k : Mk b c) : Chg S a c := h.then (Chg.of_mk k)
theorem Chg.thenGrown {row : Option Nat} (h : Chg S a b) (k : b.grownBy c row) (hr : ∀ x, row = some x → S x ∨ a.heap.size ≤ x) : Chg S a c := h.then (Chg.of_grown k fun x e _ => hr x e)
theorem Chg.drew (h : Chg S a b) : Chg S a b.drew := ⟨h.os, h.tape, h.output, h.size, h.block⟩
theorem Chg.cell (h : Chg S w w') {p : Addr} {v : Value} (hc : w.cell? p = some v) (hn : ¬ S p.block) : w'.cell? p = some v :=
  (World.cell?_of_block (h.block p.block (World.block_lt_of_cell? w p hc) hn)).trans hc
end

/-- A block that is known whole. -/
def Bk (w : World) (b : Nat) (t : TypeId) (cs : Array Value) : Prop := w.heap[b]? = some (.cells cs t (0, 0))
section
variable {S : Nat → Prop} {w w' : World} {b : Nat} {t : TypeId} {cs : Array Value}
theorem Bk.lt (h : Bk w b t cs) : b < w.heap.size := (Array.getElem?_eq_some_iff.1 h).1
theorem Bk.cell (h : Bk w b t cs) (o : Nat) : w.cell? ⟨b, o, none⟩ = cs[o]? := cell_of_row _ _ _ _ _ _ h
theorem Bk.frozen (h : Bk w b t cs) (o : Nat) : w.frozen? ⟨b, o, none⟩ = false := frozen_of_row _ _ _ _ _ h
theorem Bk.keep (h : Bk w b t cs) (hc : Chg S w w') (hn : ¬ S b) : Bk w' b t cs := (hc.block b h.lt hn).trans h
theorem Bk.mk (h : Bk w b t cs) (hm : Mk w w') : Bk w' b t cs := (hm.block b h.lt).trans h
theorem Bk.set (h : Bk w b t cs) (o : Nat) (u : Value) : Bk (w.setCell ⟨b, o, none⟩ u) b t (cs.setIfInBounds o u) := by
  have hlt := h.lt
  have hv : w.heap[b] = .cells cs t (0, 0) := (Array.getElem?_eq_some_iff.1 h).2
  unfold Bk World.setCell
  rw [Array.getElem?_eq_getElem (by simpa using hlt), Array.getElem_modify]
  simp [hv]
theorem Bk.other (h : Bk w b t cs) {p : Addr} (u : Value) (hn : b ≠ p.block) : Bk (w.setCell p u) b t cs := (Below.heap_setCell _ _ _ _ hn).trans h
theorem Bk.alloc (h : Bk w b t cs) (o : Obj) : Bk (w.alloc o) b t cs := h.mk (mk_alloc w o)
theorem Bk.new (w : World) (t : TypeId) (cs : Array Value) : Bk (w.alloc (.cells cs t)) w.heap.size t cs := heap_alloc_new w _
theorem Bk.drewN (h : Bk w b t cs) (n : Nat) : Bk (w.drewN n) b t cs := h
theorem Bk.uniq {t' : TypeId} {cs' : Array Value} (h : Bk w b t cs) (h' : Bk w b t' cs') : t = t' ∧ cs = cs' := by
  unfold Bk at h h'; rw [h] at h'; cases h'; exact ⟨rfl, rfl⟩
theorem Bk.agg {P : Program} {ty : TypeId} {d : TypeDesc} (h : Bk w b t cs) (hu : P.underlying ty = some d) (hd : (match d with | .struct _ | .array _ _ => true | _ => false) = true) (hi : (P.info? ty).map (·.size) = some cs.size) :
    (loadVar ty ⟨b, 0, none⟩).run P w = .ok (.agg cs) w := run_loadVar_row w b t ty cs (0, 0) d h hu hd hi
end

/-- A row of bytes of the call's own, its block in S. -/
structure Ow (S : Nat → Prop) (w : World) (e : TypeId) (size : Nat) (v : Value) (n : Nat) (xs : List Value) : Prop where
  row : w.ownsRow 0 e size v n xs
  blk : ∀ k, v.ownBlock = some k → S k
section
variable {S T : Nat → Prop} {w w' : World} {e : TypeId} {size n : Nat} {v : Value} {xs : List Value}
theorem Ow.lt (h : Ow S w e size v n xs) {k : Nat} (hk : v.ownBlock = some k) : k < w.heap.size := (h.row.lt k hk).2
theorem row_keep (h : w.ownsRow 0 e size v n xs) (hc : Chg T w w') (hn : ∀ k, v.ownBlock = some k → ¬ T k) : w'.ownsRow 0 e size v n xs := by
  refine ⟨h.1, ?_⟩
  rcases h.2 with h2 | ⟨g, cap, cur, hv, hg, hh, r⟩
  · exact .inl h2
  · exact .inr ⟨g, cap, cur, hv, hg, (hc.block g (Array.getElem?_eq_some_iff.1 hh).1 (hn g (by subst hv; rfl))).trans hh, r⟩
theorem Ow.keep (h : Ow S w e size v n xs) (hc : Chg T w w') (hn : ∀ k, k < w.heap.size → S k → ¬ T k) : Ow S w' e size v n xs :=
  ⟨row_keep h.row hc fun k hk => hn k (h.lt hk) (h.blk k hk), h.blk⟩
theorem Ow.sub (h : Ow S w e size v n xs) (hs : ∀ k, k < w.heap.size → S k → T k) : Ow T w e size v n xs := ⟨h.row, fun k hk => hs k (h.lt hk) (h.blk k hk)⟩
theorem Ow.sl (h : Ow S w e size v n xs) : Sl w size v n xs := own_sl h.row
theorem Ow.nil (S : Nat → Prop) (w : World) (e : TypeId) (size : Nat) : Ow S w e size (.slice none 0 0) 0 [] := ⟨World.ownsRow_nil _ _ _ _, fun k hk => by cases hk⟩
/-- The first so many. -/
theorem row_cut {base : Nat} {cap m : Nat} {a : Option Addr} (h : w.ownsRow base e size (.slice a n cap) n xs) (hm : m ≤ n) : w.ownsRow base e size (.slice a m cap) m (xs.take (m * size)) := by
  obtain ⟨h1, h2⟩ := h
  refine ⟨by rw [List.length_take, h1]; exact Nat.min_eq_left (Nat.mul_le_mul_right _ hm), ?_⟩
  rcases h2 with ⟨h2, h3⟩ | ⟨g, cap', cur, hv, hg, hh, hn, hc, hs, ht⟩
  · cases h2
    obtain rfl : m = 0 := by omega
    exact .inl ⟨rfl, rfl⟩
  · cases hv
    refine .inr ⟨g, cap, cur, rfl, hg, hh, by omega, hc, hs, ?_⟩
    rw [← ht, List.take_take, Nat.min_eq_left (Nat.mul_le_mul_right _ hm)]
end
theorem sl_chg {S : Nat → Prop} {w w' : World} {size n : Nat} {v : Value} {vs : List Value} (h : Sl w size v n vs) (hc : Chg S w w') (hn : ∀ k, v.ownBlock = some k → k < w.heap.size → ¬ S k) : Sl w' size v n vs :=
  h.moved fun k hk hv => hc.block k hk (hn k hv.symm hk)
end Go.Tk

namespace Go.Dk

/-- A disk: files (their bytes, how many last), is the power off, how often it has failed, the fuse. -/
structure St where
  files : List (List UInt8 × Nat)
  off : Bool
  falls : Nat
  fuse : Option (Int × List Int)

def St.is (s : St) (f : Int) : Bool := decide (0 ≤ f) && decide (f < (s.files.length : Int))
/-- What is kept of what is loose. -/
def kept (keep : List Int) (i : Nat) (n lasts : Nat) : Nat := (max 0 (min (keep.getD i 0) ((n : Int) - lasts))).toNat
def fallFile (keep : List Int) (i : Nat) (x : List UInt8 × Nat) : List UInt8 × Nat :=
  (x.1.take (x.2 + kept keep i x.1.length x.2), x.2 + kept keep i x.1.length x.2)
def St.fall (s : St) (keep : List Int) : St := { files := s.files.mapIdx (fallFile keep), off := true, falls := s.falls + 1, fuse := none }
def St.file (s : St) (f : Nat) : List UInt8 × Nat := s.files.getD f ([], 0)
def St.put (s : St) (f : Nat) (x : List UInt8 × Nat) : St := { s with files := s.files.set f x }
/-- One op of the fuse less; did it burn; what is kept then. -/
def St.lit (s : St) : St := { s with fuse := s.fuse.map fun x => (x.1 - 1, x.2) }
def St.burnt (s : St) : Bool := match s.fuse with | none => false | some (n, _) => decide (n < 1)
def St.keeps (s : St) : List Int := match s.fuse with | none => [] | some (_, k) => k
def St.append (s : St) (f : Int) (b : List UInt8) : St × Int :=
  if s.off then (s, 40) else if s.is f = false then (s, 1) else
  if 16777216 < (s.file f.toNat).1.length + b.length then (s, 41) else
  if s.burnt then ((s.lit.put f.toNat ((s.file f.toNat).1 ++ b, (s.file f.toNat).2)).fall s.keeps, 40)
  else (s.lit.put f.toNat ((s.file f.toNat).1 ++ b, (s.file f.toNat).2), 0)
def St.sync (s : St) (f : Int) : St × Int :=
  if s.off then (s, 40) else if s.is f = false then (s, 1) else
  if s.burnt then (s.lit.fall s.keeps, 40)
  else (s.lit.put f.toNat ((s.file f.toNat).1, (s.file f.toNat).1.length), 0)
def St.truncate (s : St) (f : Int) (n : Int) : St × Int :=
  if s.off then (s, 40) else if s.is f = false then (s, 1) else
  if n < 0 ∨ ((s.file f.toNat).1.length : Int) < n then (s, 1) else
  if s.burnt then (s.lit.fall s.keeps, 40)
  else (s.lit.put f.toNat ((s.file f.toNat).1.take n.toNat, min (s.file f.toNat).2 n.toNat), 0)
def St.read (s : St) (f at_ n : Int) : List UInt8 × Int :=
  if s.off then ([], 40) else if s.is f = false then ([], 1) else
  if at_ < 0 ∨ n < 0 ∨ ((s.file f.toNat).1.length : Int) < at_ ∨ ((s.file f.toNat).1.length : Int) - at_ < n then ([], 1) else
  (((s.file f.toNat).1.drop at_.toNat).take n.toNat, 0)
def St.size (s : St) (f : Int) : Int := if s.is f = false then -1 else (s.file f.toNat).1.length
def St.lasts (s : St) (f : Int) : Int := if s.is f = false then -1 else (s.file f.toNat).2
def St.light (s : St) (ops : Int) (keep : List Int) : St × Int :=
  if s.off then (s, 40) else if ops < 0 then (s, 1) else ({ s with fuse := some (ops, keep) }, 0)
def St.crash (s : St) (keep : List Int) : St := if s.off then s else s.fall keep
def St.restart (s : St) : St := { s with off := false, fuse := none }
def fresh (n : Nat) : St := { files := List.replicate n ([], 0), off := false, falls := 0, fuse := none }

/-- A disk that may be: no file is too long, what lasts is of the file; so many falls. -/
structure St.Ok0 (s : St) (m : Nat) : Prop where
  some : 0 < s.files.length
  many : s.files.length ≤ 8
  file : ∀ x ∈ s.files, x.2 ≤ x.1.length ∧ x.1.length ≤ 16777216
  falls : s.falls ≤ m
/-- The fuse's ops are none below nought, too. -/
structure St.Ok (s : St) (m : Nat) : Prop extends St.Ok0 s m where
  ops : ∀ n k, s.fuse = Option.some (n, k) → 0 ≤ n ∧ n ≤ 9223372036854775807

end Go.Dk
