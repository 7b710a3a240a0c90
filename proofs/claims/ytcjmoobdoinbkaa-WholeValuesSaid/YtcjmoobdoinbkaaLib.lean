/- Words on memory that the proofs of this seat share: what a slice reads as, a block known whole, what a call has left as it was; append, copy and make at elements of any size. No condition. -/
import Derived.Test.YtcjmoobdoinbkaaProg
import Derived.WalkKit
import Derived.Deep.AppendLies
import Derived.Deep.RegionLaw
import Derived.Laws.CopyOwn
import Derived.Laws.OwnMore
import Derived.Laws.MakeOwn
import Derived.Lib.Hide
import Derived.Deep.Draws
namespace Go.Proofs.Ytcjmoobdoinbkaa
open Go.RowKit

theorem add_block (a : Addr) (n : Nat) : (a.add n).block = a.block := by unfold Addr.add; split <;> rfl
theorem add_add (a : Addr) (i j : Nat) : (a.add i).add j = a.add (i + j) := by
  unfold Addr.add
  by_cases hi : i = 0 <;> by_cases hj : j = 0 <;> simp [hi, hj, Nat.add_assoc]
theorem add_lit (g o i : Nat) : (⟨g, o, none⟩ : Addr).add i = ⟨g, o + i, none⟩ := by
  unfold Addr.add
  by_cases hi : i = 0 <;> simp [hi]

/-- Only the blocks of S, and new ones, have turned between w and w'. -/
structure Kp (S : Nat → Prop) (w w' : World) : Prop where
  os : w'.os = w.os
  tape : w'.tape = w.tape
  output : w'.output = w.output
  size : w.heap.size ≤ w'.heap.size
  block : ∀ k, k < w.heap.size → ¬ S k → w'.heap[k]? = w.heap[k]?

section
variable {S T : Nat → Prop} {w w1 w' w2 : World}
theorem Kp.refl (S : Nat → Prop) (w : World) : Kp S w w := ⟨rfl, rfl, rfl, Nat.le_refl _, fun _ _ _ => rfl⟩
theorem Kp.trans (h : Kp S w w1) (k : Kp T w1 w2) (hs : ∀ b, b < w.heap.size → T b → S b) : Kp S w w2 :=
  ⟨k.os.trans h.os, k.tape.trans h.tape, k.output.trans h.output, Nat.le_trans h.size k.size,
    fun b hb hn => (k.block b (Nat.lt_of_lt_of_le hb h.size) (fun ht => hn (hs b hb ht))).trans (h.block b hb hn)⟩
theorem Kp.mono (h : Kp S w w') (hs : ∀ b, b < w.heap.size → S b → T b) : Kp T w w' :=
  ⟨h.os, h.tape, h.output, h.size, fun b hb hn => h.block b hb (fun k => hn (hs b hb k))⟩
theorem Kp.of_below (h : Below w.heap.size w w') : Kp S w w' := ⟨h.os, h.tape, h.output, h.size, fun b hb _ => h.block b hb⟩
theorem Kp.below (h : Kp S w w') (hs : ∀ b, b < w.heap.size → ¬ S b) : Below w.heap.size w w' := ⟨h.os, h.tape, h.output, h.size, fun b hb => h.block b hb (hs b hb)⟩
theorem Kp.of_grown {row : Option Nat} (h : w.grownBy w' row) (hr : ∀ g, row = some g → S g) : Kp S w w' :=
  ⟨h.os, h.tape, h.output, h.size, fun b hb hn => h.block b hb (fun e => hn (hr b e.symm))⟩
theorem Kp.drew (h : Kp S w w') : Kp S w w'.drew := ⟨h.os, h.tape, h.output, h.size, h.block⟩
theorem Kp.drewN (h : Kp S w w') (n : Nat) : Kp S w (w'.drewN n) := ⟨h.os, h.tape, h.output, h.size, h.block⟩
theorem Kp.alloc (h : Kp S w w') (o : Obj) : Kp S w (w'.alloc o) :=
  ⟨h.os, h.tape, h.output, Nat.le_trans h.size (by simp), fun b hb hn => (Below.heap_alloc w' o b (Nat.lt_of_lt_of_le hb h.size)).trans (h.block b hb hn)⟩
theorem Kp.setCell (h : Kp S w w') {p : Addr} (hp : w.heap.size ≤ p.block ∨ S p.block) (u : Value) : Kp S w (w'.setCell p u) :=
  ⟨h.os, h.tape, h.output, by simpa [World.setCell] using h.size, fun b hb hn => (Below.heap_setCell w' p u b (by
    rintro rfl
    rcases hp with hp | hp
    · omega
    · exact hn hp)).trans (h.block b hb hn)⟩
theorem Kp.setRow (h : Kp S w w') {g : Nat} (hg : w.heap.size ≤ g ∨ S g) (cs : Array Value) : Kp S w (w'.setRow g cs) :=
  ⟨h.os, h.tape, h.output, by simpa [World.setRow] using h.size, fun b hb hn => (setRow_other w' g b cs (by
    rintro rfl
    rcases hg with hg | hg
    · omega
    · exact hn hg)).trans (h.block b hb hn)⟩
theorem Kp.cell (h : Kp S w w') {p : Addr} (hp : p.block < w.heap.size) (hn : ¬ S p.block) : w'.cell? p = w.cell? p := World.cell?_of_block (w := w) (h.block p.block hp hn)
theorem Kp.frozen (h : Kp S w w') {p : Addr} (hp : p.block < w.heap.size) (hn : ¬ S p.block) : w'.frozen? p = w.frozen? p := World.frozen?_of_block (w := w) (h.block p.block hp hn)
end

/-- Block g is just the cells cs of element type t; none is frozen. -/
def Blk (w : World) (g : Nat) (t : TypeId) (cs : List Value) : Prop := w.heap[g]? = some (.cells cs.toArray t (0, 0))
section
variable {S : Nat → Prop} {w w' : World} {g : Nat} {t : TypeId} {cs : List Value}
theorem Blk.lt (h : Blk w g t cs) : g < w.heap.size := by
  rcases Nat.lt_or_ge g w.heap.size with hlt | hge
  · exact hlt
  · unfold Blk at h; rw [Array.getElem?_eq_none hge] at h; cases h
theorem Blk.cell (h : Blk w g t cs) {i : Nat} {v : Value} (hv : cs[i]? = some v) : w.cell? ⟨g, i, none⟩ = some v := by
  rw [cell_of_row w g i cs.toArray t (0, 0) h]; simpa using hv
theorem Blk.frozen (h : Blk w g t cs) (i : Nat) : w.frozen? ⟨g, i, none⟩ = false := by
  unfold Blk at h; simp [World.frozen?, h]
theorem Blk.new (w : World) (t : TypeId) (cs : List Value) : Blk (w.alloc (.cells cs.toArray t)) w.heap.size t cs := heap_alloc_new w _
theorem Blk.made {w : World} {n : Nat} (h : w.heap.size = n) (t : TypeId) (cs : List Value) : Blk (w.alloc (.cells cs.toArray t)) n t cs := h ▸ Blk.new w t cs
theorem Blk.kp (h : Blk w g t cs) (k : Kp S w w') (hn : ¬ S g) : Blk w' g t cs := (k.block g h.lt hn).trans h
theorem Blk.below {B : Nat} (h : Blk w g t cs) (k : Below B w w') (hg : g < B) : Blk w' g t cs := (k.block g hg).trans h
theorem Blk.drew (h : Blk w g t cs) : Blk w.drew g t cs := h
theorem Blk.drewN (h : Blk w g t cs) (n : Nat) : Blk (w.drewN n) g t cs := h
theorem Blk.alloc (h : Blk w g t cs) (o : Obj) : Blk (w.alloc o) g t cs := (Below.heap_alloc w o g h.lt).trans h
theorem Blk.set_ (h : Blk w g t cs) (i : Nat) (u : Value) : Blk (w.setCell ⟨g, i, none⟩ u) g t (cs.set i u) := by
  unfold Blk at h ⊢
  simp [World.setCell, Array.getElem?_modify, h]
theorem Blk.far (h : Blk w g t cs) {p : Addr} (hp : g ≠ p.block) (u : Value) : Blk (w.setCell p u) g t cs := (Below.heap_setCell w p u g hp).trans h
theorem Blk.setRow (h : Blk w g t cs) (ds : List Value) : Blk (w.setRow g ds.toArray) g t ds := setRow_heap w g cs.toArray ds.toArray t (0, 0) h
theorem Blk.setRow_far (h : Blk w g t cs) {b : Nat} (hb : g ≠ b) (ds : Array Value) : Blk (w.setRow b ds) g t cs := (setRow_other w b g ds hb).trans h
end

/-- The slice at address A, of n elements of 'size' cells each, reads as the cells xs. -/
def Rd (w : World) (A : Option Addr) (n size : Nat) (xs : List Value) : Prop :=
  xs.length = n * size ∧ (xs ≠ [] → ∃ ad, A = some ad ∧ ∀ j u, xs[j]? = some u → w.cell? (ad.add j) = some u)
section
variable {S : Nat → Prop} {w w' : World} {A : Option Addr} {n size : Nat} {xs : List Value}
theorem Rd.nil (w : World) (A : Option Addr) (size : Nat) : Rd w A 0 size [] := ⟨by simp, fun h => absurd rfl h⟩
theorem Rd.keep (h : Rd w A n size xs) (hk : ∀ ad p, A = some ad → p.block = ad.block → p.block < w.heap.size → w'.cell? p = w.cell? p) : Rd w' A n size xs :=
  ⟨h.1, fun hn => by
    obtain ⟨ad, rfl, hc⟩ := h.2 hn
    refine ⟨ad, rfl, fun j u hu => ?_⟩
    have h1 := hc j u hu
    rw [hk ad _ rfl (add_block _ _) (World.block_lt_of_cell? w _ h1), h1]⟩
theorem Rd.kp (h : Rd w A n size xs) (k : Kp S w w') (hn : ∀ ad, A = some ad → ¬ S ad.block) : Rd w' A n size xs :=
  h.keep fun ad p e he hp => k.cell hp (by rw [he]; exact hn ad e)
theorem Rd.below (h : Rd w A n size xs) (k : Below w.heap.size w w') : Rd w' A n size xs := h.keep fun _ _ _ _ hp => k.cell hp
theorem Rd.alloc (h : Rd w A n size xs) (o : Obj) : Rd (w.alloc o) A n size xs := h.keep fun _ p _ _ hp => World.cell?_alloc_lt w o p hp
theorem Rd.drew (h : Rd w A n size xs) : Rd w.drew A n size xs := h
theorem Rd.drewN (h : Rd w A n size xs) (k : Nat) : Rd (w.drewN k) A n size xs := h
theorem Rd.of_own {base : Nat} {e : TypeId} {c : Nat} (h : w.ownsRow base e size (.slice A n c) n xs) : Rd w A n size xs := by
  refine ⟨h.1, fun hn => ?_⟩
  rcases h.2 with ⟨hv, h0⟩ | ⟨g, cap, cur, hv, _⟩
  · subst h0; exact absurd (List.eq_nil_of_length_eq_zero (by simpa using h.1)) hn
  · have hA : A = some ⟨g, 0, none⟩ := by injection hv
    subst hA
    exact ⟨_, rfl, h.cells (g := g) rfl⟩
theorem Rd.of_blk {g : Nat} {t : TypeId} {cs : List Value} (h : Blk w g t cs) (hl : cs.length = n * size) : Rd w (some ⟨g, 0, none⟩) n size cs :=
  ⟨hl, fun _ => ⟨_, rfl, fun j u hu => by rw [add_lit, Nat.zero_add]; exact h.cell hu⟩⟩
/-- A piece of it: from element k on, m elements. -/
theorem Rd.piece (h : Rd w A n size xs) {k m : Nat} (hk : k + m ≤ n) (B : Option Addr) (hB : 0 < m → B = A.map (·.add (k * size))) : Rd w B m size ((xs.drop (k * size)).take (m * size)) := by
  have hle : m * size ≤ xs.length - k * size := by
    rw [h.1, ← Nat.sub_mul]; exact Nat.mul_le_mul_right _ (by omega)
  refine ⟨by rw [List.length_take, List.length_drop]; omega, fun hn => ?_⟩
  have hm : 0 < m := by
    rcases Nat.eq_zero_or_pos m with h0 | h0
    · subst h0; simp at hn
    · exact h0
  obtain ⟨ad, rfl, hc⟩ := h.2 (fun e => by subst e; simp at hn)
  refine ⟨ad.add (k * size), hB hm, fun j u hu => ?_⟩
  rw [add_add]
  rw [List.getElem?_take] at hu
  split at hu
  · exact hc _ u (by rw [← hu, List.getElem?_drop])
  · cases hu
theorem Rd.len_zero (h : Rd w A 0 size xs) : xs = [] := List.eq_nil_of_length_eq_zero (by simpa using h.1)
end

/-- append onto a slice without spare capacity: nothing is appended and it stays, or there is a new block. -/
theorem run_append_full {P : Program} (w : World) (t ty e : TypeId) (i : TypeInfo) (z : Value) (size bytes : Nat) (ht : P.underlying t = some (.slice e)) (hi : P.info? e = some i) (hz : i.zero = some z)
    (hsize : i.size = size) (hby : i.bytes = bytes) (hzs : z.cells.size = size) (hsz : 0 < size)
    (A : Option Addr) (n : Nat) (xs : List Value) (hx : Rd w A n size xs) (B : Option Addr) (m c : Nat) (ys : List Value) (hy : Rd w B m size ys)
    (h63 : n + m ≤ maxLen) (hbytes : (n + m) * bytes ≤ 140737488355328) :
    ∃ A' c' w', (Builtin.append_ #[t, t] ty #[.slice A n n, .slice B m c]).run P w = .ok (.slice A' (n + m) c') w' ∧ Rd w' A' (n + m) size (xs ++ ys) ∧ Below w.heap.size w w' := by
  subst hsize
  subst hby
  have hsmall : n + m ≤ 9223372036854775807 := by simp only [maxLen] at h63; omega
  rcases Nat.eq_zero_or_pos m with hm | hm
  · subst hm
    have hn : ys = [] := hy.len_zero
    subst hn
    have hl : ∀ (x : Addr), (loadCells x 0).run P w = .ok #[] w := fun x => by simpa using run_loadCells_list (P := P) w x [] (by simp)
    refine ⟨A, n, w, ?_, by simpa using hx, Below.refl _ _⟩
    cases A <;> cases B <;> simp [Builtin.append_, run_underlying ht, sizeOf, typeInfo, hi, Builtin.lenOf, Builtin.firstCells, storeCells, hl]
  · have hye : ys ≠ [] := fun e => by
      have h1 := hy.1
      rw [e] at h1
      have : 0 < m * i.size := Nat.mul_pos hm hsz
      simp at h1
      omega
    obtain ⟨bd, rfl, hcb⟩ := hy.2 hye
    have done : ∀ rest : Array Value, Rd (w.drew.alloc (.cells (xs.toArray ++ ys.toArray ++ rest) e)) (some ⟨w.heap.size, 0, none⟩) (n + m) i.size (xs ++ ys) ∧
        Below w.heap.size w (w.drew.alloc (.cells (xs.toArray ++ ys.toArray ++ rest) e)) := by
      intro rest
      refine ⟨⟨by rw [List.length_append, hx.1, hy.1, Nat.add_mul], fun _ => ⟨_, rfl, fun j u hu => ?_⟩⟩, (Below.refl _ w).drew.alloc (Nat.le_refl _) _⟩
      rw [add_lit, Nat.zero_add, cell_of_row _ w.heap.size j _ e (0, 0) (heap_alloc_new w.drew _)]
      have hj : j < (xs ++ ys).length := (List.getElem?_eq_some_iff.1 hu).1
      rw [Array.getElem?_append_left (by simpa using hj)]
      simpa using hu
    rcases Classical.em (xs = []) with hxe | hxe
    · have hn0 : n = 0 := by
        have h1 := hx.1
        rw [hxe] at h1
        rcases Nat.eq_zero_or_pos n with h0 | h0
        · exact h0
        · have : 0 < n * i.size := Nat.mul_pos h0 hsz
          simp at h1
          omega
      subst hn0
      cases A with
      | none =>
        have hb : m * i.bytes ≤ 140737488355328 := by simpa using hbytes
        have hr := run_append_nil (P := P) w t ty e i z ht hi hz bd m c ys hy.1 hcb hm (by omega) (by omega)
        have hd := done (Builtin.zeroCells z.cells (grownCap w m 0 e - m))
        subst hxe
        simp only [Array.empty_append, Nat.zero_add] at hd hr ⊢
        exact ⟨_, _, _, hr, hd.1, hd.2⟩
      | some ad =>
        have hr := run_append_grow (P := P) w t ty e i z ht hi hz ad 0 0 [] (by simp) (by simp) bd m c ys hy.1 hcb (by omega) (by omega) (growslice_fits (by omega) hbytes)
        have hd := done (Builtin.zeroCells z.cells (grownCap w (0 + m) 0 e - (0 + m)))
        subst hxe
        exact ⟨_, _, _, hr, hd.1, hd.2⟩
    · obtain ⟨ad, rfl, hca⟩ := hx.2 hxe
      have hr := run_append_grow (P := P) w t ty e i z ht hi hz ad n n xs hx.1 hca bd m c ys hy.1 hcb (by omega) (by omega) (growslice_fits (by omega) hbytes)
      have hd := done (Builtin.zeroCells z.cells (grownCap w (n + m) n e - (n + m)))
      exact ⟨_, _, _, hr, hd.1, hd.2⟩

/-- append onto a row of the call's own, whatever the source. -/
theorem run_append_rd {P : Program} (w : World) (base : Nat) (t ty e : TypeId) (i : TypeInfo) (z : Value) (size bytes : Nat) (ht : P.underlying t = some (.slice e)) (hi : P.info? e = some i) (hz : i.zero = some z)
    (hsize : i.size = size) (hby : i.bytes = bytes) (hzs : z.cells.size = size) (hsz : 0 < size)
    (v : Value) (n : Nat) (xs : List Value) (hown : w.ownsRow base e size v n xs) (B : Option Addr) (m c : Nat) (ys : List Value) (hy : Rd w B m size ys) (h1 : ∀ u ∈ ys, u.oneCell' = true)
    (h63 : n + m ≤ maxLen) (hbytes : (n + m) * bytes ≤ 140737488355328) (hbase : base ≤ w.heap.size) :
    ∃ v' w', (Builtin.append_ #[t, t] ty #[v, .slice B m c]).run P w = .ok v' w' ∧ w'.ownsRow base e size v' (n + m) (xs ++ ys) ∧ w.grownBy w' v.ownBlock ∧
      (v'.ownBlock = v.ownBlock ∨ v'.ownBlock = some w.heap.size) := by
  rcases Classical.em (ys = []) with hye | hye
  · have hm : m = 0 := by
      have h2 := hy.1
      rw [hye] at h2
      rcases Nat.eq_zero_or_pos m with h0 | h0
      · exact h0
      · have : 0 < m * size := Nat.mul_pos h0 hsz
        simp at h2
        omega
    subst hm
    subst hye
    have hl : ∀ (x : Addr), (loadCells x 0).run P w = .ok #[] w := fun x => by simpa using run_loadCells_list (P := P) w x [] (by simp)
    refine ⟨v, w, ?_, by simpa using hown, World.grownBy.refl w _, .inl rfl⟩
    rcases hown.2 with ⟨rfl, rfl⟩ | ⟨g, cap, cur, rfl, _, _, hnc, _⟩
    · cases B <;> simp [Builtin.append_, run_underlying ht, sizeOf, typeInfo, hi, Builtin.lenOf, Builtin.firstCells, hl]
    · cases B <;> simp [Builtin.append_, run_underlying ht, sizeOf, typeInfo, hi, Builtin.lenOf, Builtin.firstCells, hnc, storeCells, hl]
  · obtain ⟨bd, rfl, hcb⟩ := hy.2 hye
    obtain ⟨v', w', hrun, h2, h3, _, h5⟩ := run_append_own_at (P := P) w base t ty e i z size bytes ht hi hz hsize hby hzs hsz v n xs hown bd m c ys hy.1 hcb h1 h63 hbytes hbase
    exact ⟨v', w', hrun, h2, h3, h5⟩

/-- copy into a row that is known whole, at elements of any size. -/
theorem run_copy_rd {P : Program} (w : World) (dT sT ty e : TypeId) (i : TypeInfo) (size : Nat) (ht : P.underlying dT = some (.slice e)) (hi : P.info? e = some i) (hsize : i.size = size)
    (g dLen dCap : Nat) (cur : List Value) (t : TypeId) (hg : Blk w g t cur) (A : Option Addr) (n c : Nat) (xs : List Value) (hx : Rd w A n size xs) (hfit : n ≤ dLen) (hroom : n * size ≤ cur.length) (h1 : ∀ v ∈ xs, v.oneCell' = true) :
    (Builtin.copy_ #[dT, sT] ty #[.slice (some ⟨g, 0, none⟩) dLen dCap, .slice A n c]).run P w = .ok (goInt n) (w.setRow g (xs ++ cur.drop (n * size)).toArray) := by
  subst hsize
  have hmin : Nat.min n dLen = n := Nat.min_eq_left hfit
  have hst := run_storeCells_at P g 0 t xs 0 cur.toArray w hg (by rw [hx.1]; simpa using hroom) h1
  rcases Classical.em (xs = []) with hxe | hxe
  · subst hxe
    have hn : n * i.size = 0 := by have := hx.1; simp at this ⊢; omega
    have hl : ∀ (x : Addr), (loadCells x 0).run P w = .ok #[] w := fun x => by simpa using run_loadCells_list (P := P) w x [] (by simp)
    have hself := setRow_self w g cur.toArray t (0, 0) hg
    cases A <;> simp [Builtin.copy_, run_underlying ht, Builtin.lenOf, Builtin.firstCells, sizeOf, typeInfo, hi, hmin, storeCells, hn, hl, hself]
  · obtain ⟨ad, rfl, hc⟩ := hx.2 hxe
    have hl := run_loadCells_list (P := P) w ad xs hc
    simp only [Nat.zero_add, List.take_zero, List.nil_append] at hst
    rw [hx.1] at hl hst
    simp [Builtin.copy_, run_underlying ht, Builtin.lenOf, Builtin.firstCells, sizeOf, typeInfo, hi, hmin, hl, hst]

section
variable {P : Program} {w : World} {ops : Array Oper} {rest : List Oper} {o : Oper} {a : Act} {K : Act → World → Prop} {Q : Exit → Act → World → Prop}
theorem wpList_copy_rd (hgd : o.guard = none) (d s : Operand) (dT sT : TypeId) (ho : o.op = .call { callee := .builtin .copy, args := #[d, s], argTypes := #[dT, sT] })
    (e : TypeId) (i : TypeInfo) (size : Nat) (ht : P.underlying dT = some (.slice e)) (hi : P.info? e = some i) (hsize : i.size = size)
    (g dLen dCap : Nat) (cur : List Value) (t : TypeId) (hg : Blk w g t cur) (A : Option Addr) (n c : Nat) (xs : List Value) (hd : a.eval d = .slice (some ⟨g, 0, none⟩) dLen dCap) (hs : a.eval s = .slice A n c) (hx : Rd w A n size xs) (hfit : n ≤ dLen) (hroom : n * size ≤ cur.length) (h1 : ∀ v ∈ xs, v.oneCell' = true)
    (h : ∀ w', w' = w.setRow g (xs ++ cur.drop (n * size)).toArray → wpList P ops Q rest (a.put o.dst (goInt n)) w') : wpList P ops Q (o :: rest) a w := by
  refine wpList_plain hgd fun K hK => ?_
  have hrun := run_copy_rd (P := P) w dT sT o.type e i size ht hi hsize g dLen dCap cur t hg A n c xs hx hfit hroom h1
  unfold Oper.wp
  simp [execOp, ho, resolve, invoke, builtin, hd, hs, hrun, Result.andThen]
  exact hK _ _ (h _ rfl)

theorem wp_append_full (s x : Operand) (t : TypeId) (ho : o.op = .call { callee := .builtin .append, args := #[s, x], argTypes := #[t, t] })
    (e : TypeId) (i : TypeInfo) (z : Value) (size bytes : Nat) (ht : P.underlying t = some (.slice e)) (hi : P.info? e = some i) (hz : i.zero = some z)
    (hsize : i.size = size) (hby : i.bytes = bytes) (hzs : z.cells.size = size) (hsz : 0 < size)
    (A : Option Addr) (n : Nat) (xs : List Value) (hs : a.eval s = .slice A n n) (hxs : Rd w A n size xs) (B : Option Addr) (m c : Nat) (ys : List Value) (hx : a.eval x = .slice B m c) (hy : Rd w B m size ys)
    (h63 : n + m ≤ maxLen) (hbytes : (n + m) * bytes ≤ 140737488355328)
    (h : ∀ A' c' w', Rd w' A' (n + m) size (xs ++ ys) → Below w.heap.size w w' → K (a.put o.dst (.slice A' (n + m) c')) w') : o.wp P a w K Q := by
  obtain ⟨A', c', w', hr, h2, h3⟩ := run_append_full (P := P) w t o.type e i z size bytes ht hi hz hsize hby hzs hsz A n xs hxs B m c ys hy h63 hbytes
  unfold Oper.wp execOp
  simp only [ho, resolve, invoke, builtin, Sem.run_bind, Sem.run_pure, Result.andThen_ok, List.map_toArray, List.map_cons, List.map_nil, hs, hx, hr]
  exact h A' c' w' h2 h3
theorem wpList_append_full (hgd : o.guard = none) (s x : Operand) (t : TypeId) (ho : o.op = .call { callee := .builtin .append, args := #[s, x], argTypes := #[t, t] })
    (e : TypeId) (i : TypeInfo) (z : Value) (size bytes : Nat) (ht : P.underlying t = some (.slice e)) (hi : P.info? e = some i) (hz : i.zero = some z)
    (hsize : i.size = size) (hby : i.bytes = bytes) (hzs : z.cells.size = size) (hsz : 0 < size)
    (A : Option Addr) (n : Nat) (xs : List Value) (hs : a.eval s = .slice A n n) (hxs : Rd w A n size xs) (B : Option Addr) (m c : Nat) (ys : List Value) (hx : a.eval x = .slice B m c) (hy : Rd w B m size ys)
    (h63 : n + m ≤ maxLen) (hbytes : (n + m) * bytes ≤ 140737488355328)
    (h : ∀ A' c' w', Rd w' A' (n + m) size (xs ++ ys) → Below w.heap.size w w' → wpList P ops Q rest (a.put o.dst (.slice A' (n + m) c')) w') : wpList P ops Q (o :: rest) a w :=
  wpList_plain hgd fun _ hK => wp_append_full s x t ho e i z size bytes ht hi hz hsize hby hzs hsz A n xs hs hxs B m c ys hx hy h63 hbytes fun A' c' w' h2 h3 => hK _ _ (h A' c' w' h2 h3)
theorem step_append_full {E : Prop} (hgd : o.guard = none) (s x : Operand) (t : TypeId) (ho : o.op = .call { callee := .builtin .append, args := #[s, x], argTypes := #[t, t] })
    (e : TypeId) (i : TypeInfo) (z : Value) (size bytes : Nat) (ht : P.underlying t = some (.slice e)) (hi : P.info? e = some i) (hz : i.zero = some z)
    (hsize : i.size = size) (hby : i.bytes = bytes) (hzs : z.cells.size = size) (hsz : 0 < size)
    (A : Option Addr) (n : Nat) (xs : List Value) (hs : a.eval s = .slice A n n) (hxs : Rd w A n size xs) (B : Option Addr) (m c : Nat) (ys : List Value) (hx : a.eval x = .slice B m c) (hy : Rd w B m size ys)
    (h63 : n + m ≤ maxLen) (hbytes : (n + m) * bytes ≤ 140737488355328)
    (h : ∀ A' c' w', Rd w' A' (n + m) size (xs ++ ys) → Below w.heap.size w w' → K (a.put o.dst (.slice A' (n + m) c')) w') :
    if Region.wanted o (yielded ops a.tmps) = true then Oper.wp P o a w K Q else E := by
  have hw : Region.wanted o (yielded ops a.tmps) = true := by simp [Region.wanted, hgd]
  rw [if_pos hw]
  exact wp_append_full s x t ho e i z size bytes ht hi hz hsize hby hzs hsz A n xs hs hxs B m c ys hx hy h63 hbytes h

theorem wp_append_rd (base : Nat) (s x : Operand) (t : TypeId) (ho : o.op = .call { callee := .builtin .append, args := #[s, x], argTypes := #[t, t] })
    (e : TypeId) (i : TypeInfo) (z : Value) (size bytes : Nat) (ht : P.underlying t = some (.slice e)) (hi : P.info? e = some i) (hz : i.zero = some z)
    (hsize : i.size = size) (hby : i.bytes = bytes) (hzs : z.cells.size = size) (hsz : 0 < size)
    (v : Value) (n : Nat) (xs : List Value) (hs : a.eval s = v) (hown : w.ownsRow base e size v n xs) (B : Option Addr) (m c : Nat) (ys : List Value) (hx : a.eval x = .slice B m c) (hy : Rd w B m size ys) (h1 : ∀ u ∈ ys, u.oneCell' = true)
    (h63 : n + m ≤ maxLen) (hbytes : (n + m) * bytes ≤ 140737488355328) (hbase : base ≤ w.heap.size)
    (h : ∀ v' w', w'.ownsRow base e size v' (n + m) (xs ++ ys) → w.grownBy w' v.ownBlock → (v'.ownBlock = v.ownBlock ∨ v'.ownBlock = some w.heap.size) → K (a.put o.dst v') w') : o.wp P a w K Q := by
  obtain ⟨v', w', hr, h2, h3, h4⟩ := run_append_rd (P := P) w base t o.type e i z size bytes ht hi hz hsize hby hzs hsz v n xs hown B m c ys hy h1 h63 hbytes hbase
  unfold Oper.wp execOp
  simp only [ho, resolve, invoke, builtin, Sem.run_bind, Sem.run_pure, Result.andThen_ok, List.map_toArray, List.map_cons, List.map_nil, hs, hx, hr]
  exact h v' w' h2 h3 h4
theorem wpList_append_rd (hgd : o.guard = none) (base : Nat) (s x : Operand) (t : TypeId) (ho : o.op = .call { callee := .builtin .append, args := #[s, x], argTypes := #[t, t] })
    (e : TypeId) (i : TypeInfo) (z : Value) (size bytes : Nat) (ht : P.underlying t = some (.slice e)) (hi : P.info? e = some i) (hz : i.zero = some z)
    (hsize : i.size = size) (hby : i.bytes = bytes) (hzs : z.cells.size = size) (hsz : 0 < size)
    (v : Value) (n : Nat) (xs : List Value) (hs : a.eval s = v) (hown : w.ownsRow base e size v n xs) (B : Option Addr) (m c : Nat) (ys : List Value) (hx : a.eval x = .slice B m c) (hy : Rd w B m size ys) (h1 : ∀ u ∈ ys, u.oneCell' = true)
    (h63 : n + m ≤ maxLen) (hbytes : (n + m) * bytes ≤ 140737488355328) (hbase : base ≤ w.heap.size)
    (h : ∀ v' w', w'.ownsRow base e size v' (n + m) (xs ++ ys) → w.grownBy w' v.ownBlock → (v'.ownBlock = v.ownBlock ∨ v'.ownBlock = some w.heap.size) → wpList P ops Q rest (a.put o.dst v') w') : wpList P ops Q (o :: rest) a w :=
  wpList_plain hgd fun _ hK => wp_append_rd base s x t ho e i z size bytes ht hi hz hsize hby hzs hsz v n xs hs hown B m c ys hx hy h1 h63 hbytes hbase fun v' w' h2 h3 h4 => hK _ _ (h v' w' h2 h3 h4)
end

/-- make at elements of any size, the length a variable. -/
theorem run_make_any {P : Program} (t e : TypeId) (i : TypeInfo) (z : Value) (ht : P.underlying t = some (.slice e)) (hi : P.info? e = some i) (hz : i.zero = some z)
    (kl kc : IntKind) (n : Nat) (hbytes : i.bytes * n ≤ 281474976710656) (h63 : n ≤ 9223372036854775807) (w : World) :
    (Instr.makeSlice t (.int kl (n : Int)) (.int kc (n : Int))).run P w = .ok (.slice (some ⟨w.heap.size, 0, none⟩) n n) (w.alloc (.cells (madeCells z.cells (n * i.size)) e)) := by
  have hb : (i.bytes : Int) * (n : Int) ≤ 281474976710656 := by
    have h : ((i.bytes * n : Nat) : Int) ≤ 281474976710656 := by omega
    rwa [Int.natCast_mul] at h
  have hr := run_make (P := P) w t e i z ht hi hz kl kc n n (by omega) (by omega) hb (by omega)
  simp only [Int.toNat_natCast] at hr
  exact hr
end Go.Proofs.Ytcjmoobdoinbkaa
