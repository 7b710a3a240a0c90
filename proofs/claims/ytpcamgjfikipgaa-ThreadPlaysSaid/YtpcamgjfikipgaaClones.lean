/- The contracts of slices.Clone, order.New, (*order.Sort).Values, frame.Sorter, (*frame.Frame).Values and (*frame.Stack).Values. Conditions: no more than some thousands of values. -/
import Derived.Test.YtpcamgjfikipgaaStack
import Derived.Test.YtpcamgjfikipgaaGoes
import Derived.WalkSpells
namespace Go.Proofs.Ytpcamgjfikipgaa
open Go.RowKit
set_option linter.unusedVariables false
/-- A slice of values that the call made. -/
def OwnV (w : World) (base : Nat) (v : Value) (vs : List V) : Prop := w.ownsRow base 25 3 v vs.length (vcs vs)
theorem OwnV.rd {w : World} {base : Nat} {v : Value} {vs : List V} (h : OwnV w base v vs) : ∃ A c, v = .slice A vs.length c ∧ vs.length ≤ c ∧ RdV w A vs.length vs := by
  rcases h.2 with ⟨rfl, h0⟩ | ⟨g, cap, cur, rfl, _, _, hn, _⟩
  · have e : vs = [] := List.eq_nil_of_length_eq_zero h0
    subst e
    exact ⟨_, _, rfl, Nat.le_refl _, Rd.nil _ _ _⟩
  · exact ⟨_, _, rfl, hn, Rd.of_own h⟩
theorem OwnV.kp {S : Nat → Prop} {w w' : World} {base : Nat} {v : Value} {vs : List V} (h : OwnV w base v vs) (k : Kp S w w') (hn : ∀ g, v.ownBlock = some g → ¬ S g) : OwnV w' base v vs := by
  refine ⟨h.1, ?_⟩
  rcases h.2 with h0 | ⟨g, cap, cur, rfl, hb, hg, rest⟩
  · exact .inl h0
  · exact .inr ⟨g, cap, cur, rfl, hb, (k.block g (Array.getElem?_eq_some_iff.1 hg).1 (hn g rfl)).trans hg, rest⟩
theorem OwnV.below {w w' : World} {base : Nat} {v : Value} {vs : List V} (h : OwnV w base v vs) (k : Below w.heap.size w w') : OwnV w' base v vs := h.kp (S := fun _ => False) (Kp.of_below k) (fun _ _ => id)
theorem OwnV.mono {w : World} {base base' : Nat} {v : Value} {vs : List V} (h : OwnV w base v vs) (hb : base' ≤ base) : OwnV w base' v vs := by
  refine ⟨h.1, ?_⟩
  rcases h.2 with h0 | ⟨g, cap, cur, rfl, hg, rest⟩
  · exact .inl h0
  · exact .inr ⟨g, cap, cur, rfl, by omega, rest⟩
theorem OwnV.lo {w : World} {base : Nat} {v : Value} {vs : List V} (h : OwnV w base v vs) {g : Nat} (hg : v.ownBlock = some g) : base ≤ g ∧ g < w.heap.size := World.ownsRow.lt h g hg

theorem run_eql_sl_nil {P : Program} (w : World) (t e : TypeId) (a : Option Addr) (n c n' c' : Nat) (h : P.underlying t = some (.slice e)) :
    (binOp .eql t (.slice a n c) (.slice none n' c')).run P w = .ok (.bool a.isNone) w := by
  simp only [binOp]
  simp [Op.equal, Op.maxDepth, Lib.run_equalIn_slice_nil w 9999 t e a n c n' c' h]
/-- What slices.Clone leaves. -/
def Cloned (w : World) (vs : List V) (e : Ending) (w' : World) : Prop := ∃ v, e = .returned v ∧ OwnV w' w.heap.size v vs ∧ Below w.heap.size w w'
set_option maxRecDepth 100000 in
theorem clone_any {w : World} {A : Option Addr} {n c : Nat} {vs : List V} (hv : RdV w A n vs) (hn : n ≤ 100000) : Calls Try.prog 66 #[.slice A n c] w (Cloned w vs) := by
  obtain ⟨i0, hi, hz0, hz1, hz2⟩ := info_parts info25
  have HV := Lib.hid hv
  have hl := hv.len
  have HL := Lib.hid hl
  clear hv hl
  cases A with
  | none =>
    obtain rfl : n = 0 := by
      rcases Nat.eq_zero_or_pos n with h0 | h0
      · exact h0
      · obtain ⟨b, o, v, e, _⟩ := RdV.at_ HV.out h0
        cases e
    have he := fun W => run_eql_sl_nil (P := Try.prog) W 23 25 none 0 c 0 0 Try.underlying23
    go_enter Try.func66, Try.ntmps66
    go_wp2
    go_ret
    have hvs : vs = [] := List.eq_nil_of_length_eq_zero HL.out
    subst hvs
    exact ⟨_, rfl, World.ownsRow_nil _ _ _ _, Below.refl _ _⟩
  | some ad =>
    have he := fun W => run_eql_sl_nil (P := Try.prog) W 23 25 (some ad) n c 0 0 Try.underlying23
    go_enter Try.func66, Try.ntmps66
    go_wp2_with (at_builtin; refine wpList_append_rd rfl w.heap.size (.tmp 5) (.tmp 6) 23 rfl 25 i0 _ 3 32 Try.underlying23 hi hz0 hz1 hz2 rfl (by omega) (.slice (some ⟨w.heap.size, 0, none⟩) 0 0) 0 [] (by rfl) (by exact World.ownsRow_made w #[] 0 (Nat.le_refl _) (by unfold maxLen; omega) rfl) (some ad) n c (vcs vs) (by rfl) (by exact HV.out.alloc _) (vcs_one _) (by unfold maxLen; omega) (by omega) (by simp) ?_; intro v1 w1 hown1 hg1 hat1; have R := Lib.hid (And.intro hown1 hg1); clear hown1 hg1 hat1)
    go_ret
    obtain ⟨hown, hg⟩ := R.out
    refine ⟨v1, rfl, ?_, ?_⟩
    · rw [Nat.zero_add, List.nil_append] at hown
      unfold OwnV
      rw [HL.out]
      exact hown
    · exact (below_alloc (Below.refl _ _) _).grown hg (by simp) (fun k hk => by simp [Value.ownBlock] at hk; omega)

/-- One that sorts, in the block g: its values vs in a row of the call's own. -/
structure Srt (w : World) (base g : Nat) (v : Value) (vs : List V) (i j : Int) : Prop where
  blk : Blk w g 109 [v, .int .i64 i, .int .i64 j]
  own : OwnV w base v vs
  ne : v.ownBlock ≠ some g
theorem Srt.kp {S : Nat → Prop} {w w' : World} {base g : Nat} {v : Value} {vs : List V} {i j : Int} (h : Srt w base g v vs i j) (k : Kp S w w') (h1 : ¬ S g) (h2 : ∀ b, v.ownBlock = some b → ¬ S b) : Srt w' base g v vs i j := ⟨h.blk.kp k h1, h.own.kp k h2, h.ne⟩
theorem Srt.below {w w' : World} {base g : Nat} {v : Value} {vs : List V} {i j : Int} (h : Srt w base g v vs i j) (k : Below w.heap.size w w') : Srt w' base g v vs i j := h.kp (S := fun _ => False) (Kp.of_below k) id (fun _ _ => id)
/-- What order.New leaves. -/
def NewSort (w : World) (vs : List V) (e : Ending) (w' : World) : Prop := ∃ g v, e = .returned (ptr g) ∧ w.heap.size ≤ g ∧ Srt w' w.heap.size g v vs 1 1 ∧ Below w.heap.size w w'
set_option maxRecDepth 100000 in
theorem order_new {w : World} {A : Option Addr} {n c : Nat} {vs : List V} (hv : RdV w A n vs) (hn : n ≤ 100000) : Calls Try.prog 22 #[.slice A n c] w (NewSort w vs) := by
  have HV := Lib.hid hv
  clear hv
  go_enter Try.func22, Try.ntmps22
  go_wp2_with (go_at_call 66; refine (clone_any HV.out hn).mono ?_; rintro e w1 ⟨v, rfl, ho, hb⟩; obtain ⟨A1, c1, rfl, _, _⟩ := ho.rd; have R := Lib.hid (And.intro ho hb); clear ho hb)
  go_ret
  obtain ⟨ho, hb⟩ := R.out
  refine ⟨w1.heap.size, _, rfl, hb.size, ⟨Blk.new w1 109 [_, _, _], ho.below (below_alloc (Below.refl _ _) _), fun h => by have := (ho.lo h).2; omega⟩, below_alloc hb _⟩
set_option maxRecDepth 100000 in
theorem sort_values {w : World} {base g : Nat} {v : Value} {vs : List V} {i j : Int} (h : Srt w base g v vs i j) (hn : vs.length ≤ 100000) : Calls Try.prog 67 #[ptr g] w (Cloned w vs) := by
  obtain ⟨A, c, rfl, _, hr⟩ := h.own.rd
  have hc : w.cell? ⟨g, 0, none⟩ = some (.slice A vs.length c) := h.blk.cell rfl
  have HR := Lib.hid hr
  clear h hr
  unfold ptr
  go_enter Try.func67, Try.ntmps67
  go_wp2_with (go_at_call 66; refine (clone_any HR.out hn).mono ?_; rintro e w1 ⟨v, rfl, ho, hb⟩; have R := Lib.hid (And.intro ho hb); clear ho hb)
  go_ret
  exact ⟨v, rfl, R.out⟩
set_option maxRecDepth 100000 in
theorem sorter_any (s : Nat) (cl se : V) (w : World) : Calls Try.prog 21 #[ptr s, cl.agg, se.agg] w fun e w' => e = .returned (ptr (w.heap.size + 2)) ∧ w'.heap.size = w.heap.size + 3 ∧ Below w.heap.size w w' ∧ Blk w' (w.heap.size + 2) 40 (fcs (-1) cl se (.slice none 0 0) 0 0 0 V.null (ptr s) (-1)) := by
  obtain ⟨k1, n1, s1⟩ := cl
  obtain ⟨k2, n2, s2⟩ := se
  unfold ptr V.agg
  go_enter Try.func21, Try.ntmps21
  go_wp2
  go_ret
  refine ⟨rfl, by simp, below_alloc (below_alloc (below_alloc (Below.refl _ _) _) _) _, ?_⟩
  exact Blk.made (by simp) 40 (fcs (-1) ⟨k1, n1, s1⟩ ⟨k2, n2, s2⟩ (.slice none 0 0) 0 0 0 V.null (ptr s) (-1))
theorem step_append_rd {P : Program} {w : World} {ops : Array Oper} {o : Oper} {a : Act} {K : Act → World → Prop} {Q : Exit → Act → World → Prop} {E : Prop} (hgd : o.guard = none) (base : Nat) (s x : Operand) (t : TypeId) (ho : o.op = .call { callee := .builtin .append, args := #[s, x], argTypes := #[t, t] })
    (e : TypeId) (i : TypeInfo) (z : Value) (size bytes : Nat) (ht : P.underlying t = some (.slice e)) (hi : P.info? e = some i) (hz : i.zero = some z)
    (hsize : i.size = size) (hby : i.bytes = bytes) (hzs : z.cells.size = size) (hsz : 0 < size)
    (v : Value) (n : Nat) (xs : List Value) (hs : a.eval s = v) (hown : w.ownsRow base e size v n xs) (B : Option Addr) (m c : Nat) (ys : List Value) (hx : a.eval x = .slice B m c) (hy : Rd w B m size ys) (h1 : ∀ u ∈ ys, u.oneCell' = true)
    (h63 : n + m ≤ maxLen) (hbytes : (n + m) * bytes ≤ 140737488355328) (hbase : base ≤ w.heap.size)
    (h : ∀ v' w', w'.ownsRow base e size v' (n + m) (xs ++ ys) → w.grownBy w' v.ownBlock → (v'.ownBlock = v.ownBlock ∨ v'.ownBlock = some w.heap.size) → K (a.put o.dst v') w') :
    if Region.wanted o (yielded ops a.tmps) = true then Oper.wp P o a w K Q else E := by
  have hw : Region.wanted o (yielded ops a.tmps) = true := by simp [Region.wanted, hgd]
  rw [if_pos hw]
  exact wp_append_rd base s x t ho e i z size bytes ht hi hz hsize hby hzs hsz v n xs hs hown B m c ys hx hy h1 h63 hbytes hbase h
theorem own_made (w : World) (vs : List V) (hl : vs.length ≤ 1000) : (w.alloc (.cells (vcs vs).toArray 25)).ownsRow w.heap.size 25 3 (.slice (some ⟨w.heap.size, 0, none⟩) vs.length vs.length) vs.length (vcs vs) :=
  ⟨vcs_length vs, .inr ⟨w.heap.size, vs.length, (vcs vs).toArray, rfl, Nat.le_refl _, heap_alloc_new w _, Nat.le_refl _, by unfold maxLen; omega, by simp [vcs_length], by simp [← vcs_length]⟩⟩
/-- What Values leaves. -/
def Told (w : World) (vs : List V) (e : Ending) (w' : World) : Prop := ∃ v, e = .returned v ∧ OwnV w' w.heap.size v vs ∧ Below w.heap.size w w'
theorem own_more {w : World} {base : Nat} {v : Value} {a b : List V} (h : w.ownsRow base 25 3 v (a.length + b.length) (vcs a ++ vcs b)) : OwnV w base v (a ++ b) := by
  unfold OwnV
  rw [List.length_append, vcs_append]
  exact h
theorem vs1_one (v : V) : ∀ u ∈ v.cs, u.oneCell' = true := by
  intro u hu
  simp [V.cs] at hu
  rcases hu with rfl | rfl | rfl <;> rfl
set_option maxRecDepth 100000 in
set_option maxHeartbeats 2000000 in
theorem values_plain {w : World} {g : Nat} {fn : Int} {cl se ex : V} {R : Option Addr} {nr cr : Nat} {pc dst how gen : Int} {regs : List V} (hb : Blk w g 40 (fcs fn cl se (.slice R nr cr) pc dst how ex (.pointer none) gen)) (hr : RdV w R nr regs) (hn : nr ≤ 1000) (hgen : gen < 0) :
    Calls Try.prog 26 #[ptr g] w (Told w (([cl, se, ex] ++ regs))) := by
  obtain ⟨i0, hi, hz0, hz1, hz2⟩ := info_parts info25
  have hgl := hb.lt
  obtain ⟨k1, n1, s1⟩ := cl
  obtain ⟨k2, n2, s2⟩ := se
  obtain ⟨k3, n3, s3⟩ := ex
  have c1 : w.cell? ⟨g, 1, none⟩ = some (.int .i64 k1) := hb.cell rfl
  have c2 : w.cell? ⟨g, 2, none⟩ = some (.int .i64 n1) := hb.cell rfl
  have c3 : w.cell? ⟨g, 3, none⟩ = some (.string s1) := hb.cell rfl
  have c4 : w.cell? ⟨g, 4, none⟩ = some (.int .i64 k2) := hb.cell rfl
  have c5 : w.cell? ⟨g, 5, none⟩ = some (.int .i64 n2) := hb.cell rfl
  have c6 : w.cell? ⟨g, 6, none⟩ = some (.string s2) := hb.cell rfl
  have c7 : w.cell? ⟨g, 7, none⟩ = some (.slice R nr cr) := hb.cell rfl
  have c11 : w.cell? ⟨g, 11, none⟩ = some (.int .i64 k3) := hb.cell rfl
  have c12 : w.cell? ⟨g, 12, none⟩ = some (.int .i64 n3) := hb.cell rfl
  have c13 : w.cell? ⟨g, 13, none⟩ = some (.string s3) := hb.cell rfl
  have c14 : w.cell? ⟨g, 14, none⟩ = some (.pointer none) := hb.cell rfl
  have c15 : w.cell? ⟨g, 15, none⟩ = some (.int .i64 gen) := hb.cell rfl
  have HB := Lib.hid hb
  have HR := Lib.hid hr
  have HL := Lib.hid (RdV.len hr)
  clear hb hr
  have q1 : decide (0 ≤ gen) = false := by simp; omega
  clear hgen
  unfold ptr
  go_enter Try.func26, Try.ntmps26
  go_wp2
  go_region_held3 (fun w' => w'.cell? ⟨g, 1, none⟩ = some (.int .i64 k1) ∧ w'.cell? ⟨g, 2, none⟩ = some (.int .i64 n1) ∧ w'.cell? ⟨g, 3, none⟩ = some (.string s1) ∧ w'.cell? ⟨g, 4, none⟩ = some (.int .i64 k2) ∧ w'.cell? ⟨g, 5, none⟩ = some (.int .i64 n2) ∧ w'.cell? ⟨g, 6, none⟩ = some (.string s2) ∧ w'.cell? ⟨g, 7, none⟩ = some (.slice R nr cr) ∧ w'.cell? ⟨g, 11, none⟩ = some (.int .i64 k3) ∧ w'.cell? ⟨g, 12, none⟩ = some (.int .i64 n3) ∧ w'.cell? ⟨g, 13, none⟩ = some (.string s3))
    ((first | (refine ⟨?_, ?_, ?_, ?_, ?_, ?_, ?_, ?_, ?_, ?_⟩ <;> (rw [hbel.cell (by simp; omega)]; go_simp)) | (refine ⟨?_, ?_, ?_, ?_, ?_, ?_, ?_, ?_, ?_, ?_⟩ <;> go_simp)))
    ((refine step_append_rd rfl w.heap.size (.tmp 16) (.tmp 20) 23 (by rfl) 25 i0 _ 3 32 Try.underlying23 hi hz0 hz1 hz2 rfl (by omega) (.slice (some ⟨w.heap.size, 0, none⟩) 3 3) 3 (vcs [⟨k1, n1, s1⟩, ⟨k2, n2, s2⟩, ⟨k3, n3, s3⟩]) (by simp [Act.eval]) (by exact own_made w [⟨k1, n1, s1⟩, ⟨k2, n2, s2⟩, ⟨k3, n3, s3⟩] (by simp)) R nr cr (vcs regs) (by simp [Act.eval]) (by exact (HR.out.alloc _).drew) (vcs_one _) (by unfold maxLen; omega) (by omega) (by simp) ?_; intro v1 w1 hown1 hg1 hat1; have hbel : Below w.heap.size w w1 := (below_alloc (Below.refl _ _) _).drew.grown hg1 (by simp) (fun k hk => by simp [Value.ownBlock] at hk; omega)))
  have d14 : w1.cell? ⟨g, 14, none⟩ = some (.pointer none) := (hbel.cell hgl).trans c14
  have d15 : w1.cell? ⟨g, 15, none⟩ = some (.int .i64 gen) := (hbel.cell hgl).trans c15
  have HBE := Lib.hid hbel
  have HO : Hid (OwnV w1 w.heap.size v1 ([⟨k1, n1, s1⟩, ⟨k2, n2, s2⟩, ⟨k3, n3, s3⟩] ++ regs)) := by
    show w1.ownsRow _ _ _ _ _ _
    rw [vcs_append, List.length_append, HL.out]
    exact hown1
  clear hown1 hg1 hat1 hbel c1 c2 c3 c4 c5 c6 c7 c11 c12 c13 c14 c15
  go_wp2
  go_ret
  exact ⟨v1, rfl, HO.out, HBE.out⟩
set_option maxRecDepth 100000 in
set_option maxHeartbeats 2000000 in
theorem values_gen {w : World} {g : Nat} {fn : Int} {cl se ex : V} {R : Option Addr} {nr cr : Nat} {pc dst how gen : Int} {regs : List V} (hb : Blk w g 40 (fcs fn cl se (.slice R nr cr) pc dst how ex (.pointer none) gen)) (hr : RdV w R nr regs) (hn : nr ≤ 1000) (hgen : 0 ≤ gen) :
    Calls Try.prog 26 #[ptr g] w (Told w (([cl, se, ex] ++ regs) ++ [V.ref gen])) := by
  obtain ⟨i0, hi, hz0, hz1, hz2⟩ := info_parts info25
  have hgl := hb.lt
  obtain ⟨k1, n1, s1⟩ := cl
  obtain ⟨k2, n2, s2⟩ := se
  obtain ⟨k3, n3, s3⟩ := ex
  have c1 : w.cell? ⟨g, 1, none⟩ = some (.int .i64 k1) := hb.cell rfl
  have c2 : w.cell? ⟨g, 2, none⟩ = some (.int .i64 n1) := hb.cell rfl
  have c3 : w.cell? ⟨g, 3, none⟩ = some (.string s1) := hb.cell rfl
  have c4 : w.cell? ⟨g, 4, none⟩ = some (.int .i64 k2) := hb.cell rfl
  have c5 : w.cell? ⟨g, 5, none⟩ = some (.int .i64 n2) := hb.cell rfl
  have c6 : w.cell? ⟨g, 6, none⟩ = some (.string s2) := hb.cell rfl
  have c7 : w.cell? ⟨g, 7, none⟩ = some (.slice R nr cr) := hb.cell rfl
  have c11 : w.cell? ⟨g, 11, none⟩ = some (.int .i64 k3) := hb.cell rfl
  have c12 : w.cell? ⟨g, 12, none⟩ = some (.int .i64 n3) := hb.cell rfl
  have c13 : w.cell? ⟨g, 13, none⟩ = some (.string s3) := hb.cell rfl
  have c14 : w.cell? ⟨g, 14, none⟩ = some (.pointer none) := hb.cell rfl
  have c15 : w.cell? ⟨g, 15, none⟩ = some (.int .i64 gen) := hb.cell rfl
  have HB := Lib.hid hb
  have HR := Lib.hid hr
  have HL := Lib.hid (RdV.len hr)
  clear hb hr
  have q1 : decide (0 ≤ gen) = true := by simpa using hgen
  clear hgen
  unfold ptr
  go_enter Try.func26, Try.ntmps26
  go_wp2
  go_region_held3 (fun w' => w'.cell? ⟨g, 1, none⟩ = some (.int .i64 k1) ∧ w'.cell? ⟨g, 2, none⟩ = some (.int .i64 n1) ∧ w'.cell? ⟨g, 3, none⟩ = some (.string s1) ∧ w'.cell? ⟨g, 4, none⟩ = some (.int .i64 k2) ∧ w'.cell? ⟨g, 5, none⟩ = some (.int .i64 n2) ∧ w'.cell? ⟨g, 6, none⟩ = some (.string s2) ∧ w'.cell? ⟨g, 7, none⟩ = some (.slice R nr cr) ∧ w'.cell? ⟨g, 11, none⟩ = some (.int .i64 k3) ∧ w'.cell? ⟨g, 12, none⟩ = some (.int .i64 n3) ∧ w'.cell? ⟨g, 13, none⟩ = some (.string s3))
    ((first | (refine ⟨?_, ?_, ?_, ?_, ?_, ?_, ?_, ?_, ?_, ?_⟩ <;> (rw [hbel.cell (by simp; omega)]; go_simp)) | (refine ⟨?_, ?_, ?_, ?_, ?_, ?_, ?_, ?_, ?_, ?_⟩ <;> go_simp)))
    ((refine step_append_rd rfl w.heap.size (.tmp 16) (.tmp 20) 23 (by rfl) 25 i0 _ 3 32 Try.underlying23 hi hz0 hz1 hz2 rfl (by omega) (.slice (some ⟨w.heap.size, 0, none⟩) 3 3) 3 (vcs [⟨k1, n1, s1⟩, ⟨k2, n2, s2⟩, ⟨k3, n3, s3⟩]) (by simp [Act.eval]) (by exact own_made w [⟨k1, n1, s1⟩, ⟨k2, n2, s2⟩, ⟨k3, n3, s3⟩] (by simp)) R nr cr (vcs regs) (by simp [Act.eval]) (by exact (HR.out.alloc _).drew) (vcs_one _) (by unfold maxLen; omega) (by omega) (by simp) ?_; intro v1 w1 hown1 hg1 hat1; have hbel : Below w.heap.size w w1 := (below_alloc (Below.refl _ _) _).drew.grown hg1 (by simp) (fun k hk => by simp [Value.ownBlock] at hk; omega)))
  have d14 : w1.cell? ⟨g, 14, none⟩ = some (.pointer none) := (hbel.cell hgl).trans c14
  have d15 : w1.cell? ⟨g, 15, none⟩ = some (.int .i64 gen) := (hbel.cell hgl).trans c15
  have HBE := Lib.hid hbel
  have HO : Hid (OwnV w1 w.heap.size v1 ([⟨k1, n1, s1⟩, ⟨k2, n2, s2⟩, ⟨k3, n3, s3⟩] ++ regs)) := by
    show w1.ownsRow _ _ _ _ _ _
    rw [vcs_append, List.length_append, HL.out]
    exact hown1
  clear hown1 hg1 hat1 hbel c1 c2 c3 c4 c5 c6 c7 c11 c12 c13 c14 c15
  go_wp2_with (first
    | (go_at_call 17; refine (ref_any _ _).mono ?_; rintro e w' ⟨rfl, rfl⟩; unfold V.agg V.ref)
    | (at_builtin; refine wpList_append_rd rfl w.heap.size (.tmp 39) (.tmp 45) 23 rfl 25 i0 _ 3 32 Try.underlying23 hi hz0 hz1 hz2 rfl (by omega) v1 _ _ (by rfl) (by exact (HO.out.below (below_alloc (below_alloc (Below.refl _ _) _) _))) (some ⟨w1.heap.size + 1, 0, none⟩) 1 1 (V.ref gen).cs (by rfl) (by exact Rd.of_blk (Blk.made (by simp) 25 _) rfl) (vs1_one _) (by have := HL.out; simp; unfold maxLen; omega) (by have := HL.out; simp; omega) (by have := HBE.out.size; simp; omega) ?_; intro v2 w2 hown2 hg2 hat2; have R := Lib.hid (And.intro hown2 (And.intro hg2 hat2)); clear hown2 hg2 hat2))
  go_ret
  obtain ⟨hown2, hg2, hat2⟩ := R.out
  refine ⟨v2, rfl, own_more (b := [V.ref gen]) hown2, ?_⟩
  · exact (below_alloc (below_alloc HBE.out _) _).grown hg2 (by have := HBE.out.size; simp; omega) (fun k hk => (HO.out.lo hk).1)
set_option maxRecDepth 100000 in
set_option maxHeartbeats 2000000 in
theorem values_sort {w : World} {g : Nat} {fn : Int} {cl se ex : V} {R : Option Addr} {nr cr : Nat} {pc dst how gen : Int} {regs : List V} {base sb : Nat} {sv : Value} {svs : List V} {si sj : Int} (hb : Blk w g 40 (fcs fn cl se (.slice R nr cr) pc dst how ex (ptr sb) gen)) (hr : RdV w R nr regs) (hn : nr ≤ 1000) (hs : Srt w base sb sv svs si sj) (hsn : svs.length ≤ 1000) (hgen : gen < 0) :
    Calls Try.prog 26 #[ptr g] w (Told w (([cl, se, ex] ++ regs) ++ svs)) := by
  obtain ⟨i0, hi, hz0, hz1, hz2⟩ := info_parts info25
  have hgl := hb.lt
  obtain ⟨k1, n1, s1⟩ := cl
  obtain ⟨k2, n2, s2⟩ := se
  obtain ⟨k3, n3, s3⟩ := ex
  have c1 : w.cell? ⟨g, 1, none⟩ = some (.int .i64 k1) := hb.cell rfl
  have c2 : w.cell? ⟨g, 2, none⟩ = some (.int .i64 n1) := hb.cell rfl
  have c3 : w.cell? ⟨g, 3, none⟩ = some (.string s1) := hb.cell rfl
  have c4 : w.cell? ⟨g, 4, none⟩ = some (.int .i64 k2) := hb.cell rfl
  have c5 : w.cell? ⟨g, 5, none⟩ = some (.int .i64 n2) := hb.cell rfl
  have c6 : w.cell? ⟨g, 6, none⟩ = some (.string s2) := hb.cell rfl
  have c7 : w.cell? ⟨g, 7, none⟩ = some (.slice R nr cr) := hb.cell rfl
  have c11 : w.cell? ⟨g, 11, none⟩ = some (.int .i64 k3) := hb.cell rfl
  have c12 : w.cell? ⟨g, 12, none⟩ = some (.int .i64 n3) := hb.cell rfl
  have c13 : w.cell? ⟨g, 13, none⟩ = some (.string s3) := hb.cell rfl
  have c14 : w.cell? ⟨g, 14, none⟩ = some (.pointer (some ⟨sb, 0, none⟩)) := hb.cell rfl
  have c15 : w.cell? ⟨g, 15, none⟩ = some (.int .i64 gen) := hb.cell rfl
  have HB := Lib.hid hb
  have HR := Lib.hid hr
  have HL := Lib.hid (RdV.len hr)
  clear hb hr
  have q1 : decide (0 ≤ gen) = false := by simp; omega
  have HS := Lib.hid hs
  have hnn := fun W => run_neq_ptr_none (P := Try.prog) W (tp := 38) ⟨sb, 0, none⟩ Try.underlying38
  clear hgen hs
  unfold ptr
  go_enter Try.func26, Try.ntmps26
  go_wp2
  go_region_held3 (fun w' => w'.cell? ⟨g, 1, none⟩ = some (.int .i64 k1) ∧ w'.cell? ⟨g, 2, none⟩ = some (.int .i64 n1) ∧ w'.cell? ⟨g, 3, none⟩ = some (.string s1) ∧ w'.cell? ⟨g, 4, none⟩ = some (.int .i64 k2) ∧ w'.cell? ⟨g, 5, none⟩ = some (.int .i64 n2) ∧ w'.cell? ⟨g, 6, none⟩ = some (.string s2) ∧ w'.cell? ⟨g, 7, none⟩ = some (.slice R nr cr) ∧ w'.cell? ⟨g, 11, none⟩ = some (.int .i64 k3) ∧ w'.cell? ⟨g, 12, none⟩ = some (.int .i64 n3) ∧ w'.cell? ⟨g, 13, none⟩ = some (.string s3))
    ((first | (refine ⟨?_, ?_, ?_, ?_, ?_, ?_, ?_, ?_, ?_, ?_⟩ <;> (rw [hbel.cell (by simp; omega)]; go_simp)) | (refine ⟨?_, ?_, ?_, ?_, ?_, ?_, ?_, ?_, ?_, ?_⟩ <;> go_simp)))
    ((refine step_append_rd rfl w.heap.size (.tmp 16) (.tmp 20) 23 (by rfl) 25 i0 _ 3 32 Try.underlying23 hi hz0 hz1 hz2 rfl (by omega) (.slice (some ⟨w.heap.size, 0, none⟩) 3 3) 3 (vcs [⟨k1, n1, s1⟩, ⟨k2, n2, s2⟩, ⟨k3, n3, s3⟩]) (by simp [Act.eval]) (by exact own_made w [⟨k1, n1, s1⟩, ⟨k2, n2, s2⟩, ⟨k3, n3, s3⟩] (by simp)) R nr cr (vcs regs) (by simp [Act.eval]) (by exact (HR.out.alloc _).drew) (vcs_one _) (by unfold maxLen; omega) (by omega) (by simp) ?_; intro v1 w1 hown1 hg1 hat1; have hbel : Below w.heap.size w w1 := (below_alloc (Below.refl _ _) _).drew.grown hg1 (by simp) (fun k hk => by simp [Value.ownBlock] at hk; omega)))
  have d14 : w1.cell? ⟨g, 14, none⟩ = some (.pointer (some ⟨sb, 0, none⟩)) := (hbel.cell hgl).trans c14
  have d15 : w1.cell? ⟨g, 15, none⟩ = some (.int .i64 gen) := (hbel.cell hgl).trans c15
  have HBE := Lib.hid hbel
  have HO : Hid (OwnV w1 w.heap.size v1 ([⟨k1, n1, s1⟩, ⟨k2, n2, s2⟩, ⟨k3, n3, s3⟩] ++ regs)) := by
    show w1.ownsRow _ _ _ _ _ _
    rw [vcs_append, List.length_append, HL.out]
    exact hown1
  clear hown1 hg1 hat1 hbel c1 c2 c3 c4 c5 c6 c7 c11 c12 c13 c14 c15
  go_wp2_with (first
    | (go_at_call 67; refine (sort_values (HS.out.below HBE.out) (by omega)).mono ?_; rintro e w2 ⟨v2, rfl, ho2, hb2⟩; obtain ⟨A2, c2, rfl, _, hr2⟩ := ho2.rd; have f15 : w2.cell? ⟨g, 15, none⟩ = some (.int .i64 gen) := (hb2.cell (Nat.lt_of_lt_of_le hgl HBE.out.size)).trans d15; have HR2 := Lib.hid hr2; have HB2 := Lib.hid hb2; clear ho2 hr2 hb2)
    | (at_builtin; refine wpList_append_rd rfl w.heap.size (.tmp 27) (.tmp 32) 23 rfl 25 i0 _ 3 32 Try.underlying23 hi hz0 hz1 hz2 rfl (by omega) v1 _ _ (by rfl) (by exact HO.out.below HB2.out) A2 svs.length c2 (vcs svs) (by rfl) (by exact HR2.out) (vcs_one _) (by have := HL.out; simp; unfold maxLen; omega) (by have := HL.out; simp; omega) (by have := HBE.out.size; have := HB2.out.size; omega) ?_; intro v3 w3 hown3 hg3 hat3; have R := Lib.hid (And.intro hown3 (And.intro hg3 hat3)); have g15 : w3.cell? ⟨g, 15, none⟩ = some (.int .i64 gen) := (hg3.cell_far ⟨g, 15, none⟩ (Nat.lt_of_lt_of_le hgl (Nat.le_trans HBE.out.size HB2.out.size)) (fun h => by have := (HO.out.lo (g := g) h.symm).1; omega)).trans f15; clear hown3 hg3 hat3))
  go_ret
  obtain ⟨hown2, hg2, hat2⟩ := R.out
  refine ⟨v3, rfl, own_more hown2, ?_⟩
  · exact (HBE.out.trans (HB2.out.mono HBE.out.size)).grown hg2 (by have := HBE.out.size; have := HB2.out.size; omega) (fun k hk => (HO.out.lo hk).1)
end Go.Proofs.Ytpcamgjfikipgaa
