/- The contracts of strings.IndexByte at a text of one byte, and of str.Split at it. Condition: no text of 2^40 bytes. -/
import Derived.Test.YtcjmoobdoinbkaaDigit
namespace Go.Proofs.Ytcjmoobdoinbkaa
open Go.RowKit
set_option linter.unusedVariables false
def strV (l : List UInt8) : Value := .string ⟨l.toArray⟩
/-- What stands between bytes c: the pieces that are ended, and what stands behind the last c. -/
def stp (c : UInt8) (st : List (List UInt8) × List UInt8) (x : UInt8) : List (List UInt8) × List UInt8 := if x = c then (st.1 ++ [st.2], []) else (st.1, st.2 ++ [x])
def spl (c : UInt8) (l : List UInt8) : List (List UInt8) × List UInt8 := l.foldl (stp c) ([], [])
def pieces (c : UInt8) (l : List UInt8) : List (List UInt8) := (spl c l).1 ++ [(spl c l).2]
theorem spl_snoc (c : UInt8) (l : List UInt8) (x : UInt8) : spl c (l ++ [x]) = stp c (spl c l) x := by simp [spl]
/-- What stands behind the last c is what stands from a place on. -/
theorem spl_tail (c : UInt8) : ∀ (n : Nat) (l : List UInt8), l.length = n → ∃ pre, l = pre ++ (spl c l).2 ∧ (spl c l).1.length ≤ pre.length := by
  intro n
  induction n with
  | zero => intro l hl; obtain rfl := List.eq_nil_of_length_eq_zero hl; exact ⟨[], rfl, Nat.le_refl _⟩
  | succ n ih =>
    intro l hl
    rcases List.eq_nil_or_concat l with rfl | ⟨a, x, rfl⟩
    · simp at hl
    · rw [List.concat_eq_append] at hl ⊢
      obtain ⟨pre, h1, h2⟩ := ih a (by simpa using hl)
      rw [spl_snoc]
      unfold stp
      by_cases hx : x = c
      · rw [if_pos hx]
        exact ⟨a ++ [x], by simp, by
          have : a.length = pre.length + (spl c a).2.length := by
            have := congrArg List.length h1; simpa using this
          simp; omega⟩
      · rw [if_neg hx]
        refine ⟨pre, ?_, h2⟩
        show a ++ [x] = pre ++ ((spl c a).2 ++ [x])
        rw [← List.append_assoc, ← h1]
theorem one_idx (c x : UInt8) : firstIdx ⟨#[c]⟩ x = if x = c then 0 else -1 := by
  unfold firstIdx
  have e : List.range (ByteArray.size ⟨#[c]⟩) = [0] := rfl
  have e2 : (⟨#[c]⟩ : ByteArray)[0]! = c := rfl
  rw [e, List.find?_cons, e2]
  by_cases h : x = c
  · subst h; simp
  · have : (c == x) = false := by simpa using fun e => h e.symm
    rw [this, if_neg h]; rfl
theorem idx_one (c x : UInt8) (w : World) : (callFunc 70 #[.string ⟨#[c]⟩, .int .u8 (x.toNat : Int)]).run Try.prog w = .ok (.value (.int .i64 (if x = c then 0 else -1))) w := by
  rw [run_callFunc_extern (P := Try.prog) (e := Extern.BytealgIndexByte.indexByte) Try.func70 (by kernel_rfl) (by kernel_rfl) (by kernel_rfl) (by kernel_rfl), run_indexByte_string]
  rw [Int.toNat_natCast, show x.toNat.toUInt8 = x from by simp, one_idx]
  rfl
theorem ib_yes (c : UInt8) (w : World) : Calls Try.prog 59 #[.string ⟨#[c]⟩, .int .u8 (c.toNat : Int)] w fun e w' => e = .returned (.int .i64 0) ∧ w = w' := by
  have hi := idx_one c c
  rw [if_pos rfl] at hi
  go_enter Try.func59, Try.ntmps59
  go_wp2
  go_ret
  exact ⟨rfl, rfl⟩
theorem ib_no (c x : UInt8) (h : x ≠ c) (w : World) : Calls Try.prog 59 #[.string ⟨#[c]⟩, .int .u8 (x.toNat : Int)] w fun e w' => e = .returned (.int .i64 (-1)) ∧ w = w' := by
  have hi := idx_one c x
  rw [if_neg h] at hi
  clear h
  go_enter Try.func59, Try.ntmps59
  go_wp2
  go_ret
  exact ⟨rfl, rfl⟩
theorem info9 : (Try.prog.info? 9).map (fun i => (i.zero, i.size, i.bytes)) = some (some (.string ⟨#[]⟩), 1, 16) := by kernel_rfl
theorem ext_bys (s : ByteArray) (f k : Nat) : (s.extract f k) = ⟨(((bys s).take k).drop f).toArray⟩ := by
  apply ByteArray.ext
  apply Array.ext'
  simp [ByteArray.data_extract, List.drop_take]
theorem take_bys (s : ByteArray) (k : Nat) (h : k < s.size) : (bys s).take (k + 1) = (bys s).take k ++ [s[k]] := by
  rw [List.take_succ_eq_append_getElem (by simpa using h)]
  rfl
theorem own_form {w : World} {base : Nat} {e : TypeId} {size : Nat} {v : Value} {n : Nat} {xs : List Value} (h : w.ownsRow base e size v n xs) : ∃ A c, v = .slice A n c := by
  rcases h.2 with ⟨h1, h2⟩ | ⟨g, cap, cur, h1, _⟩
  · exact ⟨none, 0, by rw [h1, h2]⟩
  · exact ⟨_, cap, h1⟩
def SplitD (w : World) (c : UInt8) (l : List UInt8) (e : Ending) (w' : World) : Prop :=
  ∃ v cap, e = .returned (.slice v (pieces c l).length cap) ∧ Rd w' v (pieces c l).length 1 ((pieces c l).map strV) ∧ Below w.heap.size w w'
set_option maxRecDepth 100000 in
theorem split_any (s : ByteArray) (c : UInt8) (w : World) (hs : s.size ≤ 1000000) : Calls Try.prog 40 #[.string s, .string ⟨#[c]⟩] w (SplitD w c (bys s)) := by
  obtain ⟨i0, hi, hz0, hz1, hz2⟩ := info_parts info9
  have HI := Lib.hid (And.intro hi (And.intro hz0 (And.intro hz1 hz2)))
  clear hi hz0 hz1 hz2
  go_enter Try.func40, Try.ntmps40
  go_wp2
  go_loopw [5, 6, 10] (fun v5 v6 v10 wr => ∃ (k f : Nat), k ≤ s.size ∧ v10 = .int .i64 k ∧ v6 = .int .i64 f ∧ f ≤ k ∧ (((bys s).take k).drop f) = (spl c ((bys s).take k)).2 ∧ (spl c ((bys s).take k)).1.length ≤ k ∧ wr.ownsRow w.heap.size 9 1 v5 (spl c ((bys s).take k)).1.length ((spl c ((bys s).take k)).1.map strV) ∧ Below w.heap.size w wr) (fun _ _ v10 _ => s.size - (intOf v10).toNat)
  case atStart => exact ⟨0, 0, Nat.zero_le _, rfl, rfl, Nat.le_refl _, by simp [spl], by simp [spl], World.ownsRow_nil _ _ _ _, Below.refl _ _⟩
  case round =>
    obtain ⟨k, f, hk, rfl, rfl, hf, hcur, hlen, hown, hbel⟩ := hrel
    have H := Lib.hid (And.intro hcur (And.intro hlen (And.intro hown hbel)))
    clear hcur hown hbel
    by_cases hlt : k < s.size
    · have hk0 : (0 : Int) ≤ (k : Int) := by omega
      have hk1 : (k : Int) < (s.size : Int) := by omega
      have hf1 : (f : Int) ≤ (k : Int) := by omega
      have hx := take_bys s k hlt
      have HX := Lib.hid hx
      clear hx
      by_cases hc : s[k] = c
      · have HC := Lib.hid hc
        clear hc
        go_wp2_with (first
          | (go_at_call 59; rw [HC.out]; refine (ib_yes c _).mono ?_; rintro e w1 ⟨rfl, rfl⟩)
          | (at_builtin; refine wpList_append_rd rfl w.heap.size (.tmp 19) (.tmp 24) 45 rfl 9 i0 _ 1 16 Try.underlying45 HI.out.1 HI.out.2.1 HI.out.2.2.1 HI.out.2.2.2 rfl (by omega) u5 _ _ (by rfl) (by exact H.out.2.2.1.alloc _) (some ⟨wr.heap.size, 0, none⟩) 1 1 [.string (s.extract f k)] (by rfl) (by exact Rd.of_blk (Blk.made (by simp) 9 _) rfl) (by intro u hu; simp at hu; subst hu; rfl) (by have := H.out.2.1; unfold maxLen; omega) (by have := H.out.2.1; omega) (by have := H.out.2.2.2.size; simp; omega) ?_; intro v7 w7 hown7 hg7 hat7; have H7 := Lib.hid (And.intro hown7 (And.intro hg7 hat7)); clear hown7 hg7 hat7))
        go_roundw
        case rel =>
          obtain ⟨hcur, hlen, hown, hbel⟩ := H.out
          obtain ⟨ho7, hg7, _⟩ := H7.out
          refine ⟨k + 1, k + 1, by omega, by go_num, by go_num, Nat.le_refl _, ?_⟩
          rw [HX.out, spl_snoc]
          unfold stp
          rw [if_pos HC.out]
          rw [ext_bys, hcur] at ho7
          refine ⟨by simp; omega, by simp; omega, by simpa [strV] using ho7, ?_⟩
          exact (hbel.alloc hbel.size _).grown hg7 (by have := hbel.size; simp; omega) (fun q hq => (World.ownsRow.lt hown q hq).1)
        case measure => simp [intOf]; omega
      · have HC := Lib.hid hc
        clear hc
        go_wp2_with (first
          | (go_at_call 59; refine (ib_no c _ HC.out _).mono ?_; rintro e w1 ⟨rfl, rfl⟩))
        go_roundw
        case rel =>
          obtain ⟨hcur, hlen, hown, hbel⟩ := H.out
          refine ⟨k + 1, f, by omega, by go_num, rfl, by omega, ?_⟩
          rw [HX.out, spl_snoc]
          unfold stp
          rw [if_neg HC.out]
          refine ⟨?_, Nat.le_succ_of_le hlen, hown, hbel⟩
          rw [List.drop_append_of_le_length (by simp; omega), hcur]
        case measure => simp [intOf]; omega
    · obtain rfl : k = s.size := by omega
      have hf1 : (f : Int) ≤ (s.size : Int) := by omega
      go_wp2_with (first
          | (at_builtin; refine wpList_append_rd rfl w.heap.size (.tmp 29) (.tmp 33) 45 rfl 9 i0 _ 1 16 Try.underlying45 HI.out.1 HI.out.2.1 HI.out.2.2.1 HI.out.2.2.2 rfl (by omega) u5 _ _ (by rfl) (by exact H.out.2.2.1.alloc _) (some ⟨wr.heap.size, 0, none⟩) 1 1 [.string (s.extract f s.size)] (by rfl) (by exact Rd.of_blk (Blk.made (by simp) 9 _) rfl) (by intro u hu; simp at hu; subst hu; rfl) (by have := H.out.2.1; unfold maxLen; omega) (by have := H.out.2.1; omega) (by have := H.out.2.2.2.size; simp; omega) ?_; intro v7 w7 hown7 hg7 hat7; have H7 := Lib.hid (And.intro hown7 (And.intro hg7 hat7)); clear hown7 hg7 hat7))
      go_ret
      obtain ⟨hcur, hlen, hown, hbel⟩ := H.out
      obtain ⟨ho7, hg7, _⟩ := H7.out
      have hall : (bys s).take s.size = bys s := List.take_of_length_le (by simp)
      rw [ext_bys, hcur] at ho7
      rw [hall] at ho7
      have hb := (hbel.alloc hbel.size (.cells #[.string (s.extract f s.size)] 9)).grown hg7 (by have := hbel.size; simp; omega) (fun q hq => (World.ownsRow.lt hown q hq).1)
      obtain ⟨A, cap, rfl⟩ := own_form ho7
      exact ⟨A, cap, by simp [pieces], by simpa [pieces, strV] using Rd.of_own ho7, hb⟩
end Go.Proofs.Ytcjmoobdoinbkaa
