/- The contract of num.In and num.Text. Condition: the number is an int64. -/
import Derived.Test.YtcjmoobdoinbkaaDigit
import Derived.Deep.WholeRow
import Derived.Laws.IdiomStrings
namespace Go.Proofs.Ytcjmoobdoinbkaa
open Go.RowKit
set_option linter.unusedVariables false
/-- The byte of a digit. -/
def chr (d : Nat) : UInt8 := alpha.data.toList.getD d 0
/-- The digits of m to the base b, ahead of acc. -/
def digsF (b : Nat) : Nat → Nat → List UInt8 → List UInt8
  | 0, _, acc => acc
  | f + 1, m, acc => if m / b = 0 then chr (m % b) :: acc else digsF b f (m / b) (chr (m % b) :: acc)
def inL (a : Int) (b : Nat) : List UInt8 := (if a < 0 then [45] else []) ++ digsF b 65 a.natAbs []
theorem info66 : (Try.prog.info? 66).map (fun i => (i.zero, i.size)) = some (some (.agg (Array.replicate 65 (.int .u8 0))), 65) := by kernel_rfl
theorem idx_alpha (m : Nat) (hm : m < 36) (w : World) : (Instr.index 9 (.string alpha) (.int .u64 (m : Int))).run Try.prog w = .ok (.int .u8 ((chr m).toNat : Int)) w := by
  have : ∀ n : Fin 36, ((Instr.index 9 (.string alpha) (.int .u64 ((n.val : Nat) : Int))).run Try.prog w = .ok (.int .u8 ((chr n.val).toNat : Int)) w) := by
    intro n
    rw [run_index_string w 9 alpha .u64 _ Try.underlying9, dif_pos ⟨by omega, by have := n.2; show ((n.val : Nat) : Int) < 36; omega⟩]
    congr 2
    unfold chr
    rw [List.getD_eq_getElem?_getD, List.getElem?_eq_getElem (by exact n.2)]
    rfl
  exact this ⟨m, hm⟩
/-- The cells of the room: p of them empty, behind them the digits. -/
def room (p : Nat) (ds : List UInt8) : Array Value := (List.replicate p (Value.int .u8 0) ++ ds.map (fun c => Value.int .u8 (c.toNat : Int))).toArray
theorem room_set (p : Nat) (ds : List UInt8) (c : UInt8) : (room (p + 1) ds).setIfInBounds p (.int .u8 (c.toNat : Int)) = room p (c :: ds) := by
  unfold room
  rw [List.setIfInBounds_toArray]
  congr 1
  rw [List.replicate_succ', List.append_assoc, List.set_append_right _ _ (by simp)]
  simp
theorem room_size (p : Nat) (ds : List UInt8) : (room p ds).size = p + ds.length := by simp [room]
theorem room_cell (w : World) (p : Nat) (ds : List UInt8) (i : Nat) (h : i < p) : (w.alloc (.cells (room p ds) 66)).cell? ⟨w.heap.size, i, none⟩ = some (.int .u8 0) := by
  rw [cell_of_row _ w.heap.size i _ 66 (0, 0) (heap_alloc_new w _)]
  unfold room
  simp [List.getElem?_append, h]
theorem room_frozen (w : World) (p : Nat) (ds : List UInt8) (i : Nat) : (w.alloc (.cells (room p ds) 66)).frozen? ⟨w.heap.size, i, none⟩ = false := by
  exact (Blk.made rfl 66 (List.replicate p (Value.int .u8 0) ++ ds.map (fun c => Value.int .u8 (c.toNat : Int)))).frozen i
theorem room_bytes (w : World) (p : Nat) (ds : List UInt8) : ∀ j (hj : j < ds.length), (w.alloc (.cells (room p ds) 66)).cell? ((⟨w.heap.size, p, none⟩ : Addr).add j) = some (.int .u8 (ds[j].toNat : Int)) := by
  intro j hj
  rw [add_lit, cell_of_row _ w.heap.size (p + j) _ 66 (0, 0) (heap_alloc_new w _)]
  unfold room
  simp [hj]
theorem slice_room (H q n : Nat) (h : n + q = 65) (hq : q ≤ 64) (W : World) : (Instr.sliceAt 66 (.pointer (some ⟨H, 0, none⟩)) (some (.int .i64 (q : Int))) none none).run Try.prog W = .ok (.slice (some ⟨H, q, none⟩) n n) W := by
  rw [run_sliceAt_array_l (P := Try.prog) (w := W) (ht := Try.underlying66) (kl := .i64) (l := (q : Int)) (h0 := by omega) (h1 := by simp [Program.arrayLen, Try.underlying66]; omega)]
  simp [go_sem]
  exact ⟨fun e => by omega, by omega⟩
theorem room_get (p : Nat) (ds : List UInt8) (i : Nat) (h : i < p) : (room p ds)[i]? = some (.int .u8 0) := by
  unfold room
  simp [List.getElem?_append, h]
theorem str_room (w : World) (p n : Nat) (ds : List UInt8) (hn : ds.length = n) : (convert 67 9 (.slice (some ⟨w.heap.size, p, none⟩) n n)).run Try.prog (w.alloc (.cells (room p ds) 66)) = .ok (.string ⟨ds.toArray⟩) (w.alloc (.cells (room p ds) 66)) := by
  subst hn
  exact run_convert_bytes_back (P := Try.prog) _ 67 9 5 _ _ ds Try.underlying67 Try.underlying5 Try.underlying9 (room_bytes w p ds)
def AftIn (a : Int) (b : Nat) (w : World) (e : Ending) (w' : World) : Prop := e = .returned (.tuple #[.string ⟨(inL a b).toArray⟩, .int .i64 0]) ∧ Below w.heap.size w w'
set_option maxRecDepth 100000 in
set_option maxHeartbeats 2000000 in
theorem in_any (a : Int) (b : Nat) (w : World) (ha : I64 a) (hb1 : 2 ≤ b) (hb2 : b ≤ 36) : Calls Try.prog 13 #[.int .i64 a, .int .i64 (b : Int)] w (AftIn a b w) := by
  have q1 : decide ((b : Int) < 2) = false := by simp; omega
  have q2 : decide (36 < (b : Int)) = false := by simp; omega
  have hz := (zero_of_info info66).1
  have e0 : Array.replicate 65 (Value.int IntKind.u8 0) = room 65 [] := rfl
  rw [e0] at hz
  clear e0
  have hm : a.natAbs < 2 ^ 64 := by have := ha.1; have := ha.2; omega
  obtain ⟨m0, hm0⟩ : ∃ m0, a.natAbs = m0 := ⟨_, rfl⟩
  have hmag : ∀ w, Calls Try.prog 51 #[.int .i64 a] w fun e w' => e = .returned (.int .u64 (m0 : Int)) ∧ w = w' := fun w => by have := mag_any a ha w; rwa [hm0] at this
  have HM := Lib.hid hmag
  have HA := Lib.hid hm0
  rw [hm0] at hm
  clear hmag hm0
  go_enter Try.func13, Try.ntmps13
  go_wp2_with (go_at_call 51; refine (HM.out _).mono ?_; rintro e w' ⟨rfl, rfl⟩)
  go_loopw [6, 9] (fun ms at' wr => ∃ (p m : Nat) (ds : List UInt8), p ≤ 64 ∧ ds.length + p = 64 ∧ at' = .int .i64 ((p + 1 : Nat) : Int) ∧ ms = .int .u64 (m : Int) ∧ m < 2 ^ p ∧ (ds = [] ∨ 0 < m) ∧ digsF b (p + 1) m ds = digsF b 65 m0 [] ∧ wr = w.alloc (.cells (room (p + 1) ds) 66)) (fun _ at' _ => (intOf at').toNat)
  case atStart => exact ⟨64, m0, [], by omega, rfl, rfl, rfl, hm, .inl rfl, rfl, rfl⟩
  case round =>
    obtain ⟨p, m, ds, hp, hlen, rfl, rfl, hmp, hpos, hdig, rfl⟩ := hrel
    have hp1 : 1 ≤ p := by
      rcases Nat.eq_zero_or_pos p with h | h
      · subst h
        rcases hpos with h | h
        · subst h; simp at hlen
        · simp at hmp; omega
      · exact h
    obtain ⟨q, rfl⟩ : ∃ q, p = q + 1 := ⟨p - 1, by omega⟩
    have hr0 : (0 : Int) ≤ (m : Int) % (b : Int) := Int.emod_nonneg _ (by omega)
    have hmod : m % b < 36 := by have := Nat.mod_lt m (show 0 < b by omega); omega
    have hr36 : (m : Int) % (b : Int) < 36 := by rw [show (m : Int) % (b : Int) = ((m % b : Nat) : Int) from by simp]; omega
    have hm64 : m < 18446744073709551616 := Nat.lt_of_lt_of_le hmp (Nat.le_trans (Nat.pow_le_pow_right (by decide) hp) (by decide))
    have hwd : IntKind.u64.wrap ((m : Int) / (b : Int)) = (m : Int) / (b : Int) := IntWalk.u64_in _ (by
      have h1 : m / b ≤ m := Nat.div_le_self m b
      have h2 : (m : Int) / (b : Int) = ((m / b : Nat) : Int) := by simp
      rw [h2]; generalize m / b = d at h1 ⊢; omega)
    obtain ⟨L, hL⟩ : ∃ L, chr (m % b) :: ds = L := ⟨_, rfl⟩
    have hLn : L.length + (q + 1) = 65 := by rw [← hL, List.length_cons]; omega
    obtain ⟨n, hn⟩ : ∃ n, L.length = n := ⟨_, rfl⟩
    have c1 := room_get (q + 1 + 1) ds (q + 1) (by omega)
    have c2 := room_get (q + 1) L q (by omega)
    have st1 : (room (q + 1 + 1) ds).setIfInBounds (q + 1) (.int .u8 ((alpha[m % b]'(by exact hmod)).toNat : Int)) = room (q + 1) L := by
      rw [← hL, ← room_set]
      congr 3
      unfold chr
      rw [List.getD_eq_getElem?_getD, List.getElem?_eq_getElem (by exact hmod)]
      rfl
    have st2 : (room (q + 1) L).setIfInBounds q (.int .u8 45) = room q (45 :: L) := room_set q L 45
    have sl1 := fun W => slice_room w.heap.size (q + 1) n (by omega) (by omega) W
    have sl2 := fun W => slice_room w.heap.size q (n + 1) (by omega) (by omega) W
    have cv1 := str_room w (q + 1) n L hn
    have cv2 := str_room w q (n + 1) (45 :: L) (by rw [List.length_cons, hn])
    rw [show (((q + 1 : Nat)) : Int) = (q : Int) + 1 from rfl] at sl1
    unfold alpha at st1
    have HD := Lib.hid hdig
    have HP := Lib.hid (And.intro hpos (And.intro hlen (And.intro hmp (And.intro hL (And.intro hLn hn)))))
    clear hdig hpos hlen hmp hL hLn hn
    by_cases hq : m / b = 0
    · have HQ := Lib.hid hq
      have hq1 : ((m : Int) / (b : Int) == 0) = true := by
        have h2 : (m : Int) / (b : Int) = ((m / b : Nat) : Int) := by simp
        rw [h2, hq]; rfl
      have HF : Hid (digsF b 65 m0 [] = L) := by
        rw [← HD.out, digsF, if_pos hq]; exact HP.out.2.2.2.1
      clear hq
      by_cases hneg : a < 0
      · have d1 : decide (a < 0) = true := by simpa using hneg
        have HN := Lib.hid hneg
        clear hneg
        go_wp2
        go_ret2
        refine ⟨?_, (Below.refl _ _).alloc (Nat.le_refl _) _⟩
        unfold inL
        rw [if_pos HN.out, HA.out, HF.out]
        rfl
      · have d1 : decide (a < 0) = false := by simpa using hneg
        have HN := Lib.hid hneg
        clear hneg
        go_wp2
        go_ret2
        refine ⟨?_, (Below.refl _ _).alloc (Nat.le_refl _) _⟩
        unfold inL
        rw [if_neg (by have := HN.out; omega), HA.out, HF.out]
        rfl
    · have hq1 : ((m : Int) / (b : Int) == 0) = false := by
        have h2 : (m : Int) / (b : Int) = ((m / b : Nat) : Int) := by simp
        rw [h2]; simp only [beq_eq_false_iff_ne]; omega
      have HQ := Lib.hid hq
      clear hq
      go_wp2
      go_roundw
      case rel =>
        refine ⟨q, m / b, L, by omega, ?_, by go_num, by simp, ?_, .inr (Nat.pos_of_ne_zero HQ.out), ?_, rfl⟩
        · have := HP.out.2.2.2.2.1; omega
        · have h1 := HP.out.2.2.1
          have h2 : m / b ≤ m / 2 := Nat.div_le_div_left hb1 (by decide)
          rw [Nat.pow_succ] at h1
          omega
        · have h1 := HD.out
          rw [digsF, if_neg HQ.out, HP.out.2.2.2.1] at h1
          exact h1
      case measure => simp [intOf]; omega
theorem in_base (a b : Int) (w : World) (hb : b < 2 ∨ 36 < b) : Calls Try.prog 13 #[.int .i64 a, .int .i64 b] w fun e w' => e = .returned (.tuple #[.string ⟨#[]⟩, .int .i64 1]) ∧ w = w' := by
  by_cases h : b < 2
  · have h1 : decide (b < 2) = true := by simpa using h
    clear hb
    go_enter Try.func13, Try.ntmps13
    go_wp2
    go_ret2
    exact ⟨rfl, rfl⟩
  · have h1 : decide (b < 2) = false := by simpa using h
    have h2 : decide (36 < b) = true := by simp; omega
    clear hb
    go_enter Try.func13, Try.ntmps13
    go_wp2
    go_ret2
    exact ⟨rfl, rfl⟩
theorem text_any (a : Int) (w : World) (ha : I64 a) : Calls Try.prog 15 #[.int .i64 a] w fun e w' => e = .returned (.string ⟨(inL a 10).toArray⟩) ∧ Below w.heap.size w w' := by
  have hi := fun w => in_any a 10 w ha (by decide) (by decide)
  have H := Lib.hid hi
  clear hi
  go_enter Try.func15, Try.ntmps15
  go_wp2_with (go_at_call 13; refine (H.out _).mono ?_; rintro e w' ⟨rfl, hb⟩; have HB := Lib.hid hb; clear hb)
  go_ret
  exact ⟨rfl, HB.out⟩
end Go.Proofs.Ytcjmoobdoinbkaa
