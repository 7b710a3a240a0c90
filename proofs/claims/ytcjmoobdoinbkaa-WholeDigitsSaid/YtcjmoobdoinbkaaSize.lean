/- The contracts of bits.Len64 and num.Size. Conditions: a uint64; an int64. -/
import Derived.Test.YtcjmoobdoinbkaaBase
import Derived.Lib.BitFns
import Derived.Lib.Tables
namespace Go.Proofs.Ytcjmoobdoinbkaa
open Go.RowKit
set_option linter.unusedVariables false
theorem len8_get (y : Nat) (h : y < Lib.len8tab.size) : ((Lib.len8tab[y]'h).toNat : Int) = Lib.len8 (y : Int) := by
  unfold Lib.len8
  rw [getElem?_pos Lib.len8tab (y : Int).toNat h]
  rfl
set_option maxHeartbeats 2000000 in
set_option maxRecDepth 100000 in
theorem len_1 (x : Nat) (w : World) (h : x < 18446744073709551616) (h1 : 4294967296 ≤ x) (h2 : 65536 ≤ x / 4294967296) (h3 : 256 ≤ x / 4294967296 / 65536) : Calls Try.prog 58 #[.int .u64 (x : Int)] w fun e w' => e = .returned (.int .i64 (Lib.bitLen x : Int)) ∧ w = w' := by
  have d1 : decide (4294967296 ≤ (x : Int)) = true := by simp <;> omega
  have d2 : decide (65536 ≤ (x : Int) / 4294967296) = true := by simp <;> omega
  have d3 : decide (256 ≤ (x : Int) / 4294967296 / 65536) = true := by simp <;> omega
  obtain ⟨y, hy⟩ : ∃ y : Nat, y = x / 4294967296 / 65536 / 256 := ⟨_, rfl⟩
  have hyl : y < 256 := by omega
  have hyc : ((y : Nat) : Int) = (x : Int) / 4294967296 / 65536 / 256 := by subst hy; simp
  have hu : IntKind.u8.wrap ((x : Int) / 4294967296 / 65536 / 256) = (y : Int) := by rw [← hyc]; exact IntWalk.u8_in _ (by omega)
  have hix := fun W => Lib.run_index_len8tab (P := Try.prog) W 9 .u8 (y : Int) Try.underlying9 (by omega) (by omega)
  have hl8 : Lib.len8 (y : Int) = ((Lib.bitLen y : Nat) : Int) := Lib.len8_of (y : Int) (by omega) (by omega)
  have hle := Lib.bitLen_le8' (y : Int) (by omega) (by omega)
  rw [hl8] at hix
  have hb : Lib.bitLen x = 56 + Lib.bitLen y := by
    rw [hy]
    rw [Lib.bitLen_shift32 (x) h1 (by omega)]; rw [Lib.bitLen_shift16 (x / 4294967296) h2 (by omega)]; rw [Lib.bitLen_shift8 (x / 4294967296 / 65536) h3 (by omega)]; all_goals omega
  have HB := Lib.hid hb
  clear hb
  have HL : Hid (Lib.bitLen y ≤ 8) := hle
  have hsz : y < Lib.len8tab.size := by rw [Lib.len8tab_size]; exact hyl
  have hgt : ((Lib.len8tab[y]'hsz).toNat : Int) = (Lib.bitLen y : Int) := (len8_get y hsz).trans hl8
  have HG := Lib.hid hgt
  clear hgt
  clear hy hyl hyc hl8 hle h h1 h2 h3
  go_enter Try.func58, Try.ntmps58
  go_wp2
  go_ret
  exact ⟨ret1 (by rw [HB.out]; have := HL.out; have := HG.out; first | (unfold wrap64; omega) | (rw [HG.out]; unfold wrap64; omega)), rfl⟩
set_option maxHeartbeats 2000000 in
set_option maxRecDepth 100000 in
theorem len_2 (x : Nat) (w : World) (h : x < 18446744073709551616) (h1 : 4294967296 ≤ x) (h2 : 65536 ≤ x / 4294967296) (h3 : 256 > x / 4294967296 / 65536) : Calls Try.prog 58 #[.int .u64 (x : Int)] w fun e w' => e = .returned (.int .i64 (Lib.bitLen x : Int)) ∧ w = w' := by
  have d1 : decide (4294967296 ≤ (x : Int)) = true := by simp <;> omega
  have d2 : decide (65536 ≤ (x : Int) / 4294967296) = true := by simp <;> omega
  have d3 : decide (256 ≤ (x : Int) / 4294967296 / 65536) = false := by simp <;> omega
  obtain ⟨y, hy⟩ : ∃ y : Nat, y = x / 4294967296 / 65536 := ⟨_, rfl⟩
  have hyl : y < 256 := by omega
  have hyc : ((y : Nat) : Int) = (x : Int) / 4294967296 / 65536 := by subst hy; simp
  have hu : IntKind.u8.wrap ((x : Int) / 4294967296 / 65536) = (y : Int) := by rw [← hyc]; exact IntWalk.u8_in _ (by omega)
  have hix := fun W => Lib.run_index_len8tab (P := Try.prog) W 9 .u8 (y : Int) Try.underlying9 (by omega) (by omega)
  have hl8 : Lib.len8 (y : Int) = ((Lib.bitLen y : Nat) : Int) := Lib.len8_of (y : Int) (by omega) (by omega)
  have hle := Lib.bitLen_le8' (y : Int) (by omega) (by omega)
  rw [hl8] at hix
  have hb : Lib.bitLen x = 48 + Lib.bitLen y := by
    rw [hy]
    rw [Lib.bitLen_shift32 (x) h1 (by omega)]; rw [Lib.bitLen_shift16 (x / 4294967296) h2 (by omega)]; all_goals omega
  have HB := Lib.hid hb
  clear hb
  have HL : Hid (Lib.bitLen y ≤ 8) := hle
  have hsz : y < Lib.len8tab.size := by rw [Lib.len8tab_size]; exact hyl
  have hgt : ((Lib.len8tab[y]'hsz).toNat : Int) = (Lib.bitLen y : Int) := (len8_get y hsz).trans hl8
  have HG := Lib.hid hgt
  clear hgt
  clear hy hyl hyc hl8 hle h h1 h2 h3
  go_enter Try.func58, Try.ntmps58
  go_wp2
  go_ret
  exact ⟨ret1 (by rw [HB.out]; have := HL.out; have := HG.out; first | (unfold wrap64; omega) | (rw [HG.out]; unfold wrap64; omega)), rfl⟩
set_option maxHeartbeats 2000000 in
set_option maxRecDepth 100000 in
theorem len_3 (x : Nat) (w : World) (h : x < 18446744073709551616) (h1 : 4294967296 ≤ x) (h2 : 65536 > x / 4294967296) (h3 : 256 ≤ x / 4294967296) : Calls Try.prog 58 #[.int .u64 (x : Int)] w fun e w' => e = .returned (.int .i64 (Lib.bitLen x : Int)) ∧ w = w' := by
  have d1 : decide (4294967296 ≤ (x : Int)) = true := by simp <;> omega
  have d2 : decide (65536 ≤ (x : Int) / 4294967296) = false := by simp <;> omega
  have d3 : decide (256 ≤ (x : Int) / 4294967296) = true := by simp <;> omega
  obtain ⟨y, hy⟩ : ∃ y : Nat, y = x / 4294967296 / 256 := ⟨_, rfl⟩
  have hyl : y < 256 := by omega
  have hyc : ((y : Nat) : Int) = (x : Int) / 4294967296 / 256 := by subst hy; simp
  have hu : IntKind.u8.wrap ((x : Int) / 4294967296 / 256) = (y : Int) := by rw [← hyc]; exact IntWalk.u8_in _ (by omega)
  have hix := fun W => Lib.run_index_len8tab (P := Try.prog) W 9 .u8 (y : Int) Try.underlying9 (by omega) (by omega)
  have hl8 : Lib.len8 (y : Int) = ((Lib.bitLen y : Nat) : Int) := Lib.len8_of (y : Int) (by omega) (by omega)
  have hle := Lib.bitLen_le8' (y : Int) (by omega) (by omega)
  rw [hl8] at hix
  have hb : Lib.bitLen x = 40 + Lib.bitLen y := by
    rw [hy]
    rw [Lib.bitLen_shift32 (x) h1 (by omega)]; rw [Lib.bitLen_shift8 (x / 4294967296) h3 (by omega)]; all_goals omega
  have HB := Lib.hid hb
  clear hb
  have HL : Hid (Lib.bitLen y ≤ 8) := hle
  have hsz : y < Lib.len8tab.size := by rw [Lib.len8tab_size]; exact hyl
  have hgt : ((Lib.len8tab[y]'hsz).toNat : Int) = (Lib.bitLen y : Int) := (len8_get y hsz).trans hl8
  have HG := Lib.hid hgt
  clear hgt
  clear hy hyl hyc hl8 hle h h1 h2 h3
  go_enter Try.func58, Try.ntmps58
  go_wp2
  go_ret
  exact ⟨ret1 (by rw [HB.out]; have := HL.out; have := HG.out; first | (unfold wrap64; omega) | (rw [HG.out]; unfold wrap64; omega)), rfl⟩
set_option maxHeartbeats 2000000 in
set_option maxRecDepth 100000 in
theorem len_4 (x : Nat) (w : World) (h : x < 18446744073709551616) (h1 : 4294967296 ≤ x) (h2 : 65536 > x / 4294967296) (h3 : 256 > x / 4294967296) : Calls Try.prog 58 #[.int .u64 (x : Int)] w fun e w' => e = .returned (.int .i64 (Lib.bitLen x : Int)) ∧ w = w' := by
  have d1 : decide (4294967296 ≤ (x : Int)) = true := by simp <;> omega
  have d2 : decide (65536 ≤ (x : Int) / 4294967296) = false := by simp <;> omega
  have d3 : decide (256 ≤ (x : Int) / 4294967296) = false := by simp <;> omega
  obtain ⟨y, hy⟩ : ∃ y : Nat, y = x / 4294967296 := ⟨_, rfl⟩
  have hyl : y < 256 := by omega
  have hyc : ((y : Nat) : Int) = (x : Int) / 4294967296 := by subst hy; simp
  have hu : IntKind.u8.wrap ((x : Int) / 4294967296) = (y : Int) := by rw [← hyc]; exact IntWalk.u8_in _ (by omega)
  have hix := fun W => Lib.run_index_len8tab (P := Try.prog) W 9 .u8 (y : Int) Try.underlying9 (by omega) (by omega)
  have hl8 : Lib.len8 (y : Int) = ((Lib.bitLen y : Nat) : Int) := Lib.len8_of (y : Int) (by omega) (by omega)
  have hle := Lib.bitLen_le8' (y : Int) (by omega) (by omega)
  rw [hl8] at hix
  have hb : Lib.bitLen x = 32 + Lib.bitLen y := by
    rw [hy]
    rw [Lib.bitLen_shift32 (x) h1 (by omega)]; all_goals omega
  have HB := Lib.hid hb
  clear hb
  have HL : Hid (Lib.bitLen y ≤ 8) := hle
  have hsz : y < Lib.len8tab.size := by rw [Lib.len8tab_size]; exact hyl
  have hgt : ((Lib.len8tab[y]'hsz).toNat : Int) = (Lib.bitLen y : Int) := (len8_get y hsz).trans hl8
  have HG := Lib.hid hgt
  clear hgt
  clear hy hyl hyc hl8 hle h h1 h2 h3
  go_enter Try.func58, Try.ntmps58
  go_wp2
  go_ret
  exact ⟨ret1 (by rw [HB.out]; have := HL.out; have := HG.out; first | (unfold wrap64; omega) | (rw [HG.out]; unfold wrap64; omega)), rfl⟩
set_option maxHeartbeats 2000000 in
set_option maxRecDepth 100000 in
theorem len_5 (x : Nat) (w : World) (h : x < 18446744073709551616) (h1 : 4294967296 > x) (h2 : 65536 ≤ x) (h3 : 256 ≤ x / 65536) : Calls Try.prog 58 #[.int .u64 (x : Int)] w fun e w' => e = .returned (.int .i64 (Lib.bitLen x : Int)) ∧ w = w' := by
  have d1 : decide (4294967296 ≤ (x : Int)) = false := by simp <;> omega
  have d2 : decide (65536 ≤ (x : Int)) = true := by simp <;> omega
  have d3 : decide (256 ≤ (x : Int) / 65536) = true := by simp <;> omega
  obtain ⟨y, hy⟩ : ∃ y : Nat, y = x / 65536 / 256 := ⟨_, rfl⟩
  have hyl : y < 256 := by omega
  have hyc : ((y : Nat) : Int) = (x : Int) / 65536 / 256 := by subst hy; simp
  have hu : IntKind.u8.wrap ((x : Int) / 65536 / 256) = (y : Int) := by rw [← hyc]; exact IntWalk.u8_in _ (by omega)
  have hix := fun W => Lib.run_index_len8tab (P := Try.prog) W 9 .u8 (y : Int) Try.underlying9 (by omega) (by omega)
  have hl8 : Lib.len8 (y : Int) = ((Lib.bitLen y : Nat) : Int) := Lib.len8_of (y : Int) (by omega) (by omega)
  have hle := Lib.bitLen_le8' (y : Int) (by omega) (by omega)
  rw [hl8] at hix
  have hb : Lib.bitLen x = 24 + Lib.bitLen y := by
    rw [hy]
    rw [Lib.bitLen_shift16 (x) h2 (by omega)]; rw [Lib.bitLen_shift8 (x / 65536) h3 (by omega)]; all_goals omega
  have HB := Lib.hid hb
  clear hb
  have HL : Hid (Lib.bitLen y ≤ 8) := hle
  have hsz : y < Lib.len8tab.size := by rw [Lib.len8tab_size]; exact hyl
  have hgt : ((Lib.len8tab[y]'hsz).toNat : Int) = (Lib.bitLen y : Int) := (len8_get y hsz).trans hl8
  have HG := Lib.hid hgt
  clear hgt
  clear hy hyl hyc hl8 hle h h1 h2 h3
  go_enter Try.func58, Try.ntmps58
  go_wp2
  go_ret
  exact ⟨ret1 (by rw [HB.out]; have := HL.out; have := HG.out; first | (unfold wrap64; omega) | (rw [HG.out]; unfold wrap64; omega)), rfl⟩
set_option maxHeartbeats 2000000 in
set_option maxRecDepth 100000 in
theorem len_6 (x : Nat) (w : World) (h : x < 18446744073709551616) (h1 : 4294967296 > x) (h2 : 65536 ≤ x) (h3 : 256 > x / 65536) : Calls Try.prog 58 #[.int .u64 (x : Int)] w fun e w' => e = .returned (.int .i64 (Lib.bitLen x : Int)) ∧ w = w' := by
  have d1 : decide (4294967296 ≤ (x : Int)) = false := by simp <;> omega
  have d2 : decide (65536 ≤ (x : Int)) = true := by simp <;> omega
  have d3 : decide (256 ≤ (x : Int) / 65536) = false := by simp <;> omega
  obtain ⟨y, hy⟩ : ∃ y : Nat, y = x / 65536 := ⟨_, rfl⟩
  have hyl : y < 256 := by omega
  have hyc : ((y : Nat) : Int) = (x : Int) / 65536 := by subst hy; simp
  have hu : IntKind.u8.wrap ((x : Int) / 65536) = (y : Int) := by rw [← hyc]; exact IntWalk.u8_in _ (by omega)
  have hix := fun W => Lib.run_index_len8tab (P := Try.prog) W 9 .u8 (y : Int) Try.underlying9 (by omega) (by omega)
  have hl8 : Lib.len8 (y : Int) = ((Lib.bitLen y : Nat) : Int) := Lib.len8_of (y : Int) (by omega) (by omega)
  have hle := Lib.bitLen_le8' (y : Int) (by omega) (by omega)
  rw [hl8] at hix
  have hb : Lib.bitLen x = 16 + Lib.bitLen y := by
    rw [hy]
    rw [Lib.bitLen_shift16 (x) h2 (by omega)]; all_goals omega
  have HB := Lib.hid hb
  clear hb
  have HL : Hid (Lib.bitLen y ≤ 8) := hle
  have hsz : y < Lib.len8tab.size := by rw [Lib.len8tab_size]; exact hyl
  have hgt : ((Lib.len8tab[y]'hsz).toNat : Int) = (Lib.bitLen y : Int) := (len8_get y hsz).trans hl8
  have HG := Lib.hid hgt
  clear hgt
  clear hy hyl hyc hl8 hle h h1 h2 h3
  go_enter Try.func58, Try.ntmps58
  go_wp2
  go_ret
  exact ⟨ret1 (by rw [HB.out]; have := HL.out; have := HG.out; first | (unfold wrap64; omega) | (rw [HG.out]; unfold wrap64; omega)), rfl⟩
set_option maxHeartbeats 2000000 in
set_option maxRecDepth 100000 in
theorem len_7 (x : Nat) (w : World) (h : x < 18446744073709551616) (h1 : 4294967296 > x) (h2 : 65536 > x) (h3 : 256 ≤ x) : Calls Try.prog 58 #[.int .u64 (x : Int)] w fun e w' => e = .returned (.int .i64 (Lib.bitLen x : Int)) ∧ w = w' := by
  have d1 : decide (4294967296 ≤ (x : Int)) = false := by simp <;> omega
  have d2 : decide (65536 ≤ (x : Int)) = false := by simp <;> omega
  have d3 : decide (256 ≤ (x : Int)) = true := by simp <;> omega
  obtain ⟨y, hy⟩ : ∃ y : Nat, y = x / 256 := ⟨_, rfl⟩
  have hyl : y < 256 := by omega
  have hyc : ((y : Nat) : Int) = (x : Int) / 256 := by subst hy; simp
  have hu : IntKind.u8.wrap ((x : Int) / 256) = (y : Int) := by rw [← hyc]; exact IntWalk.u8_in _ (by omega)
  have hix := fun W => Lib.run_index_len8tab (P := Try.prog) W 9 .u8 (y : Int) Try.underlying9 (by omega) (by omega)
  have hl8 : Lib.len8 (y : Int) = ((Lib.bitLen y : Nat) : Int) := Lib.len8_of (y : Int) (by omega) (by omega)
  have hle := Lib.bitLen_le8' (y : Int) (by omega) (by omega)
  rw [hl8] at hix
  have hb : Lib.bitLen x = 8 + Lib.bitLen y := by
    rw [hy]
    rw [Lib.bitLen_shift8 (x) h3 (by omega)]; all_goals omega
  have HB := Lib.hid hb
  clear hb
  have HL : Hid (Lib.bitLen y ≤ 8) := hle
  have hsz : y < Lib.len8tab.size := by rw [Lib.len8tab_size]; exact hyl
  have hgt : ((Lib.len8tab[y]'hsz).toNat : Int) = (Lib.bitLen y : Int) := (len8_get y hsz).trans hl8
  have HG := Lib.hid hgt
  clear hgt
  clear hy hyl hyc hl8 hle h h1 h2 h3
  go_enter Try.func58, Try.ntmps58
  go_wp2
  go_ret
  exact ⟨ret1 (by rw [HB.out]; have := HL.out; have := HG.out; first | (unfold wrap64; omega) | (rw [HG.out]; unfold wrap64; omega)), rfl⟩
set_option maxHeartbeats 2000000 in
set_option maxRecDepth 100000 in
theorem len_8 (x : Nat) (w : World) (h : x < 18446744073709551616) (h1 : 4294967296 > x) (h2 : 65536 > x) (h3 : 256 > x) : Calls Try.prog 58 #[.int .u64 (x : Int)] w fun e w' => e = .returned (.int .i64 (Lib.bitLen x : Int)) ∧ w = w' := by
  have d1 : decide (4294967296 ≤ (x : Int)) = false := by simp <;> omega
  have d2 : decide (65536 ≤ (x : Int)) = false := by simp <;> omega
  have d3 : decide (256 ≤ (x : Int)) = false := by simp <;> omega
  obtain ⟨y, hy⟩ : ∃ y : Nat, y = x := ⟨_, rfl⟩
  have hyl : y < 256 := by omega
  have hyc : ((y : Nat) : Int) = (x : Int) := by subst hy; simp
  have hu : IntKind.u8.wrap ((x : Int)) = (y : Int) := by rw [← hyc]; exact IntWalk.u8_in _ (by omega)
  have hix := fun W => Lib.run_index_len8tab (P := Try.prog) W 9 .u8 (y : Int) Try.underlying9 (by omega) (by omega)
  have hl8 : Lib.len8 (y : Int) = ((Lib.bitLen y : Nat) : Int) := Lib.len8_of (y : Int) (by omega) (by omega)
  have hle := Lib.bitLen_le8' (y : Int) (by omega) (by omega)
  rw [hl8] at hix
  have hb : Lib.bitLen x = 0 + Lib.bitLen y := by
    rw [hy]
    all_goals omega
  have HB := Lib.hid hb
  clear hb
  have HL : Hid (Lib.bitLen y ≤ 8) := hle
  have hsz : y < Lib.len8tab.size := by rw [Lib.len8tab_size]; exact hyl
  have hgt : ((Lib.len8tab[y]'hsz).toNat : Int) = (Lib.bitLen y : Int) := (len8_get y hsz).trans hl8
  have HG := Lib.hid hgt
  clear hgt
  clear hy hyl hyc hl8 hle h h1 h2 h3
  go_enter Try.func58, Try.ntmps58
  go_wp2
  go_ret
  exact ⟨ret1 (by rw [HB.out]; have := HL.out; have := HG.out; first | (unfold wrap64; omega) | (rw [HG.out]; unfold wrap64; omega)), rfl⟩
theorem len64_any (x : Nat) (w : World) (h : x < 18446744073709551616) : Calls Try.prog 58 #[.int .u64 (x : Int)] w fun e w' => e = .returned (.int .i64 (Lib.bitLen x : Int)) ∧ w = w' := by
  by_cases h1 : 4294967296 ≤ x
  · by_cases h2 : 65536 ≤ x / 4294967296
    · by_cases h3 : 256 ≤ x / 4294967296 / 65536
      · exact len_1 x w h h1 h2 h3
      · exact len_2 x w h h1 h2 (by omega)
    · by_cases h3 : 256 ≤ x / 4294967296
      · exact len_3 x w h h1 (by omega) h3
      · exact len_4 x w h h1 (by omega) (by omega)
  · by_cases h2 : 65536 ≤ x
    · by_cases h3 : 256 ≤ x / 65536
      · exact len_5 x w h (by omega) h2 h3
      · exact len_6 x w h (by omega) h2 (by omega)
    · by_cases h3 : 256 ≤ x
      · exact len_7 x w h (by omega) (by omega) h3
      · exact len_8 x w h (by omega) (by omega) (by omega)
theorem size_any (a : Int) (ha : I64 a) (w : World) : Calls Try.prog 39 #[.int .i64 a] w fun e w' => e = .returned (.int .i64 (Lib.bitLen a.natAbs : Int)) ∧ w = w' := by
  have hl : ∀ w, Calls Try.prog 58 #[.int .u64 (a.natAbs : Int)] w fun e w' => e = .returned (.int .i64 (Lib.bitLen a.natAbs : Int)) ∧ w = w' := fun w => len64_any _ w (by have := ha.1; have := ha.2; omega)
  have hm := fun w => mag_any a ha w
  generalize a.natAbs = m at hl hm ⊢
  have HL := Lib.hid hl
  have HM := Lib.hid hm
  clear hl hm ha
  go_enter Try.func39, Try.ntmps39
  go_wp2_with (first | (go_at_call 51; refine (HM.out _).mono ?_; rintro e w' ⟨rfl, rfl⟩) | (go_at_call 58; refine (HL.out _).mono ?_; rintro e w' ⟨rfl, rfl⟩))
  go_ret
  exact ⟨rfl, rfl⟩
end Go.Proofs.Ytcjmoobdoinbkaa
