/- dreylaw20's head 'goes' returns true, and leaves what was there as it was. No condition. -/
import Derived.Test.YtpcamgjfikipgaaStack
import Derived.Deep.RegionWith
import Derived.Deep.DeepCutAuto
import Derived.Deep.DrawnRows
import Derived.Deep.RegionHeld3
import Derived.LaidEqlPtr
namespace Go.Proofs.Ytpcamgjfikipgaa
open Go.RowKit
set_option linter.unusedVariables false
attribute [local go_sem ↓] Go.wp_at_zero Go.wp_at_succ
/-- A code.Func with so many registers, parameters and defaults. -/
def fun3 (r p d : Int) : List Value := [.slice none 0 0, .slice none 0 0, .int .i64 r, .int .i64 p, .int .i64 d, .slice none 0 0, .slice none 0 0, .bool false, .string ⟨#[]⟩]
theorem fun3_cells {w : World} {g : Nat} {r p d : Int} (h : Blk w g 33 (fun3 r p d)) : w.cell? ⟨g, 0, none⟩ = some (.slice none 0 0) ∧ w.cell? ⟨g, 1, none⟩ = some (.slice none 0 0) ∧ w.cell? ⟨g, 2, none⟩ = some (.int .i64 r) ∧ w.cell? ⟨g, 3, none⟩ = some (.int .i64 p) ∧ w.cell? ⟨g, 4, none⟩ = some (.int .i64 d) ∧ w.cell? ⟨g, 5, none⟩ = some (.slice none 0 0) ∧ w.cell? ⟨g, 6, none⟩ = some (.slice none 0 0) ∧ w.cell? ⟨g, 7, none⟩ = some (.bool false) ∧ w.cell? ⟨g, 8, none⟩ = some (.string ⟨#[]⟩) :=
  ⟨h.cell rfl, h.cell rfl, h.cell rfl, h.cell rfl, h.cell rfl, h.cell rfl, h.cell rfl, h.cell rfl, h.cell rfl⟩
theorem info40 : (Try.prog.info? 40).map (·.size) = some 16 := by kernel_rfl
theorem run_neq_ptr_none {P : Program} (w : World) {tp te : TypeId} (a : Addr) (hp : P.underlying tp = some (.pointer te)) : (binOp .neq tp (.pointer (some a)) (.pointer none)).run P w = .ok (.bool true) w := by
  have h : ∀ d : Nat, (Op.equalIn (d + 1) tp (.pointer (some a)) (.pointer none)).run P w = .ok false w := fun d => by simp [Op.equalIn, run_underlying hp]
  simp only [binOp]
  simp [Op.equal, Op.maxDepth, h 9999]
theorem run_eql_ptr_nil {P : Program} (w : World) {tp te : TypeId} (a : Addr) (hp : P.underlying tp = some (.pointer te)) : (binOp .eql tp (.pointer (some a)) (.pointer none)).run P w = .ok (.bool false) w := by
  have h : ∀ d : Nat, (Op.equalIn (d + 1) tp (.pointer (some a)) (.pointer none)).run P w = .ok false w := fun d => by simp [Op.equalIn, run_underlying hp]
  simp only [binOp]
  simp [Op.equal, Op.maxDepth, h 9999]
def G2 (w : World) (s2 s3 : Value) (wx : World) : Prop := ∃ A c, s2 = .slice A 2 c ∧ s3 = .bool true ∧ RdV wx A 2 [V.int 1, V.int 9] ∧ Below w.heap.size w wx ∧ Blk wx w.heap.size 33 (fun3 3 2 1)
def G3 (w : World) (A : Option Addr) (s5 : Value) (wx : World) : Prop := s5 = .bool false ∧ RdV wx A 2 [V.int 1, V.int 9] ∧ Below w.heap.size w wx ∧ Blk wx w.heap.size 33 (fun3 3 2 1)
def G4 (w : World) (A : Option Addr) (s6 : Value) (wx : World) : Prop := ∃ r g, s6 = ptr g ∧ Below w.heap.size w wx ∧ w.heap.size ≤ r ∧ w.heap.size ≤ g ∧ RdV wx A 2 [V.int 1, V.int 9] ∧ Blk wx r 25 (vcs [V.int 1, V.int 9, V.null]) ∧ Blk wx g 40 (fcs 4 (V.ref 1) (V.ref 2) (.slice (some ⟨r, 0, none⟩) 3 3) 0 0 0 V.null (.pointer none) (-1))
theorem below_alloc {w w1 : World} (h : Below w.heap.size w w1) (o : Obj) : Below w.heap.size w (w1.alloc o) := h.alloc h.size o
theorem below_chain {w w1 w2 : World} (h : Below w1.heap.size w1 w2) (k : Below w.heap.size w w1) : Below w.heap.size w w2 := k.trans (h.mono k.size)
set_option maxHeartbeats 4000000 in
set_option maxRecDepth 100000 in
theorem goes20 (w : World) : Calls Try.prog 13 #[] w fun e w' => e = .returned (.bool true) ∧ Below w.heap.size w w' := by
  go_enter Try.func13, Try.ntmps13
  go_upto_region 2 with fail
  go_cut [2, 3] (fun s2 s3 wx => G2 w s2 s3 wx)
  case first =>
    go_region_held3 (fun w' => w'.cell? ⟨w.heap.size, 0, none⟩ = some (.slice none 0 0) ∧ w'.cell? ⟨w.heap.size, 1, none⟩ = some (.slice none 0 0) ∧ w'.cell? ⟨w.heap.size, 2, none⟩ = some (.int .i64 3) ∧ w'.cell? ⟨w.heap.size, 3, none⟩ = some (.int .i64 2) ∧ w'.cell? ⟨w.heap.size, 4, none⟩ = some (.int .i64 1) ∧ w'.cell? ⟨w.heap.size, 5, none⟩ = some (.slice none 0 0) ∧ w'.cell? ⟨w.heap.size, 6, none⟩ = some (.slice none 0 0) ∧ w'.cell? ⟨w.heap.size, 7, none⟩ = some (.bool false) ∧ w'.cell? ⟨w.heap.size, 8, none⟩ = some (.string ⟨#[]⟩)) ((first | (refine ⟨?_, ?_, ?_, ?_, ?_, ?_, ?_, ?_, ?_⟩ <;> (rw [hb.cell (by simp; omega)]; go_simp)) | (refine ⟨?_, ?_, ?_, ?_, ?_, ?_, ?_, ?_, ?_⟩ <;> go_simp)))
     (first
      | (go_at_call 14; refine (int_any _ _).mono ?_; rintro e w' ⟨rfl, rfl⟩; unfold V.agg V.int)
      | (go_at_call 15; refine (args_yes _ _ _ _ _ _ _ _ 2 _ _ 1 1 1 1 [V.int 9] [V.int 1] _ (by omega) (by omega) (by omega) (by omega) (by omega) (by omega) (by omega) (by repeat (first | exact Rd.of_blk (Blk.made (by simp) 25 (V.int 9).cs) rfl | refine Rd.alloc ?_ _ | refine Rd.drew ?_)) (by repeat (first | exact Rd.of_blk (Blk.made (by simp) 25 (V.int 1).cs) rfl | refine Rd.alloc ?_ _ | refine Rd.drew ?_))).mono ?_; rintro e w' ⟨A, c, rfl, hr, hb⟩))
    all_goals (go_wp2_with fail; go_meet; exact ⟨A, c, rfl, rfl, hr, below_chain hb (by repeat (first | exact Below.refl _ _ | refine Below.drew ?_ | refine below_alloc ?_ _)), Blk.below (by repeat (first | exact Blk.made (by simp) 33 (fun3 3 2 1) | refine Blk.drew ?_ | refine Blk.alloc ?_ _)) hb (by simp; omega)⟩)
  case rest =>
    obtain ⟨A, c, rfl, rfl, hr, hb, hf⟩ := hcut
    obtain ⟨f0, f1, f2, f3, f4, f5, f6, f7, f8⟩ := fun3_cells hf
    have hfz := hf.lt
    have HR := Lib.hid hr
    have HB := Lib.hid hb
    have HF := Lib.hid hf
    clear hr hb hf
    go_upto_region 3 with fail
    go_cut [5] (fun s5 wx => G3 w A s5 wx)
    case first =>
      go_region_held3 (fun w' => w'.cell? ⟨w.heap.size, 0, none⟩ = some (.slice none 0 0) ∧ w'.cell? ⟨w.heap.size, 1, none⟩ = some (.slice none 0 0) ∧ w'.cell? ⟨w.heap.size, 2, none⟩ = some (.int .i64 3) ∧ w'.cell? ⟨w.heap.size, 3, none⟩ = some (.int .i64 2) ∧ w'.cell? ⟨w.heap.size, 4, none⟩ = some (.int .i64 1) ∧ w'.cell? ⟨w.heap.size, 5, none⟩ = some (.slice none 0 0) ∧ w'.cell? ⟨w.heap.size, 6, none⟩ = some (.slice none 0 0) ∧ w'.cell? ⟨w.heap.size, 7, none⟩ = some (.bool false) ∧ w'.cell? ⟨w.heap.size, 8, none⟩ = some (.string ⟨#[]⟩)) ((first | (refine ⟨?_, ?_, ?_, ?_, ?_, ?_, ?_, ?_, ?_⟩ <;> (rw [hb.cell (by simp; omega)]; go_simp)) | (refine ⟨?_, ?_, ?_, ?_, ?_, ?_, ?_, ?_, ?_⟩ <;> go_simp)))
       (first
        | (go_at_call 14; refine (int_any _ _).mono ?_; rintro e w' ⟨rfl, rfl⟩; unfold V.agg V.int)
        | (go_at_call 15; refine (args_no _ _ _ _ _ _ _ _ 2 _ _ 1 1 0 0 _ (by omega) (by omega) (by omega) (by omega)).mono ?_; rintro e w' ⟨rfl, hb⟩))
      go_wp2_with fail
      go_meet
      case rel =>
        have hk : Below wc.heap.size wc w' := below_chain hb (by repeat (first | exact Below.refl _ _ | refine Below.drew ?_ | refine below_alloc ?_ _))
        exact ⟨rfl, HR.out.below hk, HB.out.trans (hk.mono HB.out.size), HF.out.below hk hfz⟩
    case rest =>
      clear f0 f1 f2 f3 f4 f5 f6 f7 f8 HR HB HF hfz
      obtain ⟨rfl, hr, hb, hf⟩ := hcut
      obtain ⟨f0, f1, f2, f3, f4, f5, f6, f7, f8⟩ := fun3_cells hf
      have hfz := hf.lt
      have HR := Lib.hid hr
      have HB := Lib.hid hb
      clear hr hb hf
      go_upto_region 4 with fail
      go_cut [6] (fun s6 wx => G4 w A s6 wx)
      case first =>
        go_region_held3 (fun w' => w'.cell? ⟨w.heap.size, 0, none⟩ = some (.slice none 0 0) ∧ w'.cell? ⟨w.heap.size, 1, none⟩ = some (.slice none 0 0) ∧ w'.cell? ⟨w.heap.size, 2, none⟩ = some (.int .i64 3) ∧ w'.cell? ⟨w.heap.size, 3, none⟩ = some (.int .i64 2) ∧ w'.cell? ⟨w.heap.size, 4, none⟩ = some (.int .i64 1) ∧ w'.cell? ⟨w.heap.size, 5, none⟩ = some (.slice none 0 0) ∧ w'.cell? ⟨w.heap.size, 6, none⟩ = some (.slice none 0 0) ∧ w'.cell? ⟨w.heap.size, 7, none⟩ = some (.bool false) ∧ w'.cell? ⟨w.heap.size, 8, none⟩ = some (.string ⟨#[]⟩)) ((first | (refine ⟨?_, ?_, ?_, ?_, ?_, ?_, ?_, ?_, ?_⟩ <;> (rw [hb.cell (by simp; omega)]; go_simp)) | (refine ⟨?_, ?_, ?_, ?_, ?_, ?_, ?_, ?_, ?_⟩ <;> go_simp)))
          (first
           | (go_at_call 17; refine (ref_any _ _).mono ?_; rintro e w' ⟨rfl, rfl⟩; unfold V.agg V.ref)
           | (go_at_call 16; refine (new_any _ _ _ _ _ _ _ _ 3 _ (V.ref 1) (V.ref 2) A 2 _ [V.int 1, V.int 9] _ (by omega) (by omega) (by repeat (first | exact HR.out | refine Rd.alloc ?_ _ | refine Rd.drew ?_)) (wc.heap.size + 1 + 1) (by simp)).mono ?_; rintro e w' ⟨rfl, hsz, hb, hrg, hfr⟩))
        all_goals (go_wp2_with fail; go_meet)
        case rel =>
          have hk : Below wc.heap.size wc w' := below_chain hb (by repeat (first | exact Below.refl _ _ | refine Below.drew ?_ | refine below_alloc ?_ _))
          exact ⟨_, _, rfl, HB.out.trans (hk.mono HB.out.size), Nat.le_trans HB.out.size (by omega), Nat.le_trans HB.out.size (by omega), HR.out.below hk, hrg, hfr⟩
      case rest =>
        obtain ⟨r, g, rfl, hb, hr1, hg1, hr, hrr, hgg⟩ := hcut
        clear f0 f1 f2 f3 f4 f5 f6 f7 f8 HR HB hfz
        have HB := Lib.hid hb
        have H1 := Lib.hid (And.intro hr1 (And.intro hg1 (And.intro hr (And.intro hrr hgg))))
        clear hb hr1 hg1 hr hrr hgg
        unfold ptr
        obtain ⟨j40, hj40, hj1⟩ := Option.map_eq_some_iff.1 info40
        have heq := fun W => run_eql_ptr_same (P := Try.prog) W (tp := 35) ⟨g, 0, none⟩ Try.underlying35 hj40
        have hnn := fun W => run_neq_ptr_none (P := Try.prog) W (tp := 35) ⟨g, 0, none⟩ Try.underlying35
        have hen := fun W => run_eql_ptr_nil (P := Try.prog) W (tp := 35) ⟨g, 0, none⟩ Try.underlying35
        clear hj40 hj1
        go_wp2_with fail
        have hst : Stk (wc.alloc (.cells #[.slice none 0 0] 47)) wc.heap.size 47 [.slice none 0 0] 0 w.heap.size (.slice none 0 0) [] := ⟨Blk.new _ _ _, rfl, World.ownsRow_nil _ _ _ _, by simp [Value.ownBlock], by have := HB.out.size; simp; omega⟩
        have HS := Lib.hid hst
        clear hst
        refine (push_any HS.out g (by simp)).mono ?_
        rintro e w1 ⟨rfl, lv, hs, hk, hfr⟩
        obtain ⟨hr1, hg1, hr, hrr, hgg⟩ := H1.out
        obtain ⟨b, o, v, rfl, hbl, hv, _, hA1, _⟩ := hr.at_ (i := 1) (by omega)
        have hv9 : v = V.int 9 := by simpa using hv.symm
        have ka : ∀ p : Addr, p.block < wc.heap.size → w1.cell? p = wc.cell? p := fun p hp => (hk.cell (p := p) (by simp; omega) (by simp [Value.ownBlock]; omega)).trans (World.cell?_alloc_lt _ _ _ hp)
        have c1 : w1.cell? ⟨b, o + 3 + 1, none⟩ = some (.int .i64 9) := by rw [ka _ hbl]; rw [hv9] at hA1; exact hA1
        have c2 : w1.cell? ⟨g, 0, none⟩ = some (.int .i64 4) := by rw [ka _ hgg.lt]; exact hgg.cell rfl
        have c3 : w1.cell? ⟨g, 7, none⟩ = some (.slice (some ⟨r, 0, none⟩) 3 3) := by rw [ka _ hgg.lt]; exact hgg.cell rfl
        have c4 : w1.cell? ⟨r, 4, none⟩ = some (.int .i64 9) := by rw [ka _ hrr.lt]; exact hrr.cell rfl
        have K1 := Lib.hid (And.intro hs (And.intro hk hfr))
        clear ka hv9 hv hA1 hbl hr hrr hgg hr1 hg1 hs hk hfr HS
        go_wp2_with fail
        refine (len_any K1.out.1).mono ?_
        rintro e w2 ⟨rfl, rfl⟩
        go_wp2_with fail
        refine (top_some (b := g) K1.out.1 rfl (by simp)).mono ?_
        rintro e w2 ⟨rfl, n1, rfl⟩
        unfold ptr
        go_wp2_with fail
        refine (at_in (K1.out.1.drewN n1) (i := 0) (b := g) rfl (by simp)).mono ?_
        rintro e w2 ⟨rfl, rfl⟩
        unfold ptr
        go_wp2_with fail
        refine (at_out (K1.out.1.drewN n1) 1 (by simp) (by simp)).mono ?_
        rintro e w2 ⟨rfl, rfl⟩
        go_wp2_with fail
        refine (pop_some (bs := []) (b := g) (K1.out.1.drewN n1) (by simp)).mono ?_
        rintro e w3 ⟨rfl, lv3, hs3, hk3, ho3⟩
        unfold ptr
        have K3 := Lib.hid (And.intro hs3 (And.intro hk3 ho3))
        clear hs3 hk3 ho3
        go_wp2_with fail
        refine (pop_none K3.out.1).mono ?_
        rintro e w4 ⟨rfl, rfl⟩
        go_wp2_with fail
        go_ret
        refine ⟨rfl, ?_⟩
        have hlo : ∀ k, lv.ownBlock = some k → w.heap.size ≤ k := fun k hk => (K1.out.1.own.lt k hk).1
        have k0 : Kp (fun _ => False) w (wc.alloc (.cells #[.slice none 0 0] 47)) := Kp.of_below (below_alloc HB.out _)
        have k1 := k0.trans K1.out.2.1 (S := fun _ => False) (fun k hk h => by rcases h with h | h; (have := HB.out.size; omega); simp [Value.ownBlock] at h)
        have k3 := (k1.drewN n1).trans K3.out.2.1 (S := fun _ => False) (fun k hk h => by rcases h with h | h; (have := HB.out.size; omega); (have := hlo k h; omega))
        exact k3.below (fun _ _ h => h)
end Go.Proofs.Ytpcamgjfikipgaa
