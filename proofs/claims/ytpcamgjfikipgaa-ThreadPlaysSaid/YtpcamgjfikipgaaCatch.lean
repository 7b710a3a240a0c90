/- The contract of unwind.Catch over a stack of frames whose contents are known. Conditions: no more than some thousands of frames; the register is one of the frame's. -/
import Derived.Test.YtpcamgjfikipgaaCut
import Derived.Test.YtpcamgjfikipgaaFind
import Derived.Test.YtpcamgjfikipgaaFrameNewW
namespace Go.Proofs.Ytpcamgjfikipgaa
open Go.RowKit
set_option linter.unusedVariables false
theorem findU_some {fs : List FnD} {ds : List FU} {n i : Nat} {t : TryD} (h : findU fs ds n = some (i, t)) : i < n ∧ ∃ d, ds[i]? = some d ∧ d.look fs = some t := by
  induction n with
  | zero => simp [findU] at h
  | succ n ih =>
    unfold findU at h
    rcases hd : ds[n]? with _ | d
    · rw [hd] at h
      have := ih (by simpa using h)
      exact ⟨by omega, this.2⟩
    · rw [hd] at h
      rcases hl : d.look fs with _ | t'
      · have := ih (by simpa [hl] using h)
        exact ⟨by omega, this.2⟩
      · simp [hl] at h
        obtain ⟨rfl, rfl⟩ := h
        exact ⟨by omega, d, hd, hl⟩
/-- What Catch leaves: k frames stay; the last of them goes on where the catch says, if one does. -/
def CatchD (w : World) (sb : Nat) (t : TypeId) (cs : List Value) (so base : Nat) (lv : Value) (bs : List Nat) (ds : List FU) (r : Option (Nat × TryD)) (th : V) (e : Ending) (w' : World) : Prop :=
  ∃ v lv', e = .returned (.tuple #[v, .bool r.isSome]) ∧ w'.ownsRow w.heap.size 35 1 v (bs.drop (atU r + 1).toNat).length ((bs.drop (atU r + 1).toNat).reverse.map ptr) ∧
    Stk w' sb t (cs.set so lv') so base lv' (bs.take (atU r + 1).toNat) ∧ lv'.ownBlock = lv.ownBlock ∧
    match r with
    | none => Kp (fun b => b = sb ∨ lv.ownBlock = some b) w w'
    | some (i, tt) => ∃ (b : Nat) (d : FU) (R : Nat) (regs : List V) (c : Nat), bs[i]? = some b ∧ ds[i]? = some d ∧ d.rg = .slice (some ⟨R, 0, none⟩) regs.length c ∧ Blk w R 25 (vcs regs) ∧
        Blk w' b 40 { d with pc := tt.tg }.cs ∧ Blk w' R 25 (vcs (regs.set tt.rg.toNat th)) ∧ Kp (fun x => x = sb ∨ lv.ownBlock = some x ∨ x = b ∨ x = R) w w'
theorem Stk.off {w : World} {sb : Nat} {t : TypeId} {cs : List Value} {so base : Nat} {lv : Value} {bs : List Nat} (h : Stk w sb t cs so base lv bs) {b : Nat} {t' : TypeId} {cs' : List Value} (hb : Blk w b t' cs') (h1 : t' ≠ t) (h2 : t' ≠ 35) : b ≠ sb ∧ lv.ownBlock ≠ some b := by
  refine ⟨?_, ?_⟩
  · rintro rfl
    have h3 := h.blk
    unfold Blk at hb h3
    rw [hb] at h3
    injection h3 with h3
    injection h3 with _ h3
    exact h1 h3
  · intro hg
    rcases h.own.2 with ⟨rfl, _⟩ | ⟨g', cap, cur, rfl, _, hh, _⟩
    · simp [Value.ownBlock] at hg
    · have : g' = b := by simpa [Value.ownBlock] using hg
      subst this
      unfold Blk at hb
      rw [hb] at hh
      injection hh with hh
      injection hh with _ hh
      exact h2 hh
theorem own_base {w : World} {base base' n : Nat} {v : Value} {xs : List Value} {e size : Nat} (h : w.ownsRow base e size v n xs) (hb : base' ≤ base) : w.ownsRow base' e size v n xs := by
  refine ⟨h.1, ?_⟩
  rcases h.2 with h0 | ⟨g, cap, cur, e1, hg, rest⟩
  · exact .inl h0
  · exact .inr ⟨g, cap, cur, e1, by omega, rest⟩
set_option maxRecDepth 100000 in
set_option maxHeartbeats 2000000 in
theorem catch_none {w : World} {sb : Nat} {t : TypeId} {cs : List Value} {so base : Nat} {lv : Value} {bs : List Nat} (h : Stk w sb t cs so base lv bs) {PF : Option Addr} {cf : Nat} {fs : List FnD} (hp : RdF w PF fs) (hfn : fs.length ≤ 1000) (ds : List FU) (hll : ds.length = bs.length)
    (hF : ∀ (i b : Nat) (d : FU), bs[i]? = some b → ds[i]? = some d → Blk w b 40 d.cs ∧ 0 ≤ d.pc ∧ d.pc ≤ 9223372036854775807) (hn : bs.length < 100000) (th : V) (hr : findU fs ds bs.length = none) :
    Calls Try.prog 32 #[.agg #[.slice PF fs.length cf], .pointer (some ⟨sb, so, none⟩), th.agg] w (CatchD w sb t cs so base lv bs ds none th) := by
  have HS := Lib.hid h
  have HP := Lib.hid hp
  have HF := Lib.hid hF
  have HR := Lib.hid hr
  have hsl := h.blk.lt
  clear h hp hF hr
  unfold V.agg
  go_enter Try.func32, Try.ntmps32
  go_wp2_with (first
    | (go_at_call 31; (refine (find_any (by exact (HS.out.alloc _).alloc _) (by exact HP.out.kp (((Kp.refl (fun _ => False) w).alloc _).alloc _) (fun _ _ => id) (fun _ _ _ _ => id)) hfn ds hll (fun i b d h1 h2 => ⟨((HF.out i b d h1 h2).1.alloc _).alloc _, (HF.out i b d h1 h2).2⟩) (by omega)).mono ?_; rintro e w2 ⟨rfl, hb2⟩; rw [HR.out]; have hb2' : Kp (fun _ => False) w w2 := (((Kp.refl (fun _ => False) w).alloc _).alloc _).trans (Kp.of_below hb2) (fun _ _ => id); have R1 := Lib.hid hb2'; have hsz : w.heap.size + 1 < w2.heap.size := Nat.lt_of_lt_of_le (by simp) hb2.size; have hx1 : w2.cell? ⟨w.heap.size + 1, 0, none⟩ = some (.int .i64 th.k) := (hb2.cell (by simp)).trans ((Blk.made (by simp) 25 [.int .i64 th.k, .int .i64 th.n, .string th.s]).cell rfl); clear hb2 hb2'; unfold atU tryU TryD.agg TryD.zero))
    | (go_at_call 34; (refine (cut_any (by exact Stk.alloc (HS.out.kp R1.out id (fun _ _ => id)) _) (-1) 0 (by decide) (by decide) hn).mono ?_; rintro e w3 ⟨v, lv', rfl, h1, h2, h3, h4⟩; have R2 := Lib.hid (And.intro h1 (And.intro h2 (And.intro h3 h4))); clear h1 h2 h3 h4)))
  refine bodyPost_ret (v := .tuple #[v, .bool false]) (by simp [results, Try.results32, go_sem]) rfl ?_
  obtain ⟨h1, h2, h3, h4⟩ := R2.out
  exact ⟨v, lv', rfl, own_base h1 (by simp; omega), h2, h4, (Kp.mono (T := fun b => b = sb ∨ lv.ownBlock = some b) R1.out (fun _ _ h => h.elim)).trans (((Kp.refl (fun b => b = sb ∨ lv.ownBlock = some b) w2).alloc _).trans h3 (fun _ _ h => h)) (fun _ _ h => h)⟩
set_option maxRecDepth 100000 in
set_option maxHeartbeats 2000000 in
theorem catch_some {w : World} {sb : Nat} {t : TypeId} {cs : List Value} {so base : Nat} {lv : Value} {bs : List Nat} (h : Stk w sb t cs so base lv bs) (ht1 : t ≠ 40) (ht2 : t ≠ 25) {PF : Option Addr} {cf : Nat} {fs : List FnD} (hp : RdF w PF fs) (hfn : fs.length ≤ 1000) (ds : List FU) (hll : ds.length = bs.length)
    (hF : ∀ (i b : Nat) (d : FU), bs[i]? = some b → ds[i]? = some d → Blk w b 40 d.cs ∧ 0 ≤ d.pc ∧ d.pc ≤ 9223372036854775807) (hn : bs.length < 100000) (th : V) {i : Nat} {tt : TryD} (hr : findU fs ds bs.length = some (i, tt))
    {b : Nat} {d : FU} (hb : bs[i]? = some b) (hd : ds[i]? = some d) {R : Nat} {regs : List V} {c : Nat} (hrg : d.rg = .slice (some ⟨R, 0, none⟩) regs.length c) (hR : Blk w R 25 (vcs regs)) (q : Nat) (htr : tt.rg = q) (hq : q < regs.length) (hqn : regs.length ≤ 100000) :
    Calls Try.prog 32 #[.agg #[.slice PF fs.length cf], .pointer (some ⟨sb, so, none⟩), th.agg] w (CatchD w sb t cs so base lv bs ds (some (i, tt)) th) := by
  obtain ⟨o1, o2⟩ := h.off (hF i b d hb hd).1 (Ne.symm ht1) (by decide)
  obtain ⟨o3, o4⟩ := h.off hR (Ne.symm ht2) (by decide)
  have hil : i < bs.length := (List.getElem?_eq_some_iff.1 hb).1
  have hbR : b ≠ R := by
    rintro rfl
    have h1 := (hF i b d hb hd).1
    unfold Blk at h1 hR
    rw [h1] at hR
    injection hR with e
    injection e with _ e
    cases e
  have hbl := (hF i b d hb hd).1.lt
  have hRl := hR.lt
  have htk : (bs.take (i + 1)).getLast? = some b := by
    rw [List.getLast?_eq_getElem?, List.length_take, Nat.min_eq_left (by omega)]
    simpa [List.getElem?_take] using hb
  have HS := Lib.hid h
  have HP := Lib.hid hp
  have HF := Lib.hid hF
  have HR := Lib.hid hr
  have HB := Lib.hid (And.intro hb (And.intro hd (And.intro hrg (And.intro hR (And.intro o1 (And.intro o2 (And.intro o3 (And.intro o4 (And.intro hbR htk)))))))))
  have hsl := h.blk.lt
  have q1 : (q : Int) < (regs.length : Int) := by omega
  have q2 : (0 : Int) ≤ (q : Int) := by omega
  clear h hp hF hr hb hd hrg hR o1 o2 o3 o4 hbR htk
  unfold V.agg
  go_enter Try.func32, Try.ntmps32
  go_wp2_with (first
    | (go_at_call 31; (refine (find_any (by exact (HS.out.alloc _).alloc _) (by exact HP.out.kp (((Kp.refl (fun _ => False) w).alloc _).alloc _) (fun _ _ => id) (fun _ _ _ _ => id)) hfn ds hll (fun i b d h1 h2 => ⟨((HF.out i b d h1 h2).1.alloc _).alloc _, (HF.out i b d h1 h2).2⟩) (by omega)).mono ?_; rintro e w2 ⟨rfl, hb2⟩; rw [HR.out]; have hb2' : Kp (fun _ => False) w w2 := (((Kp.refl (fun _ => False) w).alloc _).alloc _).trans (Kp.of_below hb2) (fun _ _ => id); have R1 := Lib.hid hb2'; have hsz : w.heap.size + 1 < w2.heap.size := Nat.lt_of_lt_of_le (by simp) hb2.size; have hx1 : Hid (Blk w2 (w.heap.size + 1) 25 [.int .i64 th.k, .int .i64 th.n, .string th.s]) := Lib.hid ((Blk.made (by simp) 25 [.int .i64 th.k, .int .i64 th.n, .string th.s]).below hb2 (by simp)); clear hb2 hb2'; unfold atU tryU TryD.agg))
    | (go_at_call 34; (refine (cut_any (by exact Stk.alloc (HS.out.kp R1.out id (fun _ _ => id)) _) (i : Int) (i + 1) (by omega) (by omega) hn).mono ?_; rintro e w3 ⟨v, lv', rfl, h1, h2, h3, h4⟩; have R2 := Lib.hid (And.intro h1 (And.intro h2 (And.intro h3 h4))); have hb3 : Hid (Blk w3 b 40 d.cs) := Lib.hid (((((HF.out i b d HB.out.1 HB.out.2.1).1.kp R1.out id).alloc _).kp h3 (fun h => by rcases h with h | h; exact HB.out.2.2.2.2.1 h; exact HB.out.2.2.2.2.2.1 h))); have hR3 : Hid (Blk w3 R 25 (vcs regs)) := Lib.hid ((((HB.out.2.2.2.1.kp R1.out id).alloc _).kp h3 (fun h => by rcases h with h | h; exact HB.out.2.2.2.2.2.2.1 h; exact HB.out.2.2.2.2.2.2.2.1 h))); have hx3 : Hid (Blk w3 (w.heap.size + 1) 25 [.int .i64 th.k, .int .i64 th.n, .string th.s]) := Lib.hid (((hx1.out.alloc _).kp h3 (fun h => by rcases h with h | h; (omega); (have := (World.ownsRow.lt HS.out.own _ h).2; omega)))); have ht3 : Hid (Blk w3 w2.heap.size 57 [.int .i64 tt.fr, .int .i64 tt.up, .int .i64 tt.tg, .int .i64 (q : Int)]) := Lib.hid ((Blk.kp (S := fun b => b = sb ∨ lv.ownBlock = some b) (Blk.new w2 57 [.int .i64 tt.fr, .int .i64 tt.up, .int .i64 tt.tg, .int .i64 (q : Int)]) h3 (fun h => by rcases h with h | h; (omega); (have := (World.ownsRow.lt HS.out.own _ h).2; omega)))); have hsz3 : w2.heap.size < w3.heap.size := Nat.lt_of_lt_of_le (by simp) h3.size; clear h1 h2 h3 h4))
    | (go_at_call 33; (refine (top_some R2.out.2.1 HB.out.2.2.2.2.2.2.2.2.2 (by simp; omega)).mono ?_; rintro e w4 ⟨rfl, nn, rfl⟩; have c2 : w3.cell? ⟨w2.heap.size, 2, none⟩ = some (.int .i64 tt.tg) := ht3.out.cell rfl; have c3 : w3.cell? ⟨w2.heap.size, 3, none⟩ = some (.int .i64 (q : Int)) := ht3.out.cell rfl; have x0 : w3.cell? ⟨w.heap.size + 1, 0, none⟩ = some (.int .i64 th.k) := hx3.out.cell rfl; have x1 : w3.cell? ⟨w.heap.size + 1, 1, none⟩ = some (.int .i64 th.n) := hx3.out.cell rfl; have x2 : w3.cell? ⟨w.heap.size + 1, 2, none⟩ = some (.string th.s) := hx3.out.cell rfl; have b7 : w3.cell? ⟨b, 7, none⟩ = some (.slice (some ⟨R, 0, none⟩) regs.length c) := (by rw [hb3.out.cell (i := 7) rfl, HB.out.2.2.1]); have b8 : w3.cell? ⟨b, 8, none⟩ = some (.int .i64 d.pc) := hb3.out.cell rfl; have f8 := hb3.out.frozen 8; have g0 := hR3.out.frozen (q * 3); have g1 := hR3.out.frozen (q * 3 + 1); have g2 := hR3.out.frozen (q * 3 + 2); have r0 : ∃ u, w3.cell? ⟨R, q * 3, none⟩ = some u := ⟨_, hR3.out.cell (List.getElem?_eq_getElem (by rw [vcs_length]; omega))⟩; have r1 : ∃ u, w3.cell? ⟨R, q * 3 + 1, none⟩ = some u := ⟨_, hR3.out.cell (List.getElem?_eq_getElem (by rw [vcs_length]; omega))⟩; have r2 : ∃ u, w3.cell? ⟨R, q * 3 + 2, none⟩ = some u := ⟨_, hR3.out.cell (List.getElem?_eq_getElem (by rw [vcs_length]; omega))⟩; obtain ⟨u0, r0⟩ := r0; obtain ⟨u1, r1⟩ := r1; obtain ⟨u2, r2⟩ := r2; have n1 : b ≠ w2.heap.size := (by omega); have n2 : b ≠ w.heap.size + 1 := (by omega); have n3 : R ≠ w2.heap.size := (by omega); have n4 : R ≠ w.heap.size + 1 := (by omega); have n5 : b ≠ R := HB.out.2.2.2.2.2.2.2.2.1; unfold ptr)))
  go_region
  go_wp2
  refine bodyPost_ret (v := .tuple #[v, .bool true]) (by simp [results, Try.results32, go_sem]) rfl ?_
  obtain ⟨h1, h2, h3, h4⟩ := R2.out
  obtain ⟨hb, hd, hrg, hR, o1, o2, o3, o4, hbR, htk⟩ := HB.out
  have e : (atU (some (i, tt)) + 1).toNat = i + 1 := by show ((i : Int) + 1).toNat = _; omega
  have kf : Kp (fun x => x = b ∨ x = R) w3 ((((((w3.drewN nn).setCell ⟨b, 8, none⟩ (.int .i64 tt.tg)).setCell ⟨R, q * 3, none⟩ (.int .i64 th.k)).setCell ⟨R, q * 3 + 1, none⟩ (.int .i64 th.n)).setCell ⟨R, q * 3 + 2, none⟩ (.string th.s)).drew) :=
    ((((((Kp.refl _ w3).drewN nn).setCell (.inr (.inl rfl)) _).setCell (.inr (.inr rfl)) _).setCell (.inr (.inr rfl)) _).setCell (.inr (.inr rfl)) _).drew
  have hE := e
  refine ⟨v, lv', rfl, ?_, ?_, h4, b, d, R, regs, c, hb, hd, hrg, hR, ?_, ?_, ?_⟩
  · rw [hE]
    refine own_base (own_keep h1 kf (fun g hg hx => ?_)) (by simp; omega)
    have := (World.ownsRow.lt h1 g hg).1
    simp at this
    rcases hx with rfl | rfl <;> omega
  · rw [hE]
    refine h2.kp kf (fun hx => ?_) (fun g hg hx => ?_)
    · rcases hx with hx | hx
      · exact o1 hx.symm
      · exact o3 hx.symm
    · rw [h4] at hg
      rcases hx with rfl | rfl
      · exact o2 hg
      · exact o4 hg
  · exact ((((((hb3.out.drewN nn).set_ 8 (.int .i64 tt.tg)).far (p := ⟨R, q * 3, none⟩) hbR _).far (p := ⟨R, q * 3 + 1, none⟩) hbR _).far (p := ⟨R, q * 3 + 2, none⟩) hbR _).drew)
  · rw [htr, Int.toNat_natCast]
    exact set_cells ((hR3.out.drewN nn).far (p := ⟨b, 8, none⟩) (Ne.symm hbR) _) th hq
  · exact ((Kp.mono (T := fun b => b = sb ∨ lv.ownBlock = some b) R1.out (fun _ _ h => h.elim)).trans (((Kp.refl (fun b => b = sb ∨ lv.ownBlock = some b) w2).alloc _).trans h3 (fun _ _ h => h)) (fun _ _ h => h)).mono (T := fun x => x = sb ∨ lv.ownBlock = some x ∨ x = b ∨ x = R) (fun _ _ h => h.elim .inl (fun h => .inr (.inl h))) |>.trans kf (fun _ _ h => .inr (.inr h))
end Go.Proofs.Ytpcamgjfikipgaa
