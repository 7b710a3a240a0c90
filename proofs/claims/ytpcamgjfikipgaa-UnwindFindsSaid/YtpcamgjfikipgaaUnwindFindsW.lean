/- dreylaw21.UnwindFinds where its guards let go on. Conditions: at most 20 tries, at most 40 steps. -/
import Derived.Test.YtpcamgjfikipgaaCatches
import Derived.BigQuiet
namespace Go.Proofs.Ytpcamgjfikipgaa
open Go.RowKit
set_option linter.unusedVariables false
theorem findZ_hit {ts : List TryD} {zs : List Int} {n : Nat} {z : Int} {t : TryD} (h : zs[n]? = some z) (hz : 0 ≤ z) (hf : first ts (z - 1) = some t) : findZ ts zs (n + 1) = some (n, t) := by
  unfold findZ
  rw [h]
  simp only [Option.bind_some]
  rw [if_neg (by omega), hf]
theorem findZ_skip {ts : List TryD} {zs : List Int} {n : Nat} {z : Int} (h : zs[n]? = some z) (hf : z < 0 ∨ first ts (z - 1) = none) : findZ ts zs (n + 1) = findZ ts zs n := by
  conv => lhs; unfold findZ
  rw [h]
  simp only [Option.bind_some]
  split
  · rename_i t ht
    split at ht
    · cases ht
    · rcases hf with hf | hf
      · omega
      · rw [hf] at ht; cases ht
  · rfl
theorem findZ_some {ts : List TryD} {zs : List Int} {n i : Nat} {t : TryD} (h : findZ ts zs n = some (i, t)) : i < n ∧ t ∈ ts := by
  induction n with
  | zero => simp [findZ] at h
  | succ n ih =>
    unfold findZ at h
    split at h
    · rename_i t' ht
      injection h with h
      injection h with h1 h2
      subst h1; subst h2
      refine ⟨by omega, ?_⟩
      rcases hz : zs[n]? with _ | z
      · rw [hz] at ht; cases ht
      · rw [hz] at ht
        simp only [Option.bind_some] at ht
        split at ht
        · cases ht
        · unfold first at ht; exact List.mem_of_find?_eq_some ht
    · have := ih h
      exact ⟨by omega, this.2⟩
theorem blk_put {w : World} {g : Nat} (t0 t : TryD) (h : Blk w g 57 t0.cs) (o : Obj) : Blk ((((((w.setCell ⟨g, 0, none⟩ (.int .i64 t.fr)).setCell ⟨g, 1, none⟩ (.int .i64 t.up)).setCell ⟨g, 2, none⟩ (.int .i64 t.tg)).setCell ⟨g, 3, none⟩ (.int .i64 t.rg)).alloc o).drew) g 57 t.cs :=
  (((((h.set_ 0 (.int .i64 t.fr)).set_ 1 (.int .i64 t.up)).set_ 2 (.int .i64 t.tg)).set_ 3 (.int .i64 t.rg)).alloc o).drew
theorem kp_put {w0 w : World} {g : Nat} (t : TryD) (h : Kp (fun b => b = g) w0 w) (o : Obj) : Kp (fun b => b = g) w0 ((((((w.setCell ⟨g, 0, none⟩ (.int .i64 t.fr)).setCell ⟨g, 1, none⟩ (.int .i64 t.up)).setCell ⟨g, 2, none⟩ (.int .i64 t.tg)).setCell ⟨g, 3, none⟩ (.int .i64 t.rg)).alloc o).drew) :=
  (((((h.setCell (.inr rfl) _).setCell (.inr rfl) _).setCell (.inr rfl) _).setCell (.inr rfl) _).alloc o).drew
theorem run_same_T (t : TryD) (d : Nat) (W : World) : (Op.equalIn (d + 3) 57 t.agg t.agg).run Try.prog W = .ok true W := by
  unfold TryD.agg
  rw [run_equalIn_struct W (d + 2) 57 _ _ (by kernel_rfl) (by kernel_rfl)]
  go_simp
theorem teq_self (t : TryD) (W : World) : (binOp .neq 57 t.agg t.agg).run Try.prog W = .ok (.bool false) W := by
  unfold TryD.agg
  rw [run_neq_struct]
  have h := run_same_T t 9997 W
  unfold TryD.agg at h
  rw [h]
  rfl

theorem own_off {w : World} {base n : Nat} {v : Value} {xs : List Value} {e size : Nat} (h : w.ownsRow base e size v n xs) {g b t : Nat} {cs : List Value} (hg : v.ownBlock = some g) (hb : Blk w b t cs) (ht : t ≠ e) : g ≠ b := by
  rintro rfl
  rcases h.2 with ⟨rfl, _⟩ | ⟨g', cap, cur, rfl, _, hh, _⟩
  · simp [Value.ownBlock] at hg
  · have : g' = g := by simpa [Value.ownBlock] using hg
    subst this
    unfold Blk at hb
    rw [hb] at hh
    injection hh with hh
    injection hh with _ hh
    exact ht hh
/-- What stands behind a Catch that catches. -/
def AftC (wr w5 : World) (sb m p i q : Nat) (tg : Int) (bs : List Nat) (A3 : Option Addr) (c3 : Nat) (th : V) (e : Ending) : Prop :=
  ∃ (A6 : Option Addr) (c6 : Nat) (lv5 : Value) (b R cr b6 : Nat), e = .returned (.tuple #[.slice A6 p c6, .bool true]) ∧ w5.ownsRow b6 35 1 (.slice A6 p c6) p ((bs.drop (i + 1)).reverse.map ptr) ∧ Stk w5 sb 47 [lv5] 0 wr.heap.size lv5 (bs.take (i + 1)) ∧
    bs[i]? = some b ∧ w5.cell? ⟨b, 7, none⟩ = some (.slice (some ⟨R, 0, none⟩) 2 cr) ∧ w5.cell? ⟨b, 8, none⟩ = some (.int .i64 tg) ∧ w5.cell? ⟨R, q * 3, none⟩ = some (.int .i64 th.k) ∧ w5.cell? ⟨R, q * 3 + 1, none⟩ = some (.int .i64 th.n) ∧ w5.cell? ⟨R, q * 3 + 2, none⟩ = some (.string th.s) ∧
    Below wr.heap.size wr w5 ∧ w5.ownsRow wr.heap.size 35 1 (.slice A3 m c3) m (bs.map ptr)
theorem after_catch {wr w3 W w5 : World} {sb m c3 p i q : Nat} {lv : Value} {A3 : Option Addr} {ps : List (Nat × FU)} {fr up tg : Int} {th : V} {e : Ending} {fs0 : List FnD} {n0 : Nat} {t0 : TryD} (hfu : findU fs0 (ps.map (·.2)) n0 = some (i, t0))
    (hP : PG (FrB wr.heap.size) w3 sb wr.heap.size lv (.slice A3 m c3) ps) (hm : (ps.map (·.1)).length = m) (hp : m = i + 1 + p) (hq : q < 2) (hsb : wr.heap.size ≤ sb) (h3 : Below wr.heap.size wr w3) (hwant : w3.ownsRow wr.heap.size 35 1 (.slice A3 m c3) m ((ps.map (·.1)).map ptr))
    (k3 : Kp (fun _ => False) w3 W) (h : CatchD W sb 47 [lv] 0 wr.heap.size lv (ps.map (·.1)) (ps.map (·.2)) (some (i, ⟨fr, up, tg, (q : Int)⟩)) th e w5) : AftC wr w5 sb m p i q tg (ps.map (·.1)) A3 c3 th e := by
  obtain ⟨v, lv', rfl, ho, hs, hlv, b, d, R, regs, c, hb, hd, hrg, hR, hb5, hR5, hk⟩ := h
  have e0 : (atU (some (i, (⟨fr, up, tg, (q : Int)⟩ : TryD))) + 1).toNat = i + 1 := by show ((i : Int) + 1).toNat = _; omega
  rw [e0] at ho hs
  have hl : ((ps.map (·.1)).drop (i + 1)).length = p := by rw [List.length_drop, hm]; omega
  rw [hl] at ho
  obtain ⟨A6, c6, rfl, _⟩ := own_form ho
  obtain ⟨pr, hpr⟩ : ∃ pr, ps[i]? = some pr := by
    rw [List.getElem?_map] at hb
    rcases h : ps[i]? with _ | x
    · rw [h] at hb; cases hb
    · exact ⟨x, rfl⟩
  rw [List.getElem?_map, hpr] at hb hd
  simp only [Option.map_some, Option.some.injEq] at hb hd
  subst hb; subst hd
  obtain ⟨⟨f1, f2, f3⟩, f4, f5⟩ := hP.frs pr (List.mem_of_getElem? hpr)
  have hrl : regs.length = 2 := by
    rcases f3 with ⟨_, _, R', regs', h1, _, h2⟩ | ⟨sx, hsx⟩
    · rw [hrg] at h1; injection h1
    · exfalso
      obtain ⟨_, d, hd, hl⟩ := findU_some hfu
      rw [List.getElem?_map, hpr] at hd
      simp at hd
      subst hd
      unfold FU.look at hl
      rw [if_neg (by rw [hsx]; simp)] at hl
      cases hl
  have hR3 := f5 _ _ _ hrg
  have k : Kp (fun x => x = sb ∨ lv.ownBlock = some x ∨ x = pr.1 ∨ x = R) w3 w5 := (Kp.mono (T := fun x => x = sb ∨ lv.ownBlock = some x ∨ x = pr.1 ∨ x = R) k3 (fun _ _ h => h.elim)).trans hk (fun _ _ h => h)
  have hge : ∀ x, (x = sb ∨ lv.ownBlock = some x ∨ x = pr.1 ∨ x = R) → wr.heap.size ≤ x := fun x hx => by
    rcases hx with rfl | hx | rfl | rfl
    · exact hsb
    · exact (World.ownsRow.lt hP.stk.own x hx).1
    · exact f4
    · exact hR3
  have hth : (regs.set q th)[q]? = some th := by rw [List.getElem?_set_self (by omega)]
  have hR6 : Blk w5 R 25 (vcs (regs.set q th)) := by
    have := hR5
    simp only [Int.toNat_natCast] at this
    exact this
  obtain ⟨t0, t1, t2⟩ := vcs_at hth
  have hWw : W.ownsRow wr.heap.size 35 1 (.slice A3 m c3) m ((ps.map (·.1)).map ptr) := own_kp hwant k3 (fun _ _ => id)
  refine ⟨A6, c6, lv', pr.1, R, c, _, rfl, ho, hs, by rw [List.getElem?_map, hpr]; rfl, ?_, hb5.cell rfl, hR6.cell t0, hR6.cell t1, hR6.cell t2, h3.trans (kp_below2 k h3.size hge), own_kp hWw hk (fun g hg hx => ?_)⟩
  · rw [hb5.cell (i := 7) (v := pr.2.rg) rfl, hrg, hrl]
  · rcases hx with rfl | hx | rfl | rfl
    · exact hP.wne hg
    · exact hP.apart g hg hx
    · exact own_off hwant hg f1 (by decide) rfl
    · exact own_off hWw hg hR (by decide) rfl
set_option maxRecDepth 100000 in
set_option maxHeartbeats 8000000 in
theorem unwindFinds_walk (n c m cm : Nat) (hn : n ≤ 20) (hm : m ≤ 40) (A B : Option Addr) (ts : List TryD) (zs : List Int) (th : V) (w : World) (ht : RdT w A n ts) (hz : Rd w B m 1 (zs.map (Value.int .i64))) (hzb : ∀ z ∈ zs, z ≤ 9223372036854775807) :
    Calls Try.prog 6 #[.slice A n c, .slice B m cm, th.agg] w fun e w' => e = .returned (.bool true) ∧ Below w.heap.size w w' := by
  have hmf : ∀ (fn : Fn) (first cap : Array Value) (w : World), (Instr.makeFunc fn first cap).run Try.prog w = .ok (.func fn first cap) w := fun _ _ _ _ => rfl
  have t1 : decide ((20 : Int) < (n : Int)) = false := by simp; omega
  have t2 : decide ((40 : Int) < (m : Int)) = false := by simp; omega
  have hzl : zs.length = m := by have := hz.1; simpa using this
  have htl := ht.len
  have HT := Lib.hid ht
  have HZ := Lib.hid hz
  have HZB := Lib.hid hzb
  clear ht hz hzb
  unfold V.agg
  go_enter Try.func6, Try.ntmps6
  go_wp2_with (go_at_call 28; refine (catches_walk _).mono ?_; rintro e w1 ⟨rfl, hb1⟩; have HB1 : Hid (Below w.heap.size w w1) := below_chain hb1 (below_alloc (below_alloc (Below.refl _ _) _) _); have HP4 : Hid (Blk w1 w.heap.size 44 [.slice B m cm]) := ((Blk.new w 44 [.slice B m cm]).alloc _).below hb1 (by simp; omega); have HT5 : Hid (Blk w1 (w.heap.size + 1) 25 th.cs) := (Blk.made (by simp) 25 th.cs).below hb1 (by simp); have hx4 := HP4.out.cell (i := 0) rfl; clear hb1)
  go_loopg [40] n (fun gk i wr => ∃ k : Nat, k ≤ n ∧ gk = n - k ∧ i = .int .i64 k ∧ (∀ t ∈ ts.take k, 0 ≤ t.rg ∧ t.rg ≤ 1) ∧ Below w1.heap.size w1 wr)
  case atStart => exact ⟨0, Nat.zero_le _, rfl, rfl, by simp, Below.refl _ _⟩
  case round =>
    obtain ⟨k, hk, hgk, rfl, hall, hb⟩ := hrel
    have HG := Lib.hid hgk
    have HALL := Lib.hid hall
    have HB := Lib.hid hb
    have HTW : Hid (RdT wr A n ts) := ((HT.out.below HB1.out).below hb)
    have HW : Hid (Below w.heap.size w wr) := HB1.out.trans (hb.mono HB1.out.size)
    have P4 : Hid (Blk wr w.heap.size 44 [.slice B m cm]) := HP4.out.below hb HP4.out.lt
    have T5 : Hid (Blk wr (w.heap.size + 1) 25 th.cs) := HT5.out.below hb HT5.out.lt
    clear hgk hall hb
    by_cases hlt : k < n
    · obtain ⟨b, o, t, rfl, hbl, hti, e0, e1, e2, e3⟩ := HTW.out.at_ hlt
      obtain ⟨fr, up, tg, rg⟩ := t
      simp only at e0 e1 e2 e3
      have HTI := Lib.hid hti
      have hbelow : Hid (∀ o, Below w1.heap.size w1 (wr.alloc o)) := fun o => below_alloc HB.out o
      clear hti
      by_cases h0 : rg < 0
      · have q1 : decide (rg < 0) = true := by simpa using h0
        go_wp2
        go_ret
        exact ⟨rfl, below_alloc HW.out _⟩
      · have q1 : decide (rg < 0) = false := by simpa using h0
        by_cases h1 : 1 < rg
        · have q2 : decide (1 < rg) = true := by simpa using h1
          go_wp2
          go_ret
          exact ⟨rfl, below_alloc HW.out _⟩
        · have q2 : decide (1 < rg) = false := by simpa using h1
          go_wp2
          go_roundg (n - (k + 1))
          case rel =>
            refine ⟨k + 1, by omega, rfl, by go_num, fun t ht => ?_, hbelow.out _⟩
            rw [List.take_add_one, HTI.out] at ht
            rcases List.mem_append.1 ht with ht | ht
            · exact HALL.out t ht
            · simp at ht
              subst ht
              exact ⟨by simpa using h0, by simpa using h1⟩
          case measure => (have := HG.out; omega)
    · obtain rfl : n = k := by omega
      have hregs : Hid (∀ t ∈ ts, 0 ≤ t.rg ∧ t.rg ≤ 1) := by
        have h := HALL.out
        rw [← htl, List.take_length] at h
        exact h
      have hwl : w.heap.size + 1 < wr.heap.size := T5.out.lt
      obtain ⟨wo, rfl⟩ : ∃ wo : World, wo = wr := ⟨_, rfl⟩
      obtain ⟨H, hH⟩ : ∃ H, wo.heap.size = H := ⟨_, rfl⟩
      have hh0 : w.heap.size < H := by omega
      have hh1 : w.heap.size < H + 2 := by omega
      have hh2 : w.heap.size < H + 2 + 1 := by omega
      go_wp2_with (go_at_call 29; refine (one_any HTW.out H hH).mono ?_; rintro e w2 ⟨rfl, hf2, hb2, hs2⟩; have F2 := Lib.hid hf2; have B2 := Lib.hid hb2; have P42 : Hid (Blk w2 w.heap.size 44 [.slice B m cm]) := P4.out.below hb2 P4.out.lt; have y4 := P42.out.cell (i := 0) rfl; clear hf2 hb2)
      obtain ⟨wb, hwb⟩ : ∃ wb : World, wb = (w2.alloc (.cells #[.slice (some ⟨H + 1, 0, none⟩) 1 1] 60)).alloc (.cells #[.int .i64 0, .int .i64 0, .int .i64 0, .int .i64 0] 57) := ⟨_, rfl⟩
      have hbw : Hid (Below w.heap.size w wb) := by
        subst hwb
        have h1 := HW.out.trans (B2.out.mono HW.out.size)
        exact below_alloc (below_alloc h1 _) _
      have hbo : Hid (Below wo.heap.size wo wb) := by
        subst hwb
        exact below_alloc (below_alloc B2.out _) _
      have hbs : wb.heap.size = H + 2 + 1 + 1 := by subst hwb; simp [hs2]
      have hQ : Hid (Blk wb (H + 2) 60 [.slice (some ⟨H + 1, 0, none⟩) 1 1]) := by
        subst hwb
        exact (Blk.made hs2 60 _).alloc _
      have hF : Hid (Blk wb (H + 1) 33 (FnD.cs ⟨2, ts, A, c⟩)) := by
        subst hwb
        exact (F2.out.alloc _).alloc _
      have hP4b : Hid (Blk wb w.heap.size 44 [.slice B m cm]) := by
        subst hwb
        exact (P42.out.alloc _).alloc _
      have hT5b : Hid (Blk wb (w.heap.size + 1) 25 th.cs) := T5.out.below hbo.out hwl
      have hWBb : Hid (Blk wb (H + 2 + 1) 57 TryD.zero.cs) := by
        subst hwb
        exact Blk.made (by simp [hs2]) 57 TryD.zero.cs
      go_loopg [11, 59] m (fun gk s11 i wr => ∃ k : Nat, k ≤ m ∧ gk = m - k ∧ i = .int .i64 k ∧ s11 = .int .i64 (atU (findZ ts zs k)) ∧ Blk wr (H + 2 + 1) 57 (tryU (findZ ts zs k)).cs ∧ Kp (fun b => b = H + 2 + 1) wb wr)
      case atStart =>
        rw [← hwb]
        exact ⟨0, Nat.zero_le _, rfl, rfl, rfl, hWBb.out, Kp.refl _ _⟩
      case round =>
        obtain ⟨j, hj, hgk, rfl, rfl, hblk, hkp⟩ := hrel
        have HG2 := Lib.hid hgk
        have HBK := Lib.hid hblk
        have HKP := Lib.hid hkp
        have HWR : Hid (Below w.heap.size w wr) := hbw.out.trans (kp_below2 hkp hbw.out.size (fun b hb => by omega))
        have hws : H + 2 + 1 < wr.heap.size := hblk.lt
        clear hgk hblk hkp
        by_cases hlt2 : j < m
        · obtain ⟨x, hx⟩ : ∃ x, zs[j]? = some x := ⟨_, List.getElem?_eq_getElem (by omega)⟩
          obtain ⟨b, o, rfl, hbl, hc⟩ := Rd.one (HZ.out.below HWR.out) (i := j) (u := .int .i64 x) (by simp [hx])
          have hxb := HZB.out x (List.mem_of_getElem? hx)
          have HX := Lib.hid hx
          clear hx
          by_cases hneg : x < 0
          · have q1 : decide (x < 0) = true := by simpa using hneg
            have HN := Lib.hid hneg
            clear hneg hxb
            go_wp2
            go_roundg (m - (j + 1))
            case rel => exact ⟨j + 1, by omega, rfl, by go_num, by rw [findZ_skip HX.out (.inl HN.out)], by rw [findZ_skip HX.out (.inl HN.out)]; exact HBK.out, HKP.out⟩
            case measure => (have := HG2.out; omega)
          · have q1 : decide (x < 0) = false := by simpa using hneg
            have hpcw : IntKind.i64.wrap (x - 1) = x - 1 := IntWalk.i64_in _ (by omega)
            have HNN := Lib.hid hneg
            clear hneg
            obtain ⟨wi, rfl⟩ : ∃ wi : World, wi = wr := ⟨_, rfl⟩
            go_wp2
            go_loopg [11, 68] n (fun gk s11 i wr => ∃ l : Nat, l ≤ n ∧ gk = n - l ∧ i = .int .i64 l ∧ s11 = .int .i64 (atU (findZ ts zs j)) ∧ first (ts.take l) (x - 1) = none ∧ Blk wr (H + 2 + 1) 57 (tryU (findZ ts zs j)).cs ∧ Kp (fun b => b = H + 2 + 1) wb wr)
            case atStart => exact ⟨0, Nat.zero_le _, rfl, rfl, rfl, rfl, HBK.out, HKP.out⟩
            case round =>
              obtain ⟨l, hl, hgk, rfl, rfl, hfi, hblk, hkp⟩ := hrel
              have v0 : wr.cell? ⟨H + 2 + 1, 0, none⟩ = some (.int .i64 (tryU (findZ ts zs j)).fr) := hblk.cell rfl
              have v1 : wr.cell? ⟨H + 2 + 1, 1, none⟩ = some (.int .i64 (tryU (findZ ts zs j)).up) := hblk.cell rfl
              have v2 : wr.cell? ⟨H + 2 + 1, 2, none⟩ = some (.int .i64 (tryU (findZ ts zs j)).tg) := hblk.cell rfl
              have v3 : wr.cell? ⟨H + 2 + 1, 3, none⟩ = some (.int .i64 (tryU (findZ ts zs j)).rg) := hblk.cell rfl
              have HG3 := Lib.hid hgk
              have HB3 := Lib.hid hblk
              have HK3 := Lib.hid hkp
              have HFI := Lib.hid hfi
              have hws3 : H + 2 + 1 < wr.heap.size := hblk.lt
              have HTW3 : Hid (RdT wr A n ts) := HT.out.below (hbw.out.trans (kp_below2 hkp hbw.out.size (fun b hb => by omega)))
              have z0 := hblk.frozen 0
              have z1 := hblk.frozen 1
              have z2 := hblk.frozen 2
              have z3 := hblk.frozen 3
              clear hgk hblk hkp hfi
              by_cases hlt3 : l < n
              · obtain ⟨bt, ot, t, rfl, hbl, hti, e0, e1, e2, e3⟩ := HTW3.out.at_ hlt3
                obtain ⟨fr, up, tg, rg⟩ := t
                simp only at e0 e1 e2 e3
                have HTI := Lib.hid hti
                clear hti
                by_cases h1 : fr ≤ x - 1
                · by_cases h2 : x - 1 < up
                  · have q2 : decide (fr ≤ x - 1) = true := by simpa using h1
                    have q3 : decide (x - 1 < up) = true := by simpa using h2
                    have HIT : Hid (findZ ts zs (j + 1) = some (j, ⟨fr, up, tg, rg⟩)) := findZ_hit HX.out (by have := HNN.out; omega) (first_some HTI.out HFI.out (by simp [TryD.has, h1, h2]))
                    clear h1 h2
                    go_wp2
                    go_region
                    go_wp2
                    go_roundg (m - (j + 1))
                    case rel =>
                      refine ⟨j + 1, by omega, rfl, by go_num, ?_, ?_, ?_⟩
                      · rw [HIT.out]; rfl
                      · rw [HIT.out]
                        show Blk _ _ 57 (TryD.cs ⟨fr, up, tg, rg⟩)
                        exact blk_put _ ⟨fr, up, tg, rg⟩ HB3.out _
                      · exact kp_put ⟨fr, up, tg, rg⟩ HK3.out _
                    case measure => (have := HG2.out; omega)
                  · have q2 : decide (fr ≤ x - 1) = true := by simpa using h1
                    have q3 : decide (x - 1 < up) = false := by simpa using h2
                    have MISS : Hid (first (ts.take (l + 1)) (x - 1) = none) := first_none HTI.out HFI.out (by simp [TryD.has, h2])
                    clear h1 h2
                    go_wp2
                    go_roundg (n - (l + 1))
                    case rel => exact ⟨l + 1, by omega, rfl, by go_num, rfl, MISS.out, HB3.out.alloc _, HK3.out.alloc _⟩
                    case measure => (have := HG3.out; omega)
                · have q2 : decide (fr ≤ x - 1) = false := by simpa using h1
                  have MISS : Hid (first (ts.take (l + 1)) (x - 1) = none) := first_none HTI.out HFI.out (by simp [TryD.has, h1])
                  clear h1
                  go_wp2
                  go_roundg (n - (l + 1))
                  case rel => exact ⟨l + 1, by omega, rfl, by go_num, rfl, MISS.out, HB3.out.alloc _, HK3.out.alloc _⟩
                  case measure => (have := HG3.out; omega)
              · have hfn : Hid (first ts (x - 1) = none) := by
                  have h := HFI.out
                  rw [List.take_of_length_le (by omega)] at h
                  exact h
                go_wp2
                go_roundg (m - (j + 1))
                case rel => exact ⟨j + 1, by omega, rfl, by go_num, by rw [findZ_skip HX.out (.inr hfn.out)], by rw [findZ_skip HX.out (.inr hfn.out)]; exact HB3.out, HK3.out⟩
                case measure => (have := HG2.out; omega)
        · obtain rfl : m = j := by omega
          have P4r : Hid (Blk wr w.heap.size 44 [.slice B m cm]) := hP4b.out.kp HKP.out (by omega)
          have T5r : Hid (Blk wr (w.heap.size + 1) 25 th.cs) := hT5b.out.kp HKP.out (by omega)
          have Qr : Hid (Blk wr (H + 2) 60 [.slice (some ⟨H + 1, 0, none⟩) 1 1]) := hQ.out.kp HKP.out (by omega)
          have Fr : Hid (Blk wr (H + 1) 33 (FnD.cs ⟨2, ts, A, c⟩)) := hF.out.kp HKP.out (by omega)
          have HREG := hregs
          have HTr : Hid (RdT wr A ts.length ts) := by { rw [htl]; exact HT.out.below HWR.out }
          have y9 : wr.cell? ⟨H + 2, 0, none⟩ = some (.slice (some ⟨H + 1, 0, none⟩) 1 1) := Qr.out.cell rfl
          rcases hr : findZ ts zs m with _ | ⟨i, t⟩
          · have WBr : Hid (Blk wr (H + 2 + 1) 57 (TryD.cs TryD.zero)) := by
              have h := HBK.out
              rw [hr] at h
              exact h
            simp only [atU]
            have hteq := teq_self TryD.zero
            unfold TryD.agg TryD.zero at hteq
            simp only at hteq
            go_wp2_with (first
              | (go_at_call 30; refine (build_any P4r.out Qr.out Fr.out (HZ.out.below HWR.out) hm).mono ?_; rintro e w3 ⟨sb, lv, wv, ps, rfl, hpg, hpl, hok, hsb, hb3⟩; have hplm := hpl.trans hzl; have hwant := hpg.want; rw [hplm] at hwant; obtain ⟨A3, c3, rfl, hc3⟩ := own_form hwant; have PGX := Lib.hid hpg; have HPL := Lib.hid (And.intro hpl hplm); have HOK := Lib.hid hok; have HB3 := Lib.hid hb3; have HSB := Lib.hid hsb; have HWANT := Lib.hid hwant; have Q3 : Hid (Blk w3 (H + 2) 60 [.slice (some ⟨H + 1, 0, none⟩) 1 1]) := Qr.out.below hb3 Qr.out.lt; have y93 := Q3.out.cell (i := 0) rfl; have F3 : Hid (Blk w3 (H + 1) 33 (FnD.cs ⟨2, ts, A, c⟩)) := Fr.out.below hb3 Fr.out.lt; have P43 : Hid (Blk w3 w.heap.size 44 [.slice B m cm]) := P4r.out.below hb3 P4r.out.lt; have T53 : Hid (Blk w3 (w.heap.size + 1) 25 th.cs) := T5r.out.below hb3 T5r.out.lt; have WB3 : Hid (Blk w3 (H + 2 + 1) 57 (TryD.cs TryD.zero)) := WBr.out.below hb3 WBr.out.lt; clear hpg hpl hplm hok hsb hb3 hwant hc3; unfold ptr)
              | (go_at_call 31; refine (find_any PGX.out.stk (rdf_one F3.out ((HTr.out.below HB3.out)) (by simp; omega)) (by simp) (ps.map (·.2)) (by simp) (frs_find HZB.out (fun p hp => (PGX.out.frs p hp).1) HOK.out) (by simp; have := HPL.out.2; omega)).mono ?_; rintro e w4 ⟨rfl, hb4⟩; have HFU : findU [⟨2, ts, A, c⟩] (ps.map (·.2)) (ps.map (·.1)).length = none := by { rw [List.length_map, HPL.out.2, findU_eq HPL.out.1 (fun p hp => (PGX.out.frs p hp).1) HOK.out]; exact hr }; rw [HFU]; have HFUH := Lib.hid HFU; have HB4 := Lib.hid hb4; have ST4 : Hid (Stk w4 sb 47 [lv] 0 wr.heap.size lv (ps.map (·.1))) := PGX.out.stk.kp (S := fun _ => False) (Kp.of_below hb4) id (fun _ _ => id); have Q4 : Hid (Blk w4 (H + 2) 60 [.slice (some ⟨H + 1, 0, none⟩) 1 1]) := Q3.out.below hb4 Q3.out.lt; have P44 : Hid (Blk w4 w.heap.size 44 [.slice B m cm]) := P43.out.below hb4 P43.out.lt; have T54 : Hid (Blk w4 (w.heap.size + 1) 25 th.cs) := T53.out.below hb4 T53.out.lt; have WB4 : Hid (Blk w4 (H + 2 + 1) 57 (TryD.cs TryD.zero)) := WB3.out.below hb4 WB3.out.lt; have y94 := Q4.out.cell (i := 0) rfl; have p44 := P44.out.cell (i := 0) rfl; have k0 : w4.cell? ⟨w.heap.size + 1, 0, none⟩ = some (.int .i64 th.k) := T54.out.cell rfl; have k1 : w4.cell? ⟨w.heap.size + 1, 1, none⟩ = some (.int .i64 th.n) := T54.out.cell rfl; have k2 : w4.cell? ⟨w.heap.size + 1, 2, none⟩ = some (.string th.s) := T54.out.cell rfl; have v0 : w4.cell? ⟨H + 2 + 1, 0, none⟩ = some (.int .i64 0) := WB4.out.cell rfl; have v1 : w4.cell? ⟨H + 2 + 1, 1, none⟩ = some (.int .i64 0) := WB4.out.cell rfl; have v2 : w4.cell? ⟨H + 2 + 1, 2, none⟩ = some (.int .i64 0) := WB4.out.cell rfl; have v3 : w4.cell? ⟨H + 2 + 1, 3, none⟩ = some (.int .i64 0) := WB4.out.cell rfl; have hl1 := Q4.out.lt; have hl2 := P44.out.lt; have hl3 := T54.out.lt; have hl4 := WB4.out.lt; clear HFU hb4; unfold atU tryU TryD.agg TryD.zero))
            have hlm : (ps.map (·.1)).length = m := by rw [List.length_map]; exact HPL.out.2
            have HLM := Lib.hid hlm
            clear hlm
            have HC : Hid (∀ W, Kp (fun _ => False) w4 W → Calls Try.prog 32 #[.agg #[.slice (some ⟨H + 1, 0, none⟩) 1 1], .pointer (some ⟨sb, 0, none⟩), .agg #[.int .i64 th.k, .int .i64 th.n, .string th.s]] W (CatchD W sb 47 [lv] 0 wr.heap.size lv (ps.map (·.1)) (ps.map (·.2)) none th)) := by
              refine Lib.hid (fun W hW => ?_)
              have k3 : Kp (fun _ => False) w3 W := (Kp.of_below (S := fun _ => False) HB4.out).trans hW (fun _ _ h => h)
              have f3 : Blk W (H + 1) 33 (FnD.cs ⟨2, ts, A, c⟩) := F3.out.kp k3 id
              have r3 : RdT W A ts.length ts := (HTr.out.below HB3.out).kp k3 (fun _ _ => id)
              have fr3 : ∀ p ∈ ps, FrU W p.1 p.2 := fun p hp => FrU.lit _ _ _ _ _ (PGX.out.frs p hp).1 k3 (light_none w3)
              exact catch_none (PGX.out.stk.kp k3 id (fun _ _ => id)) (rdf_one f3 r3 (by simp; omega)) (by simp) (ps.map (·.2)) (by simp) (frs_find HZB.out fr3 HOK.out) (by rw [HLM.out]; omega) th HFUH.out
            have hp1 : IntKind.i64.wrap ((m : Int) - 1) = (m : Int) - 1 := IntWalk.i64_in _ (by omega)
            have hp2 : IntKind.i64.wrap ((m : Int) - 1 - -1) = (m : Int) := by rw [IntWalk.i64_in _ (by omega)]; omega
            have hp3 : ((m : Int) != (m : Int)) = false := by simp
            have hlen : Hid (∀ o n, Calls Try.prog 24 #[.pointer (some ⟨sb, 0, none⟩)] ((w4.alloc o).drewN n) fun e w'' => e = .returned (.int .i64 m) ∧ ∃ k, w'' = (w4.alloc o).drewN k) :=
              Lib.hid (fun o n => Calls.quiet_of_same ((len_m ((ST4.out.alloc o).drewN n) HLM.out).mono (fun e w2 h => ⟨h.1, h.2.symm⟩)))
            go_quiet (first | (go_at_call 24; exact hlen.out _ _))
            go_wp2_with (first
              | (go_at_call 32; refine (HC.out _ (((Kp.refl _ _).alloc _).drewN _)).mono ?_; rintro e w5 ⟨v, lv5, rfl, ho, hs, hlv, hk5⟩; have e0 : (atU none + 1).toNat = 0 := rfl; rw [e0, List.drop_zero, HLM.out] at ho; rw [e0, List.take_zero] at hs; have hk35 : Kp (fun b => b = sb ∨ lv.ownBlock = some b) w3 w5 := (Kp.trans (S := fun b => b = sb ∨ lv.ownBlock = some b) (((Kp.of_below HB4.out).alloc _).drewN _) hk5 (fun _ _ h => h)); have B5 : Hid (Below wr.heap.size wr w5) := HB3.out.trans (kp_below2 hk35 HB3.out.size (fun b hb => by rcases hb with rfl | hb; exact HSB.out; exact (World.ownsRow.lt PGX.out.stk.own b hb).1)); have HW5 := Lib.hid (own_kp HWANT.out hk35 (fun g hg hx => by rcases hx with rfl | hx; exact PGX.out.wne hg; exact PGX.out.apart g hg hx)); obtain ⟨A6, c6, rfl, hc6⟩ := own_form ho; have HG5 := Lib.hid ho; have HS5 := Lib.hid hs; have p45 : w5.cell? ⟨w.heap.size, 0, none⟩ = some (.slice B m cm) := (P4r.out.below B5.out P4r.out.lt).cell rfl; clear ho hs hk5 hk35 hlv e0 hc6)
              | (go_at_call 24; refine (len_m HS5.out rfl).mono ?_; rintro e w2 ⟨rfl, rfl⟩))
            go_loopg [150] m (fun gk s wy => ∃ k : Nat, k ≤ m ∧ gk = m - k ∧ s = .int .i64 k ∧ w5 = wy)
            case atStart => exact ⟨0, Nat.zero_le _, rfl, rfl, rfl⟩
            case round =>
              obtain ⟨k, hk, hgk, rfl, rfl⟩ := hrel
              have HG6 := Lib.hid hgk
              clear hgk
              by_cases hlt4 : k < m
              · obtain ⟨e, he⟩ : ∃ e, m = e + 1 + k := ⟨m - 1 - k, by omega⟩
                obtain ⟨b, hb⟩ : ∃ b, (ps.map (·.1))[e]? = some b := ⟨_, List.getElem?_eq_getElem (by rw [HLM.out]; omega)⟩
                obtain ⟨g6, c6', hform6, hg61, hg62⟩ := HG5.out.form (by omega)
                have hrow6 := HG5.out.cells (g := g6) (by rw [hform6]; rfl) k (ptr b) (by rw [List.getElem?_map, List.getElem?_reverse (by rw [HLM.out]; omega), HLM.out, show m - 1 - k = e from by omega, hb]; rfl)
                obtain ⟨g3, c3', hform3, hg31, hg32⟩ := HW5.out.form (by omega)
                have hrow3 := HW5.out.cells (g := g3) (by rw [hform3]; rfl) e (ptr b) (by rw [List.getElem?_map, hb]; rfl)
                rw [add_lit, Nat.zero_add] at hrow6 hrow3
                injection hform6 with hA6 _ hA7
                injection hform3 with hA3 _ hA8
                subst hA6; subst hA7; subst hA3; subst hA8
                unfold ptr at hrow6 hrow3
                have hq1 : IntKind.i64.wrap ((m : Int) - 1 - (k : Int)) = (e : Int) := by rw [IntWalk.i64_in _ (by omega)]; omega
                have hq2 : (0 : Int) ≤ (e : Int) := by omega
                have hq3 : (e : Int) < (m : Int) := by omega
                obtain ⟨j40, hj40, hj1⟩ := Option.map_eq_some_iff.1 info40
                have hnn := fun W => Lib.run_neq_ptr_same (P := Try.prog) W (tp := 35) ⟨b, 0, none⟩ Try.underlying35 hj40
                have HE := Lib.hid he
                clear he hj40 hj1 hb
                go_wp2
                go_roundg (m - (k + 1))
                case rel => exact ⟨k + 1, by omega, rfl, by go_num, rfl⟩
                case measure => (have := HG6.out; omega)
              · have hkm : k = m := by omega
                go_wp2
                go_quiet (fail)
                have BW5 : Hid (Below w.heap.size w w5) := HWR.out.trans (B5.out.mono HWR.out.size)
                go_wp2_with (first
                  | (go_at_call 30; refine (build_any (pb := w.heap.size) (qb := H + 2) (qf := H + 1) ((P4r.out.below B5.out P4r.out.lt).drewN _) ((Qr.out.below B5.out Qr.out.lt).drewN _) ((Fr.out.below B5.out Fr.out.lt).drewN _) ((HZ.out.below BW5.out).drewN _) hm).mono ?_; rintro e w6 ⟨sb6, lv6, wv6, ps6, rfl, hpg6, hpl6, hok6, hsb6, hb6⟩; have hk6 : Kp (fun _ => False) w5 w6 := ((Kp.refl _ w5).drewN _).trans (Kp.of_below hb6) (fun _ _ h => h); have hlm6 : (ps6.map (·.1)).length = m := (by rw [List.length_map]; exact hpl6.trans hzl); have p46 : w6.cell? ⟨w.heap.size, 0, none⟩ = some (.slice B m cm) := (hk6.cell (p := ⟨w.heap.size, 0, none⟩) (Nat.lt_of_lt_of_le P4r.out.lt B5.out.size) id).trans p45; have P6 := Lib.hid (And.intro hpg6 (And.intro hlm6 (And.intro hsb6 hk6))); clear hpg6 hpl6 hok6 hsb6 hb6 hk6 hlm6; unfold ptr))
                have hwl6 : w.heap.size < w6.heap.size := by have := P6.out.2.2.2.size; have := B5.out.size; omega
                have HCUT : Hid (∀ W, Kp (fun _ => False) w6 W → Calls Try.prog 34 #[.pointer (some ⟨sb6, 0, none⟩), .int .i64 (-1)] W (fun e w' => ∃ A7 c7 lv7, e = .returned (.slice A7 m c7) ∧ Stk w' sb6 47 [lv7] 0 w5.heap.size lv7 [] ∧ w'.cell? ⟨w.heap.size, 0, none⟩ = some (.slice B m cm) ∧ Below w.heap.size w w')) := by
                  refine Lib.hid (fun W hW => ?_)
                  obtain ⟨hpg6, hlm6, hsb6, hk6⟩ := P6.out
                  have hst6 := hpg6.stk.kp hW id (fun _ _ => id)
                  refine (cut_any hst6 (-1) 0 (by decide) (by decide) (by rw [hlm6]; omega)).mono ?_
                  rintro e w7 ⟨v, lv7, rfl, ho7, hs7, hk7, hl7⟩
                  rw [List.drop_zero, hlm6] at ho7
                  obtain ⟨A7, c7, rfl, _⟩ := own_form ho7
                  have k6 : Kp (fun _ => False) w5 W := hk6.trans hW (fun _ _ h => h)
                  have hsz5 : w.heap.size < w5.heap.size := Nat.lt_of_lt_of_le P4r.out.lt B5.out.size
                  have hBW : Below w.heap.size w W := BW5.out.trans (kp_below2 k6 BW5.out.size (fun _ h => h.elim))
                  have hnb : ∀ b, (b = sb6 ∨ lv6.ownBlock = some b) → w5.heap.size ≤ b := fun b hb => by
                    rcases hb with rfl | hb
                    · simpa using hsb6
                    · have := (World.ownsRow.lt hpg6.stk.own b hb).1; simpa using this
                  refine ⟨A7, c7, lv7, rfl, hs7, (hk7.cell (p := ⟨w.heap.size, 0, none⟩) (Nat.lt_of_lt_of_le hsz5 k6.size) (fun h => by have := hnb _ h; simp only at this; omega)).trans ((k6.cell (p := ⟨w.heap.size, 0, none⟩) hsz5 id).trans p45), hBW.trans (kp_below2 hk7 hBW.size (fun b hb => by have := hnb b hb; omega))⟩
                go_cut [6] (fun s6 wx => s6 = .bool true ∧ Below w.heap.size w wx)
                case first =>
                  go_region_held3 (fun w' => w'.cell? ⟨w.heap.size, 0, none⟩ = some (.slice B m cm)) ((first | exact hcell | go_simp))
                   (first
                    | (go_at_call 34; refine (HCUT.out _ (by repeat (first | exact Kp.refl _ _ | refine Kp.drew ?_))).mono ?_; rintro e w7 ⟨A7, c7, lv7, rfl, hst7, hcell, hbel7⟩)
                    | (go_at_call 24; refine (len_m hst7 rfl).mono ?_; rintro e w2 ⟨rfl, rfl⟩))
                  all_goals (go_wp2_with fail; go_meet)
                  all_goals exact ⟨rfl, hbel7⟩
                case rest =>
                  obtain ⟨rfl, hbel⟩ := hcut
                  have HBX := Lib.hid hbel
                  clear hbel
                  go_wp2
                  go_ret
                  exact ⟨rfl, HBX.out⟩
          · obtain ⟨him, htm⟩ := findZ_some hr
            obtain ⟨hq0, hq1⟩ := hregs.out t htm
            obtain ⟨fr, up, tg, rg⟩ := t
            obtain ⟨q, rfl⟩ := Int.eq_ofNat_of_zero_le hq0
            have hq2 : q < 2 := by simp only at hq1; omega
            obtain ⟨p, hp⟩ : ∃ p, m = i + 1 + p := ⟨m - (i + 1), by omega⟩
            have hpm : p ≤ 40 := by omega
            have HMP := Lib.hid hp
            clear hq0 hq1 htm hp
            have WBr : Hid (Blk wr (H + 2 + 1) 57 (TryD.cs ⟨fr, up, tg, (q : Int)⟩)) := by
              have h := HBK.out
              rw [hr] at h
              exact h
            simp only [atU]
            have hteq := teq_self ⟨fr, up, tg, (q : Int)⟩
            unfold TryD.agg at hteq
            simp only at hteq
            go_wp2_with (first
              | (go_at_call 30; refine (build_any P4r.out Qr.out Fr.out (HZ.out.below HWR.out) hm).mono ?_; rintro e w3 ⟨sb, lv, wv, ps, rfl, hpg, hpl, hok, hsb, hb3⟩; have hplm := hpl.trans hzl; have hwant := hpg.want; rw [hplm] at hwant; obtain ⟨A3, c3, rfl, hc3⟩ := own_form hwant; have PGX := Lib.hid hpg; have HPL := Lib.hid (And.intro hpl hplm); have HOK := Lib.hid hok; have HB3 := Lib.hid hb3; have HSB := Lib.hid hsb; have HWANT := Lib.hid hwant; have Q3 : Hid (Blk w3 (H + 2) 60 [.slice (some ⟨H + 1, 0, none⟩) 1 1]) := Qr.out.below hb3 Qr.out.lt; have y93 := Q3.out.cell (i := 0) rfl; have F3 : Hid (Blk w3 (H + 1) 33 (FnD.cs ⟨2, ts, A, c⟩)) := Fr.out.below hb3 Fr.out.lt; have P43 : Hid (Blk w3 w.heap.size 44 [.slice B m cm]) := P4r.out.below hb3 P4r.out.lt; have T53 : Hid (Blk w3 (w.heap.size + 1) 25 th.cs) := T5r.out.below hb3 T5r.out.lt; have WB3 : Hid (Blk w3 (H + 2 + 1) 57 (TryD.cs ⟨fr, up, tg, (q : Int)⟩)) := WBr.out.below hb3 WBr.out.lt; clear hpg hpl hplm hok hsb hb3 hwant hc3; unfold ptr)
              | (go_at_call 31; refine (find_any PGX.out.stk (rdf_one F3.out ((HTr.out.below HB3.out)) (by simp; omega)) (by simp) (ps.map (·.2)) (by simp) (frs_find HZB.out (fun p hp => (PGX.out.frs p hp).1) HOK.out) (by simp; have := HPL.out.2; omega)).mono ?_; rintro e w4 ⟨rfl, hb4⟩; have HFU : findU [⟨2, ts, A, c⟩] (ps.map (·.2)) (ps.map (·.1)).length = some (i, ⟨fr, up, tg, (q : Int)⟩) := by { rw [List.length_map, HPL.out.2, findU_eq HPL.out.1 (fun p hp => (PGX.out.frs p hp).1) HOK.out]; exact hr }; rw [HFU]; have HFUH := Lib.hid HFU; have HB4 := Lib.hid hb4; have ST4 : Hid (Stk w4 sb 47 [lv] 0 wr.heap.size lv (ps.map (·.1))) := PGX.out.stk.kp (S := fun _ => False) (Kp.of_below hb4) id (fun _ _ => id); have Q4 : Hid (Blk w4 (H + 2) 60 [.slice (some ⟨H + 1, 0, none⟩) 1 1]) := Q3.out.below hb4 Q3.out.lt; have P44 : Hid (Blk w4 w.heap.size 44 [.slice B m cm]) := P43.out.below hb4 P43.out.lt; have T54 : Hid (Blk w4 (w.heap.size + 1) 25 th.cs) := T53.out.below hb4 T53.out.lt; have WB4 : Hid (Blk w4 (H + 2 + 1) 57 (TryD.cs ⟨fr, up, tg, (q : Int)⟩)) := WB3.out.below hb4 WB3.out.lt; have y94 := Q4.out.cell (i := 0) rfl; have p44 := P44.out.cell (i := 0) rfl; have k0 : w4.cell? ⟨w.heap.size + 1, 0, none⟩ = some (.int .i64 th.k) := T54.out.cell rfl; have k1 : w4.cell? ⟨w.heap.size + 1, 1, none⟩ = some (.int .i64 th.n) := T54.out.cell rfl; have k2 : w4.cell? ⟨w.heap.size + 1, 2, none⟩ = some (.string th.s) := T54.out.cell rfl; have v0 : w4.cell? ⟨H + 2 + 1, 0, none⟩ = some (.int .i64 fr) := WB4.out.cell rfl; have v1 : w4.cell? ⟨H + 2 + 1, 1, none⟩ = some (.int .i64 up) := WB4.out.cell rfl; have v2 : w4.cell? ⟨H + 2 + 1, 2, none⟩ = some (.int .i64 tg) := WB4.out.cell rfl; have v3 : w4.cell? ⟨H + 2 + 1, 3, none⟩ = some (.int .i64 (q : Int)) := WB4.out.cell rfl; have hl1 := Q4.out.lt; have hl2 := P44.out.lt; have hl3 := T54.out.lt; have hl4 := WB4.out.lt; clear HFU hb4; unfold atU tryU TryD.agg))
            have hlm : (ps.map (·.1)).length = m := by rw [List.length_map]; exact HPL.out.2
            have HLM := Lib.hid hlm
            clear hlm
            have HC : Hid (∀ W, Kp (fun _ => False) w4 W → Calls Try.prog 32 #[.agg #[.slice (some ⟨H + 1, 0, none⟩) 1 1], .pointer (some ⟨sb, 0, none⟩), .agg #[.int .i64 th.k, .int .i64 th.n, .string th.s]] W (CatchD W sb 47 [lv] 0 wr.heap.size lv (ps.map (·.1)) (ps.map (·.2)) (some (i, ⟨fr, up, tg, (q : Int)⟩)) th)) := by
              refine Lib.hid (fun W hW => ?_)
              have k3 : Kp (fun _ => False) w3 W := (Kp.of_below (S := fun _ => False) HB4.out).trans hW (fun _ _ h => h)
              have f3 : Blk W (H + 1) 33 (FnD.cs ⟨2, ts, A, c⟩) := F3.out.kp k3 id
              have r3 : RdT W A ts.length ts := (HTr.out.below HB3.out).kp k3 (fun _ _ => id)
              have fr3 : ∀ p ∈ ps, FrU W p.1 p.2 := fun p hp => FrU.lit _ _ _ _ _ (PGX.out.frs p hp).1 k3 (light_none w3)
              obtain ⟨pr, hpr⟩ : ∃ pr, ps[i]? = some pr := ⟨_, List.getElem?_eq_getElem (by have := HPL.out.2; omega)⟩
              obtain ⟨hb0, hf0, hcase⟩ := fr3 pr (List.mem_of_getElem? hpr)
              rcases hcase with ⟨hst0, _, R, regs, hrg, hR, hrl⟩ | ⟨sx, hsx⟩
              · exact catch_some (PGX.out.stk.kp k3 id (fun _ _ => id)) (by decide) (by decide) (rdf_one f3 r3 (by simp; omega)) (by simp) (ps.map (·.2)) (by simp) (frs_find HZB.out fr3 HOK.out) (by rw [HLM.out]; omega) th HFUH.out (b := pr.1) (d := pr.2) (by rw [List.getElem?_map, hpr]; rfl) (by rw [List.getElem?_map, hpr]; rfl) (R := R) (regs := regs) (c := 2) (by rw [hrl]; exact hrg) hR q rfl (by omega) (by omega)
              · exfalso
                have hu := findU_some HFUH.out
                obtain ⟨_, d, hd, hl⟩ := hu
                rw [List.getElem?_map, hpr] at hd
                simp at hd
                subst hd
                unfold FU.look at hl
                rw [if_neg (by rw [hsx]; simp)] at hl
                cases hl
            have hp1 : IntKind.i64.wrap ((m : Int) - 1) = (m : Int) - 1 := IntWalk.i64_in _ (by omega)
            have hp2 : IntKind.i64.wrap ((m : Int) - 1 - (i : Int)) = (p : Int) := by have := HMP.out; rw [IntWalk.i64_in _ (by omega)]; omega
            have hp4 : IntKind.i64.wrap ((i : Int) + 1) = (i : Int) + 1 := IntWalk.i64_in _ (by omega)
            have hi0 : (0 : Int) ≤ (i : Int) := by omega
            have hi1 : (i : Int) < (m : Int) := by omega
            have hq3 : (q : Int) < 2 := by omega
            have hlen : Hid (∀ o n, Calls Try.prog 24 #[.pointer (some ⟨sb, 0, none⟩)] ((w4.alloc o).drewN n) fun e w'' => e = .returned (.int .i64 m) ∧ ∃ k, w'' = (w4.alloc o).drewN k) :=
              Lib.hid (fun o n => Calls.quiet_of_same ((len_m ((ST4.out.alloc o).drewN n) HLM.out).mono (fun e w2 h => ⟨h.1, h.2.symm⟩)))
            go_quiet (first | (go_at_call 24; exact hlen.out _ _))
            go_wp2_with (first
              | (go_at_call 32; refine (HC.out _ (((Kp.refl _ _).alloc _).drewN _)).mono ?_; rintro e w5 hcd; have hac := after_catch HFUH.out PGX.out HLM.out HMP.out hq2 HSB.out HB3.out HWANT.out (((Kp.of_below HB4.out).alloc _).drewN _) hcd; obtain ⟨A6, c6, lv5, b, R, cr, b6, rfl, hg5, hs5, hbi, x7, x8, r0, r1, r2, hb5, hw5⟩ := hac; have B5 : Hid (Below wr.heap.size wr w5) := Lib.hid hb5; have HW5 := Lib.hid hw5; have HG5 := Lib.hid hg5; have HS5 := Lib.hid hs5; have HBI := Lib.hid hbi; have p45 : w5.cell? ⟨w.heap.size, 0, none⟩ = some (.slice B m cm) := (P4r.out.below B5.out P4r.out.lt).cell rfl; have k50 : w5.cell? ⟨w.heap.size + 1, 0, none⟩ = some (.int .i64 th.k) := (T5r.out.below B5.out T5r.out.lt).cell rfl; have k51 : w5.cell? ⟨w.heap.size + 1, 1, none⟩ = some (.int .i64 th.n) := (T5r.out.below B5.out T5r.out.lt).cell rfl; have k52 : w5.cell? ⟨w.heap.size + 1, 2, none⟩ = some (.string th.s) := (T5r.out.below B5.out T5r.out.lt).cell rfl; have v52 : w5.cell? ⟨H + 2 + 1, 2, none⟩ = some (.int .i64 tg) := (WBr.out.below B5.out WBr.out.lt).cell rfl; have v53 : w5.cell? ⟨H + 2 + 1, 3, none⟩ = some (.int .i64 (q : Int)) := (WBr.out.below B5.out WBr.out.lt).cell rfl; clear hcd hg5 hs5 hbi hb5 hw5)
              | (go_at_call 24; refine (len_m HS5.out (m := i + 1) (by rw [List.length_take, HLM.out]; omega)).mono ?_; rintro e w2 ⟨rfl, rfl⟩))
            go_loopg [150] p (fun gk s wy => ∃ k : Nat, k ≤ p ∧ gk = p - k ∧ s = .int .i64 k ∧ w5 = wy)
            case atStart => exact ⟨0, Nat.zero_le _, rfl, rfl, rfl⟩
            case round =>
              obtain ⟨k, hk, hgk, rfl, rfl⟩ := hrel
              have HG6 := Lib.hid hgk
              clear hgk
              by_cases hlt4 : k < p
              · obtain ⟨e, he⟩ : ∃ e, m = e + 1 + k := ⟨m - 1 - k, by have := HMP.out; omega⟩
                obtain ⟨b, hb⟩ : ∃ b, (ps.map (·.1))[e]? = some b := ⟨_, List.getElem?_eq_getElem (by rw [HLM.out]; omega)⟩
                obtain ⟨g6, c6', hform6, hg61, hg62⟩ := HG5.out.form (by omega)
                have hrow6 := HG5.out.cells (g := g6) (by rw [hform6]; rfl) k (ptr b) (by rw [List.getElem?_map, List.getElem?_reverse (by rw [List.length_drop, HLM.out]; have := HMP.out; omega), List.length_drop, HLM.out, List.getElem?_drop, show i + 1 + (m - (i + 1) - 1 - k) = e from by have := HMP.out; omega, hb]; rfl)
                obtain ⟨g3, c3', hform3, hg31, hg32⟩ := HW5.out.form (by omega)
                have hrow3 := HW5.out.cells (g := g3) (by rw [hform3]; rfl) e (ptr b) (by rw [List.getElem?_map, hb]; rfl)
                rw [add_lit, Nat.zero_add] at hrow6 hrow3
                injection hform6 with hA6 _ hA7
                injection hform3 with hA3 _ hA8
                subst hA6; subst hA7; subst hA3; subst hA8
                unfold ptr at hrow6 hrow3
                have hq1 : IntKind.i64.wrap ((m : Int) - 1 - (k : Int)) = (e : Int) := by rw [IntWalk.i64_in _ (by omega)]; omega
                have hq2 : (0 : Int) ≤ (e : Int) := by omega
                have hq3 : (e : Int) < (m : Int) := by omega
                obtain ⟨j40, hj40, hj1⟩ := Option.map_eq_some_iff.1 info40
                have hnn := fun W => Lib.run_neq_ptr_same (P := Try.prog) W (tp := 35) ⟨b, 0, none⟩ Try.underlying35 hj40
                have HE := Lib.hid he
                clear he hj40 hj1 hb
                go_wp2
                go_roundg (p - (k + 1))
                case rel => exact ⟨k + 1, by omega, rfl, by go_num, rfl⟩
                case measure => (have := HG6.out; omega)
              · have hkm : k = p := by omega
                go_wp2
                have htk : ((ps.map (·.1)).take (i + 1)).getLast? = some b := by
                  rw [List.getLast?_eq_getElem?, List.length_take, HLM.out, Nat.min_eq_left (by omega)]
                  simpa [List.getElem?_take] using HBI.out
                have htop : Hid (∀ n, Calls Try.prog 33 #[.pointer (some ⟨sb, 0, none⟩)] (w5.drewN n) fun e w'' => e = .returned (.pointer (some ⟨b, 0, none⟩)) ∧ ∃ k, w'' = w5.drewN k) :=
                  Lib.hid (fun n => Calls.quiet_of (top_some (HS5.out.drewN n) htk (by rw [List.length_take, HLM.out]; omega)))
                obtain ⟨g3, c3', hform3, hg31, hg32⟩ := HW5.out.form (by omega)
                have hrow3 := HW5.out.cells (g := g3) (by rw [hform3]; rfl) i (ptr b) (by rw [List.getElem?_map, HBI.out]; rfl)
                rw [add_lit, Nat.zero_add] at hrow3
                injection hform3 with hA3 _ hA8
                subst hA3; subst hA8
                unfold ptr at hrow3
                obtain ⟨j40, hj40, hj1⟩ := Option.map_eq_some_iff.1 info40
                have hnn := fun W => Lib.run_neq_ptr_same (P := Try.prog) W (tp := 35) ⟨b, 0, none⟩ Try.underlying35 hj40
                have hveq := run_neq_V th th
                rw [veq_self] at hveq
                unfold V.agg at hveq
                simp only [Bool.not_true] at hveq
                clear hj40 hj1 htk
                go_quiet (first | (go_at_call 33; exact htop.out _))
                have BW5 : Hid (Below w.heap.size w w5) := HWR.out.trans (B5.out.mono HWR.out.size)
                go_wp2_with (first
                  | (go_at_call 30; refine (build_any (pb := w.heap.size) (qb := H + 2) (qf := H + 1) ((P4r.out.below B5.out P4r.out.lt).drewN _) ((Qr.out.below B5.out Qr.out.lt).drewN _) ((Fr.out.below B5.out Fr.out.lt).drewN _) ((HZ.out.below BW5.out).drewN _) hm).mono ?_; rintro e w6 ⟨sb6, lv6, wv6, ps6, rfl, hpg6, hpl6, hok6, hsb6, hb6⟩; have hk6 : Kp (fun _ => False) w5 w6 := ((Kp.refl _ w5).drewN _).trans (Kp.of_below hb6) (fun _ _ h => h); have hlm6 : (ps6.map (·.1)).length = m := (by rw [List.length_map]; exact hpl6.trans hzl); have p46 : w6.cell? ⟨w.heap.size, 0, none⟩ = some (.slice B m cm) := (hk6.cell (p := ⟨w.heap.size, 0, none⟩) (Nat.lt_of_lt_of_le P4r.out.lt B5.out.size) id).trans p45; have P6 := Lib.hid (And.intro hpg6 (And.intro hlm6 (And.intro hsb6 hk6))); clear hpg6 hpl6 hok6 hsb6 hb6 hk6 hlm6; unfold ptr))
                have hwl6 : w.heap.size < w6.heap.size := by have := P6.out.2.2.2.size; have := B5.out.size; omega
                have HCUT : Hid (∀ W, Kp (fun _ => False) w6 W → Calls Try.prog 34 #[.pointer (some ⟨sb6, 0, none⟩), .int .i64 (-1)] W (fun e w' => ∃ A7 c7 lv7, e = .returned (.slice A7 m c7) ∧ Stk w' sb6 47 [lv7] 0 w5.heap.size lv7 [] ∧ w'.cell? ⟨w.heap.size, 0, none⟩ = some (.slice B m cm) ∧ Below w.heap.size w w')) := by
                  refine Lib.hid (fun W hW => ?_)
                  obtain ⟨hpg6, hlm6, hsb6, hk6⟩ := P6.out
                  have hst6 := hpg6.stk.kp hW id (fun _ _ => id)
                  refine (cut_any hst6 (-1) 0 (by decide) (by decide) (by rw [hlm6]; omega)).mono ?_
                  rintro e w7 ⟨v, lv7, rfl, ho7, hs7, hk7, hl7⟩
                  rw [List.drop_zero, hlm6] at ho7
                  obtain ⟨A7, c7, rfl, _⟩ := own_form ho7
                  have k6 : Kp (fun _ => False) w5 W := hk6.trans hW (fun _ _ h => h)
                  have hsz5 : w.heap.size < w5.heap.size := Nat.lt_of_lt_of_le P4r.out.lt B5.out.size
                  have hBW : Below w.heap.size w W := BW5.out.trans (kp_below2 k6 BW5.out.size (fun _ h => h.elim))
                  have hnb : ∀ b, (b = sb6 ∨ lv6.ownBlock = some b) → w5.heap.size ≤ b := fun b hb => by
                    rcases hb with rfl | hb
                    · simpa using hsb6
                    · have := (World.ownsRow.lt hpg6.stk.own b hb).1; simpa using this
                  refine ⟨A7, c7, lv7, rfl, hs7, (hk7.cell (p := ⟨w.heap.size, 0, none⟩) (Nat.lt_of_lt_of_le hsz5 k6.size) (fun h => by have := hnb _ h; simp only at this; omega)).trans ((k6.cell (p := ⟨w.heap.size, 0, none⟩) hsz5 id).trans p45), hBW.trans (kp_below2 hk7 hBW.size (fun b hb => by have := hnb b hb; omega))⟩
                go_cut [6] (fun s6 wx => s6 = .bool true ∧ Below w.heap.size w wx)
                case first =>
                  go_region_held3 (fun w' => w'.cell? ⟨w.heap.size, 0, none⟩ = some (.slice B m cm)) ((first | exact hcell | go_simp))
                   (first
                    | (go_at_call 34; refine (HCUT.out _ (by repeat (first | exact Kp.refl _ _ | refine Kp.drew ?_))).mono ?_; rintro e w7 ⟨A7, c7, lv7, rfl, hst7, hcell, hbel7⟩)
                    | (go_at_call 24; refine (len_m hst7 rfl).mono ?_; rintro e w2 ⟨rfl, rfl⟩))
                  all_goals (go_wp2_with fail; go_meet)
                  all_goals exact ⟨rfl, hbel7⟩
                case rest =>
                  obtain ⟨rfl, hbel⟩ := hcut
                  have HBX := Lib.hid hbel
                  clear hbel
                  go_wp2
                  go_ret
                  exact ⟨rfl, HBX.out⟩
end Go.Proofs.Ytpcamgjfikipgaa
