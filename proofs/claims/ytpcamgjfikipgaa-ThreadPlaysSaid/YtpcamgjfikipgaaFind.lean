/- What unwind.Find answers: the last frame that catches where it is. Condition: no more than some thousands of frames. -/
import Derived.Test.YtpcamgjfikipgaaTries
import Derived.Deep.DeepCutAuto
namespace Go.Proofs.Ytpcamgjfikipgaa
open Go.RowKit
set_option linter.unusedVariables false
attribute [local go_sem ↓] Go.wp_at_zero Go.wp_at_succ
/-- A function of the program: its registers, and its tries. -/
structure FnD where
  regs : Int
  tr : List TryD
  T : Option Addr
  ct : Nat
def FnD.cs (f : FnD) : List Value := [.slice none 0 0, .slice none 0 0, .int .i64 f.regs, .int .i64 0, .int .i64 0, .slice none 0 0, .slice f.T f.tr.length f.ct, .bool false, .string ⟨#[]⟩]
def fncs (fs : List FnD) : List Value := fs.flatMap FnD.cs
theorem fncs_length (fs : List FnD) : (fncs fs).length = fs.length * 9 := by
  induction fs with
  | nil => rfl
  | cons v vs ih => show (v.cs ++ fncs vs).length = _; rw [List.length_append, ih]; simp [FnD.cs]; omega
theorem fncs_at {fs : List FnD} {i : Nat} {f : FnD} (h : fs[i]? = some f) : ∀ j, j < 9 → (fncs fs)[i * 9 + j]? = f.cs[j]? := by
  induction fs generalizing i with
  | nil => simp at h
  | cons x fs ih =>
    intro j hj
    have hc : fncs (x :: fs) = x.cs ++ fncs fs := rfl
    rw [hc]
    cases i with
    | zero => simp at h; subst h; rw [List.getElem?_append_left (by simp [FnD.cs]; omega)]; simp
    | succ i =>
      rw [List.getElem?_append_right (by simp [FnD.cs]; omega)]
      have e : (i + 1) * 9 + j - x.cs.length = i * 9 + j := by simp only [FnD.cs, List.length_cons, List.length_nil]; omega
      rw [e]
      exact ih (by simpa using h) j hj
/-- The program's functions lie at PF. -/
structure RdF (w : World) (PF : Option Addr) (fs : List FnD) : Prop where
  rd : Rd w PF fs.length 9 (fncs fs)
  tr : ∀ f ∈ fs, RdT w f.T f.tr.length f.tr ∧ f.tr.length ≤ 100000
theorem RdF.below {w w' : World} {PF : Option Addr} {fs : List FnD} (h : RdF w PF fs) (k : Below w.heap.size w w') : RdF w' PF fs := ⟨h.rd.below k, fun f hf => ⟨(h.tr f hf).1.below k, (h.tr f hf).2⟩⟩
theorem RdF.kp {S : Nat → Prop} {w w' : World} {PF : Option Addr} {fs : List FnD} (h : RdF w PF fs) (k : Kp S w w') (h1 : ∀ ad, PF = some ad → ¬ S ad.block) (h2 : ∀ f ∈ fs, ∀ ad, f.T = some ad → ¬ S ad.block) : RdF w' PF fs := ⟨h.rd.kp k h1, fun f hf => ⟨(h.tr f hf).1.kp k (h2 f hf), (h.tr f hf).2⟩⟩
theorem RdF.at_ {w : World} {PF : Option Addr} {fs : List FnD} (h : RdF w PF fs) {i : Nat} {f : FnD} (hf : fs[i]? = some f) : ∃ b o, PF = some ⟨b, o, none⟩ ∧ b < w.heap.size ∧ ∀ j v, f.cs[j]? = some v → w.cell? ⟨b, o + i * 9 + j, none⟩ = some v := by
  have hlt : i < fs.length := (List.getElem?_eq_some_iff.1 hf).1
  obtain ⟨ad, rfl, hc⟩ := h.rd.2 (fun e => by have := fncs_length fs; rw [e] at this; simp at this; omega)
  have h0 := hc 0 _ (by rw [List.getElem?_eq_getElem (by rw [fncs_length]; omega)])
  obtain ⟨b, o, sp⟩ := ad
  have hsp : sp = none := by simpa [Addr.add] using World.cell?_spot h0
  subst hsp
  refine ⟨b, o, rfl, by simpa [Addr.add] using World.block_lt_of_cell? w _ h0, fun j v hv => ?_⟩
  have hj : j < 9 := by
    have := (List.getElem?_eq_some_iff.1 hv).1
    simpa [FnD.cs] using this
  have := hc (i * 9 + j) v (by rw [fncs_at hf j hj]; exact hv)
  rwa [add_lit, ← Nat.add_assoc] at this
/-- A frame, as the unwinding looks at it. -/
structure FU where
  fn : Int
  cl : V
  se : V
  rg : Value
  pc : Int
  dst : Int
  how : Int
  ex : V
  st : Option Nat
  gen : Int
def FU.sv (d : FU) : Value := match d.st with | none => .pointer none | some s => .pointer (some ⟨s, 0, none⟩)
def FU.cs (d : FU) : List Value := fcs d.fn d.cl d.se d.rg d.pc d.dst d.how d.ex d.sv d.gen
/-- What it catches there, if it does. -/
def FU.look (fs : List FnD) (d : FU) : Option TryD := if d.st = none ∧ 0 ≤ d.fn then (fs[d.fn.toNat]?).bind (fun f => first f.tr (d.pc - 1)) else none
/-- The last one of the first n that catches. -/
def findU (fs : List FnD) (ds : List FU) : Nat → Option (Nat × TryD)
  | 0 => none
  | n + 1 => match (ds[n]?).bind (FU.look fs) with
    | some t => some (n, t)
    | none => findU fs ds n
def atU (r : Option (Nat × TryD)) : Int := match r with | some (n, _) => n | none => -1
def tryU (r : Option (Nat × TryD)) : TryD := match r with | some (_, t) => t | none => TryD.zero
/-- What Find leaves. -/
def Found (w : World) (r : Option (Nat × TryD)) (e : Ending) (w' : World) : Prop := e = .returned (.tuple #[.int .i64 (atU r), (tryU r).agg, .bool r.isSome]) ∧ Below w.heap.size w w'
theorem findU_step {fs : List FnD} {ds : List FU} {n : Nat} {d : FU} (h : ds[n]? = some d) (hl : d.look fs = none) : findU fs ds (n + 1) = findU fs ds n := by
  simp [findU, h, hl]
theorem findU_hit {fs : List FnD} {ds : List FU} {n : Nat} {d : FU} {t : TryD} (h : ds[n]? = some d) (hl : d.look fs = some t) : findU fs ds (n + 1) = some (n, t) := by
  simp [findU, h, hl]
/-- What Catches has answered, in a variable of Find's. -/
def Got (wq : World) (r : Option TryD) (s9 s10 : Value) (wx : World) : Prop := ∃ g, s9 = .pointer (some ⟨g, 0, none⟩) ∧ s10 = .bool r.isSome ∧ wq.heap.size ≤ g ∧ Blk wx g 57 (r.getD TryD.zero).cs ∧ Below wq.heap.size wq wx
theorem got_le {wq w3 : World} (h : Below wq.drew.heap.size wq.drew w3) : wq.heap.size ≤ w3.heap.size := h.size
theorem got_a {wq w3 : World} (h : Below wq.drew.heap.size wq.drew w3) (o : Obj) : Below wq.heap.size wq (w3.alloc o) :=
  below_alloc (⟨h.os, h.tape, h.output, h.size, h.block⟩ : Below wq.heap.size wq w3) o
theorem got_w {wq w3 : World} {o : Obj} (h : Below (wq.alloc o).drew.heap.size (wq.alloc o).drew w3) : Below (wq.alloc o).heap.size (wq.alloc o) w3 := ⟨h.os, h.tape, h.output, h.size, h.block⟩
theorem got_b {wq w3 : World} {o : Obj} (h : Below (wq.alloc o).drew.heap.size (wq.alloc o).drew w3) (a b c d : Value) : Below wq.heap.size wq ((((w3.setCell ⟨wq.heap.size, 0, none⟩ a).setCell ⟨wq.heap.size, 1, none⟩ b).setCell ⟨wq.heap.size, 2, none⟩ c).setCell ⟨wq.heap.size, 3, none⟩ d) := by
  have h1 : Below wq.heap.size wq w3 := below_chain (got_w h) (below_alloc (Below.refl _ _) o)
  exact (((h1.setCell (Nat.le_refl _) a).setCell (Nat.le_refl _) b).setCell (Nat.le_refl _) c).setCell (Nat.le_refl _) d
theorem got_c {wq w3 : World} (h : Below (wq.alloc (.cells #[.int .i64 0, .int .i64 0, .int .i64 0, .int .i64 0] 57)).drew.heap.size (wq.alloc (.cells #[.int .i64 0, .int .i64 0, .int .i64 0, .int .i64 0] 57)).drew w3) (a b c d : Value) :
    Blk ((((w3.setCell ⟨wq.heap.size, 0, none⟩ a).setCell ⟨wq.heap.size, 1, none⟩ b).setCell ⟨wq.heap.size, 2, none⟩ c).setCell ⟨wq.heap.size, 3, none⟩ d) wq.heap.size 57 [a, b, c, d] :=
  (((((Blk.new wq 57 [.int .i64 0, .int .i64 0, .int .i64 0, .int .i64 0]).below (got_w h) (by simp)).set_ 0 a).set_ 1 b).set_ 2 c).set_ 3 d
theorem run_neq_nil_nil' {P : Program} (w : World) {tp te : TypeId} (hp : P.underlying tp = some (.pointer te)) : (binOp .neq tp (.pointer none) (.pointer none)).run P w = .ok (.bool false) w := by
  have h : ∀ d : Nat, (Op.equalIn (d + 1) tp (.pointer none) (.pointer none)).run P w = .ok true w := fun d => by simp [Op.equalIn, run_underlying hp]
  simp only [binOp]
  simp [Op.equal, Op.maxDepth, h 9999]
set_option maxRecDepth 100000 in
set_option maxHeartbeats 4000000 in
theorem find_any {w : World} {sb : Nat} {t : TypeId} {cs : List Value} {so base : Nat} {lv : Value} {bs : List Nat} (h : Stk w sb t cs so base lv bs) {PF : Option Addr} {cf : Nat} {fs : List FnD} (hp : RdF w PF fs) (hfn : fs.length ≤ 1000) (ds : List FU) (hll : ds.length = bs.length)
    (hF : ∀ (i b : Nat) (d : FU), bs[i]? = some b → ds[i]? = some d → Blk w b 40 d.cs ∧ 0 ≤ d.pc ∧ d.pc ≤ 9223372036854775807) (hn : bs.length ≤ 100000) :
    Calls Try.prog 31 #[.agg #[.slice PF fs.length cf], .pointer (some ⟨sb, so, none⟩)] w (Found w (findU fs ds bs.length)) := by
  have HS := Lib.hid h
  have HP := Lib.hid hp
  have HLL := Lib.hid hll
  have HF := Lib.hid hF
  have hsl := h.blk.lt
  clear h hp hll hF
  go_enter Try.func31, Try.ntmps31
  go_wp2_with (go_at_call 24; refine (len_any (by exact (HS.out.alloc _).alloc _)).mono ?_; rintro e w' ⟨rfl, rfl⟩)
  go_loopg [7] (bs.length + 1) (fun gk s7 wr => ∃ (n : Nat) (z : Int), n ≤ bs.length ∧ gk = n + 1 ∧ z = (n : Int) - 1 ∧ s7 = .int .i64 z ∧ findU fs ds bs.length = findU fs ds n ∧ Kp (fun _ => False) w wr ∧ Blk wr w.heap.size 60 [.slice PF fs.length cf] ∧ Blk wr (w.heap.size + 1) 57 TryD.zero.cs)
  case atStart => exact ⟨bs.length, _, Nat.le_refl _, rfl, rfl, rfl, rfl, ((Kp.refl _ w).alloc _).alloc _, (Blk.new w 60 [.slice PF fs.length cf]).alloc _, Blk.made (by simp) 57 TryD.zero.cs⟩
  case round =>
    obtain ⟨n, z, hnl, hgk, hz, rfl, hfu, hkp, hb1, hb2⟩ := hrel
    have HG := Lib.hid hgk
    have HFU := Lib.hid hfu
    have HK := Lib.hid hkp
    have HB1 := Lib.hid hb1
    have HB2 := Lib.hid hb2
    have hl2 := hb2.lt
    have hl1 := hb1.lt
    have z0 := hb2.frozen 0
    have z1 := hb2.frozen 1
    have z2 := hb2.frozen 2
    have z3 := hb2.frozen 3
    have x0 : wr.cell? ⟨w.heap.size + 1, 0, none⟩ = some (.int .i64 0) := hb2.cell rfl
    have x1 : wr.cell? ⟨w.heap.size + 1, 1, none⟩ = some (.int .i64 0) := hb2.cell rfl
    have x2 : wr.cell? ⟨w.heap.size + 1, 2, none⟩ = some (.int .i64 0) := hb2.cell rfl
    have x3 : wr.cell? ⟨w.heap.size + 1, 3, none⟩ = some (.int .i64 0) := hb2.cell rfl
    have xp : wr.cell? ⟨w.heap.size, 0, none⟩ = some (.slice PF fs.length cf) := hb1.cell rfl
    have hst : Hid (Stk wr sb t cs so base lv bs) := HS.out.kp hkp id (fun _ _ => id)
    clear hgk hfu hkp hb1 hb2
    rcases Nat.eq_zero_or_pos n with h0 | h0
    · subst h0
      obtain rfl : z = -1 := by omega
      clear hz
      go_wp2
      refine bodyPost_ret (v := .tuple #[.int .i64 (-1), TryD.agg TryD.zero, .bool false]) (by simp [results, Try.results31, go_sem, TryD.agg, TryD.zero, x0, x1, x2, x3]) rfl ?_
      rw [HFU.out]
      exact ⟨rfl, ((((HK.out.setCell (.inl (by simp)) _).setCell (.inl (by simp)) _).setCell (.inl (by simp)) _).setCell (.inl (by simp)) _).below (fun _ _ h => h)⟩
    · obtain ⟨m, rfl⟩ : ∃ m, n = m + 1 := ⟨n - 1, by omega⟩
      obtain rfl : z = (m : Int) := by omega
      clear hz h0
      obtain ⟨b, hbi⟩ : ∃ b, bs[m]? = some b := ⟨_, List.getElem?_eq_getElem (by omega)⟩
      obtain ⟨d, hdi⟩ : ∃ d, ds[m]? = some d := ⟨_, List.getElem?_eq_getElem (by have := HLL.out; omega)⟩
      obtain ⟨hbd, hpc1, hpc2⟩ := HF.out m b d hbi hdi
      have hbw := hbd.kp HK.out id
      have hbl := hbw.lt
      have hbl0 := hbd.lt
      have e0 : wr.cell? ⟨b, 0, none⟩ = some (.int .i64 d.fn) := hbw.cell rfl
      have e8 : wr.cell? ⟨b, 8, none⟩ = some (.int .i64 d.pc) := hbw.cell rfl
      have e14 : wr.cell? ⟨b, 14, none⟩ = some d.sv := hbw.cell rfl
      have HBI := Lib.hid (And.intro hbi hdi)
      have q0 : decide (0 ≤ (m : Int)) = true := by simp
      clear hbi hdi hbd hbw
      have hskip : d.look fs = none → findU fs ds bs.length = findU fs ds m := fun h => by rw [HFU.out, findU_step HBI.out.2 h]
      have HSK := Lib.hid hskip
      clear hskip
      rcases hst14 : d.st with _ | sp
      · have e14' : wr.cell? ⟨b, 14, none⟩ = some (.pointer none) := by rw [e14]; simp [FU.sv, hst14]
        have HST := Lib.hid hst14
        have hnn := fun W => run_neq_nil_nil' (P := Try.prog) W (tp := 38) Try.underlying38
        clear e14 hst14
        by_cases hfn0 : d.fn < 0
        · have q1 : decide (d.fn < 0) = true := by simpa using hfn0
          have HL : Hid (d.look fs = none) := by show _ = _; unfold FU.look; rw [if_neg (by omega)]
          clear hfn0
          go_wp2_with (go_at_call 25; refine (at_in hst.out HBI.out.1 hn).mono ?_; rintro e w2 ⟨rfl, rfl⟩; unfold ptr)
          go_quiet (fail)
          go_wp2
          go_roundg (m + 1)
          case rel => exact ⟨m, _, by omega, rfl, rfl, by go_num, HSK.out HL.out, HK.out.drewN _, HB1.out, HB2.out⟩
          case measure => have := HG.out; omega
        · have q1 : decide (d.fn < 0) = false := by simpa using hfn0
          by_cases hfn1 : (fs.length : Int) ≤ d.fn
          · have q2 : decide ((fs.length : Int) ≤ d.fn) = true := by simpa using hfn1
            have HL : Hid (d.look fs = none) := by
              show _ = _
              unfold FU.look
              rw [if_pos ⟨HST.out, by omega⟩, List.getElem?_eq_none (by omega)]
              rfl
            clear hfn0 hfn1
            go_wp2_with (go_at_call 25; refine (at_in hst.out HBI.out.1 hn).mono ?_; rintro e w2 ⟨rfl, rfl⟩; unfold ptr)
            go_quiet (fail)
            go_wp2
            go_roundg (m + 1)
            case rel => exact ⟨m, _, by omega, rfl, rfl, by go_num, HSK.out HL.out, HK.out.drewN _, HB1.out, HB2.out⟩
            case measure => have := HG.out; omega
          · obtain ⟨q, hq⟩ := Int.eq_ofNat_of_zero_le (by omega : 0 ≤ d.fn)
            rw [hq] at e0 q1
            have q2 : decide (fs.length ≤ q) = false := by simp; omega
            have q3 : (q : Int) < (fs.length : Int) := by omega
            have q4 : (0 : Int) ≤ (q : Int) := by omega
            obtain ⟨f, hf⟩ : ∃ f, fs[q]? = some f := ⟨_, List.getElem?_eq_getElem (by omega)⟩
            have hpw := HP.out.kp HK.out (fun _ _ => id) (fun _ _ _ _ => id)
            obtain ⟨pb, po, rfl, hpb, hfc⟩ := hpw.at_ hf
            have y0 : wr.cell? ⟨pb, po + q * 9, none⟩ = some (.slice none 0 0) := hfc 0 _ rfl
            have y1 : wr.cell? ⟨pb, po + q * 9 + 1, none⟩ = some (.slice none 0 0) := hfc 1 _ rfl
            have y2 : wr.cell? ⟨pb, po + q * 9 + 2, none⟩ = some (.int .i64 f.regs) := hfc 2 _ rfl
            have y3 : wr.cell? ⟨pb, po + q * 9 + 3, none⟩ = some (.int .i64 0) := hfc 3 _ rfl
            have y4 : wr.cell? ⟨pb, po + q * 9 + 4, none⟩ = some (.int .i64 0) := hfc 4 _ rfl
            have y5 : wr.cell? ⟨pb, po + q * 9 + 5, none⟩ = some (.slice none 0 0) := hfc 5 _ rfl
            have y6 : wr.cell? ⟨pb, po + q * 9 + 6, none⟩ = some (.slice f.T f.tr.length f.ct) := hfc 6 _ rfl
            have y7 : wr.cell? ⟨pb, po + q * 9 + 7, none⟩ = some (.bool false) := hfc 7 _ rfl
            have y8 : wr.cell? ⟨pb, po + q * 9 + 8, none⟩ = some (.string ⟨#[]⟩) := hfc 8 _ rfl
            have hft := (hpw.tr f (List.mem_of_getElem? hf))
            have HFT := Lib.hid hft
            have HL : Hid (d.look fs = first f.tr (d.pc - 1)) := by
              show _ = _
              unfold FU.look
              rw [if_pos ⟨HST.out, by omega⟩, hq, Int.toNat_natCast, hf]
              rfl
            have hpcw : IntKind.i64.wrap (d.pc - 1) = d.pc - 1 := IntWalk.i64_in _ (by omega)
            clear hfn0 hfn1 hf hpw hfc hft hq
            go_wp2_with (go_at_call 25; refine (at_in hst.out HBI.out.1 hn).mono ?_; rintro e w2 ⟨rfl, rfl⟩; unfold ptr)
            go_quiet (fail)
            go_wp2
            have HQ := Lib.hid (And.intro z0 (And.intro z1 (And.intro z2 (And.intro z3 (And.intro x0 (And.intro x1 (And.intro x2 x3)))))))
            clear z0 z1 z2 z3 x0 x1 x2 x3 q0 q1 q2
            have hsame : ∀ p, (wr.drewN nq).cell? p = wr.cell? p := fun _ => rfl
            have hheap : (wr.drewN nq).heap = wr.heap := rfl
            have hkq : Hid (Kp (fun _ => False) wr (wr.drewN nq)) := (Kp.refl _ wr).drewN nq
            generalize wr.drewN nq = wq at hsame hheap hkq ⊢
            have k0 : wq.cell? ⟨pb, po + q * 9, none⟩ = some (.slice none 0 0) := (hsame _).trans y0
            have k1 : wq.cell? ⟨pb, po + q * 9 + 1, none⟩ = some (.slice none 0 0) := (hsame _).trans y1
            have k2 : wq.cell? ⟨pb, po + q * 9 + 2, none⟩ = some (.int .i64 f.regs) := (hsame _).trans y2
            have k3 : wq.cell? ⟨pb, po + q * 9 + 3, none⟩ = some (.int .i64 0) := (hsame _).trans y3
            have k4 : wq.cell? ⟨pb, po + q * 9 + 4, none⟩ = some (.int .i64 0) := (hsame _).trans y4
            have k5 : wq.cell? ⟨pb, po + q * 9 + 5, none⟩ = some (.slice none 0 0) := (hsame _).trans y5
            have k6 : wq.cell? ⟨pb, po + q * 9 + 6, none⟩ = some (.slice f.T f.tr.length f.ct) := (hsame _).trans y6
            have k7 : wq.cell? ⟨pb, po + q * 9 + 7, none⟩ = some (.bool false) := (hsame _).trans y7
            have k8 : wq.cell? ⟨pb, po + q * 9 + 8, none⟩ = some (.string ⟨#[]⟩) := (hsame _).trans y8
            have xp2 : wq.cell? ⟨w.heap.size, 0, none⟩ = some (.slice (some ⟨pb, po, none⟩) fs.length cf) := (hsame _).trans xp
            have e02 : wq.cell? ⟨b, 0, none⟩ = some (.int .i64 (q : Int)) := (hsame _).trans e0
            have e82 : wq.cell? ⟨b, 8, none⟩ = some (.int .i64 d.pc) := (hsame _).trans e8
            have hl3 : w.heap.size < wq.heap.size := by rw [hheap]; exact hl1
            have hl4 : b < wq.heap.size := by rw [hheap]; exact hbl
            have hl5 : pb < wq.heap.size := by rw [hheap]; exact hpb
            have hl6 : w.heap.size + 1 < wq.heap.size := by rw [hheap]; exact hl2
            have HFT2 : Hid (RdT wq f.T f.tr.length f.tr) := HFT.out.1.kp hkq.out (fun _ _ => id)
            clear hsame hheap xp e0 e8 hl1 hbl hpb hl2 y0 y1 y2 y3 y4 y5 y6 y7 y8
            obtain ⟨r, hr⟩ : ∃ r, first f.tr (d.pc - 1) = r := ⟨_, rfl⟩
            have HRR := Lib.hid hr
            have HL2 : Hid (d.look fs = r) := by show _ = _; rw [HL.out, hr]
            clear hr
            go_cut [9, 10] (fun s9 s10 wx => Got wq r s9 s10 wx)
            case first =>
              go_region_held3 (fun w' => w'.cell? ⟨w.heap.size, 0, none⟩ = some (.slice (some ⟨pb, po, none⟩) fs.length cf) ∧ w'.cell? ⟨b, 0, none⟩ = some (.int .i64 (q : Int)) ∧ w'.cell? ⟨b, 8, none⟩ = some (.int .i64 d.pc) ∧ w'.cell? ⟨pb, po + q * 9, none⟩ = some (.slice none 0 0) ∧ w'.cell? ⟨pb, po + q * 9 + 1, none⟩ = some (.slice none 0 0) ∧ w'.cell? ⟨pb, po + q * 9 + 2, none⟩ = some (.int .i64 f.regs) ∧ w'.cell? ⟨pb, po + q * 9 + 3, none⟩ = some (.int .i64 0) ∧ w'.cell? ⟨pb, po + q * 9 + 4, none⟩ = some (.int .i64 0) ∧ w'.cell? ⟨pb, po + q * 9 + 5, none⟩ = some (.slice none 0 0) ∧ w'.cell? ⟨pb, po + q * 9 + 6, none⟩ = some (.slice f.T f.tr.length f.ct) ∧ w'.cell? ⟨pb, po + q * 9 + 7, none⟩ = some (.bool false) ∧ w'.cell? ⟨pb, po + q * 9 + 8, none⟩ = some (.string ⟨#[]⟩))
                ((first | (refine ⟨?_, ?_, ?_, ?_, ?_, ?_, ?_, ?_, ?_, ?_, ?_, ?_⟩ <;> (rw [hbel.cell (by simp; omega)]; go_simp)) | (refine ⟨?_, ?_, ?_, ?_, ?_, ?_, ?_, ?_, ?_, ?_, ?_, ?_⟩ <;> (rw [World.cell?_alloc_lt _ _ _ (by have := hbel.size; simp at this ⊢; omega), hbel.cell (by simp; omega)]; go_simp)) | (refine ⟨?_, ?_, ?_, ?_, ?_, ?_, ?_, ?_, ?_, ?_, ?_, ?_⟩ <;> go_simp)))
                (first
                 | (go_at_call 68; refine (catches_any _ _ _ _ _ _ _ _ (d.pc - 1) (by repeat (first | with_reducible exact HFT2.out | with_reducible refine Rd.drewN ?_ _ | with_reducible refine Rd.drew ?_)) HFT.out.2).mono ?_; rintro e w3 ⟨hee, hbel⟩; rw [HRR.out] at hee; subst hee; unfold TryD.agg)
                 | (go_at_call 68; refine (catches_any _ _ _ _ _ _ _ _ (d.pc - 1) (by repeat (first | with_reducible exact HFT2.out | with_reducible refine Rd.drewN ?_ _ | with_reducible refine Rd.drew ?_ | with_reducible refine Rd.alloc ?_ _)) HFT.out.2).mono ?_; rintro e w3 ⟨hee, hbel⟩; rw [HRR.out] at hee; subst hee; unfold TryD.agg; have u0 : w3.cell? ⟨wq.heap.size, 0, none⟩ = some (.int .i64 0) := (hbel.cell (p := ⟨wq.heap.size, 0, none⟩) (by simp)).trans ((Blk.new wq 57 TryD.zero.cs).cell rfl); have v0 : w3.frozen? ⟨wq.heap.size, 0, none⟩ = false := (hbel.frozen (p := ⟨wq.heap.size, 0, none⟩) (by simp)).trans ((Blk.new wq 57 TryD.zero.cs).frozen 0); have u1 : w3.cell? ⟨wq.heap.size, 1, none⟩ = some (.int .i64 0) := (hbel.cell (p := ⟨wq.heap.size, 1, none⟩) (by simp)).trans ((Blk.new wq 57 TryD.zero.cs).cell rfl); have v1 : w3.frozen? ⟨wq.heap.size, 1, none⟩ = false := (hbel.frozen (p := ⟨wq.heap.size, 1, none⟩) (by simp)).trans ((Blk.new wq 57 TryD.zero.cs).frozen 1); have u2 : w3.cell? ⟨wq.heap.size, 2, none⟩ = some (.int .i64 0) := (hbel.cell (p := ⟨wq.heap.size, 2, none⟩) (by simp)).trans ((Blk.new wq 57 TryD.zero.cs).cell rfl); have v2 : w3.frozen? ⟨wq.heap.size, 2, none⟩ = false := (hbel.frozen (p := ⟨wq.heap.size, 2, none⟩) (by simp)).trans ((Blk.new wq 57 TryD.zero.cs).frozen 2); have u3 : w3.cell? ⟨wq.heap.size, 3, none⟩ = some (.int .i64 0) := (hbel.cell (p := ⟨wq.heap.size, 3, none⟩) (by simp)).trans ((Blk.new wq 57 TryD.zero.cs).cell rfl); have v3 : w3.frozen? ⟨wq.heap.size, 3, none⟩ = false := (hbel.frozen (p := ⟨wq.heap.size, 3, none⟩) (by simp)).trans ((Blk.new wq 57 TryD.zero.cs).frozen 3); have ul : wq.heap.size < w3.heap.size := by have := hbel.size; simp at this; omega))
              all_goals (go_wp2_with fail; go_meet)
              · exact ⟨w3.heap.size, rfl, rfl, got_le hbel, Blk.new w3 57 (r.getD TryD.zero).cs, got_a hbel _⟩
              · exact ⟨wq.heap.size, rfl, rfl, Nat.le_refl _, got_c hbel _ _ _ _, got_b hbel _ _ _ _⟩
            case rest =>
              obtain ⟨g9, rfl, rfl, hg9, hb9, hbw⟩ := hcut
              obtain ⟨z0, z1, z2, z3, x0, x1, x2, x3⟩ := HQ.out
              have hz57 : Hid (Blk wc (w.heap.size + 1) 57 TryD.zero.cs) := (HB2.out.kp hkq.out id).below hbw hl6
              have hz60 : Hid (Blk wc w.heap.size 60 [.slice (some ⟨pb, po, none⟩) fs.length cf]) := (HB1.out.kp hkq.out id).below hbw hl3
              have hkw : Hid (Kp (fun _ => False) w wc) := (HK.out.trans hkq.out (S := fun _ => False) (fun _ _ h => h)).trans (Kp.of_below (S := fun _ => False) hbw) (fun _ _ h => h)
              have n0 := hz57.out.frozen 0
              have n1 := hz57.out.frozen 1
              have n2 := hz57.out.frozen 2
              have n3 := hz57.out.frozen 3
              have m0 : wc.cell? ⟨w.heap.size + 1, 0, none⟩ = some (.int .i64 0) := hz57.out.cell rfl
              have m1 : wc.cell? ⟨w.heap.size + 1, 1, none⟩ = some (.int .i64 0) := hz57.out.cell rfl
              have m2 : wc.cell? ⟨w.heap.size + 1, 2, none⟩ = some (.int .i64 0) := hz57.out.cell rfl
              have m3 : wc.cell? ⟨w.heap.size + 1, 3, none⟩ = some (.int .i64 0) := hz57.out.cell rfl
              rcases r with _ | t
              · clear z0 z1 z2 z3 x0 x1 x2 x3 hb9 hbw
                go_wp2
                go_roundg (m + 1)
                case rel => exact ⟨m, _, by omega, rfl, rfl, by go_num, HSK.out HL2.out, hkw.out, hz60.out, hz57.out⟩
                case measure => have := HG.out; omega
              · obtain ⟨fr, up, tg, rg⟩ := t
                have o0 : wc.cell? ⟨g9, 0, none⟩ = some (.int .i64 fr) := hb9.cell rfl
                have o1 : wc.cell? ⟨g9, 1, none⟩ = some (.int .i64 up) := hb9.cell rfl
                have o2 : wc.cell? ⟨g9, 2, none⟩ = some (.int .i64 tg) := hb9.cell rfl
                have o3 : wc.cell? ⟨g9, 3, none⟩ = some (.int .i64 rg) := hb9.cell rfl
                have hne : g9 ≠ w.heap.size + 1 := by omega
                clear z0 z1 z2 z3 x0 x1 x2 x3 hb9 hbw
                go_wp2
                go_region
                go_wp2
                refine bodyPost_ret (v := .tuple #[.int .i64 m, TryD.agg ⟨fr, up, tg, rg⟩, .bool true]) (by simp [results, Try.results31, go_sem, TryD.agg, m0, m1, m2, m3]) rfl ?_
                rw [HFU.out, findU_hit HBI.out.2 HL2.out]
                exact ⟨rfl, (((((hkw.out.setCell (.inl (by simp)) _).setCell (.inl (by simp)) _).setCell (.inl (by simp)) _).setCell (.inl (by simp)) _).drew).below (fun _ _ h => h)⟩
      · have e14' : wr.cell? ⟨b, 14, none⟩ = some (.pointer (some ⟨sp, 0, none⟩)) := by rw [e14]; simp [FU.sv, hst14]
        have HL : Hid (d.look fs = none) := by show _ = _; unfold FU.look; rw [if_neg (by rw [hst14]; simp)]
        have hnn := fun W => run_neq_ptr_none (P := Try.prog) W (tp := 38) ⟨sp, 0, none⟩ Try.underlying38
        clear e14 hst14
        go_wp2_with (go_at_call 25; refine (at_in hst.out HBI.out.1 hn).mono ?_; rintro e w2 ⟨rfl, rfl⟩; unfold ptr)
        go_quiet (fail)
        go_wp2
        go_roundg (m + 1)
        case rel => exact ⟨m, _, by omega, rfl, rfl, by go_num, HSK.out HL.out, HK.out.drewN _, HB1.out, HB2.out⟩
        case measure => have := HG.out; omega
end Go.Proofs.Ytpcamgjfikipgaa
