/- wire.span and wire.GetText. -/
import Derived.Test.YtcfbmglhikjahaaDoorGet
set_option linter.unusedVariables false
set_option linter.unusedSimpArgs false
namespace Go.Proofs.YtcfbmglhikjahaaDoor
open Go.RowKit Go.Proofs.YtcfbmglhikjahaaDoorW.PrintWords

theorem and_mask64 (x : Int) (i : Nat) (h0 : 0 ≤ x) (h1 : x < 9223372036854775808) (hi : i ≤ 63) : Go.bits .and .i64 x (2 ^ i - 1) = x % 2 ^ i :=
  bits_mask .i64 63 (by decide) (fun n h0 h1 => by rw [IntKind.wrap_i64]; omega) i hi x h0 (by simpa using h1)

def clS (x : Int) : Nat := if x < 64 then 1 else if x < 128 then 2 else 4
def clM (x : Int) : Int := if x < 64 then 64 else if x < 128 then 16384 else 1073741824
def clL (x : Int) : Int := if x < 64 then 0 else if x < 128 then 64 else 16384
/-- the place of the text that stands at a place: what span answers -/
def spanR (l : List Int) (a : Nat) : Int × Int × Int :=
  if l.length ≤ a then (0, 0, 111)
  else if 192 ≤ l.getD a 0 then (0, 0, 112)
  else if l.length < a + clS (l.getD a 0) then (0, 0, 111)
  else if beV ((l.drop a).take (clS (l.getD a 0))) % clM (l.getD a 0) < clL (l.getD a 0) then (0, 0, 112)
  else if 1048576 < beV ((l.drop a).take (clS (l.getD a 0))) % clM (l.getD a 0) then (0, 0, 2)
  else if (l.length : Int) < (a : Int) + (clS (l.getD a 0) : Int) + beV ((l.drop a).take (clS (l.getD a 0))) % clM (l.getD a 0) then (0, 0, 111)
  else ((a : Int) + (clS (l.getD a 0) : Int), (a : Int) + (clS (l.getD a 0) : Int) + beV ((l.drop a).take (clS (l.getD a 0))) % clM (l.getD a 0), 0)

theorem beV_lt (l : List Int) (h : AllB l) (s : Nat) (hs : l.length = s) (hs4 : s ≤ 4) : 0 ≤ beV l ∧ beV l < 4294967296 := by
  have := beV_bound l h
  subst hs
  refine ⟨this.1, Int.lt_of_lt_of_le this.2 ?_⟩
  have : (256 : Nat) ^ l.length ≤ 256 ^ 4 := Nat.pow_le_pow_right (by omega) hs4
  have h2 : ((256 ^ l.length : Nat) : Int) ≤ ((256 ^ 4 : Nat) : Int) := by exact_mod_cast this
  simpa using h2
theorem numR_small (l : List Int) (h : AllB l) (a s : Nat) (hs : s ≤ 4) (hl : a + s ≤ l.length) : numR l a s = (beV ((l.drop a).take s), (a : Int) + s, 0) := by
  have hb := (h.drop a).take s
  have hv := beV_lt _ hb s (by simp; omega) hs
  have he : accV ((l.drop a).take s) = beV ((l.drop a).take s) := by rw [accV_eq _ hb]; unfold wrap64; omega
  unfold numR
  rw [if_neg (by omega), he, if_neg (by omega)]

set_option maxRecDepth 100000 in
set_option maxHeartbeats 1000000 in
theorem span_bad0 (b o n c : Nat) (w : World) (a : Nat) (x : Int) (hG : Classes w) (ha : a < n) (hc : n ≤ c) (hn : n ≤ 140737488355328) (g0 : 0 ≤ x) (g1 : x < 64) (hx : w.cell? ⟨b, o + a, none⟩ = some (.int .u8 x))
    (hcall : Calls Tryd.prog 51 #[.slice (some ⟨b, o, none⟩) n c, .int .i64 a, .int .i64 1] w fun e w' => e = .returned (.tuple #[.int .i64 0, .int .i64 0, .int .i64 111]) ∧ w = w') :
    Calls Tryd.prog 65 #[.slice (some ⟨b, o, none⟩) n c, .int .i64 a] w fun e w' => e = .returned (.tuple #[.int .i64 0, .int .i64 0, .int .i64 111]) ∧ w = w' := by
  obtain ⟨hc0, hc1, hc2⟩ := hG
  have HC := Lib.hid hcall
  clear hcall
  have e1 : x / 64 = 0 := by omega
  have e2 : ((a : Int) == (n : Int)) = false := by rw [beq_eq_false_iff_ne]; omega
  have e3 : (a == n) = false := by rw [beq_eq_false_iff_ne]; omega
  go_enter Tryd.func65, Tryd.ntmps65
  go_wp2_with (go_at_call 51; refine HC.out.mono ?_; rintro e w' ⟨rfl, rfl⟩)
  go_ret3
  exact ⟨rfl, rfl⟩

set_option maxRecDepth 100000 in
set_option maxHeartbeats 1000000 in
theorem span_good0 (b o n c : Nat) (w : World) (a : Nat) (x v : Int) (hG : Classes w) (ha : a < n) (hc : n ≤ c) (hn : n ≤ 140737488355328) (g0 : 0 ≤ x) (g1 : x < 64) (hx : w.cell? ⟨b, o + a, none⟩ = some (.int .u8 x)) (hv0 : 0 ≤ v) (hv1 : v < 4294967296)
    (hcall : Calls Tryd.prog 51 #[.slice (some ⟨b, o, none⟩) n c, .int .i64 a, .int .i64 1] w fun e w' => e = .returned (.tuple #[.int .i64 v, .int .i64 (a + 1), .int .i64 0]) ∧ w = w') (has : a + 1 ≤ n) (r : Int × Int × Int)
    (hr : r = if v % 64 < 0 then (0, 0, 112) else if 1048576 < v % 64 then (0, 0, 2) else if (n : Int) < a + 1 + v % 64 then (0, 0, 111) else ((a : Int) + 1, (a : Int) + 1 + v % 64, 0)) :
    Calls Tryd.prog 65 #[.slice (some ⟨b, o, none⟩) n c, .int .i64 a] w fun e w' => e = .returned (.tuple #[.int .i64 r.1, .int .i64 r.2.1, .int .i64 r.2.2]) ∧ w = w' := by
  obtain ⟨hc0, hc1, hc2⟩ := hG
  have HC := Lib.hid hcall
  clear hcall
  have e1 : x / 64 = 0 := by omega
  have e2 : ((a : Int) == (n : Int)) = false := by rw [beq_eq_false_iff_ne]; omega
  have e3 : (a == n) = false := by rw [beq_eq_false_iff_ne]; omega
  have e4 : Go.bits .and .i64 v 63 = v % 64 := and_mask64 v 6 hv0 (by omega) (by decide)
  by_cases k1 : v % 64 < 0
  · exact absurd k1 (by omega)
  · rw [if_neg k1] at hr
    by_cases k2 : 1048576 < v % 64
    · exact absurd k2 (by omega)
    · rw [if_neg k2] at hr
      by_cases k3 : (n : Int) < a + 1 + v % 64
      · rw [if_pos k3] at hr
        subst hr
        go_enter Tryd.func65, Tryd.ntmps65
        go_wp2_with (go_at_call 51; refine HC.out.mono ?_; rintro e w' ⟨rfl, rfl⟩)
        go_ret3
        exact ⟨rfl, rfl⟩
      · rw [if_neg k3] at hr
        subst hr
        go_enter Tryd.func65, Tryd.ntmps65
        go_wp2_with (go_at_call 51; refine HC.out.mono ?_; rintro e w' ⟨rfl, rfl⟩)
        go_ret3
        exact ⟨rfl, rfl⟩

set_option maxRecDepth 100000 in
set_option maxHeartbeats 1000000 in
theorem span_bad1 (b o n c : Nat) (w : World) (a : Nat) (x : Int) (hG : Classes w) (ha : a < n) (hc : n ≤ c) (hn : n ≤ 140737488355328) (g0 : 64 ≤ x) (g1 : x < 128) (hx : w.cell? ⟨b, o + a, none⟩ = some (.int .u8 x))
    (hcall : Calls Tryd.prog 51 #[.slice (some ⟨b, o, none⟩) n c, .int .i64 a, .int .i64 2] w fun e w' => e = .returned (.tuple #[.int .i64 0, .int .i64 0, .int .i64 111]) ∧ w = w') :
    Calls Tryd.prog 65 #[.slice (some ⟨b, o, none⟩) n c, .int .i64 a] w fun e w' => e = .returned (.tuple #[.int .i64 0, .int .i64 0, .int .i64 111]) ∧ w = w' := by
  obtain ⟨hc0, hc1, hc2⟩ := hG
  have HC := Lib.hid hcall
  clear hcall
  have e1 : x / 64 = 1 := by omega
  have e2 : ((a : Int) == (n : Int)) = false := by rw [beq_eq_false_iff_ne]; omega
  have e3 : (a == n) = false := by rw [beq_eq_false_iff_ne]; omega
  go_enter Tryd.func65, Tryd.ntmps65
  go_wp2_with (go_at_call 51; refine HC.out.mono ?_; rintro e w' ⟨rfl, rfl⟩)
  go_ret3
  exact ⟨rfl, rfl⟩

set_option maxRecDepth 100000 in
set_option maxHeartbeats 1000000 in
theorem span_good1 (b o n c : Nat) (w : World) (a : Nat) (x v : Int) (hG : Classes w) (ha : a < n) (hc : n ≤ c) (hn : n ≤ 140737488355328) (g0 : 64 ≤ x) (g1 : x < 128) (hx : w.cell? ⟨b, o + a, none⟩ = some (.int .u8 x)) (hv0 : 0 ≤ v) (hv1 : v < 4294967296)
    (hcall : Calls Tryd.prog 51 #[.slice (some ⟨b, o, none⟩) n c, .int .i64 a, .int .i64 2] w fun e w' => e = .returned (.tuple #[.int .i64 v, .int .i64 (a + 2), .int .i64 0]) ∧ w = w') (has : a + 2 ≤ n) (r : Int × Int × Int)
    (hr : r = if v % 16384 < 64 then (0, 0, 112) else if 1048576 < v % 16384 then (0, 0, 2) else if (n : Int) < a + 2 + v % 16384 then (0, 0, 111) else ((a : Int) + 2, (a : Int) + 2 + v % 16384, 0)) :
    Calls Tryd.prog 65 #[.slice (some ⟨b, o, none⟩) n c, .int .i64 a] w fun e w' => e = .returned (.tuple #[.int .i64 r.1, .int .i64 r.2.1, .int .i64 r.2.2]) ∧ w = w' := by
  obtain ⟨hc0, hc1, hc2⟩ := hG
  have HC := Lib.hid hcall
  clear hcall
  have e1 : x / 64 = 1 := by omega
  have e2 : ((a : Int) == (n : Int)) = false := by rw [beq_eq_false_iff_ne]; omega
  have e3 : (a == n) = false := by rw [beq_eq_false_iff_ne]; omega
  have e4 : Go.bits .and .i64 v 16383 = v % 16384 := and_mask64 v 14 hv0 (by omega) (by decide)
  by_cases k1 : v % 16384 < 64
  · rw [if_pos k1] at hr
    subst hr
    go_enter Tryd.func65, Tryd.ntmps65
    go_wp2_with (go_at_call 51; refine HC.out.mono ?_; rintro e w' ⟨rfl, rfl⟩)
    go_ret3
    exact ⟨rfl, rfl⟩
  · rw [if_neg k1] at hr
    by_cases k2 : 1048576 < v % 16384
    · exact absurd k2 (by omega)
    · rw [if_neg k2] at hr
      by_cases k3 : (n : Int) < a + 2 + v % 16384
      · rw [if_pos k3] at hr
        subst hr
        go_enter Tryd.func65, Tryd.ntmps65
        go_wp2_with (go_at_call 51; refine HC.out.mono ?_; rintro e w' ⟨rfl, rfl⟩)
        go_ret3
        exact ⟨rfl, rfl⟩
      · rw [if_neg k3] at hr
        subst hr
        go_enter Tryd.func65, Tryd.ntmps65
        go_wp2_with (go_at_call 51; refine HC.out.mono ?_; rintro e w' ⟨rfl, rfl⟩)
        go_ret3
        exact ⟨rfl, rfl⟩

set_option maxRecDepth 100000 in
set_option maxHeartbeats 1000000 in
theorem span_bad2 (b o n c : Nat) (w : World) (a : Nat) (x : Int) (hG : Classes w) (ha : a < n) (hc : n ≤ c) (hn : n ≤ 140737488355328) (g0 : 128 ≤ x) (g1 : x < 192) (hx : w.cell? ⟨b, o + a, none⟩ = some (.int .u8 x))
    (hcall : Calls Tryd.prog 51 #[.slice (some ⟨b, o, none⟩) n c, .int .i64 a, .int .i64 4] w fun e w' => e = .returned (.tuple #[.int .i64 0, .int .i64 0, .int .i64 111]) ∧ w = w') :
    Calls Tryd.prog 65 #[.slice (some ⟨b, o, none⟩) n c, .int .i64 a] w fun e w' => e = .returned (.tuple #[.int .i64 0, .int .i64 0, .int .i64 111]) ∧ w = w' := by
  obtain ⟨hc0, hc1, hc2⟩ := hG
  have HC := Lib.hid hcall
  clear hcall
  have e1 : x / 64 = 2 := by omega
  have e2 : ((a : Int) == (n : Int)) = false := by rw [beq_eq_false_iff_ne]; omega
  have e3 : (a == n) = false := by rw [beq_eq_false_iff_ne]; omega
  go_enter Tryd.func65, Tryd.ntmps65
  go_wp2_with (go_at_call 51; refine HC.out.mono ?_; rintro e w' ⟨rfl, rfl⟩)
  go_ret3
  exact ⟨rfl, rfl⟩

set_option maxRecDepth 100000 in
set_option maxHeartbeats 1000000 in
theorem span_good2 (b o n c : Nat) (w : World) (a : Nat) (x v : Int) (hG : Classes w) (ha : a < n) (hc : n ≤ c) (hn : n ≤ 140737488355328) (g0 : 128 ≤ x) (g1 : x < 192) (hx : w.cell? ⟨b, o + a, none⟩ = some (.int .u8 x)) (hv0 : 0 ≤ v) (hv1 : v < 4294967296)
    (hcall : Calls Tryd.prog 51 #[.slice (some ⟨b, o, none⟩) n c, .int .i64 a, .int .i64 4] w fun e w' => e = .returned (.tuple #[.int .i64 v, .int .i64 (a + 4), .int .i64 0]) ∧ w = w') (has : a + 4 ≤ n) (r : Int × Int × Int)
    (hr : r = if v % 1073741824 < 16384 then (0, 0, 112) else if 1048576 < v % 1073741824 then (0, 0, 2) else if (n : Int) < a + 4 + v % 1073741824 then (0, 0, 111) else ((a : Int) + 4, (a : Int) + 4 + v % 1073741824, 0)) :
    Calls Tryd.prog 65 #[.slice (some ⟨b, o, none⟩) n c, .int .i64 a] w fun e w' => e = .returned (.tuple #[.int .i64 r.1, .int .i64 r.2.1, .int .i64 r.2.2]) ∧ w = w' := by
  obtain ⟨hc0, hc1, hc2⟩ := hG
  have HC := Lib.hid hcall
  clear hcall
  have e1 : x / 64 = 2 := by omega
  have e2 : ((a : Int) == (n : Int)) = false := by rw [beq_eq_false_iff_ne]; omega
  have e3 : (a == n) = false := by rw [beq_eq_false_iff_ne]; omega
  have e4 : Go.bits .and .i64 v 1073741823 = v % 1073741824 := and_mask64 v 30 hv0 (by omega) (by decide)
  by_cases k1 : v % 1073741824 < 16384
  · rw [if_pos k1] at hr
    subst hr
    go_enter Tryd.func65, Tryd.ntmps65
    go_wp2_with (go_at_call 51; refine HC.out.mono ?_; rintro e w' ⟨rfl, rfl⟩)
    go_ret3
    exact ⟨rfl, rfl⟩
  · rw [if_neg k1] at hr
    by_cases k2 : 1048576 < v % 1073741824
    · rw [if_pos k2] at hr
      subst hr
      go_enter Tryd.func65, Tryd.ntmps65
      go_wp2_with (go_at_call 51; refine HC.out.mono ?_; rintro e w' ⟨rfl, rfl⟩)
      go_ret3
      exact ⟨rfl, rfl⟩
    · rw [if_neg k2] at hr
      by_cases k3 : (n : Int) < a + 4 + v % 1073741824
      · rw [if_pos k3] at hr
        subst hr
        go_enter Tryd.func65, Tryd.ntmps65
        go_wp2_with (go_at_call 51; refine HC.out.mono ?_; rintro e w' ⟨rfl, rfl⟩)
        go_ret3
        exact ⟨rfl, rfl⟩
      · rw [if_neg k3] at hr
        subst hr
        go_enter Tryd.func65, Tryd.ntmps65
        go_wp2_with (go_at_call 51; refine HC.out.mono ?_; rintro e w' ⟨rfl, rfl⟩)
        go_ret3
        exact ⟨rfl, rfl⟩


set_option maxRecDepth 100000 in
theorem span_end (A : Option Addr) (n c : Nat) (w : World) (hn : n ≤ 140737488355328) :
    Calls Tryd.prog 65 #[.slice A n c, .int .i64 n] w fun e w' => e = .returned (.tuple #[.int .i64 0, .int .i64 0, .int .i64 111]) ∧ w = w' := by
  go_enter Tryd.func65, Tryd.ntmps65
  go_wp2
  go_ret3
  exact ⟨rfl, rfl⟩

set_option maxRecDepth 100000 in
theorem span_no (b o n c : Nat) (w : World) (a : Nat) (x : Int) (ha : a < n) (hc : n ≤ c) (hn : n ≤ 140737488355328) (g0 : 192 ≤ x) (g1 : x < 256) (hx : w.cell? ⟨b, o + a, none⟩ = some (.int .u8 x)) :
    Calls Tryd.prog 65 #[.slice (some ⟨b, o, none⟩) n c, .int .i64 a] w fun e w' => e = .returned (.tuple #[.int .i64 0, .int .i64 0, .int .i64 112]) ∧ w = w' := by
  have e1 : x / 64 = 3 := by omega
  have e2 : ((a : Int) == (n : Int)) = false := by rw [beq_eq_false_iff_ne]; omega
  have e3 : (a == n) = false := by rw [beq_eq_false_iff_ne]; omega
  go_enter Tryd.func65, Tryd.ntmps65
  go_wp2
  go_ret3
  exact ⟨rfl, rfl⟩

/-- wire.span -/
theorem span_any (A : Option Addr) (n c : Nat) (l : List Int) (w : World) (hG : Classes w) (h : Rd w A n l) (hc : n ≤ c) (hn : n ≤ 140737488355328) (hb : AllB l) (a : Nat) (ha : a ≤ n) :
    Calls Tryd.prog 65 #[.slice A n c, .int .i64 a] w fun e w' => e = .returned (.tuple #[.int .i64 (spanR l a).1, .int .i64 (spanR l a).2.1, .int .i64 (spanR l a).2.2]) ∧ w = w' := by
  have hl := h.1
  by_cases c1 : n = a
  · subst c1
    have : spanR l n = (0, 0, 111) := by unfold spanR; rw [if_pos (by omega)]
    rw [this]
    exact span_end A n c w hn
  · obtain ⟨b, o, rfl, hcell⟩ := h.cells (by omega)
    have hx := hcell a (by omega)
    have hxb := hb.getD a
    have num := fun s (hs : s = 1 ∨ s = 2 ∨ s = 4 ∨ s = 8) => getnum_any (some ⟨b, o, none⟩) n c l w h hc hn hb a s ha hs
    have hsp : spanR l a = if 192 ≤ l.getD a 0 then (0, 0, 112) else if l.length < a + clS (l.getD a 0) then (0, 0, 111)
  else if beV ((l.drop a).take (clS (l.getD a 0))) % clM (l.getD a 0) < clL (l.getD a 0) then (0, 0, 112)
  else if 1048576 < beV ((l.drop a).take (clS (l.getD a 0))) % clM (l.getD a 0) then (0, 0, 2)
  else if (l.length : Int) < (a : Int) + (clS (l.getD a 0) : Int) + beV ((l.drop a).take (clS (l.getD a 0))) % clM (l.getD a 0) then (0, 0, 111)
  else ((a : Int) + (clS (l.getD a 0) : Int), (a : Int) + (clS (l.getD a 0) : Int) + beV ((l.drop a).take (clS (l.getD a 0))) % clM (l.getD a 0), 0) := by
      unfold spanR; rw [if_neg (by omega)]
    generalize l.getD a 0 = x at *
    by_cases c2 : 192 ≤ x
    · rw [hsp, if_pos c2]
      exact span_no b o n c w a x (by omega) hc hn c2 hxb.2 hx
    · rw [if_neg c2] at hsp
      have bad : ∀ s, clS x = s → n < a + s → numR l a s = (0, 0, 111) := fun s _ hs => by unfold numR; rw [if_pos (by omega)]
      have good : ∀ s, s ≤ 4 → a + s ≤ n → numR l a s = (beV ((l.drop a).take s), (a : Int) + s, 0) ∧ 0 ≤ beV ((l.drop a).take s) ∧ beV ((l.drop a).take s) < 4294967296 := fun s hs h1 =>
        ⟨numR_small l hb a s hs (by omega), beV_lt _ ((hb.drop a).take s) s (by simp; omega) hs⟩
      by_cases k0 : x < 64
      · have es : clS x = 1 := by simp [clS, k0]
        have em : clM x = 64 := by simp [clM, k0]
        have el : clL x = 0 := by simp [clL, k0]
        rw [es, em, el] at hsp
        by_cases c3 : n < a + 1
        · have nm := num 1 (by omega)
          rw [bad 1 es c3] at nm
          rw [hsp, if_pos (by omega)]
          exact span_bad0 b o n c w a x hG (by omega) hc hn (by omega) (by omega) hx nm
        · rw [if_neg (by omega)] at hsp
          obtain ⟨e1, e2, e3⟩ := good 1 (by omega) (by omega)
          have nm := num 1 (by omega)
          rw [e1] at nm
          exact span_good0 b o n c w a x _ hG (by omega) hc hn (by omega) (by omega) hx e2 e3 nm (by omega) _ (by rw [hsp, hl]; rfl)
      · skip
        by_cases k1 : x < 128
        · have es : clS x = 2 := by simp [clS, k0, k1]
          have em : clM x = 16384 := by simp [clM, k0, k1]
          have el : clL x = 64 := by simp [clL, k0, k1]
          rw [es, em, el] at hsp
          by_cases c3 : n < a + 2
          · have nm := num 2 (by omega)
            rw [bad 2 es c3] at nm
            rw [hsp, if_pos (by omega)]
            exact span_bad1 b o n c w a x hG (by omega) hc hn (by omega) (by omega) hx nm
          · rw [if_neg (by omega)] at hsp
            obtain ⟨e1, e2, e3⟩ := good 2 (by omega) (by omega)
            have nm := num 2 (by omega)
            rw [e1] at nm
            exact span_good1 b o n c w a x _ hG (by omega) hc hn (by omega) (by omega) hx e2 e3 nm (by omega) _ (by rw [hsp, hl]; rfl)
        · skip
          have es : clS x = 4 := by simp [clS, k0, k1]
          have em : clM x = 1073741824 := by simp [clM, k0, k1]
          have el : clL x = 16384 := by simp [clL, k0, k1]
          rw [es, em, el] at hsp
          by_cases c3 : n < a + 4
          · have nm := num 4 (by omega)
            rw [bad 4 es c3] at nm
            rw [hsp, if_pos (by omega)]
            exact span_bad2 b o n c w a x hG (by omega) hc hn (by omega) (by omega) hx nm
          · rw [if_neg (by omega)] at hsp
            obtain ⟨e1, e2, e3⟩ := good 4 (by omega) (by omega)
            have nm := num 4 (by omega)
            rw [e1] at nm
            exact span_good2 b o n c w a x _ hG (by omega) hc hn (by omega) (by omega) hx e2 e3 nm (by omega) _ (by rw [hsp, hl]; rfl)
end Go.Proofs.YtcfbmglhikjahaaDoor
