/- package hub: take, Post. -/
import Derived.Test.YtcfbmglhikjahaaDoorHubMsg
set_option linter.unusedVariables false
set_option linter.unusedSimpArgs false
namespace Go.Proofs.YtcfbmglhikjahaaDoor
open Go.RowKit Go.Proofs.YtcfbmglhikjahaaDoorW.PrintWords

theorem info_posted : (Tryd.prog.info? 45).map (fun i => (i.zero, i.size, i.bytes)) = some (some (.agg #[.int .i64 0, .int .i64 0, .slice none 0 0]), 3, 40) := by kernel_rfl

/-- behind the append of take -/
theorem take_set {g : Nat} {vg vq vp v1 v : Value} {ep : Int} {w w3 : World} {B m : Nat} {xs us : List Value} {l : List Int} {W : World} (hzW : BF (fun _ => False) w W) (h : IsHub w g vg ep vq vp) (hq : w.ownsRow B 45 3 vq m xs)
    (hg : W.grownBy w3 vq.ownBlock) (hown : w3.ownsRow B 45 3 v1 (m + 1) us) (ho : Ow W w.heap.size v l) (hat : v1.ownBlock = vq.ownBlock ∨ v1.ownBlock = some W.heap.size) :
    IsHub (w3.setCell ⟨g, 2, none⟩ v1) g vg ep v1 vp ∧ (w3.setCell ⟨g, 2, none⟩ v1).ownsRow B 45 3 v1 (m + 1) us ∧ Ow (w3.setCell ⟨g, 2, none⟩ v1) w.heap.size v l ∧ (v1.ownBlock = vq.ownBlock ∨ ∃ k, v1.ownBlock = some k ∧ w.heap.size ≤ k) ∧ BF (HS g vq vp) w (w3.setCell ⟨g, 2, none⟩ v1) := by
  have hWh := hzW.at h (fun k => k)
  have hWr := hzW.row hq (fun _ _ k => k)
  have hgl : g < w.heap.size := (Array.getElem?_eq_some_iff.1 h).1
  have hh3 := (hg.block g (Nat.lt_of_lt_of_le hgl hzW.size) (fun e => row_ne hWr hWh (by decide) e.symm)).trans hWh
  have hG : BF (fun b => vq.ownBlock = some b) W w3 := (BF.refl _ _).grown hg (fun _ e _ => e)
  have hS : BF (fun b => b = g) w3 (w3.setCell ⟨g, 2, none⟩ v1) := (BF.refl _ _).set g 2 _ (fun _ => rfl)
  have ho3 := hG.row ho (fun b e => rows_ne hWr ho (by decide) b e)
  refine ⟨set_block hh3 2 _, hS.row hown (fun b e k => row_ne hown hh3 (by decide) (k ▸ e)), hS.row ho3 (fun b e k => row_ne ho3 hh3 (by decide) (k ▸ e)), ?_, ?_⟩
  · rcases hat with e | e
    · exact .inl e
    · exact .inr ⟨_, e, hzW.size⟩
  · exact ((hzW.mono (fun _ k => k.elim)).over hG (fun b _ e => .inr (.inl e))).over hS (fun b _ e => .inl e)
theorem take_ep {g : Nat} {vg vq vp v1 v : Value} {ep ep' : Int} {w w4 : World} {B m : Nat} {us : List Value} {l : List Int}
    (h : IsHub w4 g vg ep v1 vp) (hown : w4.ownsRow B 45 3 v1 (m + 1) us) (ho : Ow w4 w.heap.size v l) (hf : BF (HS g vq vp) w w4) :
    IsHub (w4.setCell ⟨g, 1, none⟩ (.int .i64 ep')) g vg ep' v1 vp ∧ (w4.setCell ⟨g, 1, none⟩ (.int .i64 ep')).ownsRow B 45 3 v1 (m + 1) us ∧ Ow (w4.setCell ⟨g, 1, none⟩ (.int .i64 ep')) w.heap.size v l ∧ BF (HS g vq vp) w (w4.setCell ⟨g, 1, none⟩ (.int .i64 ep')) := by
  have hS : BF (fun b => b = g) w4 (w4.setCell ⟨g, 1, none⟩ (.int .i64 ep')) := (BF.refl _ _).set g 1 _ (fun _ => rfl)
  exact ⟨set_block h 1 _, hS.row hown (fun b e k => row_ne hown h (by decide) (k ▸ e)), hS.row ho (fun b e k => row_ne ho h (by decide) (k ▸ e)), hf.over hS (fun b _ e => .inl e)⟩
section take
variable (g : Nat) (vg vq vp : Value) (f : Nat) (cap : Value) (A : Option Addr) (n c : Nat) (kind ep : Int) (nw en : Bool) (er : Int) (w : World)
set_option maxRecDepth 100000 in
/-- take of what is wrong -/
theorem take_err (hent : ∀ (args : Array Value) (W : World), Sem.run Tryd.prog (callFunc f args) W = .ok (.enter f args) W) (HF : Calls Tryd.prog f #[cap, .slice A n c] w fun x w' => x = .returned (.tuple #[.bool nw, .bool en, .int .i64 er]) ∧ CN w w') (he : er ≠ 0) :
    Calls Tryd.prog 31 #[.pointer (some ⟨g, 0, none⟩), .int .i64 kind, .slice A n c, .func (.func f) #[cap] #[]] w fun x w' => x = .returned (.tuple #[.int .i64 0, .int .i64 er]) ∧ CN w w' := by
  have k1 : (er != 0) = true := bne_iff_ne.2 he
  have k2 : (er == 0) = false := beq_eq_false_iff_ne.2 he
  have H := Lib.hid HF
  have HE := Lib.hid hent
  clear HF hent
  go_enter Tryd.func31, Tryd.ntmps31
  go_wp2_with fail
  rw [HE.out]
  show Calls _ _ _ _ _
  refine H.out.mono ?_
  rintro x w1 ⟨rfl, hc⟩
  go_wp2
  go_ret2
  exact ⟨rfl, hc⟩
set_option maxRecDepth 100000 in
/-- take of what is of another epoch -/
theorem take_stale (hent : ∀ (args : Array Value) (W : World), Sem.run Tryd.prog (callFunc f args) W = .ok (.enter f args) W) (HF : Calls Tryd.prog f #[cap, .slice A n c] w fun x w' => x = .returned (.tuple #[.bool false, .bool en, .int .i64 0]) ∧ CN w w') :
    Calls Tryd.prog 31 #[.pointer (some ⟨g, 0, none⟩), .int .i64 kind, .slice A n c, .func (.func f) #[cap] #[]] w fun x w' => x = .returned (.tuple #[.int .i64 0, .int .i64 221]) ∧ CN w w' := by
  have H := Lib.hid HF
  have HE := Lib.hid hent
  clear HF hent
  go_enter Tryd.func31, Tryd.ntmps31
  go_wp2_with fail
  rw [HE.out]
  show Calls _ _ _ _ _
  refine H.out.mono ?_
  rintro x w1 ⟨rfl, hc⟩
  go_wp2
  go_ret2
  exact ⟨rfl, hc⟩
set_option maxRecDepth 100000 in
set_option maxHeartbeats 1000000 in
/-- take -/
theorem take_good (m B : Nat) (xs : List Value) (l : List Int) (h : IsHub w g vg ep vq vp) (hB : B ≤ w.heap.size) (hq : w.ownsRow B 45 3 vq m xs) (hvp : vp.ownBlock ≠ some g) (hl : Rd w A n l) (hn : n ≤ 1048576) (h2 : m < 1000) (e0 : 0 ≤ ep) (e1 : ep ≤ 1099511627776)
    (hent : ∀ (args : Array Value) (W : World), Sem.run Tryd.prog (callFunc f args) W = .ok (.enter f args) W) (HF : Calls Tryd.prog f #[cap, .slice A n c] w fun x w' => x = .returned (.tuple #[.bool true, .bool en, .int .i64 0]) ∧ CN w w') :
    Calls Tryd.prog 31 #[.pointer (some ⟨g, 0, none⟩), .int .i64 kind, .slice A n c, .func (.func f) #[cap] #[]] w fun x w' => ∃ v1 v, x = .returned (.tuple #[.int .i64 m, .int .i64 0]) ∧
      IsHub w' g vg (if en then ep + 1 else ep) v1 vp ∧ w'.ownsRow B 45 3 v1 (m + 1) (xs ++ [Value.int .i64 kind, Value.int .i64 ep, v]) ∧ Ow w' w.heap.size v l ∧ (v1.ownBlock = vq.ownBlock ∨ ∃ k, v1.ownBlock = some k ∧ w.heap.size ≤ k) ∧ BF (HS g vq vp) w w' := by
  obtain ⟨Aq, qq, rfl⟩ : ∃ Aq qq, vq = .slice Aq m qq := by
    rcases hq.2 with ⟨rfl, rfl⟩ | ⟨gg, cap, cur, rfl, _⟩
    · exact ⟨_, _, rfl⟩
    · exact ⟨_, _, rfl⟩
  have H := Lib.hid HF
  have HE := Lib.hid hent
  have HH := Lib.hid h
  have HQ := Lib.hid hq
  have HL := Lib.hid hl
  have hgl : g < w.heap.size := (Array.getElem?_eq_some_iff.1 h).1
  have k4 : ((m : Int) == 1000) = false := by rw [beq_eq_false_iff_ne]; omega
  clear HF hent h hq hl
  go_enter Tryd.func31, Tryd.ntmps31
  go_wp2_with fail
  rw [HE.out]
  show Calls _ _ _ _ _
  refine H.out.mono ?_
  rintro x w1 ⟨rfl, hc1⟩
  have hz1 : BF (fun _ => False) w w1 := BF.of_cn hc1
  have HH1 : Hid (IsHub w1 g vg ep (.slice Aq m qq) vp) := Lib.hid (hz1.at HH.out (fun k => k))
  have c0 : w1.cell? ⟨g, 1, none⟩ = some (.int .i64 ep) := (cell_block HH1.out 1 _ rfl).1
  have c2 : w1.cell? ⟨g, 2, none⟩ = some (.slice Aq m qq) := (cell_block HH1.out 2 _ rfl).1
  have HL1 : Hid (Rd w1 A n l) := Lib.hid (hz1.rd HL.out (fun _ _ _ k => k))
  have HC1 := Lib.hid hc1
  have HZ1 := Lib.hid hz1
  clear hc1 hz1
  have HD := Lib.hid (show Rd w1.drew A n l from HL1.out)
  go_wp2_with fail
  go_region_law (first
    | (refine step_append_one B rfl _ _ 56 45 (.agg #[.int .i64 0, .int .i64 0, .slice none 0 0]) 3 40 rfl Tryd.underlying56 info_posted rfl (by omega) (.slice Aq m qq) m xs [.int .i64 kind, .int .i64 ep, .slice A1 l.length q1] w2.heap.size 1 rfl rfl hWr.out rfl hWc.out (by simp [Value.oneCell']) hbs (by unfold maxLen; omega) (by omega) ?_
       intro v1 w3 hown hg hat
       obtain ⟨A2, q2, rfl⟩ := ow_slice hown
       have hh3 := Lib.hid ((hg.block g hgs (fun e => row_ne hWr.out hWh.out (by decide) e.symm)).trans hWh.out)
       have d2 : w3.cell? ⟨g, 2, none⟩ = some (.slice Aq m qq) := (cell_block hh3.out 2 _ rfl).1
       have f2 := (cell_block hh3.out 2 _ rfl).2)
    | (go_simp
       go_at_call 30
       refine (clone_any A n c l _ HD.out (by omega)).mono ?_
       rintro e w2 ⟨v, rfl, ho, hb⟩
       obtain ⟨A1, q1, rfl⟩ := own_slice ho
       have hz2 : BF (fun _ => False) w w2 := HZ1.out.drew.then hb
       have hWz : BF (fun _ => False) w (w2.alloc (.cells #[.int .i64 kind, .int .i64 ep, .slice A1 l.length q1] 45)) := hz2.alloc _
       have hsz := hz2.size
       have hbs : B ≤ (w2.alloc (.cells #[.int .i64 kind, .int .i64 ep, .slice A1 l.length q1] 45)).heap.size := by simp; omega
       have hgs : g < (w2.alloc (.cells #[.int .i64 kind, .int .i64 ep, .slice A1 l.length q1] 45)).heap.size := by simp; omega
       have hWr := Lib.hid (hWz.row HQ.out (fun _ _ k => k))
       have hWh := Lib.hid (hWz.at HH.out (fun k => k))
       have hWc := Lib.hid (show ∀ j u, [Value.int .i64 kind, Value.int .i64 ep, Value.slice A1 l.length q1][j]? = some u → (w2.alloc (.cells #[.int .i64 kind, .int .i64 ep, .slice A1 l.length q1] 45)).cell? ⟨w2.heap.size, j, none⟩ = some u from fun j u hj => (cell_block (heap_alloc_new w2 _) j u (by simpa using hj)).1)
       have c2' : w2.cell? ⟨g, 2, none⟩ = some (.slice Aq m qq) := (cell_block (hz2.at HH.out (fun k => k)) 2 _ rfl).1
       have c1' : w2.cell? ⟨g, 1, none⟩ = some (.int .i64 ep) := (cell_block (hz2.at HH.out (fun k => k)) 1 _ rfl).1
       have c2'' := (cell_block hWh.out 2 _ rfl).1
       have c1'' := (cell_block hWh.out 1 _ rfl).1
       have HO := Lib.hid ho
       have HB := Lib.hid hb
       clear ho hb))
  all_goals
    obtain ⟨r1, r2, r3, r4, r5⟩ := take_set hWz HH.out HQ.out hg hown (own_base_le (HO.out.alloc _) HC1.out.size) hat
    have z1 : (w3.setCell ⟨g, 2, none⟩ (.slice A2 (m + 1) q2)).cell? ⟨g, 1, none⟩ = some (.int .i64 ep) := (cell_block r1 1 _ rfl).1
    have z1f := (cell_block r1 1 _ rfl).2
    have z2 : (w3.setCell ⟨g, 2, none⟩ (.slice A2 (m + 1) q2)).cell? ⟨g, 2, none⟩ = some (.slice A2 (m + 1) q2) := (cell_block r1 2 _ rfl).1
    have hee : IntKind.i64.wrap (ep + 1) = ep + 1 := by rw [IntKind.wrap_i64]; omega
    cases en
    · go_wp2_with fail
      go_ret2
      exact ⟨rfl, .slice A2 (m + 1) q2, r1, .slice A1 l.length q1, r2, r3, r4, r5⟩
    · obtain ⟨y1, y2, y3, y4⟩ := take_ep (ep' := ep + 1) r1 r2 r3 r5
      go_wp2_with fail
      go_ret2
      exact ⟨rfl, .slice A2 (m + 1) q2, y1, .slice A1 l.length q1, y2, y3, r4, y4⟩
end take
end Go.Proofs.YtcfbmglhikjahaaDoor
