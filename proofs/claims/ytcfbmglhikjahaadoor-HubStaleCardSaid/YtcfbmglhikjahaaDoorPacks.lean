/- HubPacks. -/
import Derived.Test.YtcfbmglhikjahaaDoorPk
set_option linter.unusedVariables false
set_option linter.unusedSimpArgs false
namespace Go.Proofs.YtcfbmglhikjahaaDoor
open Go.RowKit Go.Proofs.YtcfbmglhikjahaaDoorW.PrintWords

theorem info_slice : (Tryd.prog.info? 23).map (fun i => (i.zero, i.size, i.bytes)) = some (some (.slice none 0 0), 1, 24) := by kernel_rfl
theorem info_bool : (Tryd.prog.info? 4).map (fun i => (i.zero, i.size, i.bytes)) = some (some (.bool false), 1, 1) := by kernel_rfl
theorem made_get (z : Value) (n q : Nat) (h : q < n) : (madeCells #[z] n)[q]? = some z := by simp [madeCells, h, Nat.mod_one]
set_option maxRecDepth 100000 in
set_option maxHeartbeats 4000000 in
theorem packs_walk (A B : Option Addr) (n c m d : Nat) (ls : List (List Int)) (or_ : List Int) (w : World) (hG : Classes w) (hL : RdL w A n ls) (hO : Rd w B m or_) (bO : AllB or_) (hn : n ≤ 60) (hm : m ≤ 100) :
    Calls Tryd.prog 3 #[.slice A n c, .slice B m d] w fun x w' => x = .returned (.bool true) ∧ Below w.heap.size w w' := by
  have HG := Lib.hid hG
  have HL := Lib.hid hL
  have HO := Lib.hid hO
  have HBO := Lib.hid bO
  have kc := fun (w : World) (C : Array Value) (n c : Nat) => Lib.run_convert_bytes_const (P := Tryd.prog) w 23 5 C n c Tryd.underlying23 Tryd.underlying5
  have k1 : decide (60 < (n : Int)) = false := decide_eq_false (by omega)
  have k2 : decide (100 < (m : Int)) = false := decide_eq_false (by omega)
  clear hG hL hO bO
  go_enter Tryd.func3, Tryd.ntmps3
  go_wp2_with fail
  refine (head_true w HG.out).mono ?_
  rintro x w1 ⟨rfl, hb1⟩
  go_wp2_with fail
  refine (hnew_good _ 1 1 [103] _ (lit_reads w1 [103] (1, 2) (by decide)) (by omega) (by omega)).mono ?_
  rintro x w2 ⟨g, vg, rfl, hg, hh, ho, hb⟩
  have hb2 : Below w.heap.size w w2 := hb1.trans (((below_box w1 (.cells #[.int .u8 103] 5 (1, 2))).mono hb1.size).trans (hb.mono (by have := hb1.size; simp; omega)))
  have hgw : w.heap.size ≤ g := by have := hb1.size; simp at hg; omega
  have HPK0 : Hid (PK w w2 g vg (.slice none 0 0) (.slice none 0 0) [] [] []) :=
    Lib.hid ⟨hb2, hh, hgw, World.ownsRow_nil _ _ _ _, World.ownsRow_nil _ _ _ _, rfl, rfl, fun k hk => by simp at hk, fun k b hk => by simp at hk, fun k hk => by simp at hk⟩
  clear hg hh ho hb hb2 hb1
  go_wp2_with fail
  go_loopw [7, 8] (fun t i wr => ∃ (k : Nat) (ps us : List Value) (vp : Value) (ts : List (List Int)), k ≤ n ∧ i = .int .i64 k ∧ ts.length ≤ k ∧ Hid (PK w wr g vg vp t ps us ts) ∧ Hid (∀ q : Nat, ps[q]? ≠ some (Value.pointer none))) (fun _ i _ => n - (intOf i).toNat)
  case atStart => exact ⟨0, [], [], _, [], Nat.zero_le _, rfl, Nat.le_refl _, HPK0, Lib.hid (fun q hq => by simp at hq)⟩
  case round =>
    obtain ⟨k, ps, us, vp, ts, hk, rfl, htk, hpk, hne⟩ := hrel
    by_cases hlt : k < n
    · obtain ⟨ad, Aj, nj, cj, rfl, hcj, hrj⟩ := HL.out.2 k hlt
      have hcw := pw_cell_below hpk.out.below hcj
      have HRJ := Lib.hid (hrj.keep hpk.out.below)
      have HRW := Lib.hid hrj
      clear hrj
      obtain ⟨At, qt, rfl⟩ := ow_slice hpk.out.there
      have hpu : us.length = ps.length := by rw [hpk.out.len1, hpk.out.len2]
      rw [hpu] at hpk
      by_cases hgood : 0 < nj ∧ nj ≤ 10000
      · have q1 : decide (0 < (nj : Int)) = true := decide_eq_true (by omega)
        have q2 : decide ((nj : Int) ≤ 10000) = true := decide_eq_true (by omega)
        have q3 : decide (0 < nj) = true := decide_eq_true (by omega)
        have q4 : decide (nj ≤ 10000) = true := decide_eq_true (by omega)
        go_wp2_with fail
        refine (leave_good g vg (.slice none 0 0) vp ps w.heap.size Aj nj cj (ls.getD k []) 0 wr hpk.out.hub hpk.out.below.size hpk.out.packs HRJ.out hgood.1 hgood.2 (by rw [hpk.out.len1]; omega)).mono ?_
        rintro x w3 ⟨v1, v, b, rfl, hh, hp, hbge, hbox, ho, hat, hf⟩
        have hcw3 := pw_cell_below (hpk.out.below.trans (hf.below (B := w.heap.size) hpk.out.below.size (fun q _ cc => by
          rcases hs_pk (W := wr) cc with cc | cc
          · rw [cc]; exact hpk.out.gle
          · exact own_base hpk.out.packs q cc))) hcj
        have hT3 : w3.ownsRow w.heap.size 23 1 (.slice At ps.length qt) us.length us := hf.row hpk.out.there (fun q e cc => by
          rcases hs_pk (W := wr) cc with cc | cc
          · exact row_ne hpk.out.there hpk.out.hub (by decide) (cc ▸ e)
          · exact rows_ne hpk.out.packs hpk.out.there (by decide) q e cc)
        have HT := Lib.hid (hT3.alloc (.cells #[.slice Aj nj cj] 23))
        have HC : Hid (∀ j u, [Value.slice Aj nj cj][j]? = some u → (w3.alloc (.cells #[.slice Aj nj cj] 23)).cell? ⟨w3.heap.size, j, none⟩ = some u) := Lib.hid (fun j u hj => (cell_block (heap_alloc_new w3 (.cells #[.slice Aj nj cj] 23)) j u (by simpa using hj)).1)
        have HBS : Hid (w.heap.size ≤ (w3.alloc (.cells #[.slice Aj nj cj] 23)).heap.size) := Lib.hid (by have := hpk.out.below.size; have := hf.size; simp; omega)
        have HLU : Hid (us.length ≤ 60) := Lib.hid (by rw [hpk.out.len2]; omega)
        have HH := Lib.hid hh
        have HP := Lib.hid hp
        have HBX := Lib.hid hbox
        have HOO := Lib.hid ho
        have HF := Lib.hid hf
        have HAT := Lib.hid hat
        have HBG := Lib.hid hbge
        clear hh hp hbox ho hf hat hbge hT3
        go_wp2_with (at_builtin; refine append_one w.heap.size rfl _ _ 22 23 (.slice none 0 0) 1 24 rfl Tryd.underlying22 info_slice rfl (by omega) (.slice At ps.length qt) us.length us [.slice Aj nj cj] w3.heap.size 1 rfl rfl HT.out rfl HC.out (by simp [Value.oneCell']) HBS.out (by have := HLU.out; unfold maxLen; omega) (by have := HLU.out; omega) ?_; intro vt1 w4 hown hg4 hat4; have HPK2 := Lib.hid (hpk.out.next HH.out HP.out HBG.out HBX.out HOO.out HAT.out HF.out hg4 hown hat4 ⟨Aj, nj, cj, rfl, HRW.out⟩); obtain ⟨At4, qt4, rfl⟩ := ow_slice hown; clear hown hg4 hat4)
        rw [hpu] at HPK2
        go_roundw
        case rel => exact ⟨k + 1, _, _, _, ts ++ [ls.getD k []], by omega, by go_num, by rw [List.length_append]; simp; omega, HPK2, Lib.hid (fun q hq => by
          rcases getElem?_snoc _ _ _ _ hq with h | ⟨_, h⟩
          · exact hne.out q h
          · cases h)⟩
        case measure => simp [intOf]; omega
      · have hbad : nj = 0 ∨ 10000 < nj := by omega
        by_cases hz : nj = 0
        · subst hz
          go_wp2_with fail
          refine (leave_bad g Aj 0 cj wr (.inl rfl)).mono ?_
          rintro x w3 ⟨rfl, rfl⟩
          go_wp2_with fail
          go_roundw
          case rel => exact ⟨k + 1, _, _, _, ts, by omega, by go_num, by omega, hpk, hne⟩
          case measure => simp [intOf]; omega
        · have q1 : decide (0 < (nj : Int)) = true := decide_eq_true (by omega)
          have q2 : decide ((nj : Int) ≤ 10000) = false := decide_eq_false (by omega)
          have q3 : decide (0 < nj) = true := decide_eq_true (by omega)
          have q4 : decide (nj ≤ 10000) = false := decide_eq_false (by omega)
          go_wp2_with fail
          refine (leave_bad g Aj nj cj wr (.inr (by omega))).mono ?_
          rintro x w3 ⟨rfl, rfl⟩
          go_wp2_with fail
          go_roundw
          case rel => exact ⟨k + 1, _, _, _, ts, by omega, by go_num, by omega, hpk, hne⟩
          case measure => simp [intOf]; omega
    · obtain rfl : k = n := by omega
      obtain ⟨At, qt, rfl⟩ := ow_slice hpk.out.there
      clear HPK0
      have hul : us.length ≤ 60 := by rw [hpk.out.len2]; omega
      have km : ∀ W : World, (Instr.makeSlice 30 (.int .i64 (us.length : Int)) (.int .i64 (us.length : Int))).run Tryd.prog W = .ok (.slice (some ⟨W.heap.size, 0, none⟩) us.length us.length) (W.alloc (.cells (madeCells #[.bool false] us.length) 4)) :=
        print_make_of (P := Tryd.prog) 30 4 (.bool false) 1 Tryd.underlying30 info_bool rfl (by omega) us.length (by omega)
      obtain ⟨fs0, hfs0, hfz⟩ : ∃ fs, fs = madeCells #[Value.bool false] us.length ∧ ∀ q, q < us.length → fs[q]? = some (.bool false) := ⟨_, rfl, fun q hq => made_get _ _ _ hq⟩
      rw [← hfs0] at km
      clear hfs0
      go_wp2_with fail
      obtain ⟨fb, hfbe⟩ : ∃ fb, fb = wr.heap.size := ⟨_, rfl⟩
      rw [← hfbe]
      have HF0 : Hid ((wr.alloc (.cells fs0 4)).heap[fb]? = some (.cells fs0 4 (0, 0))) := Lib.hid (by rw [hfbe]; exact heap_alloc_new _ _)
      have hfbw : w.heap.size ≤ fb := by rw [hfbe]; exact hpk.out.below.size
      clear hfbe
      go_loopw [12] (fun i wx => ∃ (j : Nat) (ps : List Value) (fs : Array Value), j ≤ m ∧ i = .int .i64 j ∧ Hid (PK w wx g vg vp (.slice At us.length qt) ps us ts) ∧ Hid (wx.heap[fb]? = some (.cells fs 4 (0, 0))) ∧ Hid (∀ q b, q < us.length → ps[q]? = some (Value.pointer b) → fs[q]? = some (Value.bool b.isNone))) (fun i _ => m - (intOf i).toNat)
      case atStart =>
        refine ⟨0, ps, fs0, Nat.zero_le _, rfl, Lib.hid (hpk.out.keep (S := fun _ => False) ((BF.refl _ _).alloc _) (fun _ _ c => c.elim)), HF0, Lib.hid (fun q b hq hb => ?_)⟩
        cases b with
        | none => exact absurd hb (hne.out q)
        | some b => exact hfz q hq
      case round =>
        obtain ⟨j, ps, fs, hj, rfl, hpk, hfb, hfs⟩ := hrel
        by_cases hlt : j < m
        · obtain ⟨od, rfl, hoc⟩ := HO.out.cell j hlt
          have hoc' := pw_cell_below hpk.out.below hoc
          obtain ⟨o0, o1⟩ := HBO.out.getD j
          obtain ⟨q, hq⟩ := Int.eq_ofNat_of_zero_le o0
          rw [hq] at hoc' o1
          have hqw : IntKind.i64.wrap (q : Int) = q := by rw [IntKind.wrap_i64]; omega
          clear hoc hq o0
          by_cases hin : q < us.length
          · have d1 : decide ((q : Int) < (us.length : Int)) = true := decide_eq_true (by omega)
            have d2 : decide (q < us.length) = true := decide_eq_true hin
            obtain ⟨Au, nu, cu, hu1, hu2⟩ := hpk.out.args q (by rw [← hpk.out.len2]; exact hin)
            rcases hpk.out.there.2 with ⟨_, h0⟩ | ⟨gt, cap, cur, he, _⟩
            · omega
            injection he with he1 _ he2
            subst he1
            subst he2
            have hcu := World.ownsRow.cells hpk.out.there (g := gt) rfl q _ hu1
            have eg : (⟨gt, 0, none⟩ : Addr).add q = ⟨gt, q, none⟩ := by unfold Addr.add; split <;> simp_all
            rw [eg] at hcu
            have HU := Lib.hid hu2
            clear hu2 eg
            rcases hpk.out.ptr q (by rw [← hpk.out.len2]; exact hin) with hp | ⟨b, hp⟩
            · have hfq := hfs.out q none hin hp
              have hfc := (cell_block hfb.out q _ hfq).1
              go_wp2_with fail
              refine (fetch_nil g vg (.slice none 0 0) vp ps w.heap.size q 0 wr hpk.out.hub hpk.out.packs hp).mono ?_
              rintro x w3 ⟨rfl, rfl⟩
              go_wp2_with fail
              go_roundw
              case rel => exact ⟨j + 1, _, fs, by omega, by go_num, hpk, hfb, hfs⟩
              case measure => simp [intOf]; omega
            · have hfq := hfs.out q (some ⟨b, 0, none⟩) hin hp
              obtain ⟨v, hbx, hov, _⟩ := hpk.out.box q b hp
              obtain ⟨Av, qv, rfl, hrv⟩ := own_reads hov
              have hx0 := hpk.out.args q
              generalize hxe : ts.getD q [] = x at HU hbx hov hrv
              have HOV := Lib.hid hov
              clear hov hrv hxe hx0
              go_wp2_with fail
              refine (fetch_good g vg (.slice none 0 0) vp _ ps w.heap.size q b 0 wr hpk.out.hub hpk.out.packs hp hbx ⟨_, _, _, rfl⟩).mono ?_
              rintro y w3 ⟨rfl, hh3, hp3, hf3⟩
              have HPK3 := Lib.hid (hpk.out.fetched hh3 hp3 hf3)
              have hbf3 : w3.heap[fb]? = some (.cells fs 4 (0, 0)) := hf3.at hfb.out (fun cc => by
                rcases hs_pk (W := wr) cc with cc | cc
                · have := hpk.out.hub; unfold IsHub at this; rw [← cc, hfb.out] at this; injection this with this; injection this with _ ht; exact absurd ht (by decide)
                · exact row_ne hpk.out.packs hfb.out (by decide) cc)
              have hov3 : Ow w3 w.heap.size (.slice Av x.length qv) x := hf3.row HOV.out (fun r e cc => by
                rcases hs_pk (W := wr) cc with cc | cc
                · exact row_ne HOV.out hpk.out.hub (by decide) (cc ▸ e)
                · exact rows_ne hpk.out.packs HOV.out (by decide) r e cc)
              have hfq3 : w3.cell? ⟨fb, q, none⟩ = some (.bool false) := (cell_block hbf3 q _ hfq).1
              have hff3 : w3.frozen? ⟨fb, q, none⟩ = false := (cell_block hbf3 q _ hfq).2
              have hcu3 : w3.cell? ⟨gt, q, none⟩ = some (.slice Au nu cu) := by
                have := World.ownsRow.cells HPK3.out.there (g := gt) rfl q _ hu1
                have eg : (⟨gt, 0, none⟩ : Addr).add q = ⟨gt, q, none⟩ := by unfold Addr.add; split <;> simp_all
                rwa [eg] at this
              obtain ⟨Av', qv', ev, hrv3⟩ := own_reads hov3
              injection ev with ev1 ev2 ev3
              subst ev1 ev3
              clear ev2
              have ks1 : (convert 23 9 (.slice Av x.length qv)).run Tryd.prog w3.drew = .ok (.string (strOfNums x)) w3.drew := rd_string (show Rd w3.drew Av x.length x from hrv3)
              have ks2 : (convert 23 9 (.slice Au nu cu)).run Tryd.prog w3.drew = .ok (.string (strOfNums x)) w3.drew := rd_string (show Rd w3.drew Au nu x from show Rd w3 Au nu x from HU.out.keep HPK3.out.below)
              have HB3 := Lib.hid hbf3
              clear hh3 hp3 hf3 hbf3 hov3 hrv3
              go_wp2_with fail
              go_region
              go_wp2_with fail
              go_roundw
              case rel =>
                refine ⟨j + 1, ps.set q (.pointer none), fs.setIfInBounds q (.bool true), by omega, by go_num, Lib.hid (HPK3.out.keep (S := fun b => b = fb) (((BF.refl (fun b => b = fb) w3).set fb q _ (fun _ => rfl)).drew) (fun b _ e => e ▸ ⟨hfbw, _, HB3.out⟩)), Lib.hid (set_block HB3.out q _), Lib.hid (fun r b' hr hb' => ?_)⟩
                have hql : q < fs.size := (Array.getElem?_eq_some_iff.1 hfq).1
                by_cases e : q = r
                · subst e
                  have hpl : q < ps.length := (List.getElem?_eq_some_iff.1 hp).1
                  rw [List.getElem?_set_self hpl] at hb'
                  injection hb' with hb'
                  injection hb' with hb'
                  subst hb'
                  simp [hql]
                · rw [List.getElem?_set_ne e] at hb'
                  rw [Array.getElem?_setIfInBounds_ne e]
                  exact hfs.out r b' hr hb'
              case measure => simp [intOf]; omega
          · have d1 : decide ((q : Int) < (us.length : Int)) = false := decide_eq_false (by omega)
            have d2 : decide (q < us.length) = false := decide_eq_false (by omega)
            go_wp2_with fail
            refine (fetch_out g vg (.slice none 0 0) vp ps w.heap.size q 0 wr hpk.out.hub hpk.out.packs (.inr (by rw [hpk.out.len1, ← hpk.out.len2]; omega))).mono ?_
            rintro x w3 ⟨rfl, rfl⟩
            go_wp2_with fail
            go_roundw
            case rel => exact ⟨j + 1, _, fs, by omega, by go_num, hpk, hfb, hfs⟩
            case measure => simp [intOf]; omega
        · go_wp2
          go_ret
          exact ⟨rfl, hpk.out.below⟩
set_option maxRecDepth 100000 in
set_option maxHeartbeats 4000000 in
/-- too much -/
theorem packs_over (A B : Option Addr) (n c m d : Nat) (w : World) (hG : Classes w) (hn : 60 < n ∨ 100 < m) :
    Calls Tryd.prog 3 #[.slice A n c, .slice B m d] w fun x w' => x = .returned (.bool true) ∧ Below w.heap.size w w' := by
  have HG := Lib.hid hG
  have kc := fun (w : World) (C : Array Value) (n c : Nat) => Lib.run_convert_bytes_const (P := Tryd.prog) w 23 5 C n c Tryd.underlying23 Tryd.underlying5
  clear hG
  by_cases hn1 : 60 < n
  · have k1 : decide (60 < (n : Int)) = true := decide_eq_true (by omega)
    clear hn
    go_enter Tryd.func3, Tryd.ntmps3
    go_wp2_with fail
    refine (head_true w HG.out).mono ?_
    rintro x w1 ⟨rfl, hb1⟩
    go_wp2_with fail
    refine (hnew_good _ 1 1 [103] _ (lit_reads w1 [103] (1, 2) (by decide)) (by omega) (by omega)).mono ?_
    rintro x w2 ⟨g, vg, rfl, hg, hh, ho, hb⟩
    have hb2 : Below w.heap.size w w2 := hb1.trans (((below_box w1 (.cells #[.int .u8 103] 5 (1, 2))).mono hb1.size).trans (hb.mono (by have := hb1.size; simp; omega)))
    clear hg hh ho hb hb1
    go_wp2_with fail
    go_ret
    exact ⟨rfl, hb2⟩
  · have k1 : decide (60 < (n : Int)) = false := decide_eq_false (by omega)
    have k2 : decide (100 < (m : Int)) = true := decide_eq_true (by omega)
    clear hn
    go_enter Tryd.func3, Tryd.ntmps3
    go_wp2_with fail
    refine (head_true w HG.out).mono ?_
    rintro x w1 ⟨rfl, hb1⟩
    go_wp2_with fail
    refine (hnew_good _ 1 1 [103] _ (lit_reads w1 [103] (1, 2) (by decide)) (by omega) (by omega)).mono ?_
    rintro x w2 ⟨g, vg, rfl, hg, hh, ho, hb⟩
    have hb2 : Below w.heap.size w w2 := hb1.trans (((below_box w1 (.cells #[.int .u8 103] 5 (1, 2))).mono hb1.size).trans (hb.mono (by have := hb1.size; simp; omega)))
    clear hg hh ho hb hb1
    go_wp2_with fail
    go_ret
    exact ⟨rfl, hb2⟩
end Go.Proofs.YtcfbmglhikjahaaDoor
