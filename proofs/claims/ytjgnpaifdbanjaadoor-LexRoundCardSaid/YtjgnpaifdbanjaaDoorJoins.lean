import Derived.Test.YtjgnpaifdbanjaaDoorScanLaw
set_option linter.unusedSimpArgs false
set_option linter.unusedVariables false
namespace Go.Proofs.YtjgnpaifdbanjaaDoor
open Go.RowKit
set_option maxRecDepth 100000

/-! LexJoins -/
theorem scanS_err {s : List UInt8} (h : 4096 < s.length) : scanS s = ([], 2, 0) := by unfold scanS; rw [if_pos h]

theorem joins_law (a b : List UInt8) (l m k : List Tk) (e p f at_ g place : Int) (ha : scanS a = (l, e, p)) (hb : scanS b = (m, f, at_)) (hk : scanS (a ++ 10 :: b) = (k, g, place))
    (he : e = 0) (hf : f ≠ 2) (hg : g ≠ 2) : (f ≠ 0 → g = f ∧ place = (a.length : Int) + 1 + at_) ∧ (f = 0 → g = 0 ∧ k = l ++ m.map (shiftT (a.length + 1))) := by
  subst he
  unfold scanS at ha hb hk
  split at ha
  · cases ha
  · split at hb
    · cases hb; exact absurd rfl hf
    · split at hk
      · cases hk; exact absurd rfl hg
      · have h1 := scan_app a.length a b 0 [] l p (Nat.le_refl _) ha
        rw [Nat.zero_add] at h1
        have h2 := scan_shift (a.length + 1) l b.length b 0 [] (Nat.le_refl _)
        rw [List.map_nil, List.append_nil, Nat.zero_add, ← h1, hk, hb] at h2
        simp only at h2
        rcases h2 with h2 | h2 | ⟨h2, h3⟩ | ⟨h2, h3⟩
        · exact absurd h2 hf
        · exact absurd h2 hg
        · cases h3
          exact ⟨fun h => absurd h2 h, fun _ => ⟨rfl, rfl⟩⟩
        · cases h3
          exact ⟨fun _ => ⟨h2.symm, by simp; omega⟩, fun h => by rw [h] at h2; cases h2⟩

theorem run_neqTk (t : Tk) (x y : Operand) (w : World) : (binOp .neq 36 t.val t.val).run Tryd.prog w = .ok (.bool false) w := by
  obtain ⟨a, b, c⟩ := t
  unfold Tk.val
  simp [go_sem]

set_option maxHeartbeats 2000000 in
theorem LexJoins_calls (H : Hp) (hT : Tabs H) (a b : List UInt8) (w0 : World) (hin : H.In w0) :
    Calls Tryd.prog 5 #[str a, str b] w0 fun e w' => e = .returned (.bool true) ∧ Below w0.heap.size w0 w' := by
  have T := Tr.start (St.nil hin)
  have HT := hid hT; clear hin hT
  by_cases hba : 65536 < a.length
  · have hb1 : decide ((65536 : Int) < a.length) = true := decide_eq_true (by omega)
    go_enter Tryd.func5, Tryd.ntmps5
    go_wp2
    (try simp only [Exit.inBlock, Exit.then]); refine ret1_of rfl rfl rfl ?_
    exact ⟨rfl, T.below⟩
  · have hb1 : decide ((65536 : Int) < a.length) = false := decide_eq_false (by omega)
    by_cases hbb : 65536 < b.length
    · have hb2 : decide ((65536 : Int) < b.length) = true := decide_eq_true (by omega)
      go_enter Tryd.func5, Tryd.ntmps5
      go_wp2
      (try simp only [Exit.inBlock, Exit.then]); refine ret1_of rfl rfl rfl ?_
      exact ⟨rfl, T.below⟩
    · have hb2 : decide ((65536 : Int) < b.length) = false := decide_eq_false (by omega)
      obtain ⟨⟨l, e, p⟩, ha⟩ : ∃ r, scanS a = r := ⟨_, rfl⟩
      obtain ⟨⟨m, f, at_⟩, hb⟩ : ∃ r, scanS b = r := ⟨_, rfl⟩
      obtain ⟨⟨k, g, place⟩, hk⟩ : ∃ r, scanS (a ++ 10 :: b) = r := ⟨_, rfl⟩
      have Hlaw := hid (joins_law a b l m k e p f at_ g place ha hb hk)
      have Ha := hid ha; have Hb := hid hb; have Hk := hid hk; clear ha hb hk
      go_enter Tryd.func5, Tryd.ntmps5
      go_upto_region 4 with (first
    | (go_at_call 8; refine (Scan_res _ HT.out a (by omega) _ T.inn).mono ?_; rw [Ha.out]; rintro e w ⟨al, cl, H1, rfl, hL, CC, hcl⟩; replace T := T.trans CC; replace HT := hid (HT.out.mono CC.le); have HL := hid hL; clear CC hL hcl))
      go_upto_region 5 with (first
    | (go_at_call 8; refine (Scan_res _ HT.out b (by omega) _ T.inn).mono ?_; rw [Hb.out]; rintro e w ⟨am, cm, H2, rfl, hL, CC, hcm⟩; replace T := T.trans CC; replace HT := hid (HT.out.mono CC.le); replace HL := hid (HL.out.mono CC.le); have HM := hid hL; clear CC hL hcm))
      go_upto_region 6 with (first
    | (go_at_call 8; (try simp only [List.append_assoc, List.cons_append, List.nil_append]); refine (Scan_res _ HT.out (a ++ 10 :: b) (by simp; omega) _ T.inn).mono ?_; rw [Hk.out]; rintro e w ⟨ak, ck, H3, rfl, hL, CC, hck⟩; replace T := T.trans CC; replace HT := hid (HT.out.mono CC.le); replace HL := hid (HL.out.mono CC.le); replace HM := hid (HM.out.mono CC.le); have HK := hid hL; clear CC hL))
      obtain ⟨⟨hat0, hat1⟩, hmb, hml⟩ := scanS_bounds b
      rw [Hb.out] at hat0 hat1 hmb hml
      obtain ⟨_, _, hll⟩ := scanS_bounds a
      rw [Ha.out] at hll
      simp only at hat0 hat1 hmb hml hll
      clear hb1 hb2 Ha Hb Hk
      by_cases he : e = 0
      · have c1 : (e != 0) = false := by rw [he]; rfl
        by_cases hf2 : f = 2
        · have c2 : (f == 2) = true := by rw [hf2]; rfl
          go_wp2_with (first
    | (go_at_call 10; refine (awake_calls _ HT.out _ T.inn).mono ?_; rintro e w ⟨rfl, hb⟩; replace T := T.of_below hb; clear hb))
          (try simp only [Exit.inBlock, Exit.then]); refine ret1_of rfl rfl rfl ?_
          exact ⟨rfl, T.below⟩
        · have c2 : (f == 2) = false := by rw [Bool.eq_false_iff]; intro h; rw [beq_iff_eq] at h; exact hf2 h
          by_cases hg2 : g = 2
          · have c3 : (g == 2) = true := by rw [hg2]; rfl
            go_wp2_with (first
    | (go_at_call 10; refine (awake_calls _ HT.out _ T.inn).mono ?_; rintro e w ⟨rfl, hb⟩; replace T := T.of_below hb; clear hb))
            (try simp only [Exit.inBlock, Exit.then]); refine ret1_of rfl rfl rfl ?_
            exact ⟨rfl, T.below⟩
          · have c3 : (g == 2) = false := by rw [Bool.eq_false_iff]; intro h; rw [beq_iff_eq] at h; exact hg2 h
            obtain ⟨hl1, hl2⟩ := Hlaw.out he hf2 hg2
            clear Hlaw he hf2 hg2
            by_cases hf0 : f = 0
            · obtain ⟨rfl, rfl⟩ := hl2 hf0
              subst hf0
              clear hl1 hl2
              have c4 : ((l ++ m.map (shiftT (a.length + 1))).length : Int) = (l.length : Int) + m.length := by simp
              have hkl : (l ++ m.map (shiftT (a.length + 1))).length = l.length + m.length := by simp
              go_upto_region 14 with fail
              clear c1 c2 c3 c4
              go_loopg [4, 15] (m.length) (fun n s4 s15 wr => ∃ (i : Nat), i ≤ m.length ∧ n = m.length - i ∧ s4 = .bool false ∧ s15 = .int .i64 i ∧ Tr w0 H [] wr H3 [])
              case atStart => exact ⟨0, by omega, by omega, rfl, rfl, T⟩
              case round =>
                clear T
                obtain ⟨i, hi, hn, rfl, rfl, T⟩ := hrel
                have Hn := hid hn; clear hn
                rcases Nat.lt_or_ge i m.length with hlt | hge
                · obtain ⟨bm, om, c1, te1, rfl, hh1, hc1⟩ := HM.out (by rintro rfl; simp at hlt)
                  obtain ⟨bk, ok, c2, te2, rfl, hh2, hc2⟩ := HK.out (by intro h; rw [h] at hkl; simp at hkl; omega)
                  obtain ⟨t, ht⟩ : ∃ t, m[i]? = some t := ⟨_, List.getElem?_eq_getElem hlt⟩
                  have hk : (l ++ m.map (shiftT (a.length + 1)))[l.length + i]? = some (shiftT (a.length + 1) t) := by
                    rw [List.getElem?_append_right (by omega), Nat.add_sub_cancel_left, List.getElem?_map, ht]; rfl
                  have htb := hmb t (List.mem_of_getElem? ht)
                  obtain ⟨f1, g1⟩ := T.inn _ _ _ hh1
                  obtain ⟨f2, g2⟩ := T.inn _ _ _ hh2
                  obtain ⟨tw, tt, ta⟩ := t
                  simp only at htb
                  have m0 : wr.cell? ⟨bm, om + i * 3, none⟩ = some (.int .i64 tw) := by rw [cell_of_heap (w := wr) g1]; exact hc1 i _ ht 0 (by omega)
                  have m1 : wr.cell? ⟨bm, om + i * 3 + 1, none⟩ = some (str tt) := by rw [cell_of_heap (w := wr) g1]; exact hc1 i _ ht 1 (by omega)
                  have m2 : wr.cell? ⟨bm, om + i * 3 + 2, none⟩ = some (.int .i64 ta) := by rw [cell_of_heap (w := wr) g1]; exact hc1 i _ ht 2 (by omega)
                  have k0 : wr.cell? ⟨bk, ok + (l.length + i) * 3, none⟩ = some (.int .i64 tw) := by rw [cell_of_heap (w := wr) g2]; exact hc2 (l.length + i) _ hk 0 (by omega)
                  have k1 : wr.cell? ⟨bk, ok + (l.length + i) * 3 + 1, none⟩ = some (str tt) := by rw [cell_of_heap (w := wr) g2]; exact hc2 (l.length + i) _ hk 1 (by omega)
                  have k2 : wr.cell? ⟨bk, ok + (l.length + i) * 3 + 2, none⟩ = some (.int .i64 (ta + ((a.length : Int) + 1))) := by rw [cell_of_heap (w := wr) g2]; exact hc2 (l.length + i) _ hk 2 (by omega)
                  have m0' : wr.drew.cell? ⟨bm, om + i * 3, none⟩ = some (.int .i64 tw) := m0
                  have m1' : wr.drew.cell? ⟨bm, om + i * 3 + 1, none⟩ = some (str tt) := m1
                  have m2' : wr.drew.cell? ⟨bm, om + i * 3 + 2, none⟩ = some (.int .i64 ta) := m2
                  have k0' : wr.drew.cell? ⟨bk, ok + (l.length + i) * 3, none⟩ = some (.int .i64 tw) := k0
                  have k1' : wr.drew.cell? ⟨bk, ok + (l.length + i) * 3 + 1, none⟩ = some (str tt) := k1
                  have k2' : wr.drew.cell? ⟨bk, ok + (l.length + i) * 3 + 2, none⟩ = some (.int .i64 (ta + ((a.length : Int) + 1))) := k2
                  have hne : ∀ w, (binOp .neq 36 (.agg #[.int .i64 tw, str tt, .int .i64 (ta + ((a.length : Int) + 1))]) (.agg #[.int .i64 tw, str tt, .int .i64 (ta + ((a.length : Int) + 1))])).run Tryd.prog w = .ok (.bool false) w :=
                    fun w => run_neqTk ⟨tw, tt, ta + ((a.length : Int) + 1)⟩ (.const undef) (.const undef) w
                  clear g1 g2 hh1 hh2 hc1 hc2 ht hk hmb
                  have Hkl := hid hkl; have Hck := hid hck
                  clear hck
                  go_upto_region 16 with fail
                  go_quiet (fail)
                  replace T := T.drewN nq
                  trace_state
                  clear m0 m1 m2 k0 k1 k2 m0' m1' m2' k0' k1' k2' hne
                  go_wp2
                  go_roundg (m.length - (i + 1))
                  case measure => have := Hn.out; omega
                  case rel => exact ⟨i + 1, by omega, by omega, rfl, by congr 1, T⟩
                · have hx : exactS l l = true := (exactS_iff l l).2 rfl
                  have Hx := hid hx; clear hx
                  go_wp2_with (first
    | (go_at_call 10; refine (awake_calls _ HT.out _ T.inn).mono ?_; rintro e w ⟨rfl, hb⟩; replace T := T.of_below hb; clear hb)
    | (go_at_call 11; refine (exact_calls _ _ _ _ _ l l HK.out.left HL.out (by omega) _ T.inn).mono ?_; rintro e w ⟨rfl, hb⟩; replace T := T.of_below hb; clear hb; rw [Hx.out]))
                  trace_state
                  (try simp only [Exit.inBlock, Exit.then]); refine ret1_of rfl rfl rfl ?_
                  exact ⟨rfl, T.below⟩
            · have c4 : (f != 0) = true := by rw [bne_iff_ne]; exact hf0
              obtain ⟨rfl, rfl⟩ := hl1 hf0
              clear hl1 hl2
              go_wp2_with (first
    | (go_at_call 10; refine (awake_calls _ HT.out _ T.inn).mono ?_; rintro e w ⟨rfl, hb⟩; replace T := T.of_below hb; clear hb))
              (try simp only [Exit.inBlock, Exit.then]); refine ret1_of rfl rfl rfl ?_
              exact ⟨rfl, T.below⟩
      · have c1 : (e != 0) = true := by rw [bne_iff_ne]; exact he
        go_wp2_with (first
    | (go_at_call 10; refine (awake_calls _ HT.out _ T.inn).mono ?_; rintro e w ⟨rfl, hb⟩; replace T := T.of_below hb; clear hb))
        (try simp only [Exit.inBlock, Exit.then]); refine ret1_of rfl rfl rfl ?_
        exact ⟨rfl, T.below⟩
end Go.Proofs.YtjgnpaifdbanjaaDoor
