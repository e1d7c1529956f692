import Derived.Test.YtjgnpaifdbanjaaDoorBlanks
import Derived.Test.YtjgnpaifdbanjaaDoorJoins
set_option linter.unusedSimpArgs false
set_option linter.unusedVariables false
namespace Go.Proofs.YtjgnpaifdbanjaaDoor
open Go.RowKit
set_option maxRecDepth 100000

/-! LexBlanks: the walk -/
/-- a slice of ints that nobody writes -/
def IntIn (H : Hp) (ao : Option Addr) (l : List Int) : Prop :=
  l ≠ [] → ∃ b off c te, ao = some ⟨b, off, none⟩ ∧ H b = some (c, te) ∧ ∀ i z, l[i]? = some z → c[off + i]? = some (.int .i64 z)

theorem and3 (z : Int) : bits BinOp.and IntKind.i64 z 3 = 0 ∨ bits BinOp.and IntKind.i64 z 3 = 1 ∨ bits BinOp.and IntKind.i64 z 3 = 2 ∨ bits BinOp.and IntKind.i64 z 3 = 3 := by
  have h : (BitVec.ofInt 64 z &&& BitVec.ofInt 64 3).toNat ≤ 3 := by
    rw [BitVec.toNat_and]
    exact Nat.le_trans Nat.and_le_right (by decide)
  have hw : ∀ n : Nat, n ≤ 3 → IntKind.i64.wrap (n : Int) = n := by
    intro n hn
    simp [IntKind.wrap, IntKind.signed, IntKind.bits]
    omega
  have h2 : bits BinOp.and IntKind.i64 z 3 = ((BitVec.ofInt 64 z &&& BitVec.ofInt 64 3).toNat : Int) := hw _ h
  rw [h2]
  omega

def blankOf (z : Int) : UInt8 := ([32, 9, 10, 13] : List UInt8).getD (bits BinOp.and IntKind.i64 z 3).toNat 32
theorem blankOf_in (z : Int) : blanksL.contains (blankOf z) = true := by
  unfold blankOf
  rcases and3 z with h | h | h | h <;> rw [h] <;> decide +kernel
def moreOf (l : List Int) : List UInt8 := l.map blankOf
theorem moreOf_all (l : List Int) : (moreOf l).all (blanksL.contains ·) = true := by
  rw [List.all_eq_true]
  intro c hc
  obtain ⟨z, _, rfl⟩ := List.mem_map.1 hc
  exact blankOf_in z
theorem moreOf_succ (l : List Int) (i : Nat) (z : Int) (h : l[i]? = some z) : moreOf (l.take (i + 1)) = moreOf (l.take i) ++ [blankOf z] := by
  unfold moreOf
  rw [List.take_add_one, h, List.map_append]; rfl

set_option maxHeartbeats 4000000 in
theorem LexBlanks_calls (H : Hp) (hT : Tabs H) (a r : List UInt8) (zs : List Int) (bo : Option Addr) (cap : Nat) (hz : IntIn H bo zs) (w0 : World) (hin : H.In w0) :
    Calls Tryd.prog 4 #[str a, .slice bo zs.length cap, str r] w0 fun e w' => e = .returned (.bool true) ∧ Below w0.heap.size w0 w' := by
  have T := Tr.start (St.nil hin)
  have HT := hid hT; have HZ := hid hz; clear hin hT hz
  by_cases hba : 65536 < a.length
  · have hb1 : decide ((65536 : Int) < a.length) = true := decide_eq_true (by omega)
    go_enter Tryd.func4, Tryd.ntmps4
    go_wp2
    (try simp only [Exit.inBlock, Exit.then]); refine ret1_of rfl rfl rfl ?_
    exact ⟨rfl, T.below⟩
  · have hb1 : decide ((65536 : Int) < a.length) = false := decide_eq_false (by omega)
    by_cases hbb : 65536 < r.length
    · have hb2 : decide ((65536 : Int) < r.length) = true := decide_eq_true (by omega)
      go_enter Tryd.func4, Tryd.ntmps4
      go_wp2
      (try simp only [Exit.inBlock, Exit.then]); refine ret1_of rfl rfl rfl ?_
      exact ⟨rfl, T.below⟩
    · have hb2 : decide ((65536 : Int) < r.length) = false := decide_eq_false (by omega)
      go_enter Tryd.func4, Tryd.ntmps4
      go_upto_block 0 with fail
      go_cut [7, 8, 9] from 28 to 48 (fun s7 s8 s9 wx => ∃ (i : Nat), s7 = str (moreOf (zs.take i)) ∧ i ≤ 50 ∧ Tr w0 H [] wx H [])
      case first =>
        clear hb1 hb2
        go_wp2_with fail
        go_loopg [7, 8, 9] (50) (fun n s7 s8 s9 wr => ∃ (i : Nat), i ≤ zs.length ∧ i ≤ 50 ∧ n = 50 - i ∧ s7 = str (moreOf (zs.take i)) ∧ s8 = .int .i64 i ∧ Tr w0 H [] wr H [])
        case atStart => exact ⟨0, by omega, by omega, by omega, rfl, rfl, T⟩
        case round =>
          clear T
          obtain ⟨i, hi, hi2, hn, rfl, rfl, T⟩ := hrel
          have Hn := hid hn; clear hn
          have hml : (moreOf (zs.take i)).length ≤ 50 := by unfold moreOf; rw [List.length_map, List.length_take]; omega
          by_cases h1 : i < zs.length
          · have c1 : decide ((i : Int) < zs.length) = true := decide_eq_true (by omega)
            by_cases h2 : i < 50
            · have c2 : decide ((i : Int) < 50) = true := decide_eq_true (by omega)
              obtain ⟨bb, oo, c, te, rfl, hh, hc⟩ := HZ.out (by rintro rfl; simp at h1)
              obtain ⟨z, hzi⟩ : ∃ z, zs[i]? = some z := ⟨_, List.getElem?_eq_getElem h1⟩
              have hms := moreOf_succ zs i z hzi
              obtain ⟨f1, g1⟩ := T.inn _ _ _ hh
              have m0 : wr.cell? ⟨bb, oo + i, none⟩ = some (.int .i64 z) := by rw [cell_of_heap (w := wr) g1]; exact hc i _ hzi
              have Hms := hid hms
              clear g1 hh hc hzi hms
              obtain ⟨k, hk⟩ : ∃ k, bits BinOp.and IntKind.i64 z 3 = k := ⟨_, rfl⟩
              have hk3 : k = 0 ∨ k = 1 ∨ k = 2 ∨ k = 3 := hk ▸ and3 z
              have hbl : blankOf z = ([32, 9, 10, 13] : List UInt8).getD k.toNat 32 := by unfold blankOf; rw [hk]
              go_upto_region 8 with fail
              clear hbl
              have Hk := hid hk; clear hk m0
              have hbl : ∀ k0 : Int, k = k0 → blankOf z = ([32, 9, 10, 13] : List UInt8).getD k0.toNat 32 := fun k0 e => by unfold blankOf; rw [Hk.out, e]
              have Hbl := hid hbl; clear hbl
              clear c1 c2
              rcases hk3 with hk3 | hk3 | hk3 | hk3
              · have hb := Hbl.out _ hk3
                have Hb := hid hb; clear hb Hbl Hk
                subst hk3
                go_wp2
                go_roundg (50 - (i + 1))
                case measure => have := Hn.out; omega
                case rel => exact ⟨i + 1, by omega, by omega, rfl, by rw [Hms.out, Hb.out]; rfl, by congr 1, T⟩
              · have hb := Hbl.out _ hk3
                have Hb := hid hb; clear hb Hbl Hk
                subst hk3
                go_wp2
                go_roundg (50 - (i + 1))
                case measure => have := Hn.out; omega
                case rel => exact ⟨i + 1, by omega, by omega, rfl, by rw [Hms.out, Hb.out]; rfl, by congr 1, T⟩
              · have hb := Hbl.out _ hk3
                have Hb := hid hb; clear hb Hbl Hk
                subst hk3
                go_wp2
                go_roundg (50 - (i + 1))
                case measure => have := Hn.out; omega
                case rel => exact ⟨i + 1, by omega, by omega, rfl, by rw [Hms.out, Hb.out]; rfl, by congr 1, T⟩
              · have hb := Hbl.out _ hk3
                have Hb := hid hb; clear hb Hbl Hk
                subst hk3
                go_wp2
                go_roundg (50 - (i + 1))
                case measure => have := Hn.out; omega
                case rel => exact ⟨i + 1, by omega, by omega, rfl, by rw [Hms.out, Hb.out]; rfl, by congr 1, T⟩
            · have c2 : decide ((i : Int) < 50) = false := decide_eq_false (by omega)
              go_wp2
              go_meet
              exact ⟨i, rfl, hi2, T⟩
          · have c1 : decide ((i : Int) < zs.length) = false := decide_eq_false (by omega)
            go_wp2
            go_meet
            exact ⟨i, rfl, hi2, T⟩
      case rest =>
        clear T
        obtain ⟨i, rfl, hi, T⟩ := hcut
        obtain ⟨more, hmore⟩ : ∃ m, moreOf (zs.take i) = m := ⟨_, rfl⟩
        have hml : more.length ≤ 50 := by rw [← hmore]; unfold moreOf; rw [List.length_map, List.length_take]; omega
        have hma : more.all (blanksL.contains ·) = true := by rw [← hmore]; exact moreOf_all _
        rw [hmore]
        clear hmore
        obtain ⟨⟨l, e, p⟩, ha⟩ : ∃ x, scanS a = x := ⟨_, rfl⟩
        obtain ⟨⟨m, f, q⟩, hb⟩ : ∃ x, scanS (a ++ 10 :: more) = x := ⟨_, rfl⟩
        obtain ⟨⟨k, g, q2⟩, hk⟩ : ∃ x, scanS (a ++ 10 :: 35 :: r) = x := ⟨_, rfl⟩
        have Hlaw := hid (blanks_law a more l m e p f q ha hb hma)
        have hrem : e = 0 → g = 0 → r.contains 10 = false → k = l := fun h1 h2 h3 => by subst h1; exact remark_law a r l k p g q2 ha hk h2 h3
        have Hrem := hid hrem
        have Ha := hid ha; have Hb := hid hb; have Hk := hid hk; clear ha hb hk hma hrem
        clear hb1 hb2
        go_upto_region 10 with (first
    | (go_at_call 8; refine (Scan_res _ HT.out a (by omega) _ T.inn).mono ?_; rw [Ha.out]; rintro e w ⟨al, cl, H1, rfl, hL, CC, hcl⟩; replace T := T.trans CC; replace HT := hid (HT.out.mono CC.le); have HL := hid hL; clear CC hL hcl))
        go_upto_region 11 with (first
    | (go_at_call 8; (try simp only [List.append_assoc, List.cons_append, List.nil_append]); refine (Scan_res _ HT.out (a ++ 10 :: more) (by simp; omega) _ T.inn).mono ?_; rw [Hb.out]; rintro e w ⟨am, cm, H2, rfl, hL, CC, hcm⟩; replace T := T.trans CC; replace HT := hid (HT.out.mono CC.le); replace HL := hid (HL.out.mono CC.le); have HM := hid hL; clear CC hL hcm))
        go_upto_region 12 with (first
    | (go_at_call 8; (try simp only [List.append_assoc, List.cons_append, List.nil_append]); refine (Scan_res _ HT.out (a ++ 10 :: 35 :: r) (by simp; omega) _ T.inn).mono ?_; rw [Hk.out]; rintro e w ⟨ak, ck, H3, rfl, hL, CC, hck⟩; replace T := T.trans CC; replace HT := hid (HT.out.mono CC.le); replace HL := hid (HL.out.mono CC.le); replace HM := hid (HM.out.mono CC.le); have HK := hid hL; clear CC hL hck))
        obtain ⟨_, _, hll⟩ := scanS_bounds a
        rw [Ha.out] at hll
        simp only at hll
        clear Ha Hb Hk
        obtain ⟨hl1, hl2⟩ := Hlaw.out
        clear Hlaw
        by_cases he : e = 0
        · have c1 : (e != 0) = false := by rw [he]; rfl
          have c1' : (e == 0) = true := by rw [he]; rfl
          by_cases hf2 : f = 2
          · have c2 : (f == 2) = true := by rw [hf2]; rfl
            clear hl1 hl2 Hrem
            go_wp2_with (first
    | (go_at_call 10; refine (awake_calls _ HT.out _ T.inn).mono ?_; rintro e w ⟨rfl, hb⟩; replace T := T.of_below hb; clear hb))
            (try simp only [Exit.inBlock, Exit.then]); refine ret1_of rfl rfl rfl ?_
            exact ⟨rfl, T.below⟩
          · have c2 : (f == 2) = false := by rw [Bool.eq_false_iff]; intro h; rw [beq_iff_eq] at h; exact hf2 h
            obtain ⟨hf0, rfl⟩ := hl2 he hf2
            clear hl1 hl2
            by_cases hg : g = 0
            · have c3 : (g != 0) = false := by rw [hg]; rfl
              have c4 : (f != 0) = false := by rw [hf0]; rfl
              have hrem := Hrem.out he hg
              have Hrem2 := hid hrem
              clear Hrem hrem he hf2 hf0 hg
              have hx : exactS m m = true := (exactS_iff m m).2 rfl
              have Hx := hid hx; clear hx
              go_upto_block 2 with (first
    | (go_at_call 11; refine (exact_calls _ _ _ _ _ m m HL.out HM.out (by omega) _ T.inn).mono ?_; rintro e w ⟨rfl, hb⟩; replace T := T.of_below hb; clear hb; rw [Hx.out]))
              clear c1 c1' c2 c3 c4
              go_wp2_with fail
              go_loopg [19] (r.length) (fun n s19 wr => ∃ (i : Nat), i ≤ r.length ∧ n = r.length - i ∧ s19 = .int .i64 i ∧ Hid ((r.take i).contains 10 = false) ∧ Tr w0 H [] wr H3 [])
              case atStart => exact ⟨0, by omega, by omega, rfl, hid rfl, T⟩
              case round =>
                clear T
                obtain ⟨i, hi, hn, rfl, Hc, T⟩ := hrel
                have Hn := hid hn; clear hn
                by_cases h1 : i < r.length
                · have d1 : decide ((i : Int) < r.length) = true := decide_eq_true (by omega)
                  by_cases h2 : r[i] = 10
                  · have d2 : (((r[i]).toNat : Int) == 10) = true := by rw [h2]; rfl
                    go_wp2_with (first
    | (go_at_call 10; refine (awake_calls _ HT.out _ T.inn).mono ?_; rintro e w ⟨rfl, hb⟩; replace T := T.of_below hb; clear hb))
                    (try simp only [Exit.inBlock, Exit.then]); refine ret1_of rfl rfl rfl ?_
                    exact ⟨rfl, T.below⟩
                  · have d2 : (((r[i]).toNat : Int) == 10) = false := by
                      rw [Bool.eq_false_iff]; intro h
                      rw [beq_iff_eq] at h
                      exact h2 (UInt8.toNat_inj.1 (by show (r[i]).toNat = 10; omega))
                    go_wp2
                    go_roundg (r.length - (i + 1))
                    case measure => have := Hn.out; omega
                    case rel =>
                      refine ⟨i + 1, by omega, rfl, by congr 1, hid ?_, T⟩
                      rw [List.take_succ_eq_append_getElem h1, List.contains_eq_any_beq, List.any_append, ← List.contains_eq_any_beq, Hc.out]
                      simp [Ne.symm h2]
                · have d1 : decide ((i : Int) < r.length) = false := decide_eq_false (by omega)
                  have hr : r.contains 10 = false := by
                    have := Hc.out
                    rwa [List.take_of_length_le (by omega)] at this
                  obtain rfl := Hrem2.out hr
                  clear Hrem2 hr Hc
                  go_wp2_with (first
    | (go_at_call 10; refine (awake_calls _ HT.out _ T.inn).mono ?_; rintro e w ⟨rfl, hb⟩; replace T := T.of_below hb; clear hb)
    | (go_at_call 11; refine (exact_calls _ _ _ _ _ k k HL.out HK.out (by omega) _ T.inn).mono ?_; rintro e w ⟨rfl, hb⟩; replace T := T.of_below hb; clear hb; rw [Hx.out]))
                  (try simp only [Exit.inBlock, Exit.then]); refine ret1_of rfl rfl rfl ?_
                  exact ⟨rfl, T.below⟩
            · have c3 : (g != 0) = true := by rw [bne_iff_ne]; exact hg
              clear Hrem
              go_wp2_with (first
    | (go_at_call 10; refine (awake_calls _ HT.out _ T.inn).mono ?_; rintro e w ⟨rfl, hb⟩; replace T := T.of_below hb; clear hb))
              (try simp only [Exit.inBlock, Exit.then]); refine ret1_of rfl rfl rfl ?_
              exact ⟨rfl, T.below⟩
        · have c1 : (e != 0) = true := by rw [bne_iff_ne]; exact he
          have c1' : (e == 0) = false := by rw [Bool.eq_false_iff]; intro h; rw [beq_iff_eq] at h; exact he h
          have c2 : (f != 0) = true := by rw [bne_iff_ne]; exact hl1 he
          clear hl1 hl2 Hrem
          go_wp2_with (first
    | (go_at_call 10; refine (awake_calls _ HT.out _ T.inn).mono ?_; rintro e w ⟨rfl, hb⟩; replace T := T.of_below hb; clear hb))
          (try simp only [Exit.inBlock, Exit.then]); refine ret1_of rfl rfl rfl ?_
          exact ⟨rfl, T.below⟩
end Go.Proofs.YtjgnpaifdbanjaaDoor
