import Derived.Test.YtjgnpaifdbanjaaDoorRound4
import Derived.Test.YtjgnpaifdbanjaaDoorJoins
set_option linter.unusedSimpArgs false
set_option linter.unusedVariables false
namespace Go.Proofs.YtjgnpaifdbanjaaDoor
open Go.RowKit
set_option maxRecDepth 100000

/-! LexRound: the walk -/
def bigN : Nat → List Tk → Nat
  | n, [] => n
  | n, t :: l => if n ≤ 65536 then bigN (n + t.text.length) l else n
def bigS (l : List Tk) : Bool := decide (65536 < bigN l.length l)
theorem bigN_le : ∀ (l : List Tk) (n : Nat), bigN n l ≤ 65536 → n + sumT l ≤ 65536
  | [], n, h => by simpa [sumT, bigN] using h
  | t :: l, n, h => by
    unfold bigN at h
    split at h
    · have := bigN_le l _ h
      simp only [sumT]; omega
    · omega
theorem bigN_stop {n : Nat} {l : List Tk} (h : l = [] ∨ 65536 < n) : bigN n l = n := by
  cases l with
  | nil => rfl
  | cons t l =>
    unfold bigN
    rcases h with h | h
    · cases h
    · rw [if_neg (by omega)]

set_option maxHeartbeats 2000000 in
theorem big_calls (H : Hp) (ao : Option Addr) (cap : Nat) (l : List Tk) (hl : TokIn H ao l) (hll : l.length ≤ 1152921504606846976) (hlt : ∀ t ∈ l, t.text.length ≤ 1152921504606846976) (w0 : World) (hin : H.In w0) :
    Calls Tryd.prog 6 #[.slice ao l.length cap] w0 fun e w' => e = .returned (.bool (bigS l)) ∧ Below w0.heap.size w0 w' := by
  have T := Tr.start (St.nil hin)
  have HL := hid hl; have Hlt := hid hlt; clear hin hl hlt
  go_enter Tryd.func6, Tryd.ntmps6
  go_upto_region 3 with fail
  go_loopg [3, 4] (l.length) (fun n s3 s4 wr => ∃ (i q : Nat), i ≤ l.length ∧ n = l.length - i ∧ s3 = .int .i64 q ∧ s4 = .int .i64 i ∧ q ≤ 2305843009213693952 ∧ Hid (bigN l.length l = bigN q (l.drop i)) ∧ Tr w0 H [] wr H [])
  case atStart => exact ⟨0, l.length, by omega, by omega, rfl, rfl, by omega, hid rfl, T⟩
  case round =>
    clear T
    obtain ⟨i, q, hi, hn, rfl, rfl, hq, HQ, T⟩ := hrel
    have Hn := hid hn; clear hn
    by_cases h1 : i < l.length
    · have c1 : decide ((i : Int) < l.length) = true := decide_eq_true (by omega)
      by_cases h2 : q ≤ 65536
      · have c2 : decide ((q : Int) ≤ 65536) = true := decide_eq_true (by omega)
        obtain ⟨bb, oo, c, te, rfl, hh, hc⟩ := HL.out (by rintro rfl; simp at h1)
        obtain ⟨t, hti⟩ : ∃ t, l[i]? = some t := ⟨_, List.getElem?_eq_getElem h1⟩
        obtain ⟨f1, g1⟩ := T.inn _ _ _ hh
        have m0 : wr.cell? ⟨bb, oo + i * 3 + 1, none⟩ = some (str t.text) := by rw [cell_of_heap (w := wr) g1]; exact hc i _ hti 1 (by omega)
        have m0' : wr.drew.cell? ⟨bb, oo + i * 3 + 1, none⟩ = some (str t.text) := m0
        have htl := Hlt.out t (List.mem_of_getElem? hti)
        have hd : l.drop i = t :: l.drop (i + 1) := by
          rw [List.drop_eq_getElem_cons h1]
          congr 1
          rw [List.getElem?_eq_getElem h1] at hti
          exact Option.some.inj hti
        have hQ2 : bigN l.length l = bigN (q + t.text.length) (l.drop (i + 1)) := by
          rw [HQ.out, hd]
          conv => lhs; unfold bigN
          rw [if_pos h2]
        have HQ2 := hid hQ2
        obtain ⟨tw, tt, ta⟩ := t
        simp only at m0 m0' htl
        clear g1 hh hc hd hQ2 HQ
        have Hti := hid hti; clear hti
        go_wp2
        go_roundg (l.length - (i + 1))
        case measure => have := Hn.out; omega
        case rel => exact ⟨i + 1, q + tt.length, by omega, rfl, by congr 1, by congr 1, by omega, HQ2, T⟩
      · have c2 : decide ((q : Int) ≤ 65536) = false := decide_eq_false (by omega)
        have hb : bigS l = true := by
          unfold bigS
          rw [HQ.out, bigN_stop (.inr (by omega))]
          exact decide_eq_true (by omega)
        have Hb := hid hb; clear hb
        have c3 : decide ((65536 : Int) < q) = true := decide_eq_true (by omega)
        go_wp2
        (try simp only [Exit.inBlock, Exit.then]); refine ret1_of rfl rfl rfl ?_
        exact ⟨by rw [Hb.out], T.below⟩
    · have c1 : decide ((i : Int) < l.length) = false := decide_eq_false (by omega)
      have hb : bigS l = decide ((65536 : Int) < q) := by
        unfold bigS
        rw [HQ.out, bigN_stop (.inl (List.drop_of_length_le (by omega)))]
        by_cases h : 65536 < q
        · rw [decide_eq_true h, decide_eq_true (by omega)]
        · rw [decide_eq_false h, decide_eq_false (by omega)]
      have Hb := hid hb; clear hb
      go_wp2
      all_goals
        (try simp only [Exit.inBlock, Exit.then]); refine ret1_of rfl rfl rfl ?_
        exact ⟨by rw [Hb.out], T.below⟩

theorem print_len (l : List Tk) : (printS l).1.length ≤ 4096 := by
  unfold printS
  split
  · simp
  · split
    · simp
    · split
      · simp
      · rename_i h; exact Nat.le_of_not_lt h
theorem small_of {s : List UInt8} {m : List Tk} {p : Int} (h : scanS s = (m, 0, p)) : small m ∧ (∀ k, (joinTk (m.take k)).length ≤ 8000000) ∧ m.length ≤ 4096 := by
  obtain ⟨_, h2⟩ := scanS_is h
  obtain ⟨_, _, h3⟩ := scanS_bounds s
  rw [h] at h3
  simp only at h3
  refine ⟨⟨by omega, fun t ht => by have := sumT_mem m t ht; omega⟩, ?_, h3⟩
  intro k
  have h4 := joinTk_len (m.take k)
  have h5 := sumT_take m k
  have h6 : (m.take k).length ≤ m.length := by rw [List.length_take]; omega
  omega
theorem same_of {a b : List Tk} (h : a.map keyT = b.map keyT) : sameS a b = true := decide_eq_true h

set_option maxHeartbeats 8000000 in
theorem LexRound_calls (H : Hp) (hT : Tabs H) (ao : Option Addr) (cap : Nat) (l : List Tk) (hl : TokIn H ao l) (hll : l.length ≤ 1152921504606846976) (hlt : ∀ t ∈ l, t.text.length ≤ 1152921504606846976) (x : List UInt8) (w0 : World) (hin : H.In w0) :
    Calls Tryd.prog 3 #[.slice ao l.length cap, str x] w0 fun e w' => e = .returned (.bool true) ∧ Below w0.heap.size w0 w' := by
  have T := Tr.start (St.nil hin)
  have HT := hid hT; have HL := hid hl; clear hin hT hl
  have Hlt := hid hlt; clear hlt
  obtain ⟨bg, hbg⟩ : ∃ b, bigS l = b := ⟨_, rfl⟩
  cases bg with
  | true =>
    have Hbg := hid hbg; clear hbg
    go_enter Tryd.func3, Tryd.ntmps3
    go_wp2_with (first
    | (go_at_call 6; refine (big_calls H ao cap l HL.out hll Hlt.out _ T.inn).mono ?_; rintro e w ⟨rfl, hb⟩; replace T := T.of_below hb; clear hb; rw [Hbg.out]))
    (try simp only [Exit.inBlock, Exit.then]); refine ret1_of rfl rfl rfl ?_
    exact ⟨rfl, T.below⟩
  | false =>
    by_cases hx : 65536 < x.length
    · have hb1 : decide ((65536 : Int) < x.length) = true := decide_eq_true (by omega)
      have Hbg := hid hbg; clear hbg
      go_enter Tryd.func3, Tryd.ntmps3
      go_wp2_with (first
    | (go_at_call 6; refine (big_calls H ao cap l HL.out hll Hlt.out _ T.inn).mono ?_; rintro e w ⟨rfl, hb⟩; replace T := T.of_below hb; clear hb; rw [Hbg.out]))
      (try simp only [Exit.inBlock, Exit.then]); refine ret1_of rfl rfl rfl ?_
      exact ⟨rfl, T.below⟩
    · have hb1 : decide ((65536 : Int) < x.length) = false := decide_eq_false (by omega)
      have hsum : l.length + sumT l ≤ 65536 := by
        refine bigN_le l l.length ?_
        unfold bigS at hbg
        have := of_decide_eq_false hbg
        omega
      have hsm : small l := ⟨by omega, fun t ht => by have := sumT_mem l t ht; omega⟩
      have hj : ∀ k, (joinTk (l.take k)).length ≤ 8000000 := by
        intro k
        have h1 := joinTk_len (l.take k)
        have h2 := sumT_take l k
        have h3 : (l.take k).length ≤ l.length := by rw [List.length_take]; omega
        omega
      have Hbg := hid hbg; have Hsm := hid hsm; have Hj := hid hj; clear hbg hsm hj
      obtain ⟨⟨s, e⟩, hp⟩ : ∃ r, printS l = r := ⟨_, rfl⟩
      have hsl : s.length ≤ 4096 := by have := print_len l; rw [hp] at this; exact this
      by_cases he : e = 0
      · subst he
        obtain ⟨m, p, hm, hkey⟩ := scan_print hp
        have hsame := same_of hkey
        have hml : m.length ≤ 4096 := by
          obtain ⟨_, _, h3⟩ := scanS_bounds s
          rw [hm] at h3; exact h3
        have Hp := hid hp; have Hm := hid hm; have Hs0 := hid hsame
        clear hp hm hkey hsame
        go_enter Tryd.func3, Tryd.ntmps3
        go_upto_region 4 with (first
    | (go_at_call 6; refine (big_calls H ao cap l HL.out hll Hlt.out _ T.inn).mono ?_; rintro e w ⟨rfl, hb⟩; replace T := T.of_below hb; clear hb; rw [Hbg.out])
    | (go_at_call 7; refine (Print_calls _ HT.out ao cap l HL.out Hsm.out Hj.out _ T.inn).mono ?_; rintro e w ⟨rfl, hb⟩; replace T := T.of_below hb; clear hb; rw [Hp.out]))
        clear hb1
        go_upto_region 6 with (first
    | (go_at_call 8; refine (Scan_res _ HT.out s (by omega) _ T.inn).mono ?_; rw [Hm.out]; rintro e w ⟨a1, c1, H1, rfl, hL, CC, hck⟩; replace T := T.trans CC; replace HT := hid (HT.out.mono CC.le); replace HL := hid (HL.out.mono CC.le); have HM1 := hid hL; clear CC hL hck))
        go_upto_region 8 with (first
    | (go_at_call 9; refine (Same_calls _ a1 ao c1 cap m l HM1.out HL.out (by omega) _ T.inn).mono ?_; rintro e w ⟨rfl, hb⟩; replace T := T.of_below hb; clear hb; rw [Hs0.out]))
        clear Hp Hm Hs0 HL HM1
        obtain ⟨⟨m2, f2, p2⟩, hx2⟩ : ∃ r, scanS x = r := ⟨_, rfl⟩
        have Hx2 := hid hx2
        go_upto_region 9 with (first
    | (go_at_call 8; refine (Scan_res _ HT.out x (by omega) _ T.inn).mono ?_; rw [Hx2.out]; rintro e w ⟨am, cm, H2, rfl, hL, CC, hcm⟩; replace T := T.trans CC; replace HT := hid (HT.out.mono CC.le); have HM := hid hL; clear CC hL hcm))
        by_cases hf : f2 = 0
        · subst hf
          obtain ⟨sm1, sm2, sm3⟩ := small_of hx2
          obtain ⟨his, _⟩ := scanS_is hx2
          have hg := print_of_is his
          obtain ⟨⟨s2, g⟩, hp2⟩ : ∃ r, printS m2 = r := ⟨_, rfl⟩
          rw [hp2] at hg
          simp only at hg
          have hs2 : s2.length ≤ 4096 := by have := print_len m2; rw [hp2] at this; exact this
          have Hp2 := hid hp2; have Hsm1 := hid sm1; have Hsm2 := hid sm2
          clear hx2 his sm1 sm2
          rcases hg with rfl | rfl
          · obtain ⟨k, p3, hk, hkey⟩ := scan_print hp2
            have hsame := same_of hkey
            have hkl : k.length ≤ 4096 := by
              obtain ⟨_, _, h3⟩ := scanS_bounds s2
              rw [hk] at h3; exact h3
            have Hk := hid hk; have Hsame := hid hsame
            clear hp2 hk hkey hsame Hx2
            go_upto_region 12 with (first
    | (go_at_call 7; refine (Print_calls _ HT.out am cm m2 HM.out Hsm1.out Hsm2.out _ T.inn).mono ?_; rintro e w ⟨rfl, hb⟩; replace T := T.of_below hb; clear hb; rw [Hp2.out]))
            go_upto_region 15 with (first
    | (go_at_call 8; refine (Scan_res _ HT.out s2 (by omega) _ T.inn).mono ?_; rw [Hk.out]; rintro e w ⟨ak, ck, H3, rfl, hL, CC, hck⟩; replace T := T.trans CC; replace HT := hid (HT.out.mono CC.le); replace HM := hid (HM.out.mono CC.le); have HK := hid hL; clear CC hL hck))
            go_wp2_with (first
    | (go_at_call 10; refine (awake_calls _ HT.out _ T.inn).mono ?_; rintro e w ⟨rfl, hb⟩; replace T := T.of_below hb; clear hb)
    | (go_at_call 9; refine (Same_calls _ ak am ck cm k m2 HK.out HM.out (by omega) _ T.inn).mono ?_; rintro e w ⟨rfl, hb⟩; replace T := T.of_below hb; clear hb; rw [Hsame.out]))
            (try simp only [Exit.inBlock, Exit.then]); refine ret1_of rfl rfl rfl ?_
            exact ⟨rfl, T.below⟩
          · clear hp2 Hx2
            go_upto_region 12 with (first
    | (go_at_call 7; refine (Print_calls _ HT.out am cm m2 HM.out Hsm1.out Hsm2.out _ T.inn).mono ?_; rintro e w ⟨rfl, hb⟩; replace T := T.of_below hb; clear hb; rw [Hp2.out]))
            go_wp2_with (first
    | (go_at_call 10; refine (awake_calls _ HT.out _ T.inn).mono ?_; rintro e w ⟨rfl, hb⟩; replace T := T.of_below hb; clear hb))
            (try simp only [Exit.inBlock, Exit.then]); refine ret1_of rfl rfl rfl ?_
            exact ⟨rfl, T.below⟩
        · have c1 : (f2 != 0) = true := by rw [bne_iff_ne]; exact hf
          have hm2 : m2 = [] := by
            have := scan_err_nil x (by rw [hx2]; exact hf)
            rw [hx2] at this; exact this
          subst hm2
          clear hx2 Hx2 hf
          go_wp2_with (first
    | (go_at_call 10; refine (awake_calls _ HT.out _ T.inn).mono ?_; rintro e w ⟨rfl, hb⟩; replace T := T.of_below hb; clear hb))
          (try simp only [Exit.inBlock, Exit.then]); refine ret1_of rfl rfl rfl ?_
          exact ⟨rfl, T.below⟩
      · have c0 : (e == 0) = false := by rw [Bool.eq_false_iff]; intro h; rw [beq_iff_eq] at h; exact he h
        have Hp := hid hp
        clear hp
        go_enter Tryd.func3, Tryd.ntmps3
        go_upto_region 4 with (first
    | (go_at_call 6; refine (big_calls H ao cap l HL.out hll Hlt.out _ T.inn).mono ?_; rintro e w ⟨rfl, hb⟩; replace T := T.of_below hb; clear hb; rw [Hbg.out])
    | (go_at_call 7; refine (Print_calls _ HT.out ao cap l HL.out Hsm.out Hj.out _ T.inn).mono ?_; rintro e w ⟨rfl, hb⟩; replace T := T.of_below hb; clear hb; rw [Hp.out]))
        clear hb1
        go_upto_region 8 with fail
        clear Hp HL c0 he
        obtain ⟨⟨m2, f2, p2⟩, hx2⟩ : ∃ r, scanS x = r := ⟨_, rfl⟩
        have Hx2 := hid hx2
        go_upto_region 9 with (first
    | (go_at_call 8; refine (Scan_res _ HT.out x (by omega) _ T.inn).mono ?_; rw [Hx2.out]; rintro e w ⟨am, cm, H2, rfl, hL, CC, hcm⟩; replace T := T.trans CC; replace HT := hid (HT.out.mono CC.le); have HM := hid hL; clear CC hL hcm))
        by_cases hf : f2 = 0
        · subst hf
          obtain ⟨sm1, sm2, sm3⟩ := small_of hx2
          obtain ⟨his, _⟩ := scanS_is hx2
          have hg := print_of_is his
          obtain ⟨⟨s2, g⟩, hp2⟩ : ∃ r, printS m2 = r := ⟨_, rfl⟩
          rw [hp2] at hg
          simp only at hg
          have hs2 : s2.length ≤ 4096 := by have := print_len m2; rw [hp2] at this; exact this
          have Hp2 := hid hp2; have Hsm1 := hid sm1; have Hsm2 := hid sm2
          clear hx2 his sm1 sm2
          rcases hg with rfl | rfl
          · obtain ⟨k, p3, hk, hkey⟩ := scan_print hp2
            have hsame := same_of hkey
            have hkl : k.length ≤ 4096 := by
              obtain ⟨_, _, h3⟩ := scanS_bounds s2
              rw [hk] at h3; exact h3
            have Hk := hid hk; have Hsame := hid hsame
            clear hp2 hk hkey hsame Hx2
            go_upto_region 12 with (first
    | (go_at_call 7; refine (Print_calls _ HT.out am cm m2 HM.out Hsm1.out Hsm2.out _ T.inn).mono ?_; rintro e w ⟨rfl, hb⟩; replace T := T.of_below hb; clear hb; rw [Hp2.out]))
            go_upto_region 15 with (first
    | (go_at_call 8; refine (Scan_res _ HT.out s2 (by omega) _ T.inn).mono ?_; rw [Hk.out]; rintro e w ⟨ak, ck, H3, rfl, hL, CC, hck⟩; replace T := T.trans CC; replace HT := hid (HT.out.mono CC.le); replace HM := hid (HM.out.mono CC.le); have HK := hid hL; clear CC hL hck))
            go_wp2_with (first
    | (go_at_call 10; refine (awake_calls _ HT.out _ T.inn).mono ?_; rintro e w ⟨rfl, hb⟩; replace T := T.of_below hb; clear hb)
    | (go_at_call 9; refine (Same_calls _ ak am ck cm k m2 HK.out HM.out (by omega) _ T.inn).mono ?_; rintro e w ⟨rfl, hb⟩; replace T := T.of_below hb; clear hb; rw [Hsame.out]))
            (try simp only [Exit.inBlock, Exit.then]); refine ret1_of rfl rfl rfl ?_
            exact ⟨rfl, T.below⟩
          · clear hp2 Hx2
            go_upto_region 12 with (first
    | (go_at_call 7; refine (Print_calls _ HT.out am cm m2 HM.out Hsm1.out Hsm2.out _ T.inn).mono ?_; rintro e w ⟨rfl, hb⟩; replace T := T.of_below hb; clear hb; rw [Hp2.out]))
            go_wp2_with (first
    | (go_at_call 10; refine (awake_calls _ HT.out _ T.inn).mono ?_; rintro e w ⟨rfl, hb⟩; replace T := T.of_below hb; clear hb))
            (try simp only [Exit.inBlock, Exit.then]); refine ret1_of rfl rfl rfl ?_
            exact ⟨rfl, T.below⟩
        · have c1 : (f2 != 0) = true := by rw [bne_iff_ne]; exact hf
          have hm2 : m2 = [] := by
            have := scan_err_nil x (by rw [hx2]; exact hf)
            rw [hx2] at this; exact this
          subst hm2
          clear hx2 Hx2 hf
          go_wp2_with (first
    | (go_at_call 10; refine (awake_calls _ HT.out _ T.inn).mono ?_; rintro e w ⟨rfl, hb⟩; replace T := T.of_below hb; clear hb))
          (try simp only [Exit.inBlock, Exit.then]); refine ret1_of rfl rfl rfl ?_
          exact ⟨rfl, T.below⟩
end Go.Proofs.YtjgnpaifdbanjaaDoor
