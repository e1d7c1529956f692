import Derived.Test.YtjgnpaifdbanjaaDoorPrint
set_option linter.unusedSimpArgs false
set_option linter.unusedVariables false
namespace Go.Proofs.YtjgnpaifdbanjaaDoor
open Go.RowKit
set_option maxRecDepth 100000

/-! lists of tokens that nobody writes: Scan's, and what is compared -/
theorem TokIn.nil (H : Hp) (ao : Option Addr) : TokIn H ao [] := fun h => absurd rfl h
theorem TokIn.mono {H H' : Hp} {ao l} (h : TokIn H ao l) (hle : ∀ b x, H b = some x → H' b = some x) : TokIn H' ao l := fun hne => by
  obtain ⟨b, off, c, te, h1, h2, h3⟩ := h hne
  exact ⟨b, off, c, te, h1, hle _ _ h2, h3⟩

theorem TokIn.left {H : Hp} {ao l m} (h : TokIn H ao (l ++ m)) : TokIn H ao l := fun hne => by
  obtain ⟨b, off, c, te, h1, h2, h3⟩ := h (by simp [hne])
  refine ⟨b, off, c, te, h1, h2, fun i t ht => h3 i t ?_⟩
  have hi : i < l.length := by
    rcases Nat.lt_or_ge i l.length with h' | h'
    · exact h'
    · rw [List.getElem?_eq_none h'] at ht; cases ht
  rw [List.getElem?_append_left hi]; exact ht

theorem cells_at : ∀ (l : List Tk) (i : Nat) (t : Tk), l[i]? = some t → ∀ j, j < 3 → (l.flatMap Tk.cells)[i * 3 + j]? = t.cells[j]?
  | [], i, t, h, _, _ => by simp at h
  | x :: l, 0, t, h, j, hj => by
    simp only [List.getElem?_cons_zero, Option.some.injEq] at h
    subst h
    rw [List.flatMap_cons, Nat.zero_mul, Nat.zero_add, List.getElem?_append_left (by simpa [Tk.cells] using hj)]
  | x :: l, i + 1, t, h, j, hj => by
    rw [List.getElem?_cons_succ] at h
    rw [List.flatMap_cons, List.getElem?_append_right (by simp [Tk.cells]; omega)]
    have : (i + 1) * 3 + j - x.cells.length = i * 3 + j := by simp [Tk.cells]; omega
    rw [this]
    exact cells_at l i t h j hj

/-- what Scan does, its list settled -/
def ScanRes (w : World) (H : Hp) (res : List Tk × Int × Int) (e : Ending) (w' : World) : Prop :=
  ∃ ao cap H', e = .returned (.tuple #[.slice ao res.1.length cap, .int .i64 res.2.1, .int .i64 res.2.2]) ∧ TokIn H' ao res.1 ∧ Tr w H [] w' H' [] ∧ res.1.length ≤ cap

theorem Scan_res (H : Hp) (hT : Tabs H) (s : List UInt8) (hs : s.length ≤ 1000000) (w0 : World) (hin : H.In w0) :
    Calls Tryd.prog 8 #[str s] w0 (ScanRes w0 H (scanS s)) := by
  refine (Scan_calls H hT s hs w0 hin).mono ?_
  rintro e w ⟨v, E, rfl, hO, T⟩
  generalize scanS s = res at *
  obtain ⟨l, er, at_⟩ := res
  simp only at hO
  rcases hO with ⟨rfl, rfl, hn, hc⟩ | ⟨b, c, cap, rfl, rfl, hcs, hle, hcp, hlen, htake, hfl⟩
  · exact ⟨none, 0, H, by simp only [hn], by have : l = [] := List.length_eq_zero_iff.1 hn; subst this; exact TokIn.nil _ _, T, by simp only; omega⟩
  · refine ⟨some ⟨b, 0, none⟩, cap, _, rfl, ?_, T.settle, hle⟩
    intro _
    refine ⟨b, 0, c, _, rfl, Hp.put_self _ _ _ _, ?_⟩
    intro i t ht j hj
    have hi : i < l.length := by
      rcases Nat.lt_or_ge i l.length with h' | h'
      · exact h'
      · rw [List.getElem?_eq_none h'] at ht; cases ht
    rw [← cells_at l i t ht j hj, ← htake, List.getElem?_take, if_pos (by omega), Nat.zero_add]
    simp

def keyT (t : Tk) : Int × List UInt8 := (t.word, t.text)
def sameS (a b : List Tk) : Bool := decide (a.map keyT = b.map keyT)

theorem same_false {a b : List Tk} {i : Nat} {x y : Tk} (hx : a[i]? = some x) (hy : b[i]? = some y) (h : keyT x ≠ keyT y) : sameS a b = false := by
  unfold sameS
  rw [decide_eq_false_iff_not]; intro he
  have := congrArg (fun l : List (Int × List UInt8) => l[i]?) he
  simp only [List.getElem?_map, hx, hy, Option.map_some, Option.some.injEq] at this
  exact h this

theorem toList_beq (s t : List UInt8) : ((⟨s.toArray⟩ : ByteArray).toList == (⟨t.toArray⟩ : ByteArray).toList) = (s == t) := by rw [ByteArray.toList_eq, ByteArray.toList_eq]

set_option maxHeartbeats 1000000 in
theorem Same_calls (H : Hp) (ao bo : Option Addr) (ca cb : Nat) (a b : List Tk) (ha : TokIn H ao a) (hb : TokIn H bo b) (hla : a.length ≤ 2000000) (w0 : World) (hin : H.In w0) :
    Calls Tryd.prog 9 #[.slice ao a.length ca, .slice bo b.length cb] w0 fun e w' => e = .returned (.bool (sameS a b)) ∧ Below w0.heap.size w0 w' := by
  have T := Tr.start (St.nil hin)
  have HA := hid ha; have HBB := hid hb; clear hin ha hb
  by_cases hl : a.length = b.length
  · have hb1 : ((a.length : Int) != b.length) = false := by rw [hl]; simp
    go_enter Tryd.func9, Tryd.ntmps9
    go_upto_region 4 with fail
    clear hb1
    go_loopg [4, 5] (a.length) (fun n s4 s5 wr => ∃ (i : Nat), i ≤ a.length ∧ n = a.length - i ∧ s4 = .bool false ∧ s5 = .int .i64 i ∧ Hid ((a.take i).map keyT = (b.take i).map keyT) ∧ Tr w0 H [] wr H [])
    case atStart => exact ⟨0, by omega, by omega, rfl, rfl, hid rfl, T⟩
    case round =>
      clear T
      obtain ⟨i, hi, hn, rfl, rfl, HE, T⟩ := hrel
      have Hn := hid hn; clear hn
      rcases Nat.lt_or_ge i a.length with hlt | hge
      · obtain ⟨ba, oa, c1, te1, rfl, hh1, hc1⟩ := HA.out (by rintro rfl; simp at hlt)
        obtain ⟨bb, ob, c2, te2, rfl, hh2, hc2⟩ := HBB.out (by rintro rfl; rw [hl] at hlt; simp at hlt)
        obtain ⟨x, hx⟩ : ∃ t, a[i]? = some t := ⟨_, List.getElem?_eq_getElem hlt⟩
        obtain ⟨y, hy⟩ : ∃ t, b[i]? = some t := ⟨_, List.getElem?_eq_getElem (by omega)⟩
        obtain ⟨f1, g1⟩ := T.inn _ _ _ hh1
        obtain ⟨f2, g2⟩ := T.inn _ _ _ hh2
        have k1 : wr.drew.cell? ⟨ba, oa + i * 3, none⟩ = some (.int .i64 x.word) := by rw [cell_of_heap (w := wr.drew) g1]; exact hc1 i x hx 0 (by omega)
        have k2 : wr.drew.cell? ⟨ba, oa + i * 3 + 1, none⟩ = some (str x.text) := by rw [cell_of_heap (w := wr.drew) g1]; exact hc1 i x hx 1 (by omega)
        have k3 : wr.drew.cell? ⟨bb, ob + i * 3, none⟩ = some (.int .i64 y.word) := by rw [cell_of_heap (w := wr.drew) g2]; exact hc2 i y hy 0 (by omega)
        have k4 : wr.drew.cell? ⟨bb, ob + i * 3 + 1, none⟩ = some (str y.text) := by rw [cell_of_heap (w := wr.drew) g2]; exact hc2 i y hy 1 (by omega)
        have m1 : wr.cell? ⟨ba, oa + i * 3, none⟩ = some (.int .i64 x.word) := k1
        have m2 : wr.cell? ⟨ba, oa + i * 3 + 1, none⟩ = some (str x.text) := k2
        have m3 : wr.cell? ⟨bb, ob + i * 3, none⟩ = some (.int .i64 y.word) := k3
        have m4 : wr.cell? ⟨bb, ob + i * 3 + 1, none⟩ = some (str y.text) := k4
        have hlt' : i < b.length := by omega
        have Hx := hid hx; have Hy := hid hy
        clear g1 g2 hh1 hh2 hc1 hc2 hx hy
        have Hl := hid hl; clear hl
        obtain ⟨xw, xt, xa⟩ := x
        obtain ⟨yw, yt, ya⟩ := y
        simp only at k1 k2 k3 k4 m1 m2 m3 m4
        by_cases hw : xw = yw
        · have hb1 : (xw != yw) = false := by rw [hw]; simp
          have hb1' : (xw == yw) = true := by rw [hw]; simp
          by_cases ht : xt = yt
          · have hb2 : (xt == yt) = true := by rw [ht]; simp
            go_upto_region 6 with fail
            go_quiet (fail)
            replace T := T.drewN nq
            clear k1 k2 k3 k4 m1 m2 m3 m4 hb1 hb1' hb2
            go_wp2
            go_roundg (a.length - (i + 1))
            case measure => have := Hn.out; omega
            case rel =>
              refine ⟨i + 1, by omega, by omega, rfl, by congr 1, hid ?_, T⟩
              rw [take_succ' a i _ Hx.out, take_succ' b i _ Hy.out, List.map_append, List.map_append, HE.out]
              simp [keyT, hw, ht]
          · have hb2 : (xt == yt) = false := by simp [ht]
            have hsm : sameS a b = false := same_false Hx.out Hy.out (fun h => ht (congrArg Prod.snd h))
            have Hs := hid hsm; clear hsm
            go_upto_region 6 with fail
            go_quiet (fail)
            replace T := T.drewN nq
            clear k1 k2 k3 k4 m1 m2 m3 m4
            go_wp2
            (try simp only [Exit.inBlock, Exit.then]); refine ret1_of rfl rfl rfl ?_
            exact ⟨by rw [Hs.out], T.below⟩
        · have hb1 : (xw != yw) = true := by rw [bne_iff_ne]; exact hw
          have hb1' : (xw == yw) = false := by simp [hw]
          have hsm : sameS a b = false := same_false Hx.out Hy.out (fun h => hw (congrArg Prod.fst h))
          have Hs := hid hsm; clear hsm
          go_upto_region 6 with fail
          go_quiet (fail)
          replace T := T.drewN nq
          clear k1 k2 k3 k4 m1 m2 m3 m4
          go_wp2
          (try simp only [Exit.inBlock, Exit.then]); refine ret1_of rfl rfl rfl ?_
          exact ⟨by rw [Hs.out], T.below⟩
      · obtain rfl : i = a.length := by omega
        have hsm : sameS a b = true := by
          have := HE.out
          rw [List.take_length] at this
          rw [hl, List.take_length] at this
          unfold sameS; rw [decide_eq_true_iff]; exact this
        have Hs := hid hsm; clear hsm
        go_wp2
        (try simp only [Exit.inBlock, Exit.then]); refine ret1_of rfl rfl rfl ?_
        exact ⟨by rw [Hs.out], T.below⟩
  · have hb1 : ((a.length : Int) != b.length) = true := by rw [bne_iff_ne]; omega
    go_enter Tryd.func9, Tryd.ntmps9
    go_wp2
    (try simp only [Exit.inBlock, Exit.then]); refine ret1_of rfl rfl rfl ?_
    refine ⟨?_, T.below⟩
    have : sameS a b = false := by
      unfold sameS
      rw [decide_eq_false_iff_not]; intro h
      have := congrArg List.length h
      simp at this; omega
    rw [this]

/-- the same, their places, too -/
def exactS (a b : List Tk) : Bool := (a.zip b).all (fun p => p.1.at_ == p.2.at_) && sameS a b

set_option maxHeartbeats 1000000 in
theorem exact_calls (H : Hp) (ao bo : Option Addr) (ca cb : Nat) (a b : List Tk) (ha : TokIn H ao a) (hb : TokIn H bo b) (hla : a.length ≤ 2000000) (w0 : World) (hin : H.In w0) :
    Calls Tryd.prog 11 #[.slice ao a.length ca, .slice bo b.length cb] w0 fun e w' => e = .returned (.bool (exactS a b)) ∧ Below w0.heap.size w0 w' := by
  have T := Tr.start (St.nil hin)
  have HA := hid ha; have HBB := hid hb; clear hin ha hb
  go_enter Tryd.func11, Tryd.ntmps11
  go_upto_region 2 with fail
  go_loopg [4, 5] (a.length) (fun n s4 s5 wr => ∃ (i : Nat), i ≤ a.length ∧ i ≤ b.length ∧ n = a.length - i ∧ s4 = .bool false ∧ s5 = .int .i64 i ∧ Hid (((a.zip b).take i).all (fun p => p.1.at_ == p.2.at_) = true) ∧ Tr w0 H [] wr H [])
  case atStart => exact ⟨0, by omega, by omega, by omega, rfl, rfl, hid rfl, T⟩
  case round =>
    clear T
    obtain ⟨i, hi, hi2, hn, rfl, rfl, HE, T⟩ := hrel
    have Hn := hid hn; clear hn
    by_cases hlt : i < a.length ∧ i < b.length
    · obtain ⟨hlt, hlt'⟩ := hlt
      obtain ⟨ba, oa, c1, te1, rfl, hh1, hc1⟩ := HA.out (by rintro rfl; simp at hlt)
      obtain ⟨bb, ob, c2, te2, rfl, hh2, hc2⟩ := HBB.out (by rintro rfl; simp at hlt')
      obtain ⟨x, hx⟩ : ∃ t, a[i]? = some t := ⟨_, List.getElem?_eq_getElem hlt⟩
      obtain ⟨y, hy⟩ : ∃ t, b[i]? = some t := ⟨_, List.getElem?_eq_getElem (by omega)⟩
      obtain ⟨f1, g1⟩ := T.inn _ _ _ hh1
      obtain ⟨f2, g2⟩ := T.inn _ _ _ hh2
      have k1 : wr.drew.cell? ⟨ba, oa + i * 3 + 2, none⟩ = some (.int .i64 x.at_) := by rw [cell_of_heap (w := wr.drew) g1]; exact hc1 i x hx 2 (by omega)
      have k3 : wr.drew.cell? ⟨bb, ob + i * 3 + 2, none⟩ = some (.int .i64 y.at_) := by rw [cell_of_heap (w := wr.drew) g2]; exact hc2 i y hy 2 (by omega)
      have m1 : wr.cell? ⟨ba, oa + i * 3 + 2, none⟩ = some (.int .i64 x.at_) := k1
      have m3 : wr.cell? ⟨bb, ob + i * 3 + 2, none⟩ = some (.int .i64 y.at_) := k3
      have hz : (a.zip b)[i]? = some (x, y) := by rw [List.getElem?_zip_eq_some]; exact ⟨hx, hy⟩
      have Hz := hid hz
      clear g1 g2 hh1 hh2 hc1 hc2 hx hy hz
      by_cases hw : x.at_ = y.at_
      · have hb1 : (x.at_ != y.at_) = false := by rw [hw]; simp
        have hb1' : (x.at_ == y.at_) = true := by rw [hw]; simp
        go_upto_region 4 with fail
        go_quiet (fail)
        replace T := T.drewN nq
        clear k1 k3 m1 m3 hb1'
        go_wp2
        go_roundg (a.length - (i + 1))
        case measure => have := Hn.out; omega
        case rel =>
          refine ⟨i + 1, by omega, by omega, by omega, rfl, by congr 1, hid ?_, T⟩
          rw [take_succ' _ i _ Hz.out, List.all_append, HE.out]
          simp [hw]
      · have hb1 : (x.at_ != y.at_) = true := by rw [bne_iff_ne]; exact hw
        have hb1' : (x.at_ == y.at_) = false := by simp [hw]
        have hsm : exactS a b = false := by
          unfold exactS
          have : (a.zip b).all (fun p => p.1.at_ == p.2.at_) = false := by
            rw [Bool.eq_false_iff]; intro h
            have := List.all_eq_true.1 h _ (List.mem_of_getElem? Hz.out)
            rw [beq_iff_eq] at this; exact hw this
          rw [this]; rfl
        have Hs := hid hsm; clear hsm
        go_upto_region 4 with fail
        go_quiet (fail)
        replace T := T.drewN nq
        clear k1 k3 m1 m3 hb1'
        go_wp2
        (try simp only [Exit.inBlock, Exit.then]); refine ret1_of rfl rfl rfl ?_
        exact ⟨by rw [Hs.out], T.below⟩
    · have hsm : exactS a b = sameS a b := by
        have := HE.out
        rw [List.take_of_length_le (by simp; omega)] at this
        unfold exactS; rw [this]; rfl
      have Hs := hid hsm; clear hsm
      have hd : i < a.length → (decide ((i : Int) < b.length) = false) := fun h => decide_eq_false (by omega)
      rcases Nat.lt_or_ge i a.length with h1 | h1
      · have hb2 := hd h1
        have hb3 : decide ((i : Int) < a.length) = true := decide_eq_true (by omega)
        have hnb : ¬ i < b.length := by omega
        clear hd hlt
        go_wp2_with (first
    | (go_at_call 9; refine (Same_calls H ao bo ca cb a b HA.out HBB.out hla _ T.inn).mono ?_; rintro e w ⟨rfl, hb⟩; replace T := T.of_below hb; clear hb))
        (try simp only [Exit.inBlock, Exit.then]); refine ret1_of rfl rfl rfl ?_
        exact ⟨by rw [Hs.out], T.below⟩
      · have hb2 : decide ((i : Int) < a.length) = false := decide_eq_false (by omega)
        clear hd hlt
        go_wp2_with (first
    | (go_at_call 9; refine (Same_calls H ao bo ca cb a b HA.out HBB.out hla _ T.inn).mono ?_; rintro e w ⟨rfl, hb⟩; replace T := T.of_below hb; clear hb))
        (try simp only [Exit.inBlock, Exit.then]); refine ret1_of rfl rfl rfl ?_
        exact ⟨by rw [Hs.out], T.below⟩

theorem exactS_iff (a b : List Tk) : exactS a b = true ↔ a = b := by
  constructor
  · intro h
    unfold exactS sameS at h
    rw [Bool.and_eq_true, decide_eq_true_iff] at h
    obtain ⟨h1, h2⟩ := h
    have hl : a.length = b.length := by have := congrArg List.length h2; simpa using this
    apply List.ext_getElem? 
    intro i
    have h3 := congrArg (fun l : List (Int × List UInt8) => l[i]?) h2
    simp only [List.getElem?_map] at h3
    rcases Nat.lt_or_ge i a.length with hi | hi
    · obtain ⟨x, hx⟩ : ∃ t, a[i]? = some t := ⟨_, List.getElem?_eq_getElem hi⟩
      obtain ⟨y, hy⟩ : ∃ t, b[i]? = some t := ⟨_, List.getElem?_eq_getElem (by omega)⟩
      have hz : (a.zip b)[i]? = some (x, y) := by rw [List.getElem?_zip_eq_some]; exact ⟨hx, hy⟩
      have h4 := List.all_eq_true.1 h1 _ (List.mem_of_getElem? hz)
      rw [beq_iff_eq] at h4
      rw [hx, hy] at h3 ⊢
      simp only [Option.map_some, Option.some.injEq, keyT, Prod.mk.injEq] at h3
      obtain ⟨xw, xt, xa⟩ := x; obtain ⟨yw, yt, ya⟩ := y
      simp only at h3 h4
      rw [h3.1, h3.2, h4]
    · rw [List.getElem?_eq_none hi, List.getElem?_eq_none (by omega)]
  · rintro rfl
    unfold exactS sameS
    simp only [decide_true, Bool.and_true]
    rw [List.all_eq_true]
    intro p hp
    obtain ⟨i, hi, h⟩ := List.getElem_of_mem hp
    rw [List.getElem_zip] at h
    rw [← h]; simp
end Go.Proofs.YtjgnpaifdbanjaaDoor
